/- The contract of (*shelf.List).Add. -/
import Derived.Test.YtecojcdmigmnhaaCf
import Derived.Test.YtecojcdmigmnhaaRe
namespace Go.Proofs.Ytecojcdmigmnhaa
set_option linter.unusedSimpArgs false
set_option linter.unusedVariables false
open Go.RowKit
theorem above_cut (y z : Int) (h : y ≤ z) : ∀ (S : List Sh) (d : Int × Int), above (cutS d S z) y = above S y
  | [], d => by
    simp [cutS, above]
    omega
  | s :: S, d => by
    have hc : ∀ (x : Sh) (T : List Sh), above (x :: T) y = above T y + if x.t < y then 1 else 0 := by
      intro x T
      unfold above
      rw [List.countP_cons]
      simp
    unfold cutS
    by_cases h1 : s.t < z
    · rw [if_pos h1, hc, hc, above_cut y z h S _]
    · rw [if_neg h1]
      by_cases h2 : s.t = z
      · rw [if_pos h2]
      · rw [if_neg h2, hc, if_neg (by show ¬ z < y; omega), Nat.add_zero]
/-- Shelves of which the first ones bear a float. -/
def updR (F : List Sh) (f : Fo) (k : Nat) : List Sh := (F.take k).map (upd f) ++ F.drop k
theorem updR_len (F : List Sh) (f : Fo) (k : Nat) : (updR F f k).length = F.length := by
  unfold updR
  rw [List.length_append, List.length_map, List.length_take, List.length_drop]
  omega
theorem updR_start {F : List Sh} {f : Fo} {k : Nat} (hs : Asc F) (hk : k ≤ above F f.y0) : updR F f k = F := by
  unfold updR
  have : (F.take k).map (upd f) = F.take k := by
    apply List.ext_getElem
    · simp
    · intro i h1 h2
      rw [List.getElem_map, List.getElem_take]
      rw [List.length_take] at h2
      have := (above_iff F f.y0 hs i (by omega)).1 (by omega)
      unfold upd
      rw [if_neg (by omega)]
  rw [this, List.take_append_drop]
theorem updR_get {F : List Sh} {f : Fo} {k : Nat} (hk : k < F.length) : (updR F f k)[k]'(by rw [updR_len]; exact hk) = F[k] := by
  unfold updR
  rw [List.getElem_append_right (by rw [List.length_map, List.length_take]; omega), List.getElem_drop]
  congr 1
  rw [List.length_map, List.length_take]
  omega
theorem updR_step {F : List Sh} {f : Fo} {k : Nat} (hk : k < F.length) : (updR F f k).set k (upd f F[k]) = updR F f (k + 1) := by
  unfold updR
  have hl : ((F.take k).map (upd f)).length = k := by rw [List.length_map, List.length_take]; omega
  rw [List.set_append_right _ _ (by omega), hl, Nat.sub_self, ← List.getElem_cons_drop (h := hk), List.set_cons_zero, List.take_succ_eq_append_getElem hk, List.map_append, List.map_cons, List.map_nil, List.append_assoc, List.singleton_append]
theorem updR_end {F : List Sh} {f : Fo} {k : Nat} (hs : Asc F) (hk : above F f.y1 ≤ k) : updR F f k = F.map (upd f) := by
  unfold updR
  have : (F.drop k).map (upd f) = F.drop k := by
    apply List.ext_getElem
    · simp
    · intro i h1 h2
      rw [List.getElem_map, List.getElem_drop]
      rw [List.length_drop] at h2
      have h3 := above_iff F f.y1 hs (k + i) (by omega)
      have : ¬ F[k + i].t < f.y1 := fun hh => by have := h3.2 hh; omega
      unfold upd
      rw [if_neg (by omega)]
  conv => lhs; rw [← this]
  rw [← List.map_append, List.take_append_drop]
theorem upd_in {F : List Sh} {f : Fo} {k : Nat} (hs : Asc F) (hk : k < F.length) (h0 : above F f.y0 ≤ k) (h1 : k < above F f.y1) : upd f F[k] = if f.s = 1 then ⟨F[k].t, max F[k].l f.x1, F[k].r⟩ else ⟨F[k].t, F[k].l, min F[k].r f.x0⟩ := by
  have a0 := above_iff F f.y0 hs k hk
  have a1 := (above_iff F f.y1 hs k hk).1 h1
  have : ¬ F[k].t < f.y0 := fun hh => by have := a0.2 hh; omega
  unfold upd
  rw [if_pos (by omega)]
theorem above_mono (F : List Sh) (a b : Int) (h : a ≤ b) : above F a ≤ above F b := by
  unfold above
  apply List.countP_mono_left
  intro x _ hx
  simp at hx ⊢
  omega
theorem cutS_ne (S : List Sh) (d : Int × Int) (y : Int) : 0 < (cutS d S y).length := by
  cases S with
  | nil => simp [cutS]
  | cons s S => unfold cutS; split <;> (try split) <;> simp
/-- The compact list of what a float leaves. -/
theorem comp_add {S : List Sh} {f : Fo} (hc : cnts f = true) (h0 : -far < f.y0) (h1 : -far < f.y1) : compL ((cutS (0, 0) (cutS (0, 0) (full S) f.y0) f.y1).map (upd f)) = full (addS S f) := by
  rw [cutS_full h0, cutS_full h1]
  have e : (full (cutS (-far, far) (cutS (-far, far) S f.y0) f.y1)).map (upd f) = full ((cutS (-far, far) (cutS (-far, far) S f.y0) f.y1).map (upd f)) := by
    unfold full
    rw [List.map_cons]
    congr 1
    unfold upd
    rw [if_neg (by show ¬ (f.y0 ≤ -far ∧ _); omega)]
  rw [e, compL_full]
  unfold addS
  rw [if_pos hc]
theorem above_has {F : List Sh} {y : Int} (hs : Asc F) (h : ∃ x ∈ F, x.t = y) : above F y < F.length := by
  obtain ⟨x, hx, e⟩ := h
  obtain ⟨i, hi, rfl⟩ := List.mem_iff_getElem.1 hx
  have h1 := above_iff F y hs i hi
  have : ¬ i < above F y := fun hh => by have := h1.1 hh; omega
  omega
/-- One cell of one shelf is written. -/
theorem own_upd {w : World} {base g cap n : Nat} {e : TypeId} {F : List Sh} {f : Fo} {k : Nat} (h : w.ownsRow base e 3 (.slice (some ⟨g, 0, none⟩) n cap) n (flat shC (updR F f k))) (hn : F.length = n) (hk : k < n) :
    (w.cell? ⟨g, k * 3 + 1, none⟩ = some (.int .i64 (shAt F k).l) ∧ w.cell? ⟨g, k * 3 + 2, none⟩ = some (.int .i64 (shAt F k).r) ∧ w.frozen? ⟨g, k * 3 + 1, none⟩ = false ∧ w.frozen? ⟨g, k * 3 + 2, none⟩ = false) ∧
    ∀ (j : Nat) (u : Value), j < 3 → shC (upd f (shAt F k)) = (shC (shAt F k)).set j u →
      (w.setCell ⟨g, k * 3 + j, none⟩ u).ownsRow base e 3 (.slice (some ⟨g, 0, none⟩) n cap) n (flat shC (updR F f (k + 1))) ∧ w.grownBy (w.setCell ⟨g, k * 3 + j, none⟩ u) (some g) := by
  have hkF : k < F.length := by omega
  have hl : k < (updR F f k).length := by rw [updR_len]; exact hkF
  have hg := updR_get (f := f) hkF
  have hc : ∀ j, j < 3 → w.cell? ⟨g, k * 3 + j, none⟩ = (shC (shAt F k))[j]? := by
    intro j hj
    rw [h.cellAt _ (by omega), flat_get shC_len _ k j hl hj, hg, shAt_eq F k hkF]
  refine ⟨⟨hc 1 (by omega), hc 2 (by omega), h.frozenAt _, h.frozenAt _⟩, fun j u hj he => ?_⟩
  obtain ⟨h1, h2⟩ := h.stored (k * 3 + j) u
  rw [shAt_eq F k hkF] at he
  rw [flat_set shC_len _ k j hl hj u (upd f F[k]) (by rw [hg]; exact he), updR_step hkF] at h1
  exact ⟨h1, h2⟩
/-- What Add leaves. -/
def AddPost (S : List Sh) (f : Fo) (base lp : Nat) (w : World) (e : Ending) (w' : World) : Prop :=
  e = .returned (.tuple #[]) ∧ ListIs w' base lp (full (addS S f)) ∧ ShTouch w w' base lp
set_option maxRecDepth 20000 in
set_option maxHeartbeats 4000000 in
theorem add_none (S : List Sh) (f : Fo) (base lp : Nat) (w : World) (h : ListIs w base lp (full S)) (m0 : Mid f.x0) (m1 : Mid f.y0) (m2 : Mid f.x1) (m3 : Mid f.y1) (hc : cnts f = false) :
    Calls Try.prog 62 #[.pointer (some ⟨lp, 0, none⟩), .int .i64 f.s, .agg #[.int .i64 f.x0, .int .i64 f.y0, .int .i64 f.x1, .int .i64 f.y1]] w (AddPost S f base lp w) := by
  have hfl := fun w => full_any f.x0 f.y0 f.x1 f.y1 w m0 m1 m2 m3
  have ha : addS S f = S := by unfold addS; rw [if_neg (by simp [hc])]
  have HA := Lib.hid ha
  have HH := Lib.hid h
  have hd : fullB f.x0 f.y0 f.x1 f.y1 = false ∨ (fullB f.x0 f.y0 f.x1 f.y1 = true ∧ (f.s != 1) = true ∧ (f.s != 2) = true) := by
    unfold cnts at hc
    unfold fullB
    simp only [decide_eq_false_iff_not] at hc
    by_cases c : f.x0 < f.x1 ∧ f.y0 < f.y1
    · right
      refine ⟨decide_eq_true c, ?_, ?_⟩ <;> (rw [bne_iff_ne]; omega)
    · left; exact decide_eq_false c
  clear ha h hc m0 m1 m2 m3
  rcases hd with hd | ⟨hd, d1, d2⟩
  all_goals
    rw [hd] at hfl
    have HFL := Lib.hid hfl
    clear hfl hd
    go_enter Try.func62, Try.ntmps62
    go_wp2_with (go_at_call 75; (with_reducible refine (HFL.out _).mono ?_); rintro e w1 ⟨rfl, hb1⟩; have HB1 := Lib.hid (Below.onto hb1 ((Below.refl _ _).alloc (Nat.le_refl _) _)); clear hb1)
    refine bodyPost_ret (results_none rfl _ _ _) rfl ?_
    exact ⟨rfl, by rw [HA.out]; exact HH.out.below HB1.out (Nat.le_refl _), ShTouch.of_below HB1.out⟩
theorem rect_typed {w : World} {b lp base : Nat} {v : Array Value} (h : w.heap[b]? = some (.cells v 52 (0, 0))) (hne : b ≠ lp) : b < base ∨ (b ≠ lp ∧ ∀ C f, w.heap[b]? ≠ some (.cells C 162 f)) := by
  right
  refine ⟨hne, fun C f e => ?_⟩
  have := h.symm.trans e
  injection this with this
  injection this with _ h2
  exact absurd h2 (by decide)
/-- What stands in Add's loop. -/
def AInv (F2 : List Sh) (f : Fo) (base lp g cap b0 fr : Nat) (w : World) (i : Nat) (wr : World) : Prop :=
  wr.heap[lp]? = some (.cells #[.slice (some ⟨g, 0, none⟩) F2.length cap] 164 (0, 0)) ∧ wr.ownsRow base 162 3 (.slice (some ⟨g, 0, none⟩) F2.length cap) F2.length (flat shC (updR F2 f (fr + i))) ∧
  wr.heap[b0]? = some (.cells #[.int .i64 f.x0, .int .i64 f.y0, .int .i64 f.x1, .int .i64 f.y1] 52 (0, 0)) ∧ ShTouch w wr base lp
theorem AInv.step {F2 : List Sh} {f : Fo} {base lp g cap b0 fr i : Nat} {w wr : World} (h : AInv F2 f base lp g cap b0 fr w i wr) (hk : fr + i < F2.length) (hlg : lp ≠ g) (hbg : b0 ≠ g) (hb : base ≤ g) (j : Nat) (u : Value) (hj : j < 3) (he : shC (upd f (shAt F2 (fr + i))) = (shC (shAt F2 (fr + i))).set j u) :
    AInv F2 f base lp g cap b0 fr w (i + 1) (wr.drew.setCell ⟨g, (fr + i) * 3 + j, none⟩ u) := by
  obtain ⟨q1, q2, q3, q4⟩ := h
  obtain ⟨h1, h2⟩ := (own_upd q2.drew rfl hk).2 j u hj he
  obtain ⟨C, _, _, _, _, hblk⟩ := own_full q2
  exact ⟨(h2.block lp (Array.getElem?_eq_some_iff.1 q1).1 (by intro e; injection e with e; exact hlg e)).trans q1, h1,
    (h2.block b0 (Array.getElem?_eq_some_iff.1 q3).1 (by intro e; injection e with e; exact hbg e)).trans q3, q4.trans (ShTouch.drewL (ShTouch.of_row h2 hblk hb))⟩
set_option maxRecDepth 20000 in
set_option maxHeartbeats 8000000 in
theorem add_some (S : List Sh) (f : Fo) (base lp : Nat) (w : World) (h : ListIs w base lp (full S)) (hok : ShOk S) (hL : S.length ≤ 1000000) (m0 : Mid f.x0) (m1 : Mid f.y0) (m2 : Mid f.x1) (m3 : Mid f.y1) (l0 : -far < f.y0) (l1 : -far < f.y1) (hc : cnts f = true) (hbase : base ≤ w.heap.size) :
    Calls Try.prog 62 #[.pointer (some ⟨lp, 0, none⟩), .int .i64 f.s, .agg #[.int .i64 f.x0, .int .i64 f.y0, .int .i64 f.x1, .int .i64 f.y1]] w (AddPost S f base lp w) := by
  have hfl := fun w => full_any f.x0 f.y0 f.x1 f.y1 w m0 m1 m2 m3
  have hcc := hc
  unfold cnts at hcc
  simp only [decide_eq_true_eq] at hcc
  rw [show fullB f.x0 f.y0 f.x1 f.y1 = true from decide_eq_true ⟨hcc.1, hcc.2.1⟩] at hfl
  have hca := comp_add (S := S) hc l0 l1
  have hF : Asc (full S) := full_asc hok
  have hF1 : Asc (cutS (0, 0) (full S) f.y0) := cutS_asc _ _ _ hF
  have hF2 : Asc (cutS (0, 0) (cutS (0, 0) (full S) f.y0) f.y1) := cutS_asc _ _ _ hF1
  have hl1 := cutS_length (full S) (0, 0) f.y0
  have hl2 := cutS_length (cutS (0, 0) (full S) f.y0) (0, 0) f.y1
  have hlf : (full S).length = S.length + 1 := rfl
  have hh0 : ∀ (h : 0 < (full S).length), (full S)[0].t < f.y0 := fun _ => l0
  have hh1 : ∀ (h : 0 < (cutS (0, 0) (full S) f.y0).length), (cutS (0, 0) (full S) f.y0)[0].t < f.y1 := by
    rw [cutS_full l0]
    exact fun _ => l1
  have hn1 := cutS_ne (full S) (0, 0) f.y0
  have hn2 := cutS_ne (cutS (0, 0) (full S) f.y0) (0, 0) f.y1
  have ha1 := above_cut f.y0 f.y1 (by omega) (cutS (0, 0) (full S) f.y0) (0, 0)
  rw [above_cut f.y0 f.y0 (Int.le_refl _) (full S) (0, 0)] at ha1
  have ha2 := above_cut f.y1 f.y1 (Int.le_refl _) (cutS (0, 0) (full S) f.y0) (0, 0)
  have hc1 := fun w h => cut_any (full S) f.y0 base lp w h hF (by omega) (by omega) (hh0 (by omega))
  have hc2 := fun w h => cut_any (cutS (0, 0) (full S) f.y0) f.y1 base lp w h hF1 (by omega) hn1 (hh1 hn1)
  have hx2 := above_has hF2 (cutS_has _ _ _)
  obtain ⟨F2, hF2e⟩ : ∃ F2, cutS (0, 0) (cutS (0, 0) (full S) f.y0) f.y1 = F2 := ⟨_, rfl⟩
  rw [hF2e] at hca hF2 hl2 hn2 ha1 ha2 hx2
  obtain ⟨F1, hF1e⟩ : ∃ F1, cutS (0, 0) (full S) f.y0 = F1 := ⟨_, rfl⟩
  unfold CutPost at hc1 hc2
  rw [hF2e] at hc2
  rw [hF1e] at hc1 hc2 hl1 hl2 ha2
  obtain ⟨fr, hfr⟩ : ∃ fr, above (full S) f.y0 = fr := ⟨_, rfl⟩
  obtain ⟨tt, htt⟩ : ∃ tt, above F1 f.y1 = tt := ⟨_, rfl⟩
  rw [hfr] at hc1 ha1
  rw [htt] at hc2 ha2
  have htl' : tt < F2.length := by rw [← ha2]; exact hx2
  have hft : fr ≤ tt := by rw [← ha1, ← ha2]; exact above_mono F2 _ _ (by omega)
  have htl : tt ≤ F2.length := by rw [← ha2]; exact above_le _ _
  have hF2L : F2.length ≤ 10000000 := by omega
  have hupd : ∀ k, fr ≤ k → k < tt → upd f (shAt F2 k) = if f.s = 1 then ⟨(shAt F2 k).t, max (shAt F2 k).l f.x1, (shAt F2 k).r⟩ else ⟨(shAt F2 k).t, (shAt F2 k).l, min (shAt F2 k).r f.x0⟩ := by
    intro k k1 k2
    rw [shAt_eq F2 k (by omega)]
    exact upd_in hF2 (by omega) (by omega) (by omega)
  have hst0 : updR F2 f (fr + 0) = F2 := updR_start hF2 (by omega)
  have hend : updR F2 f (fr + (tt - fr)) = F2.map (upd f) := updR_end hF2 (by omega)
  have hs12 : f.s = 1 ∨ f.s = 2 := hcc.2.2
  have HFL := Lib.hid hfl
  have HC1 := Lib.hid hc1
  have HC2 := Lib.hid hc2
  have hcp := fun g cap w h => compact_any (F2.map (upd f)) base g cap w h (by rw [List.length_map]; omega)
  unfold CompPost at hcp
  rw [List.length_map, hca] at hcp
  have HCP := Lib.hid hcp
  have HUP := Lib.hid hupd
  have HST := Lib.hid hst0
  have HEN := Lib.hid hend
  have HH := Lib.hid h
  clear hfl hc1 hc2 hcp hca hupd hst0 hend h hF hF1 hF2 hl1 hl2 hlf hh0 hh1 hn1 ha1 ha2 hx2 hcc hc m0 m1 m2 m3 l0 l1 hF2e hF1e hfr htt hok
  have hd : ((f.s != 1) = false ∧ (f.s == 1) = true) ∨ ((f.s != 1) = true ∧ (f.s != 2) = false ∧ (f.s == 1) = false) := by
    rcases hs12 with e | e
    · left; rw [e]; exact ⟨rfl, rfl⟩
    · right; rw [e]; exact ⟨rfl, rfl, rfl⟩
  obtain ⟨b0, hb0⟩ : ∃ b, w.heap.size = b := ⟨_, rfl⟩
  have hlpl := HH.out.lt
  have hlb : lp < b0 := by omega
  have hbb : base ≤ b0 := by omega
  obtain ⟨r, hr⟩ : ∃ r, tt - fr = r := ⟨_, rfl⟩
  have hr1 : fr + r ≤ tt := by omega
  have hr2 : tt ≤ fr + r := by omega
  rw [hr] at HEN
  rcases hd with ⟨d1, d3⟩ | ⟨d1, d2, d3⟩
  · have e1 : f.s = 1 := by simpa using d3
    clear hs12
    go_enter Try.func62, Try.ntmps62
    go_wp2_with fail
    refine (HFL.out _).mono ?_
    rintro e w1 ⟨rfl, hb1⟩
    have hbx : w1.heap[b0]? = some (.cells #[.int .i64 f.x0, .int .i64 f.y0, .int .i64 f.x1, .int .i64 f.y1] 52 (0, 0)) := by rw [← hb0]; exact (hb1.block w.heap.size (by simp; done)).trans (heap_alloc_new w _)
    have hB1 := Below.onto hb1 ((Below.refl _ _).alloc (Nat.le_refl _) _)
    have hH1 := HH.out.below hB1 (Nat.le_refl _)
    have hT1 : ShTouch w w1 base lp := ShTouch.of_below hB1
    have hz1 := hT1.1.2.2.2
    rw [hb0] at hz1
    have x1 : w1.cell? ⟨b0, 1, none⟩ = some (.int .i64 f.y0) := by rw [cell_of_row w1 b0 1 _ _ (0, 0) hbx]; rfl
    have hb1' : b0 < w1.heap.size := (Array.getElem?_eq_some_iff.1 hbx).1
    have HBX := Lib.hid hbx
    have HH1 := Lib.hid hH1
    have HT1 := Lib.hid hT1
    have HB0 := Lib.hid hb0
    clear hb1 hB1 hH1 hT1 hbx hb0
    go_wp2_with fail
    refine (HC1.out w1 HH1.out (by omega)).mono ?_
    rintro e w2 ⟨rfl, hH2, hT2⟩
    have hbx2 := (hT2.2 b0 hb1' (rect_typed HBX.out (by omega))).trans HBX.out
    have x2 : w2.cell? ⟨b0, 3, none⟩ = some (.int .i64 f.y1) := by rw [cell_of_row w2 b0 3 _ _ (0, 0) hbx2]; rfl
    have hz2 := hT2.1.2.2.2
    have HBX2 := Lib.hid hbx2
    have HH2 := Lib.hid hH2
    have HT2 := Lib.hid (HT1.out.trans hT2)
    have hb2' : b0 < w2.heap.size := by omega
    clear hbx2 hH2 hT2 x1
    go_wp2_with fail
    refine (HC2.out w2 HH2.out (by omega)).mono ?_
    rintro e w3 ⟨rfl, hH3, hT3⟩
    have hbx3 := (hT3.2 b0 hb2' (rect_typed HBX2.out (by omega))).trans HBX2.out
    have hz3 := hT3.1.2.2.2
    have HT3 := Lib.hid (HT2.out.trans hT3)
    obtain ⟨v, q1, q2, q3⟩ := hH3
    obtain ⟨g, cap, rfl, hcp, hg, hgl⟩ := own_form q3 hn2 rfl
    obtain ⟨C, _, _, _, _, hblk⟩ := own_full q3
    have hlg : lp ≠ g := by
      intro e
      subst e
      have := q1.symm.trans hblk
      injection this with this
      injection this with _ h2
      exact absurd h2 (by decide)
    have hbg : b0 ≠ g := by
      intro e
      subst e
      have := hbx3.symm.trans hblk
      injection this with this
      injection this with _ h2
      exact absurd h2 (by decide)
    have c3 : w3.cell? ⟨lp, 0, none⟩ = some (.slice (some ⟨g, 0, none⟩) F2.length cap) := by rw [cell_of_row w3 lp 0 _ _ (0, 0) q1]; rfl
    have hA0 : AInv F2 f base lp g cap b0 fr w 0 w3 := ⟨q1, by rw [HST.out]; exact q3, hbx3, HT3.out⟩
    have HA0 := Lib.hid hA0
    have hfc : ¬ cap = fr := by omega
    clear hA0 hbx3 hT3 q1 q3 hblk x2
    go_wp2_with fail
    clear hr hfc
    go_loopw [37] (fun x wr => ∃ i : Nat, i ≤ r ∧ x = .int .i64 i ∧ Hid (AInv F2 f base lp g cap b0 fr w i wr)) (fun x _ => r - (intOf x).toNat)
    case atStart => exact ⟨0, by omega, rfl, HA0⟩
    case round =>
      obtain ⟨i, hi, rfl, hA⟩ := hrel
      obtain ⟨p1, p2, p3, p4⟩ := hA.out
      have c4 : wr.cell? ⟨lp, 0, none⟩ = some (.slice (some ⟨g, 0, none⟩) F2.length cap) := by rw [cell_of_row wr lp 0 _ _ (0, 0) p1]; rfl
      by_cases hlt : i < r
      · obtain ⟨⟨u1, u2, u3, u4⟩, _⟩ := own_upd p2 rfl (show fr + i < F2.length by omega)
        have y2 : wr.cell? ⟨b0, 2, none⟩ = some (.int .i64 f.x1) := by rw [cell_of_row wr b0 2 _ _ (0, 0) p3]; rfl
        have hup := HUP.out (fr + i) (by omega) (by omega)
        rw [if_pos e1] at hup
        have hAn := fun u he => hA.out.step (show fr + i < F2.length by omega) hlg hbg hg 1 u (by omega) he
        rw [hup] at hAn
        simp only [shC] at hAn
        have HAN := Lib.hid hAn
        clear hup hAn p1 p2 p3 p4 e1
        generalize (shAt F2 (fr + i)).l = sl at *
        generalize (shAt F2 (fr + i)).r = sr at *
        go_wp2_with fail
        go_still_tail 10, (by kernel_rfl)
        go_wp2_with fail
        go_roundw
        case rel =>
          refine ⟨i + 1, by omega, by go_num, Lib.hid ?_⟩
          refine HAN.out _ ?_
          show [_, Value.int .i64 _, _] = [_, Value.int .i64 _, _]
          congr 3
          omega
        case measure => simp [intOf]; omega
      · have hie : i = r := by omega
        subst hie
        rw [HEN.out] at p2
        have HCP := Lib.hid (HCP.out g cap)
        clear hr1 hr2 hi hlt
        have P1 := Lib.hid p1
        have P2 := Lib.hid p2
        have P4 := Lib.hid p4
        clear p1 p2 p3 p4
        go_wp2_with fail
        refine (HCP.out wr P2.out).mono ?_
        rintro e w5 ⟨rfl, ho5, hg5⟩
        have h5 := (hg5.block lp (Array.getElem?_eq_some_iff.1 P1.out).1 (by intro e; injection e with e; exact hlg e)).trans P1.out
        obtain ⟨_, _, _, _, _, hblk⟩ := own_full P2.out
        have t5 := Lib.hid ((P4.out.trans (ShTouch.of_row hg5 hblk hg)).trans (ShTouch.set_lp (.slice (some ⟨g, 0, none⟩) (full (addS S f)).length cap) q2))
        have l5 := Lib.hid (ListIs.stored h5 q2 ho5)
        have c5 : w5.cell? ⟨lp, 0, none⟩ = some (.slice (some ⟨g, 0, none⟩) F2.length cap) := by rw [cell_of_row w5 lp 0 _ _ (0, 0) h5]; rfl
        have f5 := frozen_of_row w5 lp 0 _ _ h5
        clear ho5 hg5 h5 hblk
        go_wp2_with fail
        refine bodyPost_ret (results_none rfl _ _ _) rfl ?_
        exact ⟨rfl, l5.out, t5.out⟩
  · have e1 : ¬ f.s = 1 := by simpa using d3
    clear hs12
    go_enter Try.func62, Try.ntmps62
    go_wp2_with fail
    refine (HFL.out _).mono ?_
    rintro e w1 ⟨rfl, hb1⟩
    have hbx : w1.heap[b0]? = some (.cells #[.int .i64 f.x0, .int .i64 f.y0, .int .i64 f.x1, .int .i64 f.y1] 52 (0, 0)) := by rw [← hb0]; exact (hb1.block w.heap.size (by simp; done)).trans (heap_alloc_new w _)
    have hB1 := Below.onto hb1 ((Below.refl _ _).alloc (Nat.le_refl _) _)
    have hH1 := HH.out.below hB1 (Nat.le_refl _)
    have hT1 : ShTouch w w1 base lp := ShTouch.of_below hB1
    have hz1 := hT1.1.2.2.2
    rw [hb0] at hz1
    have x1 : w1.cell? ⟨b0, 1, none⟩ = some (.int .i64 f.y0) := by rw [cell_of_row w1 b0 1 _ _ (0, 0) hbx]; rfl
    have hb1' : b0 < w1.heap.size := (Array.getElem?_eq_some_iff.1 hbx).1
    have HBX := Lib.hid hbx
    have HH1 := Lib.hid hH1
    have HT1 := Lib.hid hT1
    have HB0 := Lib.hid hb0
    clear hb1 hB1 hH1 hT1 hbx hb0
    go_wp2_with fail
    refine (HC1.out w1 HH1.out (by omega)).mono ?_
    rintro e w2 ⟨rfl, hH2, hT2⟩
    have hbx2 := (hT2.2 b0 hb1' (rect_typed HBX.out (by omega))).trans HBX.out
    have x2 : w2.cell? ⟨b0, 3, none⟩ = some (.int .i64 f.y1) := by rw [cell_of_row w2 b0 3 _ _ (0, 0) hbx2]; rfl
    have hz2 := hT2.1.2.2.2
    have HBX2 := Lib.hid hbx2
    have HH2 := Lib.hid hH2
    have HT2 := Lib.hid (HT1.out.trans hT2)
    have hb2' : b0 < w2.heap.size := by omega
    clear hbx2 hH2 hT2 x1
    go_wp2_with fail
    refine (HC2.out w2 HH2.out (by omega)).mono ?_
    rintro e w3 ⟨rfl, hH3, hT3⟩
    have hbx3 := (hT3.2 b0 hb2' (rect_typed HBX2.out (by omega))).trans HBX2.out
    have hz3 := hT3.1.2.2.2
    have HT3 := Lib.hid (HT2.out.trans hT3)
    obtain ⟨v, q1, q2, q3⟩ := hH3
    obtain ⟨g, cap, rfl, hcp, hg, hgl⟩ := own_form q3 hn2 rfl
    obtain ⟨C, _, _, _, _, hblk⟩ := own_full q3
    have hlg : lp ≠ g := by
      intro e
      subst e
      have := q1.symm.trans hblk
      injection this with this
      injection this with _ h2
      exact absurd h2 (by decide)
    have hbg : b0 ≠ g := by
      intro e
      subst e
      have := hbx3.symm.trans hblk
      injection this with this
      injection this with _ h2
      exact absurd h2 (by decide)
    have c3 : w3.cell? ⟨lp, 0, none⟩ = some (.slice (some ⟨g, 0, none⟩) F2.length cap) := by rw [cell_of_row w3 lp 0 _ _ (0, 0) q1]; rfl
    have hA0 : AInv F2 f base lp g cap b0 fr w 0 w3 := ⟨q1, by rw [HST.out]; exact q3, hbx3, HT3.out⟩
    have HA0 := Lib.hid hA0
    have hfc : ¬ cap = fr := by omega
    clear hA0 hbx3 hT3 q1 q3 hblk x2
    go_wp2_with fail
    clear hr hfc
    go_loopw [37] (fun x wr => ∃ i : Nat, i ≤ r ∧ x = .int .i64 i ∧ Hid (AInv F2 f base lp g cap b0 fr w i wr)) (fun x _ => r - (intOf x).toNat)
    case atStart => exact ⟨0, by omega, rfl, HA0⟩
    case round =>
      obtain ⟨i, hi, rfl, hA⟩ := hrel
      obtain ⟨p1, p2, p3, p4⟩ := hA.out
      have c4 : wr.cell? ⟨lp, 0, none⟩ = some (.slice (some ⟨g, 0, none⟩) F2.length cap) := by rw [cell_of_row wr lp 0 _ _ (0, 0) p1]; rfl
      by_cases hlt : i < r
      · obtain ⟨⟨u1, u2, u3, u4⟩, _⟩ := own_upd p2 rfl (show fr + i < F2.length by omega)
        have y2 : wr.cell? ⟨b0, 0, none⟩ = some (.int .i64 f.x0) := by rw [cell_of_row wr b0 0 _ _ (0, 0) p3]; rfl
        have hup := HUP.out (fr + i) (by omega) (by omega)
        rw [if_neg e1] at hup
        have hAn := fun u he => hA.out.step (show fr + i < F2.length by omega) hlg hbg hg 2 u (by omega) he
        rw [hup] at hAn
        simp only [shC] at hAn
        have HAN := Lib.hid hAn
        clear hup hAn p1 p2 p3 p4 e1
        generalize (shAt F2 (fr + i)).l = sl at *
        generalize (shAt F2 (fr + i)).r = sr at *
        go_wp2_with fail
        go_still_tail 10, (by kernel_rfl)
        go_wp2_with fail
        go_roundw
        case rel =>
          refine ⟨i + 1, by omega, by go_num, Lib.hid ?_⟩
          refine HAN.out _ ?_
          show [_, _, Value.int .i64 _] = [_, _, Value.int .i64 _]
          congr 4
          omega
        case measure => simp [intOf]; omega
      · have hie : i = r := by omega
        subst hie
        rw [HEN.out] at p2
        have HCP := Lib.hid (HCP.out g cap)
        clear hr1 hr2 hi hlt
        have P1 := Lib.hid p1
        have P2 := Lib.hid p2
        have P4 := Lib.hid p4
        clear p1 p2 p3 p4
        go_wp2_with fail
        refine (HCP.out wr P2.out).mono ?_
        rintro e w5 ⟨rfl, ho5, hg5⟩
        have h5 := (hg5.block lp (Array.getElem?_eq_some_iff.1 P1.out).1 (by intro e; injection e with e; exact hlg e)).trans P1.out
        obtain ⟨_, _, _, _, _, hblk⟩ := own_full P2.out
        have t5 := Lib.hid ((P4.out.trans (ShTouch.of_row hg5 hblk hg)).trans (ShTouch.set_lp (.slice (some ⟨g, 0, none⟩) (full (addS S f)).length cap) q2))
        have l5 := Lib.hid (ListIs.stored h5 q2 ho5)
        have c5 : w5.cell? ⟨lp, 0, none⟩ = some (.slice (some ⟨g, 0, none⟩) F2.length cap) := by rw [cell_of_row w5 lp 0 _ _ (0, 0) h5]; rfl
        have f5 := frozen_of_row w5 lp 0 _ _ h5
        clear ho5 hg5 h5 hblk
        go_wp2_with fail
        refine bodyPost_ret (results_none rfl _ _ _) rfl ?_
        exact ⟨rfl, l5.out, t5.out⟩
theorem add_any (S : List Sh) (f : Fo) (base lp : Nat) (w : World) (h : ListIs w base lp (full S)) (hok : ShOk S) (hL : S.length ≤ 1000000) (m0 : Mid f.x0) (m1 : Mid f.y0) (m2 : Mid f.x1) (m3 : Mid f.y1) (l0 : -far < f.y0) (l1 : -far < f.y1) (hbase : base ≤ w.heap.size) :
    Calls Try.prog 62 #[.pointer (some ⟨lp, 0, none⟩), .int .i64 f.s, .agg #[.int .i64 f.x0, .int .i64 f.y0, .int .i64 f.x1, .int .i64 f.y1]] w (AddPost S f base lp w) := by
  cases hc : cnts f with
  | true => exact add_some S f base lp w h hok hL m0 m1 m2 m3 l0 l1 hc hbase
  | false => exact add_none S f base lp w h m0 m1 m2 m3 hc
end Go.Proofs.Ytecojcdmigmnhaa
