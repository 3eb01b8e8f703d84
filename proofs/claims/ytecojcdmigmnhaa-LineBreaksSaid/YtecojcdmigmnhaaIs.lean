/- The contract of slices.Insert at shelves: one shelf, into a slice of the call's own. -/
import Derived.Test.YtecojcdmigmnhaaSm
import Derived.Test.YtecojcdmigmnhaaRw
import Derived.Lib.Overlaps
import Derived.Laws.Externs
import Derived.StillTailTactics
namespace Go.Proofs.Ytecojcdmigmnhaa
set_option linter.unusedSimpArgs false
set_option linter.unusedVariables false
open Go.RowKit
def insS (F : List Sh) (i : Nat) (x : Sh) : List Sh := F.take i ++ x :: F.drop i
theorem insS_len (F : List Sh) (i : Nat) (x : Sh) (h : i ≤ F.length) : (insS F i x).length = F.length + 1 := by
  unfold insS
  rw [List.length_append, List.length_cons, List.length_take, List.length_drop]
  omega
theorem flat_app (a b : List Sh) : flat shC (a ++ b) = flat shC a ++ flat shC b := by simp [flat]
theorem flat_cons' (a : Sh) (b : List Sh) : flat shC (a :: b) = shC a ++ flat shC b := by simp [flat]
theorem flat_take (F : List Sh) (i : Nat) : (flat shC F).take (i * 3) = flat shC (F.take i) := by
  have e : flat shC F = flat shC (F.take i) ++ flat shC (F.drop i) := by rw [← flat_app, List.take_append_drop]
  by_cases h : i ≤ F.length
  · have hl : (flat shC (F.take i)).length = i * 3 := by rw [flat_len shC_len, List.length_take, Nat.min_eq_left h]
    rw [e, ← hl, List.take_left]
  · rw [List.take_of_length_le (by rw [flat_len shC_len]; omega), List.take_of_length_le (by omega)]
theorem flat_drop (F : List Sh) (i : Nat) (h : i ≤ F.length) : (flat shC F).drop (i * 3) = flat shC (F.drop i) := by
  have e : flat shC F = flat shC (F.take i) ++ flat shC (F.drop i) := by rw [← flat_app, List.take_append_drop]
  have hl : (flat shC (F.take i)).length = i * 3 := by rw [flat_len shC_len, List.length_take, Nat.min_eq_left h]
  rw [e, ← hl, List.drop_left]
theorem flat_one3 (F : List Sh) : ∀ u ∈ flat shC F, u.oneCell' = true := by
  intro u hu
  unfold flat at hu
  rw [List.mem_flatten] at hu
  obtain ⟨l, hl, hul⟩ := hu
  rw [List.mem_map] at hl
  obtain ⟨b, _, rfl⟩ := hl
  exact shC_one b u hul
/-- What Insert leaves. -/
def InsPost (F : List Sh) (i : Nat) (x : Sh) (base : Nat) (v : Value) (w : World) (e : Ending) (w' : World) : Prop :=
  ∃ v', e = .returned v' ∧ w'.ownsRow base 162 3 v' (F.length + 1) (flat shC (insS F i x)) ∧ w.grownBy w' v.ownBlock ∧ (v'.ownBlock = v.ownBlock ∨ ∃ g, v'.ownBlock = some g ∧ w.heap.size ≤ g)
/-- A whole row's cells may be written. -/
theorem full_there {w : World} {g m : Nat} {e : TypeId} {C : List Value} (h : w.heap[g]? = some (.cells C.toArray e (0, 0))) (o : Nat) (ho : o + m ≤ C.length) : w.there g o m := fun j hj => by
  rw [cell_of_row w g (o + j) _ e (0, 0) h, frozen_of_row w g (o + j) _ e h]
  refine ⟨?_, rfl⟩
  rw [List.getElem?_toArray, List.getElem?_eq_getElem (by omega)]
  rfl
/-- Two copies into a whole row: what stands behind one place goes one further, and a shelf goes there. -/
theorem two_copies {w : World} {base g cap : Nat} {e : TypeId} {F : List Sh} {i : Nat} {x : Sh} (h : w.ownsRow base e 3 (.slice (some ⟨g, 0, none⟩) F.length cap) F.length (flat shC F)) (hi : i ≤ F.length) (hroom : F.length + 1 ≤ cap) :
    w.there g ((i + 1) * 3) (flat shC (F.drop i)).length ∧ (w.setCells g ((i + 1) * 3) (flat shC (F.drop i))).there g (i * 3) 3 ∧
    ((w.setCells g ((i + 1) * 3) (flat shC (F.drop i))).setCells g (i * 3) (shC x)).ownsRow base e 3 (.slice (some ⟨g, 0, none⟩) (F.length + 1) cap) (F.length + 1) (flat shC (insS F i x)) ∧
    w.grownBy ((w.setCells g ((i + 1) * 3) (flat shC (F.drop i))).setCells g (i * 3) (shC x)) (some g) ∧ w.grownBy (w.setCells g ((i + 1) * 3) (flat shC (F.drop i))) (some g) := by
  obtain ⟨C, hC, hCt, _, hfull, hblk⟩ := own_full h
  have hdl : (flat shC (F.drop i)).length = (F.length - i) * 3 := by rw [flat_len shC_len, List.length_drop]
  have hb1 : (i + 1) * 3 + (flat shC (F.drop i)).length ≤ C.length := by rw [hdl, hC]; omega
  obtain ⟨h1, g1⟩ := own_storedN (flat shC (F.drop i)) ((i + 1) * 3) w C hfull hb1
  obtain ⟨C1, hC1, hC1t, _, hfull1, hblk1⟩ := own_full h1
  have hCeq : C1 = C.take ((i + 1) * 3) ++ flat shC (F.drop i) ++ C.drop ((i + 1) * 3 + (flat shC (F.drop i)).length) := by rw [← hC1t, List.take_of_length_le (by rw [hC1]; exact Nat.le_refl _)]
  have hb2 : i * 3 + (shC x).length ≤ C1.length := by rw [shC_len, hC1]; omega
  obtain ⟨h2, g2⟩ := own_storedN (shC x) (i * 3) _ C1 hfull1 hb2
  refine ⟨full_there hblk _ hb1, full_there hblk1 _ hb2, ?_, grown_trans g1 g2, g1⟩
  have h3 := own_cut h2 (F.length + 1) hroom
  have e1 : C1.take (i * 3) = flat shC (F.take i) := by
    rw [hCeq, List.append_assoc, List.take_append_of_le_length (by rw [List.length_take]; omega), List.take_take, Nat.min_eq_left (by omega), ← flat_take, ← hCt, List.take_take, Nat.min_eq_left (by omega)]
  have e2 : C1.drop (i * 3 + (shC x).length) = flat shC (F.drop i) ++ C.drop ((i + 1) * 3 + (flat shC (F.drop i)).length) := by
    have hl : (C.take ((i + 1) * 3)).length = i * 3 + (shC x).length := by rw [List.length_take, shC_len]; omega
    rw [hCeq, List.append_assoc, ← hl, List.drop_left]
  have e3 : (C1.take (i * 3) ++ shC x ++ C1.drop (i * 3 + (shC x).length)).take ((F.length + 1) * 3) = flat shC (insS F i x) := by
    rw [e1, e2]
    have e4 : flat shC (insS F i x) = flat shC (F.take i) ++ (shC x ++ flat shC (F.drop i)) := by unfold insS; rw [flat_app, flat_cons']
    have hl : (flat shC (insS F i x)).length = (F.length + 1) * 3 := by rw [flat_len shC_len, insS_len F i x hi]
    rw [List.append_assoc, ← List.append_assoc (shC x), ← List.append_assoc, ← e4, ← hl, List.take_left]
  rw [e3] at h3
  exact h3
theorem overlaps_no (w : World) (g vb lb cb o : Nat) (C D : Array Value) (e e' : TypeId) (hne : vb ≠ g) (h1 : w.heap[vb]? = some (.cells D e' (0, 0))) (h2 : w.heap[g]? = some (.cells C e (0, 0))) (hC : C.size ≠ 0) :
    (callFunc 125 #[.slice (some ⟨vb, 0, none⟩) 1 1, .slice (some ⟨g, o, none⟩) lb cb]).run Try.prog w = .ok (.value (.bool false)) w := by
  have hz : ∀ w, (Go.sizeOf 162).run Try.prog w = .ok 3 w := fun w => by
    obtain ⟨i0, hi0, h0, h1, h2⟩ := info_parts shInfo3
    simp [sizeOf, typeInfo, hi0, h1]
  rw [run_callFunc_extern Try.func125 (by kernel_rfl) (by kernel_rfl) (by kernel_rfl) (e := Extern.SlicesOverlaps.overlaps #[161, 161] #[4]) (by kernel_rfl),
    Lib.run_overlaps_apart w 161 4 162 Try.underlying161 3 hz ⟨vb, 0, none⟩ ⟨g, o, none⟩ 1 1 lb cb hne e' e D.size C.size (by simp [World.shape?, h1]) (by simp [World.shape?, h2]) hC (frozen_of_row w vb 0 _ e' h1) (frozen_of_row w vb _ _ e' h1)]
  rfl
set_option maxRecDepth 20000 in
set_option maxHeartbeats 2000000 in
theorem insert_shift (F : List Sh) (i : Nat) (x : Sh) (base g vb cap : Nat) (w : World) (h : w.ownsRow base 162 3 (.slice (some ⟨g, 0, none⟩) F.length cap) F.length (flat shC F))
    (hx : w.heap[vb]? = some (.cells #[.int .i64 x.t, .int .i64 x.l, .int .i64 x.r] 162 (0, 0))) (hne : vb ≠ g) (hi : i < F.length) (hL : F.length ≤ 1000000000) (hroom : F.length + 1 ≤ cap) (hcap : cap ≤ 9223372036854775807) :
    Calls Try.prog 115 #[.slice (some ⟨g, 0, none⟩) F.length cap, .int .i64 i, .slice (some ⟨vb, 0, none⟩) 1 1] w (InsPost F i x base (.slice (some ⟨g, 0, none⟩) F.length cap) w) := by
  obtain ⟨C, hC, hCt, hnc, hfull, hblk⟩ := own_full h
  have hov := fun lb cb => overlaps_no w g vb lb cb ((i + 1) * 3) C.toArray _ _ _ hne hx hblk (by rw [List.size_toArray]; omega)
  have hz2 : ((i : Int) == (F.length : Int)) = false := by rw [beq_eq_false_iff_ne]; omega
  have hcp : decide ((cap : Int) < (F.length : Int) + 1) = false := by simp; omega
  have hw0 : Below base w w := Below.refl _ _
  have HB := Lib.hid hblk
  clear hfull hblk hCt hC
  go_enter Try.func115, Try.ntmps115
  go_wp2_with (simp only [hov])
  obtain ⟨hth1, hth2, hown, hgr, hg1⟩ := two_copies (i := i) (x := x) h.drew (by omega) hroom
  have hdl : (flat shC (F.drop i)).length = (F.length - i) * 3 := by rw [flat_len shC_len, List.length_drop]
  have hsrc : ∀ j v, (flat shC (F.drop i))[j]? = some v → w.drew.cell? ((⟨g, i * 3, none⟩ : Addr).add j) = some v := by
    intro j v hj
    rw [← flat_drop F i (by omega), List.getElem?_drop] at hj
    have hlt : i * 3 + j < F.length * 3 := by have := (List.getElem?_eq_some_iff.1 hj).1; rwa [flat_len shC_len] at this
    rw [Addr.add_mid]
    exact (h.cellAt _ hlt).trans hj
  have hcp1 : ∀ ty, (Builtin.copy_ #[161, 161] ty #[.slice (some ⟨g, (i + 1) * 3, none⟩) (F.length - i) (cap - (i + 1)), .slice (some ⟨g, i * 3, none⟩) (F.length + 1 - i) (cap - i)]).run Try.prog w.drew = .ok (goInt ((F.length - i : Nat) : Int)) (w.drew.setCells g ((i + 1) * 3) (flat shC (F.drop i))) :=
    fun ty => run_copy_rows w.drew _ _ ty 162 3 g ((i + 1) * 3) (F.length - i) (cap - (i + 1)) ⟨g, i * 3, none⟩ (F.length + 1 - i) (cap - i) _ Try.underlying161 shInfo (F.length - i) (by simp only [Nat.min_def]; split <;> omega) hdl hsrc hth1 (flat_one3 _)
  obtain ⟨W1, hW1⟩ : ∃ W1, w.drew.setCells g ((i + 1) * 3) (flat shC (F.drop i)) = W1 := ⟨_, rfl⟩
  have hx1 : W1.heap[vb]? = some (.cells #[.int .i64 x.t, .int .i64 x.l, .int .i64 x.r] 162 (0, 0)) := by
    rw [← hW1]
    exact (hg1.block vb (Array.getElem?_eq_some_iff.1 hx).1 (by intro e; injection e with e; exact hne e)).trans hx
  clear hg1
  rw [hW1] at hcp1 hth2 hown hgr
  have hcp2 : ∀ ty, (Builtin.copy_ #[161, 161] ty #[.slice (some ⟨g, i * 3, none⟩) (F.length + 1 - i) (cap - i), .slice (some ⟨vb, 0, none⟩) 1 1]).run Try.prog W1 = .ok (goInt 1) (W1.setCells g (i * 3) (shC x)) :=
    fun ty => run_copy_rows W1 _ _ ty 162 3 g (i * 3) (F.length + 1 - i) (cap - i) ⟨vb, 0, none⟩ 1 1 (shC x) Try.underlying161 shInfo 1 (by simp only [Nat.min_def]; split <;> omega) rfl
      (fun j v hj => by rw [Addr.add_mid, Nat.zero_add, cell_of_row W1 vb j _ _ (0, 0) hx1, ← hj]; simp [shC]) hth2 (shC_one x)
  have HC1 := Lib.hid hcp1
  have HC2 := Lib.hid hcp2
  have HO := Lib.hid hown
  have HG := Lib.hid hgr
  clear hcp1 hcp2 hown hgr hth1 hth2 hsrc hdl hx1 hW1 hov
  have hw1 : IntKind.i64.wrap ((i : Int) + 1) = (i : Int) + 1 := by rw [IntKind.wrap_i64]; omega
  have hb1 : (0 : Int) ≤ (i : Int) + 1 := by omega
  have hin : i ≤ F.length := by omega
  have htn : ((i : Int) + 1).toNat = i + 1 := by omega
  have hb2 : ¬ (cap = i + 1) := by omega
  have hb3 : (i : Int) ≤ (F.length : Int) + 1 := by omega
  have hb4 : ¬ (cap = i) := by omega
  have hb5 : (i : Int) + 1 ≤ (F.length : Int) + 1 := by omega
  have hb6 : (i : Int) ≤ (F.length : Int) := by omega
  go_still_tail 8, (by kernel_rfl)
  clear hw1 hb1 htn
  go_wp2_with (first
    | ((with_reducible refine copy_rows (.tmp 73) (.tmp 76) 161 161 (.slice (some ⟨g, (i + 1) * 3, none⟩) (F.length - i) (cap - (i + 1))) (.slice (some ⟨g, i * 3, none⟩) (F.length + 1 - i) (cap - i)) ?_ ?_ (HC1.out _) ?_); rfl; rfl)
    | ((with_reducible refine copy_rows (.tmp 80) (.tmp 81) 161 161 (.slice (some ⟨g, i * 3, none⟩) (F.length + 1 - i) (cap - i)) (.slice (some ⟨vb, 0, none⟩) 1 1) ?_ ?_ (HC2.out _) ?_); rfl; rfl))
  go_ret
  refine ⟨_, rfl, HO.out, ?_, .inl rfl⟩
  exact ⟨HG.out.os, HG.out.tape, HG.out.output, HG.out.size, HG.out.block⟩
theorem drew_setCells' (b : Nat) : ∀ (vs : List Value) (o : Nat) (w : World), (w.setCells b o vs).drew = w.drew.setCells b o vs
  | [], _, _ => rfl
  | v :: r, o, w => by rw [World.setCells, World.setCells, drew_setCells' b r]; rfl
theorem insS_end (F : List Sh) (x : Sh) : insS F F.length x = F ++ [x] := by unfold insS; rw [List.take_length, List.drop_length]
set_option maxRecDepth 20000 in
set_option maxHeartbeats 2000000 in
theorem insert_end (F : List Sh) (x : Sh) (base g vb cap : Nat) (w : World) (h : w.ownsRow base 162 3 (.slice (some ⟨g, 0, none⟩) F.length cap) F.length (flat shC F))
    (hx : w.heap[vb]? = some (.cells #[.int .i64 x.t, .int .i64 x.l, .int .i64 x.r] 162 (0, 0))) (hbase : base ≤ w.heap.size) (hL : F.length ≤ 1000000000) :
    Calls Try.prog 115 #[.slice (some ⟨g, 0, none⟩) F.length cap, .int .i64 F.length, .slice (some ⟨vb, 0, none⟩) 1 1] w (InsPost F F.length x base (.slice (some ⟨g, 0, none⟩) F.length cap) w) := by
  obtain ⟨i0, hi, hz0, hz1, hz2⟩ := info_parts shInfo3
  have hnews : ∀ j u, (shC x)[j]? = some u → w.cell? ((⟨vb, 0, none⟩ : Addr).add j) = some u := by
    intro j u hj
    rw [Addr.add_mid, Nat.zero_add, cell_of_row w vb j _ _ (0, 0) hx, ← hj]
    simp [shC]
  have hcap : F.length ≤ cap := (own_full h).choose_spec.2.2.1
  have HN := Lib.hid hnews
  have HX := Lib.hid hx
  clear hnews hx
  go_enter Try.func115, Try.ntmps115
  go_wp2_with (at_builtin; refine wpList_append_own_at _ rfl (.tmp 23) (.tmp 24) 161 (by rfl) base 162 i0 _ 3 24 Try.underlying161 hi hz0 hz1 hz2 rfl (by decide) _ F.length (flat shC F) (by rfl) h ⟨vb, 0, none⟩ 1 1 (shC x) (by rfl) rfl HN.out (shC_one x) (by unfold maxLen; omega) (by omega) hbase ?_; intro v6 w6 hI6 hg6 hn6 ha6; have HI6 := Lib.hid hI6; have HG6 := Lib.hid hg6; have HA6 := Lib.hid ha6; clear hI6 hg6 hn6 ha6)
  all_goals
    go_ret
    refine ⟨_, rfl, ?_, HG6.out, HA6.out.imp id fun e => ⟨_, e, Nat.le_refl _⟩⟩
    have h6 := HI6.out
    rw [insS_end, flat_app, show flat shC [x] = shC x by simp [flat]]
    exact h6
/-- The first shelves of a slice, and zeros behind them; then the new shelf, and what stood behind: a new row. -/
theorem new_copies {w : World} {base N cap : Nat} {e : TypeId} {F : List Sh} {i : Nat} {x : Sh} {Z : List Value} (hi : i ≤ F.length) (hZ : Z.length = (F.length + 1 - i) * 3)
    (h : w.ownsRow base e 3 (.slice (some ⟨N, 0, none⟩) (F.length + 1) cap) (F.length + 1) (flat shC (F.take i) ++ Z)) :
    w.there N (i * 3) 3 ∧ (w.setCells N (i * 3) (shC x)).there N ((i + 1) * 3) (flat shC (F.drop i)).length ∧
    ((w.setCells N (i * 3) (shC x)).setCells N ((i + 1) * 3) (flat shC (F.drop i))).ownsRow base e 3 (.slice (some ⟨N, 0, none⟩) (F.length + 1) cap) (F.length + 1) (flat shC (insS F i x)) ∧
    w.grownBy ((w.setCells N (i * 3) (shC x)).setCells N ((i + 1) * 3) (flat shC (F.drop i))) (some N) ∧ w.grownBy (w.setCells N (i * 3) (shC x)) (some N) := by
  obtain ⟨C, hC, _, hcap, _, hblk⟩ := own_full h
  have hdl : (flat shC (F.drop i)).length = (F.length - i) * 3 := by rw [flat_len shC_len, List.length_drop]
  have htl : (flat shC (F.take i)).length = i * 3 := by rw [flat_len shC_len, List.length_take, Nat.min_eq_left hi]
  have hl : (flat shC (F.take i) ++ Z).length = (F.length + 1) * 3 := h.1
  obtain ⟨h1, g1⟩ := own_storedN (shC x) (i * 3) w _ h (by rw [hl, shC_len]; omega)
  obtain ⟨C1, hC1, _, _, _, hblk1⟩ := own_full h1
  have hl1 := h1.1
  obtain ⟨h2, g2⟩ := own_storedN (flat shC (F.drop i)) ((i + 1) * 3) _ _ h1 (by rw [hl1, hdl]; omega)
  refine ⟨full_there hblk _ (by rw [hC]; omega), full_there hblk1 _ (by rw [hC1, hdl]; omega), ?_, grown_trans g1 g2, g1⟩
  have e1 : (flat shC (F.take i) ++ Z).take (i * 3) = flat shC (F.take i) := by rw [← htl, List.take_left]
  have e2 : ((flat shC (F.take i) ++ Z).take (i * 3) ++ shC x ++ (flat shC (F.take i) ++ Z).drop (i * 3 + (shC x).length)).take ((i + 1) * 3) = flat shC (F.take i) ++ shC x := by
    have hl3 : (flat shC (F.take i) ++ shC x).length = (i + 1) * 3 := by rw [List.length_append, htl, shC_len]; omega
    rw [e1, ← hl3, List.take_left]
  have e3 : ((flat shC (F.take i) ++ Z).take (i * 3) ++ shC x ++ (flat shC (F.take i) ++ Z).drop (i * 3 + (shC x).length)).drop ((i + 1) * 3 + (flat shC (F.drop i)).length) = [] := by
    apply List.drop_eq_nil_of_le
    rw [hl1, hdl]
    omega
  rw [e2, e3, List.append_nil] at h2
  have e4 : flat shC (insS F i x) = flat shC (F.take i) ++ shC x ++ flat shC (F.drop i) := by unfold insS; rw [flat_app, flat_cons', List.append_assoc]
  rw [e4]
  exact h2
set_option maxRecDepth 20000 in
set_option maxHeartbeats 2000000 in
theorem insert_grow (F : List Sh) (i : Nat) (x : Sh) (base g vb cap : Nat) (w : World) (h : w.ownsRow base 162 3 (.slice (some ⟨g, 0, none⟩) F.length cap) F.length (flat shC F))
    (hx : w.heap[vb]? = some (.cells #[.int .i64 x.t, .int .i64 x.l, .int .i64 x.r] 162 (0, 0))) (hbase : base ≤ w.heap.size) (hi : i < F.length) (hL : F.length ≤ 1000000000) (hroom : cap < F.length + 1) :
    Calls Try.prog 115 #[.slice (some ⟨g, 0, none⟩) F.length cap, .int .i64 i, .slice (some ⟨vb, 0, none⟩) 1 1] w (InsPost F i x base (.slice (some ⟨g, 0, none⟩) F.length cap) w) := by
  obtain ⟨i0, hi0, hz0, hz1, hz2⟩ := info_parts shInfo3
  obtain ⟨C, hC, hCt, hnc, hfull, hblk⟩ := own_full h
  have hglt : g < w.heap.size := (Array.getElem?_eq_some_iff.1 hblk).1
  have hvlt : vb < w.heap.size := (Array.getElem?_eq_some_iff.1 hx).1
  have hcapn : cap = F.length := by omega
  subst hcapn
  have hcut := own_cut hfull i (by omega)
  rw [show C.take (i * 3) = flat shC (F.take i) by rw [← flat_take, ← hCt, List.take_take, Nat.min_eq_left (by omega)]] at hcut
  have htl : (flat shC (F.take i)).length = i * 3 := by rw [flat_len shC_len, List.length_take, Nat.min_eq_left (by omega)]
  have hdl : (flat shC (F.drop i)).length = (F.length - i) * 3 := by rw [flat_len shC_len, List.length_drop]
  have hm : i + (F.length + 1 - i) = F.length + 1 := by omega
  obtain ⟨cap', w1, hr, how, hgr⟩ := run_append_zeros_grow (P := Try.prog) w base 161 3 161 162 i0 _ .i64 Try.underlying161 Try.underlying3 hi0 hz0 3 24 hz1 hz2 rfl (by decide) ⟨g, 0, none⟩ i F.length (flat shC (F.take i)) htl
    (fun j u hj => by rw [Addr.add_mid, Nat.zero_add]; exact (hcut.cellAt j (by have := (List.getElem?_eq_some_iff.1 hj).1; omega)).trans hj) (F.length + 1 - i) (by omega) (by omega) (by unfold maxLen; omega) (by omega) hbase
  rw [hm] at hr how
  have hz2' : ((i : Int) == (F.length : Int)) = false := by rw [beq_eq_false_iff_ne]; omega
  have hlt : decide ((F.length : Int) < (F.length : Int) + 1) = true := decide_eq_true (by omega)
  have em : ((F.length + 1 - i : Nat) : Int) = (F.length : Int) + 1 - (i : Int) := by omega
  rw [em] at hr
  clear hfull hC hi0 hz0 hz1 hz2
  go_enter Try.func115, Try.ntmps115
  have hZ : ((Builtin.zeroCells (Value.agg #[Value.int IntKind.i64 0, Value.int IntKind.i64 0, Value.int IntKind.i64 0]).cells (F.length + 1 - i)).toList).length = (F.length + 1 - i) * 3 := by rw [Array.length_toList, size_zeroCells]; rfl
  have hcap' : F.length + 1 ≤ cap' := (own_full how).choose_spec.2.2.1
  have hb1 : ¬ (cap' = i) := by omega
  have hb2 : ¬ (cap' = i + 1) := by omega
  have hb3 : (i : Int) ≤ (F.length : Int) + 1 := by omega
  have hb4 : ¬ (F.length = i) := by omega
  have hb5 : (i : Int) ≤ (F.length : Int) := by omega
  generalize (Builtin.zeroCells (Value.agg #[Value.int IntKind.i64 0, Value.int IntKind.i64 0, Value.int IntKind.i64 0]).cells (F.length + 1 - i)).toList = Z at how hZ
  obtain ⟨ht1, ht2, ho2, hg2, hg1⟩ := new_copies (x := x) (by omega : i ≤ F.length) hZ how
  have hx1 : w1.heap[vb]? = some (.cells #[.int .i64 x.t, .int .i64 x.l, .int .i64 x.r] 162 (0, 0)) := (hgr.block vb hvlt (by simp)).trans hx
  have hcp1 : ∀ ty sc, (Builtin.copy_ #[161, 161] ty #[.slice (some ⟨w.heap.size, i * 3, none⟩) (F.length + 1 - i) sc, .slice (some ⟨vb, 0, none⟩) 1 1]).run Try.prog w1 = .ok (goInt 1) (w1.setCells w.heap.size (i * 3) (shC x)) :=
    fun ty sc => run_copy_rows w1 _ _ ty 162 3 w.heap.size (i * 3) (F.length + 1 - i) sc ⟨vb, 0, none⟩ 1 1 (shC x) Try.underlying161 shInfo 1 (by simp only [Nat.min_def]; split <;> omega) rfl
      (fun j v hj => by rw [Addr.add_mid, Nat.zero_add, cell_of_row w1 vb j _ _ (0, 0) hx1, ← hj]; simp [shC]) ht1 (shC_one x)
  obtain ⟨W2, hW2⟩ : ∃ W2, w1.setCells w.heap.size (i * 3) (shC x) = W2 := ⟨_, rfl⟩
  rw [hW2] at hcp1 ht2 ho2 hg2 hg1
  have hgblk : W2.heap[g]? = some (.cells C.toArray 162 (0, 0)) := (hg1.block g (Nat.lt_of_lt_of_le hglt hgr.size) (by intro e; injection e with e; omega)).trans ((hgr.block g hglt (by simp)).trans hblk)
  have hcp2 : ∀ ty dc sc, (Builtin.copy_ #[161, 161] ty #[.slice (some ⟨w.heap.size, (i + 1) * 3, none⟩) (F.length - i) dc, .slice (some ⟨g, i * 3, none⟩) (F.length - i) sc]).run Try.prog W2.drew = .ok (goInt ((F.length - i : Nat) : Int)) (W2.drew.setCells w.heap.size ((i + 1) * 3) (flat shC (F.drop i))) :=
    fun ty dc sc => run_copy_rows W2.drew _ _ ty 162 3 w.heap.size ((i + 1) * 3) (F.length - i) dc ⟨g, i * 3, none⟩ (F.length - i) sc _ Try.underlying161 shInfo (F.length - i) (by simp only [Nat.min_def]; split <;> omega) hdl
      (fun j v hj => by
        have hj' := hj
        rw [← flat_drop F i (by omega), List.getElem?_drop, ← hCt, List.getElem?_take] at hj'
        have hlt : i * 3 + j < F.length * 3 := by have := (List.getElem?_eq_some_iff.1 hj).1; omega
        rw [if_pos hlt] at hj'
        rw [Addr.add_mid]
        show W2.cell? _ = _
        rw [cell_of_row W2 g _ _ _ (0, 0) hgblk, ← hj']
        simp) ht2 (flat_one3 _)
  obtain ⟨W3, hW3⟩ : ∃ W3, W2.drew.setCells w.heap.size ((i + 1) * 3) (flat shC (F.drop i)) = W3 := ⟨_, rfl⟩
  have ho3 : W3.ownsRow base 162 3 (.slice (some ⟨w.heap.size, 0, none⟩) (F.length + 1) cap') (F.length + 1) (flat shC (insS F i x)) ∧ w.grownBy W3 (some g) := by
    rw [← hW3, ← drew_setCells']
    refine ⟨ho2.drew, hg2.os.trans hgr.os, hg2.tape.trans hgr.tape, hg2.output.trans hgr.output, Nat.le_trans hgr.size hg2.size, fun k hk hne => ?_⟩
    exact (hg2.block k (Nat.lt_of_lt_of_le hk hgr.size) (by intro e; injection e with e; omega)).trans (hgr.block k hk (by simp))
  rw [hW3] at hcp2
  have HR := Lib.hid hr
  have HC1 := Lib.hid hcp1
  have HC2 := Lib.hid hcp2
  have HO := Lib.hid ho3.1
  have HG := Lib.hid ho3.2
  clear hr hcp1 hcp2 ho3 ht1 ht2 ho2 hg2 hg1 hgblk hx1 hW2 hW3 hZ hgr how hblk hcut hCt hx em h htl hdl hm
  go_wp2_with (first
    | (at_builtin; refine Lib.wpList_append_run _ rfl (.tmp 34) (.tmp 39) _ _ rfl _ _ rfl rfl _ _ HR.out ?_)
    | ((with_reducible refine copy_rows (.tmp 43) (.tmp 44) 161 161 (.slice (some ⟨w.heap.size, i * 3, none⟩) (F.length + 1 - i) (cap' - i)) (.slice (some ⟨vb, 0, none⟩) 1 1) ?_ ?_ (HC1.out _ _) ?_); rfl; rfl; simp only [Act.put, List.setIfInBounds_toArray, List.set_cons_zero, List.set_cons_succ]))
  have hw1 : IntKind.i64.wrap ((i : Int) + 1) = (i : Int) + 1 := by rw [IntKind.wrap_i64]; omega
  have hb6 : (0 : Int) ≤ (i : Int) + 1 := by omega
  have htn : ((i : Int) + 1).toNat = i + 1 := by omega
  have hb7 : (i : Int) + 1 ≤ (F.length : Int) + 1 := by omega
  have hin : i ≤ F.length := by omega
  go_still_tail 8, (by kernel_rfl)
  clear hw1 hb6 htn
  go_wp2_with ((with_reducible refine copy_rows (.tmp 50) (.tmp 53) 161 161 (.slice (some ⟨w.heap.size, (i + 1) * 3, none⟩) (F.length - i) (cap' - (i + 1))) (.slice (some ⟨g, i * 3, none⟩) (F.length - i) (F.length - i)) ?_ ?_ (HC2.out _ _ _) ?_); rfl; rfl)
  go_ret
  exact ⟨_, rfl, HO.out, HG.out, .inr ⟨_, rfl, Nat.le_refl _⟩⟩
/-- One shelf into a slice of the call's own. -/
theorem insert_any (F : List Sh) (i : Nat) (x : Sh) (base vb : Nat) (v : Value) (w : World) (h : w.ownsRow base 162 3 v F.length (flat shC F)) (h0 : 0 < F.length)
    (hx : w.heap[vb]? = some (.cells #[.int .i64 x.t, .int .i64 x.l, .int .i64 x.r] 162 (0, 0))) (hne : v.ownBlock ≠ some vb) (hbase : base ≤ w.heap.size) (hi : i ≤ F.length) (hL : F.length ≤ 1000000000) :
    Calls Try.prog 115 #[v, .int .i64 i, .slice (some ⟨vb, 0, none⟩) 1 1] w (InsPost F i x base v w) := by
  obtain ⟨g, cap, rfl, hc, hg, hgl⟩ := own_form h h0 rfl
  have hng : vb ≠ g := fun e => hne (by rw [e]; rfl)
  by_cases he : i = F.length
  · subst he
    exact insert_end F x base g vb cap w h hx hbase hL
  · by_cases hr : F.length + 1 ≤ cap
    · refine insert_shift F i x base g vb cap w h hx hng (by omega) hL hr ?_
      rcases h.2 with ⟨h', _⟩ | ⟨g', cap', cur, h', _, _, _, hcm, _⟩
      · simp at h'
      · simp only [Value.slice.injEq] at h'
        unfold maxLen at hcm
        omega
    · exact insert_grow F i x base g vb cap w h hx hbase (by omega) hL (by omega)
end Go.Proofs.Ytecojcdmigmnhaa
