/- The contract of (*shelf.List).cut. -/
import Derived.Test.YtecojcdmigmnhaaIs
import Derived.Deep.RegionLaw
namespace Go.Proofs.Ytecojcdmigmnhaa
set_option linter.unusedSimpArgs false
set_option linter.unusedVariables false
open Go.RowKit
/-- What list of shelves may be turned: its own cell, and rows of shelves, from a block on. -/
def ShTouch (w w' : World) (base lp : Nat) : Prop := (w'.os = w.os ∧ w'.tape = w.tape ∧ w'.output = w.output ∧ w.heap.size ≤ w'.heap.size) ∧
  ∀ k, k < w.heap.size → (k < base ∨ (k ≠ lp ∧ ∀ C f, w.heap[k]? ≠ some (.cells C 162 f))) → w'.heap[k]? = w.heap[k]?
theorem ShTouch.refl (w : World) (base lp : Nat) : ShTouch w w base lp := ⟨⟨rfl, rfl, rfl, Nat.le_refl _⟩, fun _ _ _ => rfl⟩
theorem ShTouch.trans {a b c : World} {base lp : Nat} (h : ShTouch a b base lp) (k : ShTouch b c base lp) : ShTouch a c base lp := by
  obtain ⟨⟨h1, h2, h3, h4⟩, h5⟩ := h
  obtain ⟨⟨k1, k2, k3, k4⟩, k5⟩ := k
  refine ⟨⟨k1.trans h1, k2.trans h2, k3.trans h3, Nat.le_trans h4 k4⟩, fun i hi hc => ?_⟩
  have e := h5 i hi hc
  refine (k5 i (by omega) ?_).trans e
  rcases hc with hc | ⟨hc1, hc2⟩
  · exact .inl hc
  · exact .inr ⟨hc1, fun C f => by rw [e]; exact hc2 C f⟩
theorem ShTouch.of_below {w w' : World} {base lp : Nat} (h : Below w.heap.size w w') : ShTouch w w' base lp := ⟨⟨h.os, h.tape, h.output, h.size⟩, fun k hk _ => h.block k hk⟩
theorem ShTouch.below {w w' : World} {base lp : Nat} (h : ShTouch w w' base lp) (hb : base ≤ w.heap.size) : Below base w w' := by
  obtain ⟨⟨h1, h2, h3, h4⟩, h5⟩ := h
  exact ⟨h1, h2, h3, h4, fun k hk => h5 k (by omega) (.inl hk)⟩
theorem ShTouch.of_row {w w' : World} {base lp g : Nat} {C : Array Value} {f : Nat × Nat} (h : w.grownBy w' (some g)) (hg : w.heap[g]? = some (.cells C 162 f)) (hb : base ≤ g) : ShTouch w w' base lp := by
  refine ⟨⟨h.os, h.tape, h.output, h.size⟩, fun k hk hc => h.block k hk fun e => ?_⟩
  injection e with e
  subst e
  rcases hc with hc | hc
  · omega
  · exact hc.2 C f hg
theorem ShTouch.set_lp {w : World} {base lp : Nat} (u : Value) (hb : base ≤ lp) : ShTouch w (w.setCell ⟨lp, 0, none⟩ u) base lp := by
  refine ⟨⟨rfl, rfl, rfl, by simp⟩, fun k hk hc => heap_setCell_other w ⟨lp, 0, none⟩ k u fun e => ?_⟩
  have e' : k = lp := by simpa using e
  rcases hc with hc | hc
  · omega
  · exact hc.1 e'
theorem ShTouch.drew {w w' : World} {base lp : Nat} (h : ShTouch w w' base lp) : ShTouch w w'.drew base lp := h
theorem ShTouch.drewL {w w' : World} {base lp : Nat} (h : ShTouch w.drew w' base lp) : ShTouch w w' base lp := h
/-- cut, in plain words. -/
theorem cutS_eq (y : Int) : ∀ (S : List Sh) (d : Int × Int), Asc S → cutS d S y = if foundB S y = true then S else insS S (above S y) ⟨y, (if above S y = 0 then d else ((shAt S (above S y - 1)).l, (shAt S (above S y - 1)).r)).1, (if above S y = 0 then d else ((shAt S (above S y - 1)).l, (shAt S (above S y - 1)).r)).2⟩
  | [], d, _ => by
    have h1 : above [] y = 0 := rfl
    have h2 : foundB [] y = false := by unfold foundB; simp [h1]
    rw [h2, h1]
    rfl
  | s :: S, d, h => by
    have hc : above (s :: S) y = above S y + if s.t < y then 1 else 0 := by
      unfold above
      rw [List.countP_cons]
      simp
    by_cases h1 : s.t < y
    · rw [if_pos h1] at hc
      have hf : foundB (s :: S) y = foundB S y := by
        unfold foundB
        rw [hc]
        have : shAt (s :: S) (above S y + 1) = shAt S (above S y) := rfl
        rw [this]
        simp
      rw [hf, hc]
      unfold cutS
      rw [if_pos h1, cutS_eq y S _ h.tail]
      cases hb : foundB S y with
      | true => simp
      | false =>
        simp only [Bool.false_eq_true, if_false, Nat.add_eq_zero_iff, Nat.succ_ne_self, and_false, Nat.add_sub_cancel]
        have e : (if above S y = 0 then (s.l, s.r) else ((shAt S (above S y - 1)).l, (shAt S (above S y - 1)).r)) = ((shAt (s :: S) (above S y)).l, (shAt (s :: S) (above S y)).r) := by
          by_cases h0 : above S y = 0
          · rw [if_pos h0, h0]; rfl
          · rw [if_neg h0]
            obtain ⟨m, hm⟩ : ∃ m, above S y = m + 1 := ⟨above S y - 1, by omega⟩
            rw [hm]
            rfl
        rw [e]
        unfold insS
        rfl
    · rw [if_neg h1, Nat.add_zero] at hc
      have h0 : above S y = 0 := by
        unfold above
        rw [List.countP_eq_zero]
        intro x hx
        have := h.head x hx
        simp
        omega
      rw [h0] at hc
      unfold cutS
      rw [if_neg h1]
      by_cases h2 : s.t = y
      · have hf : foundB (s :: S) y = true := by
          unfold foundB
          rw [hc]
          have : shAt (s :: S) 0 = s := rfl
          rw [this]
          simp [h2]
        rw [if_pos h2, hf, if_pos rfl]
      · have hf : foundB (s :: S) y = false := by
          unfold foundB
          rw [hc]
          have : shAt (s :: S) 0 = s := rfl
          rw [this]
          simp [h2]
        rw [if_neg h2, hf, hc]
        rfl
theorem retI {a b : Int} (h : a = b) : Ending.returned (.int .i64 a) = .returned (.int .i64 b) := by rw [h]
theorem cutS_full {S : List Sh} {y : Int} (hy : -far < y) (d : Int × Int) : cutS d (full S) y = full (cutS (-far, far) S y) := by
  unfold full
  conv => lhs; unfold cutS
  rw [if_pos (show sh0.t < y from hy)]
  rfl
/-- A call, as one step of a region that draws. -/
theorem step_call_post {P : Program} {ops : Array Oper} {o : Oper} {a : Act} {w : World} {K : Act → World → Prop} {Q : Exit → Act → World → Prop} {E : Prop} (hgd : o.guard = none) (f : FuncId) (args : Array Value) (hr : (execOp a.eval o).run P w = .ok (.enter f args) w)
    (R : Ending → World → Prop) (hc : Calls P f args w R) (h : ∀ e w', R e w' → ∃ v, e = .returned v ∧ K (a.put o.dst v) w') : if Region.wanted o (yielded ops a.tmps) = true then Oper.wp P o a w K Q else E := by
  have hw : Region.wanted o (yielded ops a.tmps) = true := by simp [Region.wanted, hgd]
  rw [if_pos hw]
  unfold Oper.wp
  rw [hr]
  refine hc.mono fun e w' he => ?_
  obtain ⟨v, rfl, hk⟩ := h e w' he
  exact hk
theorem ListIs.stored {w : World} {base lp : Nat} {u v : Value} {F : List Sh} (hb : w.heap[lp]? = some (.cells #[u] 164 (0, 0))) (hl : base ≤ lp) (ho : w.ownsRow base 162 3 v F.length (flat shC F)) : ListIs (w.setCell ⟨lp, 0, none⟩ v) base lp F := by
  refine ⟨v, ?_, hl, ?_⟩
  · rw [heap_setCell_same w lp 0 _ _ _ hb]; rfl
  · refine ho.kept (row := some lp) ⟨rfl, rfl, rfl, by simp, fun k _ hk => heap_setCell_other w ⟨lp, 0, none⟩ k v (fun e => hk (by rw [e]))⟩ ?_
    rcases ho.2 with ⟨rfl, _⟩ | ⟨g, cap, cur, rfl, _, hg, _⟩
    · exact .inl rfl
    · right
      intro e
      have e' : g = lp := by simpa [Value.ownBlock] using e
      subst e'
      have := hb.symm.trans hg
      injection this with this
      injection this with _ h2
      exact absurd h2 (by decide)
/-- What cut leaves. -/
def CutPost (F : List Sh) (y : Int) (base lp : Nat) (w : World) (e : Ending) (w' : World) : Prop :=
  e = .returned (.int .i64 (above F y)) ∧ ListIs w' base lp (cutS (0, 0) F y) ∧ ShTouch w w' base lp
set_option maxRecDepth 20000 in
set_option maxHeartbeats 2000000 in
theorem cut_found (F : List Sh) (y : Int) (base lp : Nat) (w : World) (h : ListIs w base lp F) (hs : Asc F) (hL : F.length ≤ 100000000) (h0 : 0 < F.length) (hf : foundB F y = true) :
    Calls Try.prog 93 #[.pointer (some ⟨lp, 0, none⟩), .int .i64 y] w (CutPost F y base lp w) := by
  have hcut : cutS (0, 0) F y = F := by rw [cutS_eq y F _ hs, if_pos hf]
  have hfs : findS F y = above F y := by rw [found_at, if_pos hf]
  have hfb := hf
  unfold foundB at hfb
  simp only [decide_eq_true_eq] at hfb
  obtain ⟨hlt, hty⟩ := hfb
  have hfind := fun w h => find_any F y lp base w h hs (by omega) h0
  rw [hfs] at hfind
  have HFI := Lib.hid hfind
  have HCUT := Lib.hid hcut
  have HL := Lib.hid h
  clear hfind hcut hfs hf hs
  go_enter Try.func93, Try.ntmps93
  go_wp2_with fail
  refine (HFI.out w HL.out).mono ?_
  rintro e w1 ⟨rfl, hb1⟩
  have HL1 := Lib.hid (HL.out.below hb1 (Nat.le_refl _))
  have HB1 := Lib.hid hb1
  clear hb1
  obtain ⟨v, q1, q2, q3⟩ := HL1.out
  obtain ⟨g, cap, rfl, hc, hg, hgl⟩ := own_form q3 h0 rfl
  have c0 : w1.cell? ⟨lp, 0, none⟩ = some (.slice (some ⟨g, 0, none⟩) F.length cap) := by rw [cell_of_row w1 lp 0 _ _ (0, 0) q1]; rfl
  have c1 : w1.cell? ⟨g, above F y * 3, none⟩ = some (.int .i64 y) := by
    have := (shs_of_own q3).cell0 hlt
    rw [Nat.zero_add, hty] at this
    exact this
  clear q1 q3
  go_wp2_with fail
  go_ret
  exact ⟨rfl, by rw [HCUT.out]; exact HL1.out, ShTouch.of_below HB1.out⟩
set_option maxRecDepth 20000 in
set_option maxHeartbeats 4000000 in
theorem cut_new (F : List Sh) (y : Int) (base lp : Nat) (w : World) (h : ListIs w base lp F) (hs : Asc F) (hL : F.length ≤ 100000000) (h0 : 0 < F.length) (hf : foundB F y = false) (hy : F[0].t < y) (hbase : base ≤ w.heap.size) :
    Calls Try.prog 93 #[.pointer (some ⟨lp, 0, none⟩), .int .i64 y] w (CutPost F y base lp w) := by
  have hpos : 0 < above F y := (above_iff F y hs 0 h0).2 hy
  obtain ⟨m, hm⟩ : ∃ m, above F y = m + 1 := ⟨above F y - 1, by omega⟩
  have hle := above_le F y
  have hcut : cutS (0, 0) F y = insS F (m + 1) ⟨y, (shAt F m).l, (shAt F m).r⟩ := by
    rw [cutS_eq y F _ hs, hf, hm]
    rfl
  have hfs : findS F y = m := by rw [found_at, hf, hm]; rfl
  have hne : ((shAt F m).t == y) = false := by
    have := (above_iff F y hs m (by omega)).1 (by omega)
    rw [shAt_eq F m (by omega), beq_eq_false_iff_ne]
    omega
  have hfind := fun w h => find_any F y lp base w h hs (by omega) h0
  rw [hfs] at hfind
  have HFI := Lib.hid hfind
  have HCUT := Lib.hid hcut
  have HM := Lib.hid hm
  have HL := Lib.hid h
  have hmlt : m < F.length := by omega
  clear hfind hcut hfs hf hs hm hpos hy
  go_enter Try.func93, Try.ntmps93
  go_wp2_with fail
  refine (HFI.out w HL.out).mono ?_
  rintro e w1 ⟨rfl, hb1⟩
  have HL1 := Lib.hid (HL.out.below hb1 (Nat.le_refl _))
  have HB1 := Lib.hid hb1
  have hsz := hb1.size
  clear hb1
  obtain ⟨v, q1, q2, q3⟩ := HL1.out
  obtain ⟨g, cap, rfl, hc, hg, hgl⟩ := own_form q3 h0 rfl
  have hlpl := HL1.out.lt
  obtain ⟨C, _, _, _, _, hrow⟩ := own_full q3
  have hgne : lp ≠ g := by
    intro e
    subst e
    have := q1.symm.trans hrow
    injection this with this
    injection this with _ h2
    exact absurd h2 (by decide)
  have c0 : w1.cell? ⟨lp, 0, none⟩ = some (.slice (some ⟨g, 0, none⟩) F.length cap) := by rw [cell_of_row w1 lp 0 _ _ (0, 0) q1]; rfl
  have f0 : w1.frozen? ⟨lp, 0, none⟩ = false := frozen_of_row w1 lp 0 _ _ q1
  obtain ⟨c1, c2, c3⟩ := (shs_of_own q3).cells hmlt
  simp only [Nat.zero_add] at c1 c2 c3
  have Q1 := Lib.hid q1
  have Q3 := Lib.hid q3
  have HROW := Lib.hid hrow
  clear q1 q3 hrow
  generalize (shAt F m).t = st at *
  generalize hsl : (shAt F m).l = sl at *
  generalize hsr : (shAt F m).r = sr at *
  have HSL := Lib.hid hsl
  have HSR := Lib.hid hsr
  clear hsl hsr
  go_wp2_with fail
  obtain ⟨b, hbb⟩ : ∃ b, w1.heap.size = b := ⟨_, rfl⟩
  obtain ⟨W2, hW2⟩ : ∃ W2, w1.alloc (.cells #[.int .i64 y, .int .i64 sl, .int .i64 sr] 162) = W2 := ⟨_, rfl⟩
  have hB2 : Below w1.heap.size w1 W2 := by rw [← hW2]; exact (Below.refl _ _).alloc (Nat.le_refl _) _
  have hs2 : W2.heap.size = b + 1 := by rw [← hW2, ← hbb]; simp
  have hnew := heap_alloc_new w1 (.cells #[.int .i64 y, .int .i64 sl, .int .i64 sr] 162)
  rw [hW2, hbb] at hnew
  rw [hW2, hbb]
  have d0 : W2.cell? ⟨b, 0, none⟩ = some (.int .i64 y) := by rw [cell_of_row W2 b 0 _ _ (0, 0) hnew]; rfl
  have d1 : W2.cell? ⟨b, 1, none⟩ = some (.int .i64 sl) := by rw [cell_of_row W2 b 1 _ _ (0, 0) hnew]; rfl
  have d2 : W2.cell? ⟨b, 2, none⟩ = some (.int .i64 sr) := by rw [cell_of_row W2 b 2 _ _ (0, 0) hnew]; rfl
  have c4 : W2.cell? ⟨lp, 0, none⟩ = some (.slice (some ⟨g, 0, none⟩) F.length cap) := (hB2.cell (p := ⟨lp, 0, none⟩) hlpl).trans c0
  have f4 : W2.frozen? ⟨lp, 0, none⟩ = false := (hB2.frozen (p := ⟨lp, 0, none⟩) hlpl).trans f0
  have Q1' := Lib.hid ((hB2.block lp hlpl).trans Q1.out)
  have Q3' := Lib.hid (own_below Q3.out hB2)
  have HROW' := Lib.hid ((hB2.block g hgl).trans HROW.out)
  have hlp2 : lp < W2.heap.size := by omega
  have hg2 : g < W2.heap.size := by omega
  have hb2 : base ≤ W2.heap.size := by omega
  have em : ((m + 1 : Nat) : Int) = (m : Int) + 1 := by omega
  have hins : ∀ W, Below W2.heap.size W2 W → W.heap[W2.heap.size]? = some (.cells #[.int .i64 y, .int .i64 sl, .int .i64 sr] 162 (0, 0)) →
      Calls Try.prog 115 #[.slice (some ⟨g, 0, none⟩) F.length cap, .int .i64 ((m : Int) + 1), .slice (some ⟨W2.heap.size, 0, none⟩) 1 1] W (InsPost F (m + 1) ⟨y, sl, sr⟩ base (.slice (some ⟨g, 0, none⟩) F.length cap) W) := fun W hW hN => by
    have h := insert_any F (m + 1) ⟨y, sl, sr⟩ base W2.heap.size _ W (own_below Q3'.out hW) h0 hN (by intro e; have e' : g = W2.heap.size := (by simpa [Value.ownBlock] using e); omega) (by have := hW.size; omega) (by omega) (by omega)
    rw [em] at h
    exact h
  have hpost : ∀ W w6 v6, Below W2.heap.size W2 W → w6.ownsRow base 162 3 v6 (F.length + 1) (flat shC (insS F (m + 1) ⟨y, sl, sr⟩)) → W.grownBy w6 (some g) →
      (w6.heap[lp]? = some (.cells #[.slice (some ⟨g, 0, none⟩) F.length cap] 164 (0, 0)) ∧ ListIs (w6.setCell ⟨lp, 0, none⟩ v6) base lp (insS F (m + 1) ⟨y, sl, sr⟩) ∧ ShTouch w (w6.setCell ⟨lp, 0, none⟩ v6) base lp) := fun W w6 v6 hW ho hgr => by
    have hWs := hW.size
    have h6 := (hgr.block lp (by omega) (by intro e; injection e with e; exact hgne e)).trans ((hW.block lp hlp2).trans Q1'.out)
    refine ⟨h6, ListIs.stored h6 q2 (by rw [insS_len F _ _ (by omega)]; exact ho), ?_⟩
    have t1 : ShTouch w w1 base lp := ShTouch.of_below HB1.out
    have t2 : ShTouch w1 W2 base lp := ShTouch.of_below hB2
    have t3 : ShTouch W2 W base lp := ShTouch.of_below hW
    have t4 : ShTouch W w6 base lp := ShTouch.of_row hgr ((hW.block g hg2).trans HROW'.out) hg
    exact (((t1.trans t2).trans t3).trans t4).trans (ShTouch.set_lp v6 q2)
  have HINS := Lib.hid hins
  have HPOST := Lib.hid hpost
  have hw1 : IntKind.i64.wrap ((m : Int) + 1) = (m : Int) + 1 := by rw [IntKind.wrap_i64]; omega
  have hblt : b < W2.heap.size := by omega
  clear hins hpost hW2 hB2 hnew c0 f0 c1 c2 c3 hbb Q1 Q3 HROW hne em HSL HSR hs2
  go_region_law (first
    | (refine step_call_post (P := Try.prog) rfl 115 #[.slice (some ⟨g, 0, none⟩) F.length cap, .int .i64 ((m : Int) + 1), .slice (some ⟨W2.heap.size, 0, none⟩) 1 1] (by first | rfl | go_simp) _ (HINS.out _ (by (repeat (first | exact Below.refl _ _ | (refine Below.alloc ?_ (by first | omega | (simp; done) | (simp; omega)) _) | (refine Below.on (by assumption) ?_ (by first | omega | (simp; done) | (simp; omega))) | (refine Below.grown ?_ (by assumption) (by first | omega | (simp; done) | (simp; omega)) (by intro k hk; cases hk)) | refine Below.drew ?_))) (by exact heap_alloc_new _ _)) ?_; rintro e w6 ⟨v6, rfl, ho6, hg6, _⟩; obtain ⟨g6, cap6, rfl, hc6, hgb6, hgl6⟩ := own_form ho6 (by omega) rfl; obtain ⟨h6, hl6, ht6⟩ := HPOST.out _ _ _ (by (repeat (first | exact Below.refl _ _ | (refine Below.alloc ?_ (by first | omega | (simp; done) | (simp; omega)) _) | (refine Below.on (by assumption) ?_ (by first | omega | (simp; done) | (simp; omega))) | (refine Below.grown ?_ (by assumption) (by first | omega | (simp; done) | (simp; omega)) (by intro k hk; cases hk)) | refine Below.drew ?_))) ho6 hg6; refine ⟨_, rfl, ?_⟩; have c6 : w6.cell? ⟨lp, 0, none⟩ = some (.slice (some ⟨g, 0, none⟩) F.length cap) := (by rw [cell_of_row w6 lp 0 _ _ (0, 0) h6]; rfl); have f6 := frozen_of_row w6 lp 0 _ _ h6; have HL6 := Lib.hid hl6; have HT6 := Lib.hid ht6; clear ho6 hg6 h6 hl6 ht6))
  all_goals
    clear hw1
    go_wp2_with fail
    go_ret
    exact ⟨retI (by rw [HM.out]; omega), by rw [HCUT.out]; exact HL6.out, HT6.out⟩
theorem cut_any (F : List Sh) (y : Int) (base lp : Nat) (w : World) (h : ListIs w base lp F) (hs : Asc F) (hL : F.length ≤ 100000000) (h0 : 0 < F.length) (hy : F[0].t < y) (hbase : base ≤ w.heap.size) :
    Calls Try.prog 93 #[.pointer (some ⟨lp, 0, none⟩), .int .i64 y] w (CutPost F y base lp w) := by
  cases hf : foundB F y with
  | true => exact cut_found F y base lp w h hs hL h0 hf
  | false => exact cut_new F y base lp w h hs hL h0 hf hy hbase
end Go.Proofs.Ytecojcdmigmnhaa
