/- The contract of slices.CompactFunc at shelves. -/
import Derived.Test.YtecojcdmigmnhaaCu
namespace Go.Proofs.Ytecojcdmigmnhaa
set_option linter.unusedSimpArgs false
set_option linter.unusedVariables false
open Go.RowKit
def sameB (a b : Sh) : Bool := decide (a.l = b.l ∧ a.r = b.r)
/-- Shelves, but those with the bounds of the one ahead. -/
def compL : List Sh → List Sh
  | [] => []
  | s :: F => s :: compS (s.l, s.r) F
theorem compS_snoc : ∀ (S : List Sh) (d : Int × Int) (x : Sh), compS d (S ++ [x]) = if (x.l, x.r) = (match S.getLast? with | none => d | some s => (s.l, s.r)) then compS d S else compS d S ++ [x]
  | [], d, x => by
    by_cases c : (x.l, x.r) = d <;> simp only [List.nil_append, compS, List.getLast?_nil, c, if_true, if_false]
  | s :: S, d, x => by
    simp only [List.cons_append, compS]
    have hl : (match (s :: S).getLast? with | none => d | some s => (s.l, s.r)) = (match S.getLast? with | none => (s.l, s.r) | some s => (s.l, s.r)) := by
      cases S with
      | nil => rfl
      | cons t S => rw [List.getLast?_cons_cons, List.getLast?_cons]
    rw [hl]
    by_cases e : (s.l, s.r) = d
    · rw [if_pos e, if_pos e, compS_snoc S d x, ← e]
    · rw [if_neg e, if_neg e, compS_snoc S (s.l, s.r) x]
      generalize (match S.getLast? with | none => (s.l, s.r) | some s => (s.l, s.r)) = q
      by_cases c : (x.l, x.r) = q
      · rw [if_pos c, if_pos c]
      · rw [if_neg c, if_neg c]; rfl
theorem compL_take (F : List Sh) (a : Nat) (h1 : 1 ≤ a) (ha : a < F.length) : compL (F.take (a + 1)) = if sameB (shAt F a) (shAt F (a - 1)) = true then compL (F.take a) else compL (F.take a) ++ [shAt F a] := by
  cases F with
  | nil => simp at ha
  | cons s F =>
    obtain ⟨m, rfl⟩ : ∃ m, a = m + 1 := ⟨a - 1, by omega⟩
    have hm : m < F.length := by simpa using ha
    have e1 : shAt (s :: F) (m + 1) = F[m] := by
      have : shAt (s :: F) (m + 1) = shAt F m := rfl
      rw [this, shAt_eq F m hm]
    have e2 : (s :: F).take (m + 1 + 1) = s :: (F.take m ++ [F[m]]) := by rw [List.take_succ_cons, List.take_succ_eq_append_getElem hm]
    rw [e2, e1, List.take_succ_cons]
    simp only [compL]
    rw [compS_snoc, Nat.add_sub_cancel]
    have e3 : (match (F.take m).getLast? with | none => (s.l, s.r) | some s => (s.l, s.r)) = ((shAt (s :: F) m).l, (shAt (s :: F) m).r) := by
      cases m with
      | zero => rfl
      | succ m =>
        have : (F.take (m + 1)).getLast? = some F[m] := by
          rw [List.take_succ_eq_append_getElem (by omega), List.getLast?_concat]
        rw [this]
        have e4 : shAt (s :: F) (m + 1) = shAt F m := rfl
        rw [e4, shAt_eq F m (by omega)]
    rw [e3]
    unfold sameB
    by_cases c : F[m].l = (shAt (s :: F) m).l ∧ F[m].r = (shAt (s :: F) m).r
    · rw [if_pos (by rw [c.1, c.2]), if_pos (by simpa using c)]
    · rw [if_neg (fun e => c ⟨congrArg Prod.fst e, congrArg Prod.snd e⟩), if_neg (by simpa using c)]
      rfl
theorem compL_full (S : List Sh) : compL (full S) = full (compS (-far, far) S) := rfl
theorem compL_one (F : List Sh) (h : F.length < 2) : compL F = F := by
  match F, h with
  | [], _ => rfl
  | [s], _ => rfl
theorem compL_le (F : List Sh) : (compL F).length ≤ F.length := by
  cases F with
  | nil => exact Nat.le_refl _
  | cons s F => have := compS_length F (s.l, s.r); simp only [compL, List.length_cons]; omega
section
variable {P : Program}
theorem run_clear_rows (w : World) (t e ty : TypeId) (i : TypeInfo) (z : Value) (size : Nat) (ht : P.underlying t = some (.slice e)) (hi : P.info? e = some i) (hz : i.zero = some z) (hzs : z.cells.size = size) (h1 : ∀ j, (z.cells[j % z.cells.size]!).oneCell' = true) (b o n c : Nat) (hn : 0 < n) (hth : w.there b o (n * size)) :
    (Builtin.clear_ #[t] ty #[.slice (some ⟨b, o, none⟩) n c]).run P w = .ok (.tuple #[]) (w.setCells b o (Builtin.zeroCells z.cells n).toList) := by
  have hl : (Builtin.zeroCells z.cells n).toList.length = n * size := by rw [Array.length_toList, size_zeroCells, hzs]
  have hone : ∀ v ∈ (Builtin.zeroCells z.cells n).toList, v.oneCell' = true := by
    intro v hv
    simp only [Builtin.zeroCells, Array.toList_map, List.mem_map] at hv
    obtain ⟨k, _, rfl⟩ := hv
    exact h1 k
  have hst := run_storeCells_cells (P := P) b o (Builtin.zeroCells z.cells n).toList 0 w (fun j hj => by rw [Nat.add_zero]; exact (hth j (by rw [← hl]; exact hj)).1) (fun j hj => by rw [Nat.add_zero]; exact (hth j (by rw [← hl]; exact hj)).2) hone
  rw [Nat.add_zero] at hst
  cases n with
  | zero => omega
  | succ n => simp [Builtin.clear_, run_underlying ht, zeroValue, typeInfo, hi, hz, hst]
theorem clear_rows {ops : Array Oper} {rest : List Oper} {a : Act} {w : World} {Q : Exit → Act → World → Prop} {dst : Option Tmp} {ty0 : TypeId} {pos : String} {after : Array Edge} (d : Operand) (t : TypeId)
    (v : Value) (hd : a.eval d = v) {v' : Value} {w' : World} (hr : (Builtin.clear_ #[t] ty0 #[v]).run P w = .ok v' w') (h : wpList P ops Q rest (a.put dst v') w') :
    wpList P ops Q (⟨dst, .call { callee := .builtin .clear, args := #[d], argTypes := #[t] }, ty0, pos, after, none⟩ :: rest) a w :=
  wpList_plain rfl fun K hK => by
    unfold Oper.wp execOp
    simp only [resolve, invoke, builtin, Sem.run_bind, Sem.run_pure, Result.andThen_ok, List.map_toArray, List.map_cons, List.map_nil, hd, hr]
    exact hK _ _ h
end
theorem eqc_any (x y : Sh) (w : World) : Calls Try.prog 95 #[.agg #[.int .i64 x.t, .int .i64 x.l, .int .i64 x.r], .agg #[.int .i64 y.t, .int .i64 y.l, .int .i64 y.r]] w fun e w' => e = .returned (.bool (sameB x y)) ∧ Below w.heap.size w w' := by
  have hd : ((x.l == y.l) = false ∧ sameB x y = false) ∨ ((x.l == y.l) = true ∧ (x.r == y.r) = false ∧ sameB x y = false) ∨ ((x.l == y.l) = true ∧ (x.r == y.r) = true ∧ sameB x y = true) := by
    unfold sameB
    by_cases h1 : x.l = y.l
    · by_cases h2 : x.r = y.r
      · right; right; simp [h1, h2]
      · right; left; simp [h1, h2]
    · left; simp [h1]
  rcases hd with ⟨h1, h2⟩ | ⟨h1, h3, h2⟩ | ⟨h1, h3, h2⟩
  all_goals
    rw [h2]
    clear h2
    go_enter Try.func95, Try.ntmps95
    go_wp2_with fail
    go_ret
    exact ⟨rfl, by (repeat (first | exact Below.refl _ _ | (refine Below.alloc ?_ (by first | omega | (simp; done) | (simp; omega)) _) | (refine Below.on (by assumption) ?_ (by first | omega | (simp; done) | (simp; omega))) | (refine Below.grown ?_ (by assumption) (by first | omega | (simp; done) | (simp; omega)) (by intro k hk; cases hk)) | refine Below.drew ?_))⟩
theorem Below.drewL {n : Nat} {w w' : World} (h : Below n w.drew w') : Below n w w' := ⟨h.os, h.tape, h.output, h.size, h.block⟩
theorem grown_of_below {w w' : World} (h : Below w.heap.size w w') (row : Option Nat) : w.grownBy w' row := ⟨h.os, h.tape, h.output, h.size, fun k hk _ => h.block k hk⟩
/-- What CompactFunc leaves. -/
def CompPost (F : List Sh) (base g cap : Nat) (w : World) (e : Ending) (w' : World) : Prop :=
  e = .returned (.slice (some ⟨g, 0, none⟩) (compL F).length cap) ∧ w'.ownsRow base 162 3 (.slice (some ⟨g, 0, none⟩) (compL F).length cap) (compL F).length (flat shC (compL F)) ∧ w.grownBy w' (some g)
/-- The row while it is made compact. -/
def CInv (F M : List Sh) (k a : Nat) : Prop := M.length = F.length ∧ M.take k = compL (F.take a) ∧ ∀ p, a - 1 ≤ p → p < F.length → shAt M p = shAt F p
theorem CInv.start (F : List Sh) (k : Nat) (h1 : 1 ≤ k) (hk : k < F.length) (hc : compL (F.take k) = F.take k) (hs : sameB (shAt F k) (shAt F (k - 1)) = true) : CInv F F k (k + 1) := by
  refine ⟨rfl, ?_, fun _ _ _ => rfl⟩
  rw [compL_take F k h1 hk, if_pos hs, hc]
theorem CInv.keep {F M : List Sh} {k a : Nat} (h : CInv F M k a) (h1 : 1 ≤ a) (ha : a < F.length) (hs : sameB (shAt F a) (shAt F (a - 1)) = true) : CInv F M k (a + 1) := by
  obtain ⟨q1, q2, q3⟩ := h
  refine ⟨q1, ?_, fun p hp hl => q3 p (by omega) hl⟩
  rw [compL_take F a h1 ha, if_pos hs, q2]
theorem CInv.move {F M : List Sh} {k a : Nat} (h : CInv F M k a) (h1 : 1 ≤ a) (hk : k ≤ a - 1) (ha : a < F.length) (hs : sameB (shAt F a) (shAt F (a - 1)) = false) : CInv F (M.set k (shAt F a)) (k + 1) (a + 1) := by
  obtain ⟨q1, q2, q3⟩ := h
  refine ⟨by rw [List.length_set]; exact q1, ?_, fun p hp hl => ?_⟩
  · rw [compL_take F a h1 ha, hs, if_neg (by simp), ← q2]
    rw [List.take_succ_eq_append_getElem (by rw [List.length_set]; omega), List.getElem_set_self, List.take_set_of_le (Nat.le_refl _)]
  · rw [← q3 p (by omega) hl]
    unfold shAt
    simp only [List.getD_eq_getElem?_getD]
    rw [List.getElem?_set_ne (by omega)]
theorem own_set_sh {w : World} {base g cap n : Nat} {e : TypeId} {M : List Sh} (h : w.ownsRow base e 3 (.slice (some ⟨g, 0, none⟩) n cap) n (flat shC M)) (hn : M.length = n) (k : Nat) (hk : k < n) (b : Sh) :
    w.there g (k * 3) 3 ∧ (w.setCells g (k * 3) (shC b)).ownsRow base e 3 (.slice (some ⟨g, 0, none⟩) n cap) n (flat shC (M.set k b)) ∧ w.grownBy (w.setCells g (k * 3) (shC b)) (some g) := by
  obtain ⟨C, hC, _, hnc, _, hblk⟩ := own_full h
  have hl : (flat shC M).length = n * 3 := h.1
  obtain ⟨h1, g1⟩ := own_storedN (shC b) (k * 3) w _ h (by rw [hl, shC_len]; omega)
  refine ⟨full_there hblk _ (by rw [hC]; omega), ?_, g1⟩
  have e1 : (flat shC M).take (k * 3) = flat shC (M.take k) := flat_take M k
  have e2 : (flat shC M).drop (k * 3 + (shC b).length) = flat shC (M.drop (k + 1)) := by
    rw [shC_len, show k * 3 + 3 = (k + 1) * 3 by omega, flat_drop M (k + 1) (by omega)]
  have e4 : flat shC (M.set k b) = flat shC (M.take k) ++ shC b ++ flat shC (M.drop (k + 1)) := by
    rw [List.set_eq_take_append_cons_drop, if_pos (by omega), flat_app, flat_cons', List.append_assoc]
  rw [e1, e2, ← e4] at h1
  exact h1
theorem zero_one3 : ∀ j : Nat, (((Value.agg #[Value.int IntKind.i64 0, Value.int IntKind.i64 0, Value.int IntKind.i64 0]).cells)[j % ((Value.agg #[Value.int IntKind.i64 0, Value.int IntKind.i64 0, Value.int IntKind.i64 0]).cells).size]!).oneCell' = true := by
  intro j
  have : j % 3 = 0 ∨ j % 3 = 1 ∨ j % 3 = 2 := by omega
  show ((#[Value.int IntKind.i64 0, Value.int IntKind.i64 0, Value.int IntKind.i64 0] : Array Value)[j % 3]!).oneCell' = true
  rcases this with e | e | e <;> (rw [e]; rfl)
set_option maxRecDepth 20000 in
set_option maxHeartbeats 4000000 in
theorem compact_any (F : List Sh) (base g cap : Nat) (w : World) (h : w.ownsRow base 162 3 (.slice (some ⟨g, 0, none⟩) F.length cap) F.length (flat shC F)) (hL : F.length ≤ 100000000) :
    Calls Try.prog 94 #[.slice (some ⟨g, 0, none⟩) F.length cap, .func (.func 95) #[] #[]] w (CompPost F base g cap w) := by
  by_cases h2 : F.length < 2
  · have hc := compL_one F h2
    have HC := Lib.hid hc
    have H := Lib.hid h
    have hd : decide ((F.length : Int) < 2) = true := decide_eq_true (by omega)
    clear hc h
    go_enter Try.func94, Try.ntmps94
    go_wp2_with fail
    go_ret
    exact ⟨by rw [HC.out]; rfl, by rw [HC.out]; exact H.out, grown_of_below (Below.refl _ _) _⟩
  have hd : decide ((F.length : Int) < 2) = false := decide_eq_false (by omega)
  obtain ⟨C, _, _, hnc, _, hrow⟩ := own_full h
  have hglt : g < w.heap.size := (Array.getElem?_eq_some_iff.1 hrow).1
  have hS := shs_of_own h
  have HS := Lib.hid hS
  have H := Lib.hid h
  have hcap : cap ≤ 9223372036854775807 := by
    rcases h.2 with ⟨h', _⟩ | ⟨g', cap', cur, h', _, _, _, hcm, _⟩
    · simp at h'
    · simp only [Value.slice.injEq] at h'
      unfold maxLen at hcm
      omega
  have hone : compL (F.take 1) = F.take 1 := compL_one _ (by rw [List.length_take]; omega)
  have HONE := Lib.hid hone
  have h2' : 2 ≤ F.length := by omega
  clear hone h hS hrow h2
  go_enter Try.func94, Try.ntmps94
  go_wp2_with fail
  go_loopw [5] (fun x wr => ∃ k : Nat, 1 ≤ k ∧ k ≤ F.length ∧ x = .int .i64 k ∧ Hid (compL (F.take k) = F.take k) ∧ Hid (Below w.heap.size w wr)) (fun x _ => F.length - (intOf x).toNat)
  case atStart => exact ⟨1, by omega, by omega, rfl, HONE, Below.refl _ _⟩
  case round =>
    obtain ⟨k, hk1, hk, rfl, hK, hW⟩ := hrel
    by_cases hlt : k < F.length
    · obtain ⟨j, rfl⟩ : ∃ j, k = j + 1 := ⟨k - 1, by omega⟩
      obtain ⟨c0, c1, c2⟩ := (HS.out.below hW.out hglt).cells hlt
      obtain ⟨d0, d1, d2⟩ := (HS.out.below hW.out hglt).cells (show j < F.length by omega)
      simp only [Nat.zero_add] at c0 c1 c2 d0 d1 d2
      have hjF : j ≤ F.length := by omega
      cases hs : sameB (shAt F (j + 1)) (shAt F j) with
      | false =>
        have HSF := Lib.hid hs
        have heq := fun W => eqc_any (shAt F (j + 1)) (shAt F j) W
        rw [hs] at heq
        have HEQ := Lib.hid heq
        clear hs heq
        have b1 : (0 : Int) ≤ (j : Int) + 1 := by omega
        have b2 : ((j : Int) + 1).toNat = j + 1 := by omega
        have b3 : (j : Int) + 1 < (F.length : Int) := by omega
        have b4 : (j : Int) < (F.length : Int) := by omega
        have hw1 : IntKind.i64.wrap ((j : Int) + 1 - 1) = (j : Int) := by rw [IntKind.wrap_i64]; omega
        have hw2 : IntKind.i64.wrap (j : Int) = (j : Int) := by rw [IntKind.wrap_i64]; omega
        go_wp2_with fail
        go_still_tail 10, (by kernel_rfl)
        clear hw1 hw2 b1 b2
        go_wp2_with fail
        refine (HEQ.out _).mono ?_
        rintro e w5 ⟨rfl, hb5⟩
        have HB5 := Lib.hid (Below.onto hb5 hW.out.drew)
        clear hb5
        go_wp2_with fail
        have hk2 : compL (F.take (j + 1 + 1)) = F.take (j + 1 + 1) := by
          rw [compL_take F (j + 1) (by omega) hlt, Nat.add_sub_cancel, HSF.out, if_neg (by simp), hK.out, List.take_succ_eq_append_getElem hlt, shAt_eq F _ hlt]
        have HK2 := Lib.hid hk2
        clear hk2
        go_roundw
        case rel => exact ⟨j + 2, by omega, by omega, by go_num, HK2, HB5⟩
        case measure => simp [intOf]; omega
      | true =>
        have HST := Lib.hid hs
        have heq := fun W => eqc_any (shAt F (j + 1)) (shAt F j) W
        rw [hs] at heq
        have HEQ := Lib.hid heq
        clear hs heq
        have b1 : (0 : Int) ≤ (j : Int) + 1 := by omega
        have b2 : ((j : Int) + 1).toNat = j + 1 := by omega
        have b3 : (j : Int) + 1 < (F.length : Int) := by omega
        have b4 : (j : Int) < (F.length : Int) := by omega
        have hw1 : IntKind.i64.wrap ((j : Int) + 1 - 1) = (j : Int) := by rw [IntKind.wrap_i64]; omega
        have hw2 : IntKind.i64.wrap (j : Int) = (j : Int) := by rw [IntKind.wrap_i64]; omega
        go_wp2_with fail
        go_still_tail 10, (by kernel_rfl)
        clear hw1 hw2 b1 b2
        go_wp2_with fail
        refine (HEQ.out _).mono ?_
        rintro e w5 ⟨rfl, hb5⟩
        have hb5' := Below.onto hb5 hW.out.drew
        have HO5 := Lib.hid (own_below H.out hb5')
        have HG5 := Lib.hid (grown_of_below hb5' (some g))
        have hst := CInv.start F (j + 1) (by omega) hlt hK.out (by rw [Nat.add_sub_cancel]; exact HST.out)
        have HCI := Lib.hid hst
        clear hb5 hb5' c0 c1 c2 d0 d1 d2 hst
        have hcj : ¬ cap = j + 1 := by omega
        have hfj : j + 1 ≤ F.length := by omega
        obtain ⟨r, hr⟩ : ∃ r, F.length - (j + 1) = r := ⟨_, rfl⟩
        have hr1 : j + 1 + r ≤ F.length := by omega
        have hr2 : F.length ≤ j + 1 + r := by omega
        go_wp2_with fail
        clear hr
        go_loopw [5, 7] (fun x z wr => ∃ (k i : Nat) (M : List Sh), 1 ≤ k ∧ k ≤ j + 1 + i ∧ i + 1 ≤ r ∧ x = .int .i64 k ∧ z = .int .i64 ((i : Int) + 1) ∧ Hid (CInv F M k (j + 1 + (i + 1))) ∧ Hid (wr.ownsRow base 162 3 (.slice (some ⟨g, 0, none⟩) F.length cap) F.length (flat shC M)) ∧ Hid (w.grownBy wr (some g))) (fun _ z _ => F.length - (intOf z).toNat)
        case atStart => exact ⟨j + 1, 0, F, by omega, by omega, by omega, by go_num, rfl, HCI, HO5, HG5⟩
        case round =>
          obtain ⟨k, i, M, hk1, hki, hkn, rfl, rfl, hCI, hO, hG⟩ := hrel
          by_cases hlt2 : i + 1 < r
          · have hO' := hO.out
            have hcm := hCI.out.1
            rw [← hcm] at hO'
            have hSM := shs_of_own hO'
            have ea := hCI.out.2.2 (j + 1 + (i + 1)) (by omega) (by omega)
            have eb := hCI.out.2.2 (j + 1 + i) (by omega) (by omega)
            obtain ⟨c0, c1, c2⟩ := hSM.cells (show j + 1 + (i + 1) < M.length by omega)
            obtain ⟨d0, d1, d2⟩ := hSM.cells (show j + 1 + i < M.length by omega)
            rw [ea, show 0 + (j + 1 + (i + 1)) * 3 = (j + 1) * 3 + (i + 1) * 3 by omega] at c0 c1 c2
            rw [eb, show 0 + (j + 1 + i) * 3 = (j + 1) * 3 + i * 3 by omega] at d0 d1 d2
            have heq2 := fun W => eqc_any (shAt F (j + 1 + (i + 1))) (shAt F (j + 1 + i)) W
            clear hO' hSM ea eb
            cases hs2 : sameB (shAt F (j + 1 + (i + 1))) (shAt F (j + 1 + i)) with
            | true =>
              have HS2 := Lib.hid hs2
              rw [hs2] at heq2
              have HEQ2 := Lib.hid heq2
              clear hs2 heq2 hcm
              have b1 : (0 : Int) ≤ (i : Int) + 1 := by omega
              have b2 : ((i : Int) + 1).toNat = i + 1 := by omega
              have b3 : (i : Int) + 1 < (r : Int) := by omega
              have b4 : (i : Int) < (r : Int) := by omega
              have b5 : (k : Int) < (F.length : Int) := by omega
              have hw1 : IntKind.i64.wrap ((i : Int) + 1 - 1) = (i : Int) := by rw [IntKind.wrap_i64]; omega
              have hw2 : IntKind.i64.wrap (i : Int) = (i : Int) := by rw [IntKind.wrap_i64]; omega
              go_wp2_with fail
              go_still_tail 10, (by kernel_rfl)
              clear hw1 hw2 b1 b2
              go_wp2_with fail
              refine (HEQ2.out _).mono ?_
              rintro e w6 ⟨rfl, hb6⟩
              have hO6 := own_below hO.out.drew hb6
              have HO6 := Lib.hid hO6
              have HG6 := Lib.hid (grown_trans hG.out (grown_of_below (Below.drewL hb6) (some g)))
              have hci := hCI.out.keep (by omega) (by omega) (by rw [show j + 1 + (i + 1) - 1 = j + 1 + i by omega]; exact HS2.out)
              have HCI6 := Lib.hid hci
              clear hb6 hO6 hci c0 c1 c2 d0 d1 d2
              go_wp2_with fail
              go_roundw
              case rel => exact ⟨k, i + 1, M, by omega, by omega, by omega, rfl, by go_num, HCI6, HO6, HG6⟩
              case measure => simp [intOf]; omega
            | false =>
              have HS2 := Lib.hid hs2
              rw [hs2] at heq2
              have HEQ2 := Lib.hid heq2
              clear hs2 heq2
              have b1 : (0 : Int) ≤ (i : Int) + 1 := by omega
              have b2 : ((i : Int) + 1).toNat = i + 1 := by omega
              have b3 : (i : Int) + 1 < (r : Int) := by omega
              have b4 : (i : Int) < (r : Int) := by omega
              have b5 : (k : Int) < (F.length : Int) := by omega
              have hw1 : IntKind.i64.wrap ((i : Int) + 1 - 1) = (i : Int) := by rw [IntKind.wrap_i64]; omega
              have hw2 : IntKind.i64.wrap (i : Int) = (i : Int) := by rw [IntKind.wrap_i64]; omega
              go_wp2_with fail
              go_still_tail 10, (by kernel_rfl)
              clear hw1 hw2 b1 b2
              go_wp2_with fail
              refine (HEQ2.out _).mono ?_
              rintro e w6 ⟨rfl, hb6⟩
              have hO6 := own_below hO.out.drew hb6
              obtain ⟨th6, ho7, hg7⟩ := own_set_sh hO6 hcm k (by omega) (shAt F (j + 1 + (i + 1)))
              have hG6 := grown_trans hG.out (grown_of_below (Below.drewL hb6) (some g))
              have hci := hCI.out.move (by omega) (by omega) (by omega) (by rw [show j + 1 + (i + 1) - 1 = j + 1 + i by omega]; exact HS2.out)
              have TH6 := Lib.hid th6
              have HO7 := Lib.hid ho7
              have HG7 := Lib.hid (grown_trans hG6 hg7)
              have HCI7 := Lib.hid hci
              have hglw : g < w6.heap.size := Nat.lt_of_lt_of_le hglt hG6.size
              have hgld : g < wr.drew.heap.size := Nat.lt_of_lt_of_le hglt hG.out.size
              have e0 := (hb6.cell (p := ⟨g, (j + 1) * 3 + (i + 1) * 3, none⟩) hgld).trans c0
              have e1 := (hb6.cell (p := ⟨g, (j + 1) * 3 + (i + 1) * 3 + 1, none⟩) hgld).trans c1
              have e2 := (hb6.cell (p := ⟨g, (j + 1) * 3 + (i + 1) * 3 + 2, none⟩) hgld).trans c2
              clear hb6 hO6 hci c0 c1 c2 d0 d1 d2 th6 ho7 hg7 hG6 hcm
              go_wp2_with ((with_reducible refine store_mid 162 (.tmp 56) (.tmp 55) g (k * 3) (shC (shAt F (j + 1 + (i + 1)))) ?_ ?_ ?_ ?_ ?_ ?_); rfl; rfl; exact TH6.out; exact shInfo; exact shC_one _)
              go_roundw
              case rel => exact ⟨k + 1, i + 1, _, by omega, by omega, by omega, by go_num, by go_num, HCI7, HO7, HG7⟩
              case measure => simp [intOf]; omega
          · have hkl : k < F.length := by omega
            have ha : j + 1 + (i + 1) = F.length := by omega
            have hci := hCI.out
            rw [ha] at hci
            obtain ⟨q1, q2, _⟩ := hci
            rw [List.take_length] at q2
            have hcl : (compL F).length = k := by rw [← q2, List.length_take]; omega
            obtain ⟨C2, hC2, _, hnc2, _, hblk2⟩ := own_full hO.out
            have hth : wr.there g (k * 3) ((F.length - k) * 3) := full_there hblk2 _ (by rw [hC2]; omega)
            obtain ⟨i0, hi0, hz0, hz1, hz2⟩ := info_parts shInfo3
            have hclr : ∀ ty, (Builtin.clear_ #[161] ty #[.slice (some ⟨g, k * 3, none⟩) (F.length - k) (cap - k)]).run Try.prog wr = _ := fun ty =>
              run_clear_rows (P := Try.prog) wr 161 162 ty i0 _ 3 Try.underlying161 hi0 hz0 rfl zero_one3 g (k * 3) (F.length - k) (cap - k) (by omega) hth
            have hzl : ((Builtin.zeroCells (Value.agg #[Value.int IntKind.i64 0, Value.int IntKind.i64 0, Value.int IntKind.i64 0]).cells (F.length - k)).toList).length = (F.length - k) * 3 := by rw [Array.length_toList, size_zeroCells]; rfl
            have hlM : (flat shC M).length = F.length * 3 := hO.out.1
            obtain ⟨Z, hZ⟩ : ∃ Z, (Builtin.zeroCells (Value.agg #[Value.int IntKind.i64 0, Value.int IntKind.i64 0, Value.int IntKind.i64 0]).cells (F.length - k)).toList = Z := ⟨_, rfl⟩
            rw [hZ] at hclr hzl
            obtain ⟨ho8, hg8⟩ := own_storedN Z (k * 3) wr (flat shC M) hO.out (by rw [hlM, hzl]; omega)
            clear hZ
            have ho9 := own_prefix ho8 k (by omega)
            rw [List.append_assoc, List.take_append_of_le_length (by rw [List.length_take, hlM]; omega), List.take_take, Nat.min_self, flat_take, q2] at ho9
            have HCLR := Lib.hid hclr
            have HO9 := Lib.hid ho9
            have HG9 := Lib.hid (grown_trans hG.out hg8)
            have HCL := Lib.hid hcl
            have hck : ¬ cap = k := by omega
            clear hclr ho9 hg8 hlM hzl hi0 hz0 hz1 hz2 hth hblk2 hC2 q1 q2 ho8 ha hcl
            go_wp2_with ((with_reducible refine clear_rows (.tmp 61) 161 (.slice (some ⟨g, k * 3, none⟩) (F.length - k) (cap - k)) ?_ (HCLR.out _) ?_); rfl)
            go_ret
            exact ⟨by rw [HCL.out]; rfl, by rw [HCL.out]; exact HO9.out, HG9.out⟩
    · have hkF : k = F.length := by omega
      have hkk := hK.out
      rw [hkF, List.take_length] at hkk
      have HKK := Lib.hid hkk
      clear hkk hkF
      go_wp2_with fail
      go_ret
      exact ⟨by rw [HKK.out]; rfl, by rw [HKK.out]; exact own_below H.out hW.out, grown_of_below hW.out _⟩
end Go.Proofs.Ytecojcdmigmnhaa
