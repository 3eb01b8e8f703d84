/- A tree in memory, and the contracts of what reads it. -/
import Derived.Test.YtpjngnkcjccbcaaIn
import Derived.Test.YtpjngnkcjccbcaaLs
namespace Go.Proofs.Ytpjngnkcjccbcaa
set_option linter.unusedSimpArgs false
set_option linter.unusedVariables false
open Go.RowKit
/-- A box of a tree, and where it stands. -/
structure Nd where
  (b : Bx)
  (par en ctx : Int)
  (ch : List Int)
def nd0 : Nd := ⟨bx0, -1, -1, -1, []⟩
def nat_ (N : List Nd) (i : Nat) : Nd := N.getD i nd0
def NodeAt (w : World) (g i : Nat) (n : Nd) (cv : Value) : Prop :=
  (w.cell? ⟨g, i * 18, none⟩ = some (.int .i64 n.b.d) ∧ w.cell? ⟨g, i * 18 + 1, none⟩ = some (.int .i64 n.b.k) ∧ w.cell? ⟨g, i * 18 + 2, none⟩ = some (.int .i64 n.b.s) ∧ w.cell? ⟨g, i * 18 + 3, none⟩ = some (.int .i64 n.b.c) ∧ w.cell? ⟨g, i * 18 + 4, none⟩ = some (.int .i64 n.b.w) ∧ w.cell? ⟨g, i * 18 + 5, none⟩ = some (.int .i64 n.b.h)) ∧
  (w.cell? ⟨g, i * 18 + 6, none⟩ = some (.int .i64 n.b.m0) ∧ w.cell? ⟨g, i * 18 + 7, none⟩ = some (.int .i64 n.b.m1) ∧ w.cell? ⟨g, i * 18 + 8, none⟩ = some (.int .i64 n.b.m2) ∧ w.cell? ⟨g, i * 18 + 9, none⟩ = some (.int .i64 n.b.m3)) ∧
  (w.cell? ⟨g, i * 18 + 10, none⟩ = some (.int .i64 n.b.e0) ∧ w.cell? ⟨g, i * 18 + 11, none⟩ = some (.int .i64 n.b.e1) ∧ w.cell? ⟨g, i * 18 + 12, none⟩ = some (.int .i64 n.b.e2) ∧ w.cell? ⟨g, i * 18 + 13, none⟩ = some (.int .i64 n.b.e3)) ∧
  (w.cell? ⟨g, i * 18 + 14, none⟩ = some (.int .i64 n.par) ∧ w.cell? ⟨g, i * 18 + 15, none⟩ = some (.int .i64 n.en) ∧ w.cell? ⟨g, i * 18 + 16, none⟩ = some (.int .i64 n.ctx) ∧ w.cell? ⟨g, i * 18 + 17, none⟩ = some (cv))
/-- A tree lies behind a pointer. -/
def TreeIs (w : World) (bt : Nat) (N : List Nd) : Prop := ∃ (g cap : Nat) (cv : Nat → Value), N.length ≤ cap ∧ N.length ≤ 1000000000000 ∧ g < w.heap.size ∧ bt < w.heap.size ∧ w.cell? ⟨bt, 0, none⟩ = some (.slice (some ⟨g, 0, none⟩) N.length cap) ∧
  ∀ i, i < N.length → NodeAt w g i (nat_ N i) (cv i) ∧ IsInts w (cv i) (nat_ N i).ch ∧ (nat_ N i).ch.length ≤ 1000000000000
theorem NodeAt.keep {w w' : World} {g i : Nat} {n : Nd} {cv : Value} (h : NodeAt w g i n cv) (hk : ∀ o, w'.cell? ⟨g, o, none⟩ = w.cell? ⟨g, o, none⟩) : NodeAt w' g i n cv := by
  unfold NodeAt
  simp only [hk]
  exact h
theorem TreeIs.below {w w' : World} {bt n : Nat} {N : List Nd} (h : TreeIs w bt N) (hb : Below n w w') (hn : w.heap.size ≤ n) : TreeIs w' bt N := by
  obtain ⟨g, cap, cv, h1, h2, h3, h4, h5, h6⟩ := h
  have hs := hb.size
  refine ⟨g, cap, cv, h1, h2, by omega, by omega, (hb.cell (p := ⟨bt, 0, none⟩) (by show bt < n; omega)).trans h5, fun i hi => ?_⟩
  obtain ⟨k1, k2, k3⟩ := h6 i hi
  exact ⟨k1.keep fun o => hb.cell (p := ⟨g, o, none⟩) (by show g < n; omega), k2.below hb hn, k3⟩
theorem TreeIs.lt {w : World} {bt : Nat} {N : List Nd} (h : TreeIs w bt N) : bt < w.heap.size := by
  obtain ⟨g, cap, cv, h1, h2, h3, h4, h5, h6⟩ := h
  exact h4
theorem len_any (bt : Nat) (N : List Nd) (w : World) (h : TreeIs w bt N) : Calls Try.prog 34 #[.pointer (some ⟨bt, 0, none⟩)] w fun e w' => e = .returned (.int .i64 N.length) ∧ w = w' := by
  obtain ⟨g, cap, cv, h1, h2, h3, h4, h5, h6⟩ := h
  clear h6
  go_enter Try.func34, Try.ntmps34
  go_wp2
  go_ret
  exact ⟨rfl, rfl⟩
def ndL (n : Nd) (cv : Value) : List Value := [.int .i64 n.b.d, .int .i64 n.b.k, .int .i64 n.b.s, .int .i64 n.b.c, .int .i64 n.b.w, .int .i64 n.b.h, .int .i64 n.b.m0, .int .i64 n.b.m1, .int .i64 n.b.m2, .int .i64 n.b.m3, .int .i64 n.b.e0, .int .i64 n.b.e1, .int .i64 n.b.e2, .int .i64 n.b.e3, .int .i64 n.par, .int .i64 n.en, .int .i64 n.ctx, cv]
theorem NodeAt.range {w : World} {g i : Nat} {n : Nd} {cv : Value} (h : NodeAt w g i n cv) : w.rangeAt g (i * 18) (ndL n cv) := by
  obtain ⟨⟨a0, a1, a2, a3, a4, a5⟩, ⟨a6, a7, a8, a9⟩, ⟨a10, a11, a12, a13⟩, ⟨a14, a15, a16, a17⟩⟩ := h
  intro j v hv
  unfold ndL at hv
  match j, hv with
  | 0, hv => simp at hv; subst hv; assumption
  | 1, hv => simp at hv; subst hv; assumption
  | 2, hv => simp at hv; subst hv; assumption
  | 3, hv => simp at hv; subst hv; assumption
  | 4, hv => simp at hv; subst hv; assumption
  | 5, hv => simp at hv; subst hv; assumption
  | 6, hv => simp at hv; subst hv; assumption
  | 7, hv => simp at hv; subst hv; assumption
  | 8, hv => simp at hv; subst hv; assumption
  | 9, hv => simp at hv; subst hv; assumption
  | 10, hv => simp at hv; subst hv; assumption
  | 11, hv => simp at hv; subst hv; assumption
  | 12, hv => simp at hv; subst hv; assumption
  | 13, hv => simp at hv; subst hv; assumption
  | 14, hv => simp at hv; subst hv; assumption
  | 15, hv => simp at hv; subst hv; assumption
  | 16, hv => simp at hv; subst hv; assumption
  | 17, hv => simp at hv; subst hv; assumption
  | j + 18, hv => simp at hv
theorem nodeInfo : (Try.prog.info? 80).map (·.size) = some 18 := by kernel_rfl
theorem ndL_one (n : Nd) (A : Option Addr) (l c : Nat) : (ndL n (.slice A l c)).toArray.all (·.oneCell') = true := by simp [ndL, Value.oneCell']
set_option maxHeartbeats 1000000 in
theorem at_in (bt : Nat) (N : List Nd) (i : Nat) (w : World) (h : TreeIs w bt N) (hi : i < N.length) : Calls Try.prog 58 #[.pointer (some ⟨bt, 0, none⟩), .int .i64 i] w fun e w' =>
    ∃ cv, IsInts w cv (nat_ N i).ch ∧ (nat_ N i).ch.length ≤ 1000000000000 ∧ e = .returned (.agg #[.int .i64 (nat_ N i).b.d, .int .i64 (nat_ N i).b.k, .int .i64 (nat_ N i).b.s, .int .i64 (nat_ N i).b.c, .int .i64 (nat_ N i).b.w, .int .i64 (nat_ N i).b.h, .int .i64 (nat_ N i).b.m0, .int .i64 (nat_ N i).b.m1, .int .i64 (nat_ N i).b.m2, .int .i64 (nat_ N i).b.m3, .int .i64 (nat_ N i).b.e0, .int .i64 (nat_ N i).b.e1, .int .i64 (nat_ N i).b.e2, .int .i64 (nat_ N i).b.e3, .int .i64 (nat_ N i).par, .int .i64 (nat_ N i).en, .int .i64 (nat_ N i).ctx, cv]) ∧ Below w.heap.size w w' := by
  obtain ⟨g, cap, cv, h1, h2, h3, h4, h5, h6⟩ := h
  obtain ⟨hn, k2, k3⟩ := h6 i hi
  have hr := Lib.hid hn.range
  have hd : decide ((N.length : Int) ≤ i) = false := by simp; omega
  have h18 : (ndL (nat_ N i) (cv i)).length = 18 := rfl
  have h1c : (ndL (nat_ N i) (cv i)).toArray.all (·.oneCell') = true := by
    obtain ⟨A, c, e, _⟩ := k2
    rw [e]
    exact ndL_one _ _ _ _
  have hfin : Value.agg (ndL (nat_ N i) (cv i)).toArray = .agg #[.int .i64 (nat_ N i).b.d, .int .i64 (nat_ N i).b.k, .int .i64 (nat_ N i).b.s, .int .i64 (nat_ N i).b.c, .int .i64 (nat_ N i).b.w, .int .i64 (nat_ N i).b.h, .int .i64 (nat_ N i).b.m0, .int .i64 (nat_ N i).b.m1, .int .i64 (nat_ N i).b.m2, .int .i64 (nat_ N i).b.m3, .int .i64 (nat_ N i).b.e0, .int .i64 (nat_ N i).b.e1, .int .i64 (nat_ N i).b.e2, .int .i64 (nat_ N i).b.e3, .int .i64 (nat_ N i).par, .int .i64 (nat_ N i).en, .int .i64 (nat_ N i).ctx, cv i] := rfl
  have HF := Lib.hid hfin
  have K2 := Lib.hid k2
  generalize ndL (nat_ N i) (cv i) = cs at *
  have H18 := Lib.hid h18
  have H1C := Lib.hid h1c
  clear h6 k2 hn hfin h18 h1c
  go_enter Try.func58, Try.ntmps58
  go_wp2_with (first
    | ((with_reducible refine load_mid (dst := some 23) 80 (.tmp 22) g (i * 18) cs _ ?_ (World.rangeAt_alloc hr.out _) Try.underlying80 ?_ ?_ ?_); rfl; rfl; (rw [H18.out]; exact nodeInfo); simp only [Act.put, List.setIfInBounds_toArray, List.set_cons_zero, List.set_cons_succ])
    | ((with_reducible refine store_new (dst := none) 80 (.tmp 4) (.tmp 23) w _ cs.toArray 80 rfl ?_ ?_ ?_ ?_ H1C.out ?_); rfl; rfl; (rw [List.size_toArray, H18.out]; exact nodeInfo); exact H18.out.symm))
  refine bodyPost_ret (results_cell_row Try.results58 _ _ w.heap.size 80 _ (0, 0) _ (by rfl) (heap_alloc_new w _) Try.underlying80 rfl (by rw [List.size_toArray, H18.out]; exact nodeInfo)) rfl ?_
  exact ⟨_, K2.out, k3, congrArg Ending.returned HF.out, (Below.refl _ _).alloc (Nat.le_refl _) _⟩
set_option maxHeartbeats 1000000 in
theorem at_out (bt : Nat) (N : List Nd) (i : Int) (w : World) (h : TreeIs w bt N) (hi : i < 0 ∨ N.length ≤ i) : Calls Try.prog 58 #[.pointer (some ⟨bt, 0, none⟩), .int .i64 i] w fun e w' =>
    e = .returned (.agg #[.int .i64 0, .int .i64 0, .int .i64 0, .int .i64 0, .int .i64 0, .int .i64 0, .int .i64 0, .int .i64 0, .int .i64 0, .int .i64 0, .int .i64 0, .int .i64 0, .int .i64 0, .int .i64 0, .int .i64 (-1), .int .i64 (-1), .int .i64 (-1), .slice none 0 0]) ∧ Below w.heap.size w w' := by
  obtain ⟨g, cap, cv, h1, h2, h3, h4, h5, h6⟩ := h
  clear h6
  have hd : i < 0 ∨ (decide (i < 0) = false ∧ decide ((N.length : Int) ≤ i) = true) := by
    by_cases h0 : i < 0
    · exact .inl h0
    · exact .inr ⟨by simpa using h0, by simp; omega⟩
  clear hi
  rcases hd with hd | ⟨hd, hd2⟩
  all_goals
    go_enter Try.func58, Try.ntmps58
    go_wp2_with (first | ((with_reducible refine op_value (o := ⟨some 16, .build 80 _, _, _, _, _⟩) rfl (.agg #[.int .i64 0, .int .i64 0, .int .i64 0, .int .i64 0, .int .i64 0, .int .i64 0, .int .i64 0, .int .i64 0, .int .i64 0, .int .i64 0, .int .i64 0, .int .i64 0, .int .i64 0, .int .i64 0, .int .i64 (-1), .int .i64 (-1), .int .i64 (-1), .slice none 0 0]) ?_ ?_); kernel_rfl; simp only [Act.put, List.setIfInBounds_toArray, List.set_cons_zero, List.set_cons_succ]) | ((with_reducible refine store_new (dst := none) 80 (.tmp 4) (.tmp 16) w _ #[.int .i64 0, .int .i64 0, .int .i64 0, .int .i64 0, .int .i64 0, .int .i64 0, .int .i64 0, .int .i64 0, .int .i64 0, .int .i64 0, .int .i64 0, .int .i64 0, .int .i64 0, .int .i64 0, .int .i64 (-1), .int .i64 (-1), .int .i64 (-1), .slice none 0 0] 80 rfl ?_ ?_ ?_ ?_ ?_ ?_); rfl; rfl; exact nodeInfo; rfl; (simp [Value.oneCell'])))
    refine bodyPost_ret (results_cell_row Try.results58 _ _ w.heap.size 80 _ (0, 0) _ (by rfl) (heap_alloc_new w _) Try.underlying80 rfl nodeInfo) rfl ?_
    exact ⟨rfl, (Below.refl _ _).alloc (Nat.le_refl _) _⟩
def nodeI (N : List Nd) (i : Int) : Nd := if i < 0 then nd0 else nat_ N i.toNat
theorem nodeI_nat (N : List Nd) (i : Nat) : nodeI N i = nat_ N i := by unfold nodeI; rw [if_neg (by omega)]; rfl
theorem nodeI_out (N : List Nd) (i : Int) (h : i < 0 ∨ (N.length : Int) ≤ i) : nodeI N i = nd0 := by
  unfold nodeI
  by_cases h0 : i < 0
  · rw [if_pos h0]
  · rw [if_neg h0]
    unfold nat_
    rw [List.getD_eq_getElem?_getD, List.getElem?_eq_none (by omega)]
    rfl
theorem IsInts.nil (w : World) : IsInts w (.slice none 0 0) [] := ⟨none, 0, rfl, Nat.le_refl _, fun h => absurd h (by decide)⟩
theorem at_any (bt : Nat) (N : List Nd) (i : Int) (w : World) (h : TreeIs w bt N) : Calls Try.prog 58 #[.pointer (some ⟨bt, 0, none⟩), .int .i64 i] w fun e w' =>
    ∃ cv, IsInts w cv (nodeI N i).ch ∧ (nodeI N i).ch.length ≤ 1000000000000 ∧ e = .returned (.agg #[.int .i64 (nodeI N i).b.d, .int .i64 (nodeI N i).b.k, .int .i64 (nodeI N i).b.s, .int .i64 (nodeI N i).b.c, .int .i64 (nodeI N i).b.w, .int .i64 (nodeI N i).b.h, .int .i64 (nodeI N i).b.m0, .int .i64 (nodeI N i).b.m1, .int .i64 (nodeI N i).b.m2, .int .i64 (nodeI N i).b.m3, .int .i64 (nodeI N i).b.e0, .int .i64 (nodeI N i).b.e1, .int .i64 (nodeI N i).b.e2, .int .i64 (nodeI N i).b.e3, .int .i64 (nodeI N i).par, .int .i64 (nodeI N i).en, .int .i64 (nodeI N i).ctx, cv]) ∧ Below w.heap.size w w' := by
  by_cases hi : i < 0 ∨ (N.length : Int) ≤ i
  · rw [nodeI_out N i hi]
    exact (at_out bt N i w h hi).mono fun e w' ⟨he, hb⟩ => ⟨_, IsInts.nil w, by decide, he, hb⟩
  · obtain ⟨k, rfl⟩ := Int.eq_ofNat_of_zero_le (show 0 ≤ i by omega)
    rw [nodeI_nat]
    exact at_in bt N k w h (by omega)
theorem ndF0 (v0 v1 v2 v3 v4 v5 v6 v7 v8 v9 v10 v11 v12 v13 v14 v15 v16 v17 : Value) (w : World) : (Instr.field 80 (.agg #[v0, v1, v2, v3, v4, v5, v6, v7, v8, v9, v10, v11, v12, v13, v14, v15, v16, v17]) 0).run Try.prog w = .ok (.agg #[v0, v1, v2, v3, v4, v5, v6, v7, v8, v9, v10, v11, v12, v13]) w := by kernel_rfl
theorem ndF1 (v0 v1 v2 v3 v4 v5 v6 v7 v8 v9 v10 v11 v12 v13 v14 v15 v16 v17 : Value) (w : World) : (Instr.field 80 (.agg #[v0, v1, v2, v3, v4, v5, v6, v7, v8, v9, v10, v11, v12, v13, v14, v15, v16, v17]) 1).run Try.prog w = .ok (v14) w := by kernel_rfl
theorem ndF2 (v0 v1 v2 v3 v4 v5 v6 v7 v8 v9 v10 v11 v12 v13 v14 v15 v16 v17 : Value) (w : World) : (Instr.field 80 (.agg #[v0, v1, v2, v3, v4, v5, v6, v7, v8, v9, v10, v11, v12, v13, v14, v15, v16, v17]) 2).run Try.prog w = .ok (v15) w := by kernel_rfl
theorem ndF3 (v0 v1 v2 v3 v4 v5 v6 v7 v8 v9 v10 v11 v12 v13 v14 v15 v16 v17 : Value) (w : World) : (Instr.field 80 (.agg #[v0, v1, v2, v3, v4, v5, v6, v7, v8, v9, v10, v11, v12, v13, v14, v15, v16, v17]) 3).run Try.prog w = .ok (v16) w := by kernel_rfl
theorem ndF4 (v0 v1 v2 v3 v4 v5 v6 v7 v8 v9 v10 v11 v12 v13 v14 v15 v16 v17 : Value) (w : World) : (Instr.field 80 (.agg #[v0, v1, v2, v3, v4, v5, v6, v7, v8, v9, v10, v11, v12, v13, v14, v15, v16, v17]) 4).run Try.prog w = .ok (v17) w := by kernel_rfl
attribute [local go_sem] ndF0 ndF1 ndF2 ndF3 ndF4
set_option maxRecDepth 20000 in
theorem tparent (bt : Nat) (N : List Nd) (i : Int) (w : World) (h : TreeIs w bt N) : Calls Try.prog 36 #[.pointer (some ⟨bt, 0, none⟩), .int .i64 i] w fun e w' => e = .returned (.int .i64 (nodeI N i).par) ∧ Below w.heap.size w w' := by
  go_enter Try.func36, Try.ntmps36
  go_wp2_with (go_at_call 58; refine (at_any bt N i _ h).mono ?_; rintro e w1 ⟨cv, k1, k2, rfl, hb1⟩)
  go_ret
  exact ⟨rfl, hb1⟩
set_option maxRecDepth 20000 in
theorem tend (bt : Nat) (N : List Nd) (i : Int) (w : World) (h : TreeIs w bt N) : Calls Try.prog 38 #[.pointer (some ⟨bt, 0, none⟩), .int .i64 i] w fun e w' => e = .returned (.int .i64 (nodeI N i).en) ∧ Below w.heap.size w w' := by
  go_enter Try.func38, Try.ntmps38
  go_wp2_with (go_at_call 58; refine (at_any bt N i _ h).mono ?_; rintro e w1 ⟨cv, k1, k2, rfl, hb1⟩)
  go_ret
  exact ⟨rfl, hb1⟩
set_option maxRecDepth 20000 in
theorem tcontext (bt : Nat) (N : List Nd) (i : Int) (w : World) (h : TreeIs w bt N) : Calls Try.prog 37 #[.pointer (some ⟨bt, 0, none⟩), .int .i64 i] w fun e w' => e = .returned (.int .i64 (nodeI N i).ctx) ∧ Below w.heap.size w w' := by
  go_enter Try.func37, Try.ntmps37
  go_wp2_with (go_at_call 58; refine (at_any bt N i _ h).mono ?_; rintro e w1 ⟨cv, k1, k2, rfl, hb1⟩)
  go_ret
  exact ⟨rfl, hb1⟩
theorem boxInfo : (Try.prog.info? 28).map (·.size) = some 14 := by kernel_rfl
set_option maxRecDepth 20000 in
theorem tbox (bt : Nat) (N : List Nd) (i : Int) (w : World) (h : TreeIs w bt N) : Calls Try.prog 40 #[.pointer (some ⟨bt, 0, none⟩), .int .i64 i] w fun e w' => e = .returned (.agg #[.int .i64 (nodeI N i).b.d, .int .i64 (nodeI N i).b.k, .int .i64 (nodeI N i).b.s, .int .i64 (nodeI N i).b.c, .int .i64 (nodeI N i).b.w, .int .i64 (nodeI N i).b.h, .int .i64 (nodeI N i).b.m0, .int .i64 (nodeI N i).b.m1, .int .i64 (nodeI N i).b.m2, .int .i64 (nodeI N i).b.m3, .int .i64 (nodeI N i).b.e0, .int .i64 (nodeI N i).b.e1, .int .i64 (nodeI N i).b.e2, .int .i64 (nodeI N i).b.e3]) ∧ Below w.heap.size w w' := by
  have hA := h.below ((Below.refl w.heap.size w).alloc (Nat.le_refl _) (.cells #[.int .i64 0, .int .i64 0, .int .i64 0, .int .i64 0, .int .i64 0, .int .i64 0, .int .i64 0, .int .i64 0, .int .i64 0, .int .i64 0, .int .i64 0, .int .i64 0, .int .i64 0, .int .i64 0] 28)) (Nat.le_refl _)
  have HA := Lib.hid hA
  clear hA
  go_enter Try.func40, Try.ntmps40
  go_wp2_with (first
    | (go_at_call 58; refine (at_any bt N i _ HA.out).mono ?_; rintro e w1 ⟨cv, k1, k2, rfl, hb1⟩; have HB1 := Lib.hid hb1; have hg1 := (hb1.block w.heap.size (by simp; done)).trans (heap_alloc_new w _); have HG1 := Lib.hid hg1; clear hb1 hg1 k1)
    | ((with_reducible refine store_row (dst := none) 28 (.tmp 4) (.tmp 8) w.heap.size _ #[.int .i64 (nodeI N i).b.d, .int .i64 (nodeI N i).b.k, .int .i64 (nodeI N i).b.s, .int .i64 (nodeI N i).b.c, .int .i64 (nodeI N i).b.w, .int .i64 (nodeI N i).b.h, .int .i64 (nodeI N i).b.m0, .int .i64 (nodeI N i).b.m1, .int .i64 (nodeI N i).b.m2, .int .i64 (nodeI N i).b.m3, .int .i64 (nodeI N i).b.e0, .int .i64 (nodeI N i).b.e1, .int .i64 (nodeI N i).b.e2, .int .i64 (nodeI N i).b.e3] 28 HG1.out ?_ ?_ ?_ ?_ ?_ ?_); rfl; rfl; exact boxInfo; rfl; (simp [Value.oneCell']); intro w2 hg2 hr2 hs2; have HG2 := Lib.hid hg2; have HR2 := Lib.hid hr2; clear hg2 hr2 hs2))
  refine bodyPost_ret (results_cell_row Try.results40 _ _ w.heap.size 28 _ (0, 0) _ (by rfl) HG2.out Try.underlying28 rfl boxInfo) rfl ?_
  exact ⟨rfl, ((((Below.refl w.heap.size w).alloc (Nat.le_refl _) _).trans (HB1.out.mono (by simp))).grown HR2.out (Nat.le_trans (by simp) HB1.out.size) (fun k hk => by injection hk; omega))⟩
theorem news_ints {w : World} {g o : Nat} {l : List Int} (hc : ∀ k, k < l.length → w.cell? ⟨g, o + k, none⟩ = some (.int .i64 (l.getD k 0))) : ∀ j u, (l.map (Value.int .i64))[j]? = some u → w.cell? ((⟨g, o, none⟩ : Addr).add j) = some u := by
  intro j u hu
  rw [Addr.add_mid]
  have hj : j < l.length := by have := (List.getElem?_eq_some_iff.1 hu).1; simpa using this
  rw [hc j hj]
  simp only [List.getElem?_map, List.getElem?_eq_getElem hj, Option.map_some, Option.some.injEq] at hu
  rw [← hu]
  simp [List.getD_eq_getElem?_getD, List.getElem?_eq_getElem hj]
set_option maxRecDepth 20000 in
theorem clone_any (v : Value) (l : List Int) (w : World) (h : IsInts w v l) (hl : l.length ≤ 1000000000000) : Calls Try.prog 59 #[v] w fun e w' => ∃ v', e = .returned v' ∧ IsInts w' v' l ∧ Below w.heap.size w w' := by
  obtain ⟨A, cap, rfl, hc, hA⟩ := h
  obtain ⟨i0, hi, hz0, hz1, hz2⟩ := info_parts intInfo'
  cases A with
  | none =>
    have h0 : l = [] := by
      rcases Nat.eq_zero_or_pos l.length with h | h
      · exact List.eq_nil_of_length_eq_zero h
      · obtain ⟨g, o, e, _⟩ := hA h
        cases e
    subst h0
    have hnil := fun w => Lib.run_eql_slice_nil (P := Try.prog) w 52 3 none 0 cap 0 0 Try.underlying52
    go_enter Try.func59, Try.ntmps59
    go_wp2_with fail
    go_ret
    exact ⟨_, rfl, IsInts.nil w, Below.refl _ _⟩
  | some ad =>
    have hnil := fun w => Lib.run_eql_slice_nil (P := Try.prog) w 52 3 (some ad) l.length cap 0 0 Try.underlying52
    have hnews : ∀ j u, (l.map (Value.int .i64))[j]? = some u → (w.alloc (.cells #[] 3)).cell? (ad.add j) = some u := by
      intro j u hu
      have hj : j < l.length := by have := (List.getElem?_eq_some_iff.1 hu).1; simpa using this
      obtain ⟨g, o, e, hg, hc⟩ := hA (by omega)
      injection e with e
      subst e
      rw [World.cell?_alloc_lt w _ _ (by rw [Addr.add_mid]; exact hg)]
      exact news_ints hc j u hu
    have HN := Lib.hid hnews
    clear hnews hA
    go_enter Try.func59, Try.ntmps59
    go_wp2_with (first
      | (at_builtin; refine wpList_append_own_at _ rfl (.tmp 5) (.tmp 6) 52 (by rfl) w.heap.size 3 i0 (.int .i64 0) 1 8 Try.underlying52 hi hz0 hz1 hz2 rfl (by decide) _ 0 [] (by rfl) (World.ownsRow_lit w #[] 0 (Nat.le_refl _) (by decide) rfl) ad l.length cap (l.map (Value.int .i64)) (by rfl) (by simp) HN.out (by simp [Value.oneCell']) (by unfold maxLen; omega) (by omega) (by simp) ?_; intro v2 w2 hI2 hg2 hn2 ha2; have HI2 := Lib.hid hI2; have HG2 := Lib.hid hg2; clear hI2 hg2 ha2 hn2))
    go_ret
    have hI3 : Ints w2 w.heap.size v2 l := by have h := HI2.out; simpa [Ints] using h
    exact ⟨_, rfl, hI3.reads, ((Below.refl w.heap.size w).alloc (Nat.le_refl _) _).grown HG2.out (by simp) (fun k hk => by simp [Value.ownBlock] at hk; omega)⟩
set_option maxRecDepth 20000 in
theorem tchildren (bt : Nat) (N : List Nd) (i : Int) (w : World) (h : TreeIs w bt N) : Calls Try.prog 39 #[.pointer (some ⟨bt, 0, none⟩), .int .i64 i] w fun e w' => ∃ v, e = .returned v ∧ IsInts w' v (nodeI N i).ch ∧ Below w.heap.size w w' := by
  go_enter Try.func39, Try.ntmps39
  go_wp2_with (first
    | (go_at_call 58; refine (at_any bt N i _ h).mono ?_; rintro e w1 ⟨cv, k1, k2, rfl, hb1⟩; have hk1 := k1.below hb1 (Nat.le_refl _); have HK1 := Lib.hid hk1; have HB1 := Lib.hid hb1; clear k1 hb1 hk1)
    | (go_at_call 59; refine (clone_any cv _ _ HK1.out k2).mono ?_; rintro e w2 ⟨v2, rfl, k3, hb2⟩))
  go_ret
  exact ⟨_, rfl, k3, HB1.out.trans (hb2.mono HB1.out.size)⟩
end Go.Proofs.Ytpjngnkcjccbcaa
