/- Two boxes are placed in one statement: the region. -/
import Derived.Test.YtnkbbobdhcloeaaRv4
namespace Go.Proofs.Ytnkbbobdhcloeaa
set_option linter.unusedSimpArgs false
set_option linter.unusedVariables false
open Go.RowKit
def OpIs (ops : Array Oper) (i : Nat) (op : Op) (dst : Option Tmp) : Prop := ∃ o, ops[i]? = some o ∧ o.op = op ∧ o.dst = dst ∧ o.guard = none
theorem OpIs.at {ops : Array Oper} {i : Nat} {op : Op} {dst : Option Tmp} {o : Oper} (h : OpIs ops i op dst) (ho : ops[i]? = some o) : o.op = op ∧ o.dst = dst ∧ o.guard = none := by
  obtain ⟨o', h1, h2⟩ := h
  rw [ho] at h1
  cases h1
  exact h2
/-- The facts, by number. -/
def R2 (n : Nat) (d : Nat → Nat) (sv u1 k1 sx u2 k2 : Value) (r1 r2 : Int × Int × Int × Int) : Nat → Act → World → Prop
  | 0, a, _ => a.tmps[d 0]? = some sv
  | 1, a, _ => a.tmps[d 1]? = some u1
  | 2, a, _ => a.tmps[d 2]? = some k1
  | 3, a, _ => a.tmps[d 3]? = some (agg4 r1)
  | 4, a, _ => a.tmps[d 4]? = some sx
  | 5, a, _ => a.tmps[d 5]? = some u2
  | 6, a, _ => a.tmps[d 6]? = some k2
  | 7, a, _ => a.tmps[d 7]? = some (agg4 r2)
  | 8, a, w => Ptr4 n (d 8) a w
  | 9, a, w => Ptr4 n (d 9) a w
  | 10, a, w => Got4 n (d 8) r1 a w
  | 11, a, w => Got4 n (d 9) r2 a w
  | _, _, _ => True
/-- An operation that fills a slot of its own and lays blocks at most. -/
theorem R2.put {n : Nat} {d : Nat → Nat} {sv u1 k1 sx u2 k2 : Value} {r1 r2 : Int × Int × Int × Int} (hd : ∀ i j, i < 10 → j < 10 → i ≠ j → d i ≠ d j) {i : Nat} (hi : i < 8) {a : Act} {w w' : World} {v : Value} (hb : Below w.heap.size w w') :
    ∀ j, j ≠ i → R2 n d sv u1 k1 sx u2 k2 r1 r2 j a w → R2 n d sv u1 k1 sx u2 k2 r1 r2 j (a.put (some (d i)) v) w' := by
  intro j hj h
  have ho : ∀ k, k < 10 → k ≠ i → (a.put (some (d i)) v).tmps[d k]? = a.tmps[d k]? := fun k hk hki => put_off (hd k i hk (by omega) hki)
  match j, hj, h with
  | 0, hj, h => exact (ho 0 (by omega) hj).trans h
  | 1, hj, h => exact (ho 1 (by omega) hj).trans h
  | 2, hj, h => exact (ho 2 (by omega) hj).trans h
  | 3, hj, h => exact (ho 3 (by omega) hj).trans h
  | 4, hj, h => exact (ho 4 (by omega) hj).trans h
  | 5, hj, h => exact (ho 5 (by omega) hj).trans h
  | 6, hj, h => exact (ho 6 (by omega) hj).trans h
  | 7, hj, h => exact (ho 7 (by omega) hj).trans h
  | 8, hj, h => exact Ptr4.keep h hb (ho 8 (by omega) hj)
  | 9, hj, h => exact Ptr4.keep h hb (ho 9 (by omega) hj)
  | 10, hj, h => exact Got4.keep h hb (ho 8 (by omega) (by omega))
  | 11, hj, h => exact Got4.keep h hb (ho 9 (by omega) (by omega))
  | _ + 12, hj, h => trivial
/-- An alloc (number 8 or 9): all but its own fact and its store's. -/
theorem R2.alloc {n : Nat} {d : Nat → Nat} {sv u1 k1 sx u2 k2 : Value} {r1 r2 : Int × Int × Int × Int} (hd : ∀ i j, i < 10 → j < 10 → i ≠ j → d i ≠ d j) {i : Nat} (hi : i = 8 ∨ i = 9) {a : Act} {w w' : World} {v : Value} (hb : Below w.heap.size w w') :
    ∀ j, j ≠ i → j ≠ i + 2 → R2 n d sv u1 k1 sx u2 k2 r1 r2 j a w → R2 n d sv u1 k1 sx u2 k2 r1 r2 j (a.put (some (d i)) v) w' := by
  intro j hj hj2 h
  have ho : ∀ k, k < 10 → k ≠ i → (a.put (some (d i)) v).tmps[d k]? = a.tmps[d k]? := fun k hk hki => put_off (hd k i hk (by omega) hki)
  match j, hj, hj2, h with
  | 0, hj, _, h => exact (ho 0 (by omega) hj).trans h
  | 1, hj, _, h => exact (ho 1 (by omega) hj).trans h
  | 2, hj, _, h => exact (ho 2 (by omega) hj).trans h
  | 3, hj, _, h => exact (ho 3 (by omega) hj).trans h
  | 4, hj, _, h => exact (ho 4 (by omega) hj).trans h
  | 5, hj, _, h => exact (ho 5 (by omega) hj).trans h
  | 6, hj, _, h => exact (ho 6 (by omega) hj).trans h
  | 7, hj, _, h => exact (ho 7 (by omega) hj).trans h
  | 8, hj, _, h => exact Ptr4.keep h hb (ho 8 (by omega) hj)
  | 9, hj, _, h => exact Ptr4.keep h hb (ho 9 (by omega) hj)
  | 10, hj, hj2, h => exact Got4.keep h hb (ho 8 (by omega) (by omega))
  | 11, hj, hj2, h => exact Got4.keep h hb (ho 9 (by omega) (by omega))
  | _ + 12, _, _, _ => trivial
/-- A store into A's block (number 10). -/
theorem R2.storeA {n : Nat} {d : Nat → Nat} {sv u1 k1 sx u2 k2 : Value} {r1 r2 v : Int × Int × Int × Int} {a : Act} {w w' : World} {b : Nat} (hA : a.tmps[d 8]? = some (.pointer (some ⟨b, 0, none⟩))) (hn : n ≤ b) (hv : Is4 b v w')
    (hne : ∀ b', a.tmps[d 9]? = some (.pointer (some ⟨b', 0, none⟩)) → b' ≠ b) (hk : ∀ k, k ≠ b → w'.heap[k]? = w.heap[k]?) :
    ∀ j, j ≠ 10 → R2 n d sv u1 k1 sx u2 k2 r1 r2 j a w → R2 n d sv u1 k1 sx u2 k2 r1 r2 j a w' := by
  intro j hj h
  match j, hj, h with
  | 0, _, h => exact h
  | 1, _, h => exact h
  | 2, _, h => exact h
  | 3, _, h => exact h
  | 4, _, h => exact h
  | 5, _, h => exact h
  | 6, _, h => exact h
  | 7, _, h => exact h
  | 8, _, h => exact ⟨b, hA, hn, _, rfl, hv⟩
  | 9, _, h => exact Ptr4.aside h hne hk
  | 10, hj, h => exact absurd rfl hj
  | 11, _, h => exact Got4.aside h hne hk
  | _ + 12, _, _ => trivial
/-- A store into B's block (number 11). -/
theorem R2.storeB {n : Nat} {d : Nat → Nat} {sv u1 k1 sx u2 k2 : Value} {r1 r2 v : Int × Int × Int × Int} {a : Act} {w w' : World} {b : Nat} (hB : a.tmps[d 9]? = some (.pointer (some ⟨b, 0, none⟩))) (hn : n ≤ b) (hv : Is4 b v w')
    (hne : ∀ b', a.tmps[d 8]? = some (.pointer (some ⟨b', 0, none⟩)) → b' ≠ b) (hk : ∀ k, k ≠ b → w'.heap[k]? = w.heap[k]?) :
    ∀ j, j ≠ 11 → R2 n d sv u1 k1 sx u2 k2 r1 r2 j a w → R2 n d sv u1 k1 sx u2 k2 r1 r2 j a w' := by
  intro j hj h
  match j, hj, h with
  | 0, _, h => exact h
  | 1, _, h => exact h
  | 2, _, h => exact h
  | 3, _, h => exact h
  | 4, _, h => exact h
  | 5, _, h => exact h
  | 6, _, h => exact h
  | 7, _, h => exact h
  | 8, _, h => exact Ptr4.aside h hne hk
  | 9, _, h => exact ⟨b, hB, hn, _, rfl, hv⟩
  | 10, _, h => exact Got4.aside h hne hk
  | 11, hj, h => exact absurd rfl hj
  | _ + 12, _, _ => trivial
theorem put_none {a : Act} {v : Value} : a.put none v = a := rfl
set_option maxHeartbeats 2000000 in
/-- THE REGION. (of, find: the two callees' numbers; d: the slots, s: the space's, p1, p2: the wants'.) -/
theorem two_finds {ops : Array Oper} {Q : Exit → Act → World → Prop} {id : Nat} {T : Array Value} {w0 : World} (d : Nat → Nat) (s sy p1 p2 bp1 bp2 : Nat) (sv sx k1 k2 : Value) (nO nF : FuncId) (cs1 cs2 : List Value) (r1 r2 : Int × Int × Int × Int) (tw ts tf : TypeId)  (dw : TypeDesc)
    (hm : (Try.prog).follows .mixedOrders = true) (hz : ops.size = 12)
    (hdep : ∀ (i : Nat) (o : Oper), ops[i]? = some o → ∀ e ∈ o.after, Region.binds .any e = true → e.on < i)
    (h0 : OpIs ops 0 (.move (.tmp s)) (some (d 0))) (h1 : OpIs ops 1 (.load tw (.tmp p1)) (some (d 1)))
    (h2 : OpIs ops 2 (.call { callee := .value (.func nO), args := #[.tmp (d 1)], argTypes := #[tw] }) (some (d 2)))
    (h3 : OpIs ops 3 (.call { callee := .value (.func nF), args := #[.tmp (d 0), .tmp (d 2)], argTypes := #[ts, tf] }) (some (d 3)))
    (h4 : OpIs ops 4 (.move (.tmp sy)) (some (d 4))) (h5 : OpIs ops 5 (.load tw (.tmp p2)) (some (d 5)))
    (h6 : OpIs ops 6 (.call { callee := .value (.func nO), args := #[.tmp (d 5)], argTypes := #[tw] }) (some (d 6)))
    (h7 : OpIs ops 7 (.call { callee := .value (.func nF), args := #[.tmp (d 4), .tmp (d 6)], argTypes := #[ts, tf] }) (some (d 7)))
    (h8 : OpIs ops 8 (.alloc 30) (some (d 8))) (h9 : OpIs ops 9 (.alloc 30) (some (d 9)))
    (h10 : OpIs ops 10 (.store 30 (.tmp (d 8)) (.tmp (d 3))) none) (h11 : OpIs ops 11 (.store 30 (.tmp (d 9)) (.tmp (d 7))) none)
    (cfO : ∀ x w, (callFunc nO #[x]).run Try.prog w = .ok (.enter nO #[x]) w) (cfF : ∀ x y w, (callFunc nF #[x, y]).run Try.prog w = .ok (.enter nF #[x, y]) w)
    (w21 : waitsB ops 2 1 = true) (w30 : waitsB ops 3 0 = true) (w32 : waitsB ops 3 2 = true) (w65 : waitsB ops 6 5 = true) (w74 : waitsB ops 7 4 = true) (w76 : waitsB ops 7 6 = true)
    (w108 : waitsB ops 10 8 = true) (w103 : waitsB ops 10 3 = true) (w119 : waitsB ops 11 9 = true) (w117 : waitsB ops 11 7 = true)
    (hd : ∀ i j, i < 10 → j < 10 → i ≠ j → d i ≠ d j) (hdT : ∀ i, i < 10 → d i < T.size) (hs : s ∉ (List.range 10).map d) (hsy : sy ∉ (List.range 10).map d) (hp1 : p1 ∉ (List.range 10).map d) (hp2 : p2 ∉ (List.range 10).map d)
    (ts0 : T[s]? = some sv) (ts1 : T[sy]? = some sx) (tp1 : T[p1]? = some (.pointer (some ⟨bp1, 0, none⟩))) (tp2 : T[p2]? = some (.pointer (some ⟨bp2, 0, none⟩)))
    (tA : ∀ b, T[d 8]? ≠ some (.pointer (some ⟨b, 0, none⟩))) (tB : ∀ b, T[d 9]? ≠ some (.pointer (some ⟨b, 0, none⟩)))
    (hu : (Try.prog).underlying tw = some dw) (hr : dw.isRow = true) (hi1 : ((Try.prog).info? tw).map (·.size) = some cs1.length) (hi2 : ((Try.prog).info? tw).map (·.size) = some cs2.length)
    (g1 : ∀ w, Below w0.heap.size w0 w → w.rangeAt bp1 0 cs1) (g2 : ∀ w, Below w0.heap.size w0 w → w.rangeAt bp2 0 cs2)
    (c1 : ∀ w, Calls Try.prog nO #[.agg cs1.toArray] w fun e w' => e = .returned k1 ∧ Below w.heap.size w w') (c2 : ∀ w, Calls Try.prog nO #[.agg cs2.toArray] w fun e w' => e = .returned k2 ∧ Below w.heap.size w w')
    (f1 : ∀ w, Below w0.heap.size w0 w → Calls Try.prog nF #[sv, k1] w fun e w' => e = .returned (agg4 r1) ∧ Below w.heap.size w w') (f2 : ∀ w, Below w0.heap.size w0 w → Calls Try.prog nF #[sx, k2] w fun e w' => e = .returned (agg4 r2) ∧ Below w.heap.size w w')
    (hend : ∀ a w, Base2 w0 T ((List.range 10).map d) (d 8) (d 9) a w → (∀ i, i < 12 → R2 w0.heap.size d sv (.agg cs1.toArray) k1 sx (.agg cs2.toArray) k2 r1 r2 i a w) → Q .normal a w) :
    (Code.region id ops true).wp Try.prog Q ⟨T, []⟩ w0 := by
  have hmem : ∀ i, i < 10 → d i ∈ (List.range 10).map d := fun i hi => List.mem_map.2 ⟨i, List.mem_range.2 hi, rfl⟩
  have hAB : d 8 ≠ d 9 := hd 8 9 (by omega) (by omega) (by omega)
  refine wp_region_facts hm (Base2 w0 T ((List.range 10).map d) (d 8) (d 9)) (R2 w0.heap.size d sv (.agg cs1.toArray) k1 sx (.agg cs2.toArray) k2 r1 r2) hdep ?_ (fun a w hb hR => hend a w hb (fun i hi => hR i (by omega))) ?_
  · intro i o a w ho hB hR
    have hi : i < 12 := by
      have := (Array.getElem?_eq_some_iff.1 ho).1
      omega
    have hw : ∀ j, waitsB ops i j = true → R2 w0.heap.size d sv (.agg cs1.toArray) k1 sx (.agg cs2.toArray) k2 r1 r2 j a w := fun j hj => by
      obtain ⟨e, he, hb, rfl⟩ := waits_at hj ho
      exact hR e he hb
    have hfr : ∀ k, k ∉ (List.range 10).map d → a.tmps[k]? = T[k]? := hB.2.2.2.1
    have hsz : ∀ i, i < 10 → d i < a.tmps.size := fun i hi => by rw [hB.2.1]; exact hdT i hi
    -- an operation that fills a slot of its own
    have own : ∀ (i : Nat) (v : Value) (w' : World), i < 8 → Below w.heap.size w w' → R2 w0.heap.size d sv (.agg cs1.toArray) k1 sx (.agg cs2.toArray) k2 r1 r2 i (a.put (some (d i)) v) w' →
        Base2 w0 T ((List.range 10).map d) (d 8) (d 9) (a.put (some (d i)) v) w' ∧ R2 w0.heap.size d sv (.agg cs1.toArray) k1 sx (.agg cs2.toArray) k2 r1 r2 i (a.put (some (d i)) v) w' ∧
        ∀ j oj, ops[j]? = some oj → j ≠ i → (∀ e ∈ oj.after, Region.binds .any e = true → e.on ≠ i) → R2 w0.heap.size d sv (.agg cs1.toArray) k1 sx (.agg cs2.toArray) k2 r1 r2 j a w → R2 w0.heap.size d sv (.agg cs1.toArray) k1 sx (.agg cs2.toArray) k2 r1 r2 j (a.put (some (d i)) v) w' :=
      fun i v w' hi hb hf => ⟨hB.grow hb (hmem i (by omega)) (hd i 8 (by omega) (by omega) (by omega)) (hd i 9 (by omega) (by omega) (by omega)), hf, fun j _ _ hj _ hRj => R2.put hd hi hb j hj hRj⟩
    match i, hi with
    | 0, _ =>
      obtain ⟨e1, e2, e3⟩ := h0.at ho
      refine op_of ho e3 (wp_move e1 ?_)
      rw [e2, act_eval ((hfr s hs).trans ts0)]
      exact own 0 sv w (by omega) (Below.refl _ _) (put_at (hsz 0 (by omega)))
    | 1, _ =>
      obtain ⟨e1, e2, e3⟩ := h1.at ho
      refine op_of ho e3 (wp_load4 e1 bp1 0 (act_eval ((hfr p1 hp1).trans tp1)) cs1 dw (g1 w hB.1) hu hr hi1 ?_)
      rw [e2]
      exact own 1 _ w (by omega) (Below.refl _ _) (put_at (hsz 1 (by omega)))
    | 2, _ =>
      obtain ⟨e1, e2, e3⟩ := h2.at ho
      have a1 := act_eval (hw 1 w21)
      refine op_of ho e3 (wp_call1 e1 (cfO _ _) ?_)
      rw [a1, e2]
      exact (c1 w).mono fun e w' ⟨he, hb⟩ => ⟨k1, he, own 2 k1 w' (by omega) hb (put_at (hsz 2 (by omega)))⟩
    | 3, _ =>
      obtain ⟨e1, e2, e3⟩ := h3.at ho
      have a1 := act_eval (hw 0 w30)
      have a2 := act_eval (hw 2 w32)
      refine op_of ho e3 (wp_call2 e1 (cfF _ _ _) ?_)
      rw [a1, a2, e2]
      exact (f1 w hB.1).mono fun e w' ⟨he, hb⟩ => ⟨agg4 r1, he, own 3 _ w' (by omega) hb (put_at (hsz 3 (by omega)))⟩
    | 4, _ =>
      obtain ⟨e1, e2, e3⟩ := h4.at ho
      refine op_of ho e3 (wp_move e1 ?_)
      rw [e2, act_eval ((hfr sy hsy).trans ts1)]
      exact own 4 sx w (by omega) (Below.refl _ _) (put_at (hsz 4 (by omega)))
    | 5, _ =>
      obtain ⟨e1, e2, e3⟩ := h5.at ho
      refine op_of ho e3 (wp_load4 e1 bp2 0 (act_eval ((hfr p2 hp2).trans tp2)) cs2 dw (g2 w hB.1) hu hr hi2 ?_)
      rw [e2]
      exact own 5 _ w (by omega) (Below.refl _ _) (put_at (hsz 5 (by omega)))
    | 6, _ =>
      obtain ⟨e1, e2, e3⟩ := h6.at ho
      have a1 := act_eval (hw 5 w65)
      refine op_of ho e3 (wp_call1 e1 (cfO _ _) ?_)
      rw [a1, e2]
      exact (c2 w).mono fun e w' ⟨he, hb⟩ => ⟨k2, he, own 6 k2 w' (by omega) hb (put_at (hsz 6 (by omega)))⟩
    | 7, _ =>
      obtain ⟨e1, e2, e3⟩ := h7.at ho
      have a1 := act_eval (hw 4 w74)
      have a2 := act_eval (hw 6 w76)
      refine op_of ho e3 (wp_call2 e1 (cfF _ _ _) ?_)
      rw [a1, a2, e2]
      exact (f2 w hB.1).mono fun e w' ⟨he, hb⟩ => ⟨agg4 r2, he, own 7 _ w' (by omega) hb (put_at (hsz 7 (by omega)))⟩
    | 8, _ =>
      obtain ⟨e1, e2, e3⟩ := h8.at ho
      refine op_of ho e3 (wp_alloc1 (z := .agg #[.int .i64 0, .int .i64 0, .int .i64 0, .int .i64 0]) e1 (by kernel_rfl) ?_)
      rw [e2]
      exact ⟨hB.allocA (hmem 8 (by omega)) (hdT 8 (by omega)) hAB, Ptr4.new (hsz 8 (by omega)) hB.1.size, fun j oj hoj hj hnw hRj => R2.alloc hd (.inl rfl) ((Below.refl _ _).alloc (Nat.le_refl _) _) j hj (fun e => by
        subst e
        obtain ⟨e', he', hb', h'⟩ := waits_at w108 hoj
        exact hnw e' he' hb' h') hRj⟩
    | 9, _ =>
      obtain ⟨e1, e2, e3⟩ := h9.at ho
      refine op_of ho e3 (wp_alloc1 (z := .agg #[.int .i64 0, .int .i64 0, .int .i64 0, .int .i64 0]) e1 (by kernel_rfl) ?_)
      rw [e2]
      exact ⟨hB.allocB (hmem 9 (by omega)) (hdT 9 (by omega)) hAB, Ptr4.new (hsz 9 (by omega)) hB.1.size, fun j oj hoj hj hnw hRj => R2.alloc hd (.inr rfl) ((Below.refl _ _).alloc (Nat.le_refl _) _) j hj (fun e => by
        subst e
        obtain ⟨e', he', hb', h'⟩ := waits_at w119 hoj
        exact hnw e' he' hb' h') hRj⟩
    | 10, _ =>
      obtain ⟨e1, e2, e3⟩ := h10.at ho
      obtain ⟨b, hA, hn, hrow⟩ := hw 8 w108
      have hv3 := hw 3 w103
      refine op_of ho e3 (wp_store4 e1 (act_eval hA) (act_eval hv3) hrow hB.1 hn (fun w' hv hb hk hs => ?_))
      rw [e2, put_none]
      exact ⟨hB.stored hb hs, ⟨b, hA, hn, hv⟩, fun j oj _ hj _ hRj => R2.storeA hA hn hv (fun b' hb' => Ne.symm ((hB.2.2.2.2.1 b hA).2 b' hb')) hk j hj hRj⟩
    | 11, _ =>
      obtain ⟨e1, e2, e3⟩ := h11.at ho
      obtain ⟨b, hA, hn, hrow⟩ := hw 9 w119
      have hv3 := hw 7 w117
      refine op_of ho e3 (wp_store4 e1 (act_eval hA) (act_eval hv3) hrow hB.1 hn (fun w' hv hb hk hs => ?_))
      rw [e2, put_none]
      exact ⟨hB.stored hb hs, ⟨b, hA, hn, hv⟩, fun j oj _ hj _ hRj => R2.storeB hA hn hv (fun b' hb' => (hB.2.2.2.2.1 b' hb').2 b hA) hk j hj hRj⟩
  · exact ⟨(Below.refl _ _).drew, rfl, rfl, fun _ _ => rfl, fun b hb => absurd hb (tA b), fun b hb => absurd hb (tB b)⟩
end Go.Proofs.Ytnkbbobdhcloeaa
