/- Several boxes are placed in one statement: a, b, c := Find(s, Of(w)), Find(t, Of(x)), ..: k of them; three. -/
import Derived.Test.YtnkbbobdhcloeaaRw2
namespace Go.Proofs.Ytnkbbobdhcloeaa
set_option linter.unusedSimpArgs false
set_option linter.unusedVariables false
open Go.RowKit
/-- The facts, by number: 4k values, k pointers, what stands behind them. -/
def RF (k x y n : Nat) (V : Nat → Value) (r : Nat → Int × Int × Int × Int) (i : Nat) (a : Act) (w : World) : Prop :=
  if i < 4 * k then a.tmps[x + i]? = some (V i) else if i < 5 * k then Ptr4 n (y + (i - 4 * k)) a w else if i < 6 * k then Got4 n (y + (i - 5 * k)) (r (i - 5 * k)) a w else True
theorem RF.val {k x y n i : Nat} {V : Nat → Value} {r : Nat → Int × Int × Int × Int} {a : Act} {w : World} (hi : i < 4 * k) : RF k x y n V r i a w = (a.tmps[x + i]? = some (V i)) := by unfold RF; rw [if_pos hi]
theorem RF.ptr {k x y n i : Nat} {V : Nat → Value} {r : Nat → Int × Int × Int × Int} {a : Act} {w : World} (hi : i < k) : RF k x y n V r (4 * k + i) a w = Ptr4 n (y + i) a w := by unfold RF; rw [if_neg (by omega), if_pos (by omega)]; congr; omega
theorem RF.got {k x y n i : Nat} {V : Nat → Value} {r : Nat → Int × Int × Int × Int} {a : Act} {w : World} (hi : i < k) : RF k x y n V r (5 * k + i) a w = Got4 n (y + i) (r i) a w := by
  unfold RF
  rw [if_neg (by omega), if_neg (by omega), if_pos (by omega), show 5 * k + i - 5 * k = i by omega]
theorem rf_cases {k j : Nat} : j < 4 * k ∨ (∃ i, i < k ∧ j = 4 * k + i) ∨ (∃ i, i < k ∧ j = 5 * k + i) ∨ 6 * k ≤ j := by
  by_cases h1 : j < 4 * k
  · exact .inl h1
  by_cases h2 : j < 5 * k
  · exact .inr (.inl ⟨j - 4 * k, by omega, by omega⟩)
  by_cases h3 : j < 6 * k
  · exact .inr (.inr (.inl ⟨j - 5 * k, by omega, by omega⟩))
  · exact .inr (.inr (.inr (by omega)))
theorem RF.end_ {k x y n i : Nat} {V : Nat → Value} {r : Nat → Int × Int × Int × Int} {a : Act} {w : World} (hi : 6 * k ≤ i) : RF k x y n V r i a w := by unfold RF; rw [if_neg (by omega), if_neg (by omega), if_neg (by omega)]; trivial
def BaseF (k x y : Nat) (w0 : World) (T : Array Value) (a : Act) (w : World) : Prop :=
  Below w0.heap.size w0 w ∧ a.tmps.size = T.size ∧ a.defers = [] ∧ (∀ s, (s < x ∨ x + 4 * k ≤ s) → (s < y ∨ y + k ≤ s) → a.tmps[s]? = T[s]?) ∧
  (∀ i, i < k → ∀ b, a.tmps[y + i]? = some (.pointer (some ⟨b, 0, none⟩)) → b < w.heap.size ∧ ∀ j, j < k → j ≠ i → ∀ b', a.tmps[y + j]? = some (.pointer (some ⟨b', 0, none⟩)) → b ≠ b')
structure OpsF (ops : Array Oper) (k x y : Nat) (s p : Nat → Nat) (nO nF : FuncId) (tw ts tf : TypeId) : Prop where
  mv : ∀ j, j < k → OpIs ops (4 * j) (.move (.tmp (s j))) (some (x + 4 * j))
  ld : ∀ j, j < k → OpIs ops (4 * j + 1) (.load tw (.tmp (p j))) (some (x + (4 * j + 1)))
  co : ∀ j, j < k → OpIs ops (4 * j + 2) (.call { callee := .value (.func nO), args := #[.tmp (x + (4 * j + 1))], argTypes := #[tw] }) (some (x + (4 * j + 2)))
  cf : ∀ j, j < k → OpIs ops (4 * j + 3) (.call { callee := .value (.func nF), args := #[.tmp (x + 4 * j), .tmp (x + (4 * j + 2))], argTypes := #[ts, tf] }) (some (x + (4 * j + 3)))
  al : ∀ j, j < k → OpIs ops (4 * k + j) (.alloc 30) (some (y + j))
  st : ∀ j, j < k → OpIs ops (5 * k + j) (.store 30 (.tmp (y + j)) (.tmp (x + (4 * j + 3)))) none
set_option maxHeartbeats 4000000 in
theorem finds_facts {ops : Array Oper} {Q : Exit → Act → World → Prop} {id : Nat} {T : Array Value} {w0 : World} (k x y : Nat) (s p bp : Nat → Nat) (V : Nat → Value) (cs : Nat → List Value) (r : Nat → Int × Int × Int × Int) (nO nF : FuncId) (tw ts tf tt : TypeId) (dw : TypeDesc)
    (hm : (Try.prog).follows .mixedOrders = true) (hz : ops.size = 6 * k) (hdep : depsB ops = true) (ho : OpsF ops k x y s p nO nF tw ts tf)
    (w1 : ∀ j, j < k → waitsB ops (4 * j + 2) (4 * j + 1) = true) (w2 : ∀ j, j < k → waitsB ops (4 * j + 3) (4 * j) = true ∧ waitsB ops (4 * j + 3) (4 * j + 2) = true) (w3 : ∀ j, j < k → waitsB ops (5 * k + j) (4 * k + j) = true ∧ waitsB ops (5 * k + j) (4 * j + 3) = true)
    (cfO : ∀ x w, (callFunc nO #[x]).run Try.prog w = .ok (.enter nO #[x]) w) (cfF : ∀ x y w, (callFunc nF #[x, y]).run Try.prog w = .ok (.enter nF #[x, y]) w)
    (hxy : y + k ≤ x) (hxT : x + 4 * k ≤ T.size) (hs : ∀ j, j < k → (s j < x ∨ x + 4 * k ≤ s j) ∧ (s j < y ∨ y + k ≤ s j)) (hp : ∀ j, j < k → (p j < x ∨ x + 4 * k ≤ p j) ∧ (p j < y ∨ y + k ≤ p j))
    (tsv : ∀ j, j < k → T[s j]? = some (V (4 * j))) (tpv : ∀ j, j < k → T[p j]? = some (.pointer (some ⟨bp j, 0, none⟩))) (tA : ∀ j, j < k → T[y + j]? = some undef)
    (hu : (Try.prog).underlying tw = some dw) (hr : dw.isRow = true) (hi : ∀ j, j < k → ((Try.prog).info? tw).map (·.size) = some (cs j).length) (g : ∀ j, j < k → w0.heap[bp j]? = some (.cells (cs j).toArray tt (0, 0)))
    (v1 : ∀ j, j < k → V (4 * j + 1) = .agg (cs j).toArray) (v3 : ∀ j, j < k → V (4 * j + 3) = agg4 (r j))
    (c : ∀ j, j < k → ∀ w, Calls Try.prog nO #[.agg (cs j).toArray] w fun e w' => e = .returned (V (4 * j + 2)) ∧ Below w.heap.size w w')
    (f : ∀ j, j < k → ∀ w, Below w0.heap.size w0 w → Calls Try.prog nF #[V (4 * j), V (4 * j + 2)] w fun e w' => e = .returned (agg4 (r j)) ∧ Below w.heap.size w w')
    (hend : ∀ a w, BaseF k x y w0 T a w → (∀ i, i < 6 * k → RF k x y w0.heap.size V r i a w) → Q .normal a w) :
    (Code.region id ops true).wp Try.prog Q ⟨T, []⟩ w0 := by
  refine wp_region_facts hm (BaseF k x y w0 T) (RF k x y w0.heap.size V r) (deps_at hdep) ?_ (fun a w hb hR => hend a w hb (fun i hi => hR i (by omega))) ?_
  · intro i o a w hoi hB hR
    have hi6 : i < 6 * k := by
      have := (Array.getElem?_eq_some_iff.1 hoi).1
      omega
    have hwt : ∀ j, waitsB ops i j = true → RF k x y w0.heap.size V r j a w := fun j hj => by
      obtain ⟨e, he, hb, rfl⟩ := waits_at hj hoi
      exact hR e he hb
    have hB' := hB
    obtain ⟨b1, b2, b3, b4, b5⟩ := hB'
    -- an operation that fills a slot of its own
    have own : ∀ (i : Nat) (v : Value) (w' : World), i < 4 * k → v = V i → Below w.heap.size w w' →
        BaseF k x y w0 T (a.put (some (x + i)) v) w' ∧ RF k x y w0.heap.size V r i (a.put (some (x + i)) v) w' ∧
        ∀ j oj, ops[j]? = some oj → j ≠ i → (∀ e ∈ oj.after, Region.binds .any e = true → e.on ≠ i) → RF k x y w0.heap.size V r j a w → RF k x y w0.heap.size V r j (a.put (some (x + i)) v) w' := by
      intro i v w' hi4 hv hb
      subst hv
      have hpt : ∀ s, s ≠ x + i → (a.put (some (x + i)) (V i)).tmps[s]? = a.tmps[s]? := fun s hs => put_off hs
      have hsz := hb.size
      refine ⟨⟨Below.onto hb b1, put_size.trans b2, b3, fun s h1 h2 => (hpt s (by omega)).trans (b4 s h1 h2), fun j hj b hbb => ?_⟩, ?_, ?_⟩
      · rw [hpt _ (by omega)] at hbb
        exact ⟨by have := (b5 j hj b hbb).1; omega, fun j' hj' hne b' hb' => by rw [hpt _ (by omega)] at hb'; exact (b5 j hj b hbb).2 j' hj' hne b' hb'⟩
      · rw [RF.val hi4]; exact put_at (by omega)
      · intro j oj _ hj _ hRj
        rcases rf_cases (k := k) (j := j) with hjk | ⟨j', hjk, rfl⟩ | ⟨j', hjk, rfl⟩ | hjk
        · rw [RF.val hjk] at hRj ⊢; exact (hpt _ (by omega)).trans hRj
        · rw [RF.ptr hjk] at hRj ⊢; exact Ptr4.keep hRj hb (hpt _ (by omega))
        · rw [RF.got hjk] at hRj ⊢; exact Got4.keep hRj hb (hpt _ (by omega))
        · exact RF.end_ hjk
    rcases rf_cases (k := k) (j := i) with hik | ⟨i', hik, rfl⟩ | ⟨i', hik, rfl⟩ | hik
    · obtain ⟨j, hjk, hj⟩ : ∃ j, j < k ∧ (i = 4 * j ∨ i = 4 * j + 1 ∨ i = 4 * j + 2 ∨ i = 4 * j + 3) := ⟨i / 4, by omega, by omega⟩
      rcases hj with rfl | rfl | rfl | rfl
      · obtain ⟨e1, e2, e3⟩ := (ho.mv j hjk).at hoi
        refine op_of hoi e3 (wp_move e1 ?_)
        rw [e2, act_eval ((b4 (s j) (hs j hjk).1 (hs j hjk).2).trans (tsv j hjk))]
        exact own (4 * j) _ w (by omega) rfl (Below.refl _ _)
      · obtain ⟨e1, e2, e3⟩ := (ho.ld j hjk).at hoi
        refine op_of hoi e3 (wp_load4 e1 (bp j) 0 (act_eval ((b4 (p j) (hp j hjk).1 (hp j hjk).2).trans (tpv j hjk))) (cs j) dw (blk_range (blk_keep (g j hjk) b1)) hu hr (hi j hjk) ?_)
        rw [e2]
        exact own (4 * j + 1) _ w (by omega) (v1 j hjk).symm (Below.refl _ _)
      · obtain ⟨e1, e2, e3⟩ := (ho.co j hjk).at hoi
        have a1 := hwt _ (w1 j hjk)
        rw [RF.val (by omega)] at a1
        refine op_of hoi e3 (wp_call1 e1 (cfO _ _) ?_)
        rw [act_eval a1, e2, v1 j hjk]
        exact (c j hjk w).mono fun e w' ⟨he, hb⟩ => ⟨_, he, own (4 * j + 2) _ w' (by omega) rfl hb⟩
      · obtain ⟨e1, e2, e3⟩ := (ho.cf j hjk).at hoi
        have a1 := hwt _ (w2 j hjk).1
        have a2 := hwt _ (w2 j hjk).2
        rw [RF.val (by omega)] at a1 a2
        refine op_of hoi e3 (wp_call2 e1 (cfF _ _ _) ?_)
        rw [act_eval a1, act_eval a2, e2]
        exact (f j hjk w b1).mono fun e w' ⟨he, hb⟩ => ⟨_, he, own (4 * j + 3) _ w' (by omega) (v3 j hjk).symm hb⟩
    · obtain ⟨e1, e2, e3⟩ := (ho.al i' hik).at hoi
      refine op_of hoi e3 (wp_alloc1 (z := .agg #[.int .i64 0, .int .i64 0, .int .i64 0, .int .i64 0]) e1 (by kernel_rfl) ?_)
      rw [e2]
      have hpt : ∀ s, s ≠ y + i' → (a.put (some (y + i')) (.pointer (some ⟨w.heap.size, 0, none⟩))).tmps[s]? = a.tmps[s]? := fun s hs => put_off hs
      have hat : (a.put (some (y + i')) (.pointer (some ⟨w.heap.size, 0, none⟩))).tmps[y + i']? = some (.pointer (some ⟨w.heap.size, 0, none⟩)) := put_at (by omega)
      have hb0 : Below w.heap.size w (w.alloc (.cells (Value.agg #[.int .i64 0, .int .i64 0, .int .i64 0, .int .i64 0]).cells 30)) := (Below.refl _ _).alloc (Nat.le_refl _) _
      have hsz : (w.alloc (.cells (Value.agg #[.int .i64 0, .int .i64 0, .int .i64 0, .int .i64 0]).cells 30)).heap.size = w.heap.size + 1 := by simp
      refine ⟨⟨Below.onto hb0 b1, put_size.trans b2, b3, fun s h1 h2 => (hpt s (by omega)).trans (b4 s h1 h2), fun j hj b hb => ?_⟩, ?_, ?_⟩
      · by_cases hji : j = i'
        · subst hji
          rw [hat] at hb
          cases hb
          refine ⟨by omega, fun j' hj' hne b' hb' => ?_⟩
          rw [hpt _ (by omega)] at hb'
          have := (b5 j' hj' b' hb').1
          omega
        · rw [hpt _ (by omega)] at hb
          have h5 := b5 j hj b hb
          refine ⟨by omega, fun j' hj' hne b' hb' => ?_⟩
          by_cases hji' : j' = i'
          · subst hji'
            rw [hat] at hb'
            cases hb'
            omega
          · rw [hpt _ (by omega)] at hb'
            exact h5.2 j' hj' hne b' hb'
      · rw [RF.ptr hik]
        exact Ptr4.new (by omega) b1.size
      · intro j oj hoj hj hnw hRj
        rcases rf_cases (k := k) (j := j) with hjk | ⟨j', hjk, rfl⟩ | ⟨j', hjk, rfl⟩ | hjk
        · rw [RF.val hjk] at hRj ⊢; exact (hpt _ (by omega)).trans hRj
        · rw [RF.ptr hjk] at hRj ⊢; exact Ptr4.keep hRj hb0 (hpt _ (by omega))
        · have hne : j' ≠ i' := fun e => by
            subst e
            obtain ⟨e', he', hb', h'⟩ := waits_at (w3 j' hjk).1 hoj
            exact hnw e' he' hb' h'
          rw [RF.got hjk] at hRj ⊢; exact Got4.keep hRj hb0 (hpt _ (by omega))
        · exact RF.end_ hjk
    · obtain ⟨e1, e2, e3⟩ := (ho.st i' hik).at hoi
      have h1 := hwt _ (w3 i' hik).1
      have h2 := hwt _ (w3 i' hik).2
      rw [RF.ptr hik] at h1
      rw [RF.val (by omega), v3 i' hik] at h2
      obtain ⟨b, hA, hn, hrow⟩ := h1
      refine op_of hoi e3 (wp_store4 e1 (act_eval hA) (act_eval h2) hrow b1 hn (fun w' hv hb hk hss => ?_))
      rw [e2, put_none]
      refine ⟨⟨hb, b2, b3, b4, fun j hj b' hb' => by rw [hss]; exact b5 j hj b' hb'⟩, by rw [RF.got hik]; exact ⟨b, hA, hn, hv⟩, ?_⟩
      intro j oj hoj hj hnw hRj
      rcases rf_cases (k := k) (j := j) with hjk | ⟨j', hjk, rfl⟩ | ⟨j', hjk, rfl⟩ | hjk
      · rw [RF.val hjk] at hRj ⊢; exact hRj
      · rw [RF.ptr hjk] at hRj ⊢
        by_cases hji : j' = i'
        · subst hji
          exact ⟨b, hA, hn, _, rfl, hv⟩
        · exact Ptr4.aside hRj (fun b' hb' => Ne.symm ((b5 i' hik b hA).2 j' hjk hji b' hb')) hk
      · have hji : j' ≠ i' := fun e => hj (by rw [e])
        rw [RF.got hjk] at hRj ⊢
        exact Got4.aside hRj (fun b' hb' => Ne.symm ((b5 i' hik b hA).2 j' hjk hji b' hb')) hk
      · exact RF.end_ hjk
    · omega
  · refine ⟨(Below.refl _ _).drew, rfl, rfl, fun _ _ _ => rfl, fun i hi b hb => ?_⟩
    have hb : T[y + i]? = some (.pointer (some ⟨b, 0, none⟩)) := hb
    rw [tA i hi] at hb
    cases hb
/- THREE -/
set_option maxHeartbeats 4000000 in
theorem three_at {ops : Array Oper} {Q : Exit → Act → World → Prop} {id : Nat} {T : Array Value} {w0 : World} (x y s p0 p1 p2 bp0 bp1 bp2 : Nat) (sv k0 k1 k2 : Value) (nO nF : FuncId) (cs0 cs1 cs2 : List Value) (r0 r1 r2 : Int × Int × Int × Int) (tw ts tf tt : TypeId) (dw : TypeDesc)
    (hm : (Try.prog).follows .mixedOrders = true) (hz : ops.size = 18) (hdep : depsB ops = true)
    (ho : OpIs ops 0 (.move (.tmp s)) (some (x + 0)) ∧ OpIs ops 1 (.load tw (.tmp p0)) (some (x + 1)) ∧ OpIs ops 2 (.call { callee := .value (.func nO), args := #[.tmp (x + 1)], argTypes := #[tw] }) (some (x + 2)) ∧ OpIs ops 3 (.call { callee := .value (.func nF), args := #[.tmp (x + 0), .tmp (x + 2)], argTypes := #[ts, tf] }) (some (x + 3)) ∧ OpIs ops 4 (.move (.tmp s)) (some (x + 4)) ∧ OpIs ops 5 (.load tw (.tmp p1)) (some (x + 5)) ∧ OpIs ops 6 (.call { callee := .value (.func nO), args := #[.tmp (x + 5)], argTypes := #[tw] }) (some (x + 6)) ∧ OpIs ops 7 (.call { callee := .value (.func nF), args := #[.tmp (x + 4), .tmp (x + 6)], argTypes := #[ts, tf] }) (some (x + 7)) ∧ OpIs ops 8 (.move (.tmp s)) (some (x + 8)) ∧ OpIs ops 9 (.load tw (.tmp p2)) (some (x + 9)) ∧ OpIs ops 10 (.call { callee := .value (.func nO), args := #[.tmp (x + 9)], argTypes := #[tw] }) (some (x + 10)) ∧ OpIs ops 11 (.call { callee := .value (.func nF), args := #[.tmp (x + 8), .tmp (x + 10)], argTypes := #[ts, tf] }) (some (x + 11)) ∧ OpIs ops 12 (.alloc 30) (some (y + 0)) ∧ OpIs ops 13 (.alloc 30) (some (y + 1)) ∧ OpIs ops 14 (.alloc 30) (some (y + 2)) ∧ OpIs ops 15 (.store 30 (.tmp (y + 0)) (.tmp (x + 3))) none ∧ OpIs ops 16 (.store 30 (.tmp (y + 1)) (.tmp (x + 7))) none ∧ OpIs ops 17 (.store 30 (.tmp (y + 2)) (.tmp (x + 11))) none)
    (hw : (waitsB ops 2 1 && waitsB ops 3 0 && waitsB ops 3 2 && waitsB ops 15 12 && waitsB ops 15 3 && waitsB ops 6 5 && waitsB ops 7 4 && waitsB ops 7 6 && waitsB ops 16 13 && waitsB ops 16 7 && waitsB ops 10 9 && waitsB ops 11 8 && waitsB ops 11 10 && waitsB ops 17 14 && waitsB ops 17 11) = true)
    (cfO : ∀ x w, (callFunc nO #[x]).run Try.prog w = .ok (.enter nO #[x]) w) (cfF : ∀ x y w, (callFunc nF #[x, y]).run Try.prog w = .ok (.enter nF #[x, y]) w)
    (hxy : y + 3 ≤ x) (hxT : x + 12 ≤ T.size) (hs : (s < x ∨ x + 12 ≤ s) ∧ (s < y ∨ y + 3 ≤ s)) (hp0 : (p0 < x ∨ x + 12 ≤ p0) ∧ (p0 < y ∨ y + 3 ≤ p0)) (hp1 : (p1 < x ∨ x + 12 ≤ p1) ∧ (p1 < y ∨ y + 3 ≤ p1)) (hp2 : (p2 < x ∨ x + 12 ≤ p2) ∧ (p2 < y ∨ y + 3 ≤ p2))
    (tsv : T[s]? = some sv) (tp0 : T[p0]? = some (.pointer (some ⟨bp0, 0, none⟩))) (tp1 : T[p1]? = some (.pointer (some ⟨bp1, 0, none⟩))) (tp2 : T[p2]? = some (.pointer (some ⟨bp2, 0, none⟩))) (tA0 : T[y + 0]? = some undef) (tA1 : T[y + 1]? = some undef) (tA2 : T[y + 2]? = some undef)
    (hu : (Try.prog).underlying tw = some dw) (hr : dw.isRow = true) (hi0 : ((Try.prog).info? tw).map (·.size) = some cs0.length) (hi1 : ((Try.prog).info? tw).map (·.size) = some cs1.length) (hi2 : ((Try.prog).info? tw).map (·.size) = some cs2.length) (g0 : w0.heap[bp0]? = some (.cells cs0.toArray tt (0, 0))) (g1 : w0.heap[bp1]? = some (.cells cs1.toArray tt (0, 0))) (g2 : w0.heap[bp2]? = some (.cells cs2.toArray tt (0, 0)))
    (c0 : ∀ w, Calls Try.prog nO #[.agg cs0.toArray] w fun e w' => e = .returned k0 ∧ Below w.heap.size w w') (c1 : ∀ w, Calls Try.prog nO #[.agg cs1.toArray] w fun e w' => e = .returned k1 ∧ Below w.heap.size w w') (c2 : ∀ w, Calls Try.prog nO #[.agg cs2.toArray] w fun e w' => e = .returned k2 ∧ Below w.heap.size w w')
    (f0 : ∀ w, Below w0.heap.size w0 w → Calls Try.prog nF #[sv, k0] w fun e w' => e = .returned (agg4 r0) ∧ Below w.heap.size w w') (f1 : ∀ w, Below w0.heap.size w0 w → Calls Try.prog nF #[sv, k1] w fun e w' => e = .returned (agg4 r1) ∧ Below w.heap.size w w') (f2 : ∀ w, Below w0.heap.size w0 w → Calls Try.prog nF #[sv, k2] w fun e w' => e = .returned (agg4 r2) ∧ Below w.heap.size w w')
    (hend : ∀ bA0 bA1 bA2 w, Is4 bA0 r0 w → Is4 bA1 r1 w → Is4 bA2 r2 w → Below w0.heap.size w0 w → Q .normal ⟨(((((((((((((((T.setIfInBounds x (sv)).setIfInBounds (x + 1) (.agg cs0.toArray)).setIfInBounds (x + 2) (k0)).setIfInBounds (x + 3) (agg4 r0)).setIfInBounds (x + 4) (sv)).setIfInBounds (x + 5) (.agg cs1.toArray)).setIfInBounds (x + 6) (k1)).setIfInBounds (x + 7) (agg4 r1)).setIfInBounds (x + 8) (sv)).setIfInBounds (x + 9) (.agg cs2.toArray)).setIfInBounds (x + 10) (k2)).setIfInBounds (x + 11) (agg4 r2)).setIfInBounds y (.pointer (some ⟨bA0, 0, none⟩))).setIfInBounds (y + 1) (.pointer (some ⟨bA1, 0, none⟩))).setIfInBounds (y + 2) (.pointer (some ⟨bA2, 0, none⟩))), []⟩ w) :
    (Code.region id ops true).wp Try.prog Q ⟨T, []⟩ w0 := by
  obtain ⟨o0, o1, o2, o3, o4, o5, o6, o7, o8, o9, o10, o11, o12, o13, o14, o15, o16, o17⟩ := ho
  simp only [Bool.and_eq_true] at hw
  obtain ⟨⟨⟨⟨⟨⟨⟨⟨⟨⟨⟨⟨⟨⟨v0, v1⟩, v2⟩, v3⟩, v4⟩, v5⟩, v6⟩, v7⟩, v8⟩, v9⟩, v10⟩, v11⟩, v12⟩, v13⟩, v14⟩ := hw
  refine finds_facts 3 x y (fun _ => s) (fun i => match i with | 0 => p0 | 1 => p1 | 2 => p2 | _ => 0 : Nat → Nat) (fun i => match i with | 0 => bp0 | 1 => bp1 | 2 => bp2 | _ => 0 : Nat → Nat) (fun i => match i with | 0 => sv | 1 => .agg cs0.toArray | 2 => k0 | 3 => agg4 r0 | 4 => sv | 5 => .agg cs1.toArray | 6 => k1 | 7 => agg4 r1 | 8 => sv | 9 => .agg cs2.toArray | 10 => k2 | 11 => agg4 r2 | _ => undef : Nat → Value) (fun i => match i with | 0 => cs0 | 1 => cs1 | 2 => cs2 | _ => [] : Nat → List Value) (fun i => match i with | 0 => r0 | 1 => r1 | 2 => r2 | _ => (0, 0, 0, 0) : Nat → Int × Int × Int × Int) nO nF tw ts tf tt dw hm hz hdep ⟨fun j hj => match j, hj with | 0, _ => o0 | 1, _ => o4 | 2, _ => o8, fun j hj => match j, hj with | 0, _ => o1 | 1, _ => o5 | 2, _ => o9, fun j hj => match j, hj with | 0, _ => o2 | 1, _ => o6 | 2, _ => o10, fun j hj => match j, hj with | 0, _ => o3 | 1, _ => o7 | 2, _ => o11, fun j hj => match j, hj with | 0, _ => o12 | 1, _ => o13 | 2, _ => o14, fun j hj => match j, hj with | 0, _ => o15 | 1, _ => o16 | 2, _ => o17⟩ (fun j hj => match j, hj with | 0, _ => v0 | 1, _ => v5 | 2, _ => v10) (fun j hj => match j, hj with | 0, _ => ⟨v1, v2⟩ | 1, _ => ⟨v6, v7⟩ | 2, _ => ⟨v11, v12⟩) (fun j hj => match j, hj with | 0, _ => ⟨v3, v4⟩ | 1, _ => ⟨v8, v9⟩ | 2, _ => ⟨v13, v14⟩) cfO cfF hxy (by omega) (fun _ _ => hs) (fun j hj => match j, hj with | 0, _ => hp0 | 1, _ => hp1 | 2, _ => hp2) (fun j hj => match j, hj with | 0, _ => tsv | 1, _ => tsv | 2, _ => tsv) (fun j hj => match j, hj with | 0, _ => tp0 | 1, _ => tp1 | 2, _ => tp2) (fun j hj => match j, hj with | 0, _ => tA0 | 1, _ => tA1 | 2, _ => tA2) hu hr (fun j hj => match j, hj with | 0, _ => hi0 | 1, _ => hi1 | 2, _ => hi2) (fun j hj => match j, hj with | 0, _ => g0 | 1, _ => g1 | 2, _ => g2) (fun j hj => match j, hj with | 0, _ => rfl | 1, _ => rfl | 2, _ => rfl) (fun j hj => match j, hj with | 0, _ => rfl | 1, _ => rfl | 2, _ => rfl) (fun j hj => match j, hj with | 0, _ => c0 | 1, _ => c1 | 2, _ => c2) (fun j hj => match j, hj with | 0, _ => f0 | 1, _ => f1 | 2, _ => f2) ?_
  intro a w hB hR
  obtain ⟨c1, c2, c3, c4, c5⟩ := hB
  obtain ⟨bA0, q0, n0, g0'⟩ := (RF.got (i := 0) (by omega)).mp (hR (5 * 3 + 0) (by omega))
  obtain ⟨bA1, q1, n1, g1'⟩ := (RF.got (i := 1) (by omega)).mp (hR (5 * 3 + 1) (by omega))
  obtain ⟨bA2, q2, n2, g2'⟩ := (RF.got (i := 2) (by omega)).mp (hR (5 * 3 + 2) (by omega))
  have l0 : a.tmps[x + 0]? = some (sv) := (RF.val (i := 0) (by omega)).mp (hR 0 (by omega))
  have l1 : a.tmps[x + 1]? = some (.agg cs0.toArray) := (RF.val (i := 1) (by omega)).mp (hR 1 (by omega))
  have l2 : a.tmps[x + 2]? = some (k0) := (RF.val (i := 2) (by omega)).mp (hR 2 (by omega))
  have l3 : a.tmps[x + 3]? = some (agg4 r0) := (RF.val (i := 3) (by omega)).mp (hR 3 (by omega))
  have l4 : a.tmps[x + 4]? = some (sv) := (RF.val (i := 4) (by omega)).mp (hR 4 (by omega))
  have l5 : a.tmps[x + 5]? = some (.agg cs1.toArray) := (RF.val (i := 5) (by omega)).mp (hR 5 (by omega))
  have l6 : a.tmps[x + 6]? = some (k1) := (RF.val (i := 6) (by omega)).mp (hR 6 (by omega))
  have l7 : a.tmps[x + 7]? = some (agg4 r1) := (RF.val (i := 7) (by omega)).mp (hR 7 (by omega))
  have l8 : a.tmps[x + 8]? = some (sv) := (RF.val (i := 8) (by omega)).mp (hR 8 (by omega))
  have l9 : a.tmps[x + 9]? = some (.agg cs2.toArray) := (RF.val (i := 9) (by omega)).mp (hR 9 (by omega))
  have l10 : a.tmps[x + 10]? = some (k2) := (RF.val (i := 10) (by omega)).mp (hR 10 (by omega))
  have l11 : a.tmps[x + 11]? = some (agg4 r2) := (RF.val (i := 11) (by omega)).mp (hR 11 (by omega))
  have he : a = ⟨(((((((((((((((T.setIfInBounds x (sv)).setIfInBounds (x + 1) (.agg cs0.toArray)).setIfInBounds (x + 2) (k0)).setIfInBounds (x + 3) (agg4 r0)).setIfInBounds (x + 4) (sv)).setIfInBounds (x + 5) (.agg cs1.toArray)).setIfInBounds (x + 6) (k1)).setIfInBounds (x + 7) (agg4 r1)).setIfInBounds (x + 8) (sv)).setIfInBounds (x + 9) (.agg cs2.toArray)).setIfInBounds (x + 10) (k2)).setIfInBounds (x + 11) (agg4 r2)).setIfInBounds y (.pointer (some ⟨bA0, 0, none⟩))).setIfInBounds (y + 1) (.pointer (some ⟨bA1, 0, none⟩))).setIfInBounds (y + 2) (.pointer (some ⟨bA2, 0, none⟩))), []⟩ := by
    obtain ⟨tm, df⟩ := a
    have c3 : df = [] := c3
    subst c3
    refine congrArg (fun t => Act.mk t []) (Array.ext_getElem? ?_)
    intro z
    rw [set_at (by (try simp only [Array.size_setIfInBounds]); omega), set_at (by (try simp only [Array.size_setIfInBounds]); omega), set_at (by (try simp only [Array.size_setIfInBounds]); omega), set_at (by (try simp only [Array.size_setIfInBounds]); omega), set_at (by (try simp only [Array.size_setIfInBounds]); omega), set_at (by (try simp only [Array.size_setIfInBounds]); omega), set_at (by (try simp only [Array.size_setIfInBounds]); omega), set_at (by (try simp only [Array.size_setIfInBounds]); omega), set_at (by (try simp only [Array.size_setIfInBounds]); omega), set_at (by (try simp only [Array.size_setIfInBounds]); omega), set_at (by (try simp only [Array.size_setIfInBounds]); omega), set_at (by (try simp only [Array.size_setIfInBounds]); omega), set_at (by (try simp only [Array.size_setIfInBounds]); omega), set_at (by (try simp only [Array.size_setIfInBounds]); omega), set_at (by (try simp only [Array.size_setIfInBounds]); omega)]
    by_cases e2 : z = y + 2
    · rw [if_pos e2, e2]; exact q2
    rw [if_neg e2]
    by_cases e1 : z = y + 1
    · rw [if_pos e1, e1]; exact q1
    rw [if_neg e1]
    by_cases e0 : z = y
    · rw [if_pos e0, e0]; exact q0
    rw [if_neg e0]
    by_cases d11 : z = x + 11
    · rw [if_pos d11, d11]; exact l11
    rw [if_neg d11]
    by_cases d10 : z = x + 10
    · rw [if_pos d10, d10]; exact l10
    rw [if_neg d10]
    by_cases d9 : z = x + 9
    · rw [if_pos d9, d9]; exact l9
    rw [if_neg d9]
    by_cases d8 : z = x + 8
    · rw [if_pos d8, d8]; exact l8
    rw [if_neg d8]
    by_cases d7 : z = x + 7
    · rw [if_pos d7, d7]; exact l7
    rw [if_neg d7]
    by_cases d6 : z = x + 6
    · rw [if_pos d6, d6]; exact l6
    rw [if_neg d6]
    by_cases d5 : z = x + 5
    · rw [if_pos d5, d5]; exact l5
    rw [if_neg d5]
    by_cases d4 : z = x + 4
    · rw [if_pos d4, d4]; exact l4
    rw [if_neg d4]
    by_cases d3 : z = x + 3
    · rw [if_pos d3, d3]; exact l3
    rw [if_neg d3]
    by_cases d2 : z = x + 2
    · rw [if_pos d2, d2]; exact l2
    rw [if_neg d2]
    by_cases d1 : z = x + 1
    · rw [if_pos d1, d1]; exact l1
    rw [if_neg d1]
    by_cases d0 : z = x
    · rw [if_pos d0, d0]; exact l0
    rw [if_neg d0]
    exact c4 z (by omega) (by omega)
  rw [he]
  exact hend bA0 bA1 bA2 w g0' g1' g2' c1
end Go.Proofs.Ytnkbbobdhcloeaa
