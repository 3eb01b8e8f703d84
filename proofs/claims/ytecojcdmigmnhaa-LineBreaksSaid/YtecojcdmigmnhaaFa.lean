/- Appending floats that came in, or a part of them, to a row of the call's own: nothing at all, too. -/
import Derived.Test.YtecojcdmigmnhaaFw
import Derived.Deep.AppendLies
namespace Go.Proofs.Ytecojcdmigmnhaa
set_option linter.unusedSimpArgs false
set_option linter.unusedVariables false
open Go.RowKit
theorem floInfo3' : (Try.prog.info? 49).map (fun i => (i.zero, i.size, i.bytes)) = some (some (.agg #[.int .i64 0, .int .i64 0, .int .i64 0, .int .i64 0, .int .i64 0]), 5, 40) := by kernel_rfl
theorem foC_ones (L : List Fo) : ∀ u ∈ flat foC L, u.oneCell' = true := fun u hu => by
  unfold flat at hu
  simp only [List.mem_flatten, List.mem_map] at hu
  obtain ⟨l, ⟨f, _, rfl⟩, hu⟩ := hu
  exact foC_one f u hu
theorem flat_append {α : Type} (f : α → List Value) (X Y : List α) : flat f (X ++ Y) = flat f X ++ flat f Y := by simp [flat]
/-- Floats that came in, of which the first ones, or the last ones, are meant. -/
theorem IsFos.part {w : World} {A : Option Addr} {n cap : Nat} {L : List Fo} (h : IsFos w (.slice A n cap) L) (k m : Nat) (hm : m ≤ L.length) (hk : k ≤ m) (c : Nat) (hc : m - k ≤ c) (A' : Option Addr) (hA : k < m → A' = A.map (·.add (k * 5))) :
    IsFos w (.slice A' (m - k) c) ((L.take m).drop k) := by
  obtain ⟨A0, cap0, e, hc0, hx⟩ := h
  simp only [Value.slice.injEq] at e
  obtain ⟨rfl, rfl, rfl⟩ := e
  have hl : ((L.take m).drop k).length = m - k := by rw [List.length_drop, List.length_take, Nat.min_eq_left hm]
  refine ⟨A', c, by rw [hl], by rw [hl]; exact hc, fun h0 => ?_⟩
  rw [hl] at h0
  have hkm : k < m := by omega
  obtain ⟨g, o, rfl, hg, hs⟩ := hx (by omega)
  have hA' := hA hkm
  subst hA'
  refine ⟨g, o + k * 5, by show some ((⟨g, o, none⟩ : Addr).add (k * 5)) = _; rw [Addr.add_mid], hg, fun j hj => ?_⟩
  rw [hl] at hj
  have e1 : foAt ((L.take m).drop k) j = foAt L (k + j) := by
    rw [foAt_eq _ _ (by rw [hl]; exact hj), foAt_eq _ _ (by omega), List.getElem_drop, List.getElem_take]
  rw [e1, show o + k * 5 + j * 5 = o + (k + j) * 5 from by rw [Nat.add_mul]; omega]
  exact hs (k + j) (by omega)
/-- Two blocks of two cells, written one behind the other. -/
theorem heap4 {W : World} {p q : Nat} {C D : Array Value} {s t : TypeId} {a b c d : Value} (hne : p ≠ q) (hp : W.heap[p]? = some (.cells C s (0, 0))) (hq : W.heap[q]? = some (.cells D t (0, 0))) :
    ((((W.setCell ⟨p, 0, none⟩ a).setCell ⟨p, 1, none⟩ b).setCell ⟨q, 0, none⟩ c).setCell ⟨q, 1, none⟩ d).heap[p]? = some (.cells ((C.setIfInBounds 0 a).setIfInBounds 1 b) s (0, 0)) ∧
    ((((W.setCell ⟨p, 0, none⟩ a).setCell ⟨p, 1, none⟩ b).setCell ⟨q, 0, none⟩ c).setCell ⟨q, 1, none⟩ d).heap[q]? = some (.cells ((D.setIfInBounds 0 c).setIfInBounds 1 d) t (0, 0)) := by
  have h1 := heap_setCell_same _ p 1 _ _ b (heap_setCell_same W p 0 C s a hp)
  have h2 : ((W.setCell ⟨p, 0, none⟩ a).setCell ⟨p, 1, none⟩ b).heap[q]? = some (.cells D t (0, 0)) := (Below.heap_setCell _ _ _ _ (Ne.symm hne)).trans ((Below.heap_setCell _ _ _ _ (Ne.symm hne)).trans hq)
  refine ⟨(Below.heap_setCell _ _ _ _ hne).trans ((Below.heap_setCell _ _ _ _ hne).trans h1), ?_⟩
  exact heap_setCell_same _ q 1 _ _ d (heap_setCell_same _ q 0 D t c h2)
theorem old_some {W : World} {o o' : Obj} {k : Nat} (h : W.heap[k]? = some o) : (W.alloc o').heap[k]? = some o := (heap_alloc_old W _ (Array.getElem?_eq_some_iff.1 h).1).trans h
theorem below_some {W W' : World} (hb : Below W.heap.size W W') : ∀ (k : Nat) (o : Obj), W.heap[k]? = some o → W'.heap[k]? = some o := fun k _ h => (hb.block k (Array.getElem?_eq_some_iff.1 h).1).trans h
/-- Two rows of two cells, written one behind the other. -/
theorem cells4 {W : World} {p q : Nat} {a b c d : Value} (hne : p ≠ q) (hp0 : (W.cell? ⟨p, 0, none⟩).isSome = true) (hp1 : (W.cell? ⟨p, 1, none⟩).isSome = true) (hq0 : (W.cell? ⟨q, 0, none⟩).isSome = true) (hq1 : (W.cell? ⟨q, 1, none⟩).isSome = true) :
    ((((W.setCell ⟨p, 0, none⟩ a).setCell ⟨p, 1, none⟩ b).setCell ⟨q, 0, none⟩ c).setCell ⟨q, 1, none⟩ d).cell? ⟨p, 0, none⟩ = some a ∧ ((((W.setCell ⟨p, 0, none⟩ a).setCell ⟨p, 1, none⟩ b).setCell ⟨q, 0, none⟩ c).setCell ⟨q, 1, none⟩ d).cell? ⟨p, 1, none⟩ = some b ∧
    ((((W.setCell ⟨p, 0, none⟩ a).setCell ⟨p, 1, none⟩ b).setCell ⟨q, 0, none⟩ c).setCell ⟨q, 1, none⟩ d).cell? ⟨q, 0, none⟩ = some c ∧ ((((W.setCell ⟨p, 0, none⟩ a).setCell ⟨p, 1, none⟩ b).setCell ⟨q, 0, none⟩ c).setCell ⟨q, 1, none⟩ d).cell? ⟨q, 1, none⟩ = some d := by
  obtain ⟨u0, e0⟩ := Option.isSome_iff_exists.1 hp0
  obtain ⟨u1, e1⟩ := Option.isSome_iff_exists.1 hp1
  obtain ⟨v0, f0⟩ := Option.isSome_iff_exists.1 hq0
  obtain ⟨v1, f1⟩ := Option.isSome_iff_exists.1 hq1
  have n1 : ∀ i j : Nat, (⟨q, i, none⟩ : Addr) ≠ ⟨p, j, none⟩ := fun i j e => hne (by injection e with h; exact h.symm)
  have n2 : ∀ i j : Nat, (⟨p, i, none⟩ : Addr) ≠ ⟨q, j, none⟩ := fun i j e => hne (by injection e with h)
  have m1 : ∀ x : Nat, (⟨x, 1, none⟩ : Addr) ≠ ⟨x, 0, none⟩ := fun x e => by injection e with _ h; cases h
  have m2 : ∀ x : Nat, (⟨x, 0, none⟩ : Addr) ≠ ⟨x, 1, none⟩ := fun x e => by injection e with _ h; cases h
  refine ⟨?_, ?_, ?_, ?_⟩
  · rw [World.cell?_setCell_other _ _ _ _ (n1 1 0), World.cell?_setCell_other _ _ _ _ (n1 0 0), World.cell?_setCell_other _ _ _ _ (m1 p)]
    exact World.cell?_setCell_same _ _ _ e0
  · rw [World.cell?_setCell_other _ _ _ _ (n1 1 1), World.cell?_setCell_other _ _ _ _ (n1 0 1)]
    exact World.cell?_setCell_same _ _ _ ((World.cell?_setCell_other _ _ _ _ (m2 p)).trans e1)
  · rw [World.cell?_setCell_other _ _ _ _ (m1 q)]
    exact World.cell?_setCell_same _ _ _ ((World.cell?_setCell_other _ _ _ _ (n2 1 0)).trans ((World.cell?_setCell_other _ _ _ _ (n2 0 0)).trans f0))
  · exact World.cell?_setCell_same _ _ _ ((World.cell?_setCell_other _ _ _ _ (m2 q)).trans ((World.cell?_setCell_other _ _ _ _ (n2 1 1)).trans ((World.cell?_setCell_other _ _ _ _ (n2 0 1)).trans f1)))
section
variable (w : World)
set_option maxRecDepth 20000 in
theorem run_append_fos (ty : TypeId) (base n : Nat) (v : Value) (X : List Fo) (hown : w.ownsRow base 49 5 v n (flat foC X)) (u : Value) (L : List Fo) (hu : IsFos w u L) (hb : (n + L.length) * 40 ≤ 140737488355328) (hbase : base ≤ w.heap.size) :
    ∃ v' w', (Builtin.append_ #[31, 31] ty #[v, u]).run Try.prog w = .ok v' w' ∧ w'.ownsRow base 49 5 v' (n + L.length) (flat foC (X ++ L)) ∧ w.grownBy w' v.ownBlock ∧ (v'.ownBlock = v.ownBlock ∨ v'.ownBlock = some w.heap.size) := by
  obtain ⟨A, cap, rfl, hc, hA⟩ := hu
  obtain ⟨i0, hi0, hz0, hz1, hz2⟩ := info_parts floInfo3'
  rw [flat_append]
  have hl := flat_len foC_len L
  rcases A with _ | ad
  · have h0 : L = [] := by
      rcases Nat.eq_zero_or_pos L.length with h | h
      · exact List.eq_nil_of_length_eq_zero h
      · obtain ⟨g, o, e, _⟩ := hA h
        cases e
    subst h0
    refine ⟨v, w, ?_, by simpa [flat] using hown, ⟨rfl, rfl, rfl, Nat.le_refl _, fun _ _ _ => rfl⟩, .inl rfl⟩
    rcases hown.2 with ⟨rfl, rfl⟩ | ⟨g, c, cur, rfl, _, _, hnc, _⟩
    · simp [Builtin.append_, run_underlying (P := Try.prog) Try.underlying31, sizeOf, typeInfo, hi0, Builtin.lenOf, Builtin.firstCells]
    · simp [Builtin.append_, run_underlying (P := Try.prog) Try.underlying31, sizeOf, typeInfo, hi0, Builtin.lenOf, Builtin.firstCells, hnc, storeCells]
  · have hcells : ∀ j u, (flat foC L)[j]? = some u → w.cell? (ad.add j) = some u := by
      intro j u hu
      have hj := (List.getElem?_eq_some_iff.1 hu).1
      rw [hl] at hj
      obtain ⟨g, o, e, hg, hs⟩ := hA (by omega)
      injection e with e
      subst e
      have e2 : j = j / 5 * 5 + j % 5 := by omega
      rw [e2, flat_get foC_len L (j / 5) (j % 5) (by omega) (by omega), ← foAt_eq L _ (by omega)] at hu
      rw [Addr.add_mid]
      have := hs (j / 5) (by omega) (j % 5) u hu
      rw [show o + j = o + j / 5 * 5 + j % 5 by omega]
      exact this
    obtain ⟨v', w', hr, h2, h3, _, h5⟩ := run_append_own_at (P := Try.prog) w base 31 ty 49 i0 (.agg #[.int .i64 0, .int .i64 0, .int .i64 0, .int .i64 0, .int .i64 0]) 5 40 Try.underlying31 hi0 hz0 hz1 hz2 rfl (by decide) v n (flat foC X) hown ad L.length cap (flat foC L) hl hcells (foC_ones L) (by unfold maxLen; omega) (by omega) hbase
    exact ⟨v', w', hr, h2, h3, h5⟩
end
/-- The same as a step of a region that draws its order. -/
theorem step_append_fos {ops : Array Oper} {o : Oper} {a : Act} {w : World} {K : Act → World → Prop} {Q : Exit → Act → World → Prop} {E : Prop} (hgd : o.guard = none) (s x : Operand)
    (ho : o.op = .call { callee := .builtin .append, args := #[s, x], argTypes := #[31, 31] }) (v u : Value) (hs : a.eval s = v) (hx : a.eval x = u)
    (base n : Nat) (X L : List Fo) (hown : w.ownsRow base 49 5 v n (flat foC X)) (hu : IsFos w u L) (hb : (n + L.length) * 40 ≤ 140737488355328) (hbase : base ≤ w.heap.size)
    (h : ∀ v' w', w'.ownsRow base 49 5 v' (n + L.length) (flat foC (X ++ L)) → w.grownBy w' v.ownBlock → (v'.ownBlock = v.ownBlock ∨ v'.ownBlock = some w.heap.size) → K (a.put o.dst v') w') :
    if Region.wanted o (yielded ops a.tmps) = true then Oper.wp Try.prog o a w K Q else E := by
  have hw : Region.wanted o (yielded ops a.tmps) = true := by simp [Region.wanted, hgd]
  rw [if_pos hw]
  obtain ⟨v', w', hr, h2, h3, h5⟩ := run_append_fos w o.type base n v X hown u L hu hb hbase
  unfold Oper.wp execOp
  simp only [ho, resolve, invoke, builtin, Sem.run_bind, Sem.run_pure, Result.andThen_ok, List.map_toArray, List.map_cons, List.map_nil, hs, hx, hr]
  exact h v' w' h2 h3 h5
end Go.Proofs.Ytecojcdmigmnhaa
