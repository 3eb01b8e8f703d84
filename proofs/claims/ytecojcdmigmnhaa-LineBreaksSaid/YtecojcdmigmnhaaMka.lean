/- append of a slice, however long (nothing at all, too), onto a slice of the call's own: as a step of a region that draws its order. A region that draws its order and appends to a copy: 'append(append([]T{}, xs...), z)', whatever stands beside it (quiet operations), and a tail in the order of the text. The document's maker of lines: begins, Box, Now, End. -/
import Derived.Test.YtecojcdmigmnhaaSg
import Derived.Test.YtecojcdmigmnhaaRg
import Derived.Test.YtecojcdmigmnhaaLw
import Derived.Test.YtecojcdmigmnhaaSpr
namespace Go.Proofs.Ytecojcdmigmnhaa
set_option linter.unusedSimpArgs false
set_option linter.unusedVariables false
open Go.RowKit
/- Sgt -/
section
variable {P : Program} {α : Type} {C : α → List Value} {n : Nat} {T e : TypeId} {bytes : Nat}
theorem sl_flat_app (L K : List α) : flat C (L ++ K) = flat C L ++ flat C K := by simp [flat]
theorem sl_flat_ones (h1 : ∀ a, ∀ u ∈ C a, u.oneCell' = true) (L : List α) : ∀ u ∈ flat C L, u.oneCell' = true := by
  intro u hu
  unfold flat at hu
  obtain ⟨l, hl, hu⟩ := List.mem_flatten.1 hu
  obtain ⟨y, _, rfl⟩ := List.mem_map.1 hl
  exact h1 y u hu
theorem run_append_sl (hE : Elem P T e n bytes) (hC : ∀ a, (C a).length = n) (h1 : ∀ a, ∀ u ∈ C a, u.oneCell' = true) (w : World) (ty : TypeId) (base : Nat) (v : Value) (X : List α) (hown : OwnSl C n e w base v X) (u : Value) (L : List α) (hu : IsSl C n w u L) (hb : X.length + L.length ≤ 100000000) (hbase : base ≤ w.heap.size) :
    ∃ v' w', (Builtin.append_ #[T, T] ty #[v, u]).run P w = .ok v' w' ∧ OwnSl C n e w' base v' (X ++ L) ∧ w.grownBy w' v.ownBlock ∧ (v'.ownBlock = v.ownBlock ∨ v'.ownBlock = some w.heap.size) := by
  obtain ⟨A, cap, rfl, hc, hA⟩ := hu
  obtain ⟨i, z, hi, hz, hzs, hsz, hby⟩ := hE.parts
  have hT := hE.under
  rcases A with _ | ad
  · have h0 : L = [] := by
      rcases Nat.eq_zero_or_pos L.length with h | h
      · exact List.eq_nil_of_length_eq_zero h
      · obtain ⟨g, o, e, _⟩ := hA.out h
        cases e
    subst h0
    refine ⟨v, w, ?_, by simpa using hown, ⟨rfl, rfl, rfl, Nat.le_refl _, fun _ _ _ => rfl⟩, .inl rfl⟩
    rcases hown.2 with ⟨hv, h0⟩ | ⟨g, c, cur, hv, _, _, hnc, _⟩
    · subst hv
      simp [Builtin.append_, run_underlying (P := P) hT, sizeOf, typeInfo, hi, Builtin.lenOf, Builtin.firstCells]
    · subst hv
      simp [Builtin.append_, run_underlying (P := P) hT, sizeOf, typeInfo, hi, Builtin.lenOf, Builtin.firstCells, hnc, storeCells]
  · have hl := flat_len hC L
    have hcells : ∀ j u, (flat C L)[j]? = some u → w.cell? (ad.add j) = some u := by
      intro j u hu
      have hj := (List.getElem?_eq_some_iff.1 hu).1
      have hn := hE.pos
      rw [hl] at hj
      have hL0 : 0 < L.length := by
        rcases Nat.eq_zero_or_pos L.length with h | h
        · rw [h] at hj; omega
        · exact h
      obtain ⟨g, o, e, hg, hs⟩ := hA.out hL0
      injection e with e
      subst e
      have hq : j / n < L.length := Nat.div_lt_of_lt_mul (by rw [Nat.mul_comm]; exact hj)
      have hr : j % n < n := Nat.mod_lt _ hn
      have e2 : j = j / n * n + j % n := by rw [Nat.mul_comm]; exact (Nat.div_add_mod j n).symm
      rw [e2, flat_get hC L (j / n) (j % n) hq hr] at hu
      rw [Addr.add_mid]
      have := hs (j / n) hq (j % n) u hu
      rw [show o + j = o + j / n * n + j % n by omega]
      exact this
    have hble := hE.le
    obtain ⟨v', w', hr, h2, h3, _, h5⟩ := run_append_own_at (P := P) w base T ty e i z n bytes hT hi hz hsz hby hzs hE.pos v X.length (flat C X) hown ad L.length cap (flat C L) hl hcells (sl_flat_ones h1 L) (by unfold maxLen; omega) (by
      have : (X.length + L.length) * bytes ≤ 100000000 * 1000 := Nat.mul_le_mul hb hble
      omega) hbase
    refine ⟨v', w', hr, ?_, h3, h5⟩
    unfold OwnSl
    rw [sl_flat_app, List.length_append]
    exact h2
theorem step_append_sl {ops : Array Oper} {o : Oper} {a : Act} {w : World} {K : Act → World → Prop} {Q : Exit → Act → World → Prop} {E : Prop} (hE : Elem P T e n bytes) (hC : ∀ a, (C a).length = n) (h1 : ∀ a, ∀ u ∈ C a, u.oneCell' = true) (hgd : o.guard = none) (s x : Operand)
    (ho : o.op = .call { callee := .builtin .append, args := #[s, x], argTypes := #[T, T] }) (v u : Value) (hs : a.eval s = v) (hx : a.eval x = u)
    (base : Nat) (X L : List α) (hown : OwnSl C n e w base v X) (hu : IsSl C n w u L) (hb : X.length + L.length ≤ 100000000) (hbase : base ≤ w.heap.size)
    (h : ∀ v' w', OwnSl C n e w' base v' (X ++ L) → w.grownBy w' v.ownBlock → (v'.ownBlock = v.ownBlock ∨ v'.ownBlock = some w.heap.size) → K (a.put o.dst v') w') :
    if Region.wanted o (yielded ops a.tmps) = true then Oper.wp P o a w K Q else E := by
  have hw : Region.wanted o (yielded ops a.tmps) = true := by simp [Region.wanted, hgd]
  rw [if_pos hw]
  obtain ⟨v', w', hr, h2, h3, h5⟩ := run_append_sl hE hC h1 w o.type base v X hown u L hu hb hbase
  unfold Oper.wp execOp
  simp only [ho, resolve, invoke, builtin, Sem.run_bind, Sem.run_pure, Result.andThen_ok, List.map_toArray, List.map_cons, List.map_nil, hs, hx, hr]
  exact h v' w' h2 h3 h5
/-- A new block as a slice of the call's own. -/
theorem sl_own_new (hC : ∀ a, (C a).length = n) (w : World) (base : Nat) (hb : base ≤ w.heap.size) (L : List α) (c : Array Value) (hc : c = (flat C L).toArray) (hl : L.length ≤ 1000000) (m : Nat) (hm : m = L.length) : OwnSl C n e (w.alloc (.cells c e)) base (.slice (some ⟨w.heap.size, 0, none⟩) m m) L := by
  subst hc
  subst hm
  have hf := flat_len hC L
  refine ⟨hf, .inr ⟨w.heap.size, L.length, (flat C L).toArray, rfl, hb, heap_alloc_new w _, Nat.le_refl _, by unfold maxLen; omega, by simpa using hf, by rw [← hf]; exact List.take_length⟩⟩
end
/- Rga -/
/-- The four operations of the pattern, and their slots: the empty slice, the copy, the one that comes to it, the whole. sx: where the slice lies that is copied. -/
structure App where
  i0 : Nat
  i1 : Nat
  i2 : Nat
  i3 : Nat
  d0 : Tmp
  d1 : Tmp
  d2 : Tmp
  d3 : Tmp
  sx : Tmp
def App.four (q : App) : List Laid := [⟨true, q.d0, 0, 0, none⟩, ⟨true, q.d1, 0, 0, none⟩, ⟨true, q.d2, 0, 0, none⟩, ⟨true, q.d3, 0, 0, none⟩]
section
variable {P : Program} {ops : Array Oper}
def appAt (ops : Array Oper) (i : Nat) (d : Tmp) (f : Op → Bool) : Bool := match ops[i]? with | some o => o.guard.isNone && o.dst == some d && f o.op | none => false
def isApp (T : TypeId) (s x : Tmp) : Op → Bool
  | .call ⟨.builtin .append, a, t⟩ => (match a.toList, t.toList with | [.tmp s', .tmp x'], [t1, t2] => s' == s && x' == x && t1 == T && t2 == T | _, _ => false)
  | _ => false
def isNew (T : TypeId) (n : Nat) : Op → Bool
  | .buildSlice t m _ => t == T && m == n
  | _ => false
def appB (q : App) (T : TypeId) (ops : Array Oper) (m : Nat) : Bool :=
  dupFree ((ops.toList.take m).map (·.dst)) &&
  (List.range ops.size).all (fun j => match ops[j]? with
    | none => true
    | some o => !isSel o && o.after.all (fun e => !(Region.binds .any e) || decide (e.on < j)) &&
      (if j < m then (if isLaid q.four o then (j == q.i0 || j == q.i1 || j == q.i2 || j == q.i3) else lookB q.four ops m j o) else true)) &&
  decide (q.i0 < m) && decide (q.i1 < m) && decide (q.i2 < m) && decide (q.i3 < m) &&
  appAt ops q.i0 q.d0 (isNew T 0) && appAt ops q.i1 q.d1 (isApp T q.d0 q.sx) && appAt ops q.i2 q.d2 (isNew T 1) && appAt ops q.i3 q.d3 (isApp T q.d1 q.d2) &&
  (match ops[q.i0]? with | some o => lookB q.four ops m q.i0 o | none => false) && (match ops[q.i2]? with | some o => lookB q.four ops m q.i2 o | none => false) &&
  (List.range m).all (fun i => dstOf ops i != some q.sx || (quietAtB q.four ops i && lWaits ops q.i1 i)) && lWaits ops q.i1 q.i0 && lWaits ops q.i3 q.i1 && lWaits ops q.i3 q.i2 &&
  decide (m ≤ ops.size) && (List.range ops.size).all (fun k => decide (k ≤ m) || lWaits ops k (k - 1)) &&
  (decide (ops.size ≤ m) || (List.range m).all (fun i => (List.range (m + 1)).any (fun j => decide (i < j) && lWaits ops j i)))
structure AppIs (q : App) (T : TypeId) (ops : Array Oper) (m : Nat) : Prop where
  slots : Slots q.four ops m
  deps : ∀ (i : Nat) (o : Oper), ops[i]? = some o → ∀ e ∈ o.after, Region.binds .any e = true → e.on < i
  laid : ∀ i o, i < m → ops[i]? = some o → isLaid q.four o = true → i = q.i0 ∨ i = q.i1 ∨ i = q.i2 ∨ i = q.i3
  lt : q.i0 < m ∧ q.i1 < m ∧ q.i2 < m ∧ q.i3 < m
  o0 : ∃ o, ops[q.i0]? = some o ∧ o.guard = none ∧ o.dst = some q.d0 ∧ isNew T 0 o.op = true ∧ lookB q.four ops m q.i0 o = true
  o1 : ∃ o, ops[q.i1]? = some o ∧ o.guard = none ∧ o.dst = some q.d1 ∧ isApp T q.d0 q.sx o.op = true
  o2 : ∃ o, ops[q.i2]? = some o ∧ o.guard = none ∧ o.dst = some q.d2 ∧ isNew T 1 o.op = true ∧ lookB q.four ops m q.i2 o = true
  o3 : ∃ o, ops[q.i3]? = some o ∧ o.guard = none ∧ o.dst = some q.d3 ∧ isApp T q.d1 q.d2 o.op = true
  sx : ∀ i, i < m → dstOf ops i = some q.sx → quietAtB q.four ops i = true ∧ lWaits ops q.i1 i = true
  w10 : lWaits ops q.i1 q.i0 = true
  w31 : lWaits ops q.i3 q.i1 = true
  w32 : lWaits ops q.i3 q.i2 = true
  le : m ≤ ops.size
  chain : ∀ (k : Nat) (o : Oper), m < k → ops[k]? = some o → ∃ e ∈ o.after, Region.binds .any e = true ∧ e.on + 1 = k
  last : m < ops.size → ∀ i, i < m → ∃ j o, i < j ∧ j ≤ m ∧ ops[j]? = some o ∧ ∃ e ∈ o.after, Region.binds .any e = true ∧ e.on = i
theorem appAt_of {i : Nat} {d : Tmp} {f : Op → Bool} (h : appAt ops i d f = true) : ∃ o, ops[i]? = some o ∧ o.guard = none ∧ o.dst = some d ∧ f o.op = true := by
  unfold appAt at h
  cases ho : ops[i]? with
  | none => rw [ho] at h; cases h
  | some o =>
    rw [ho] at h
    simp only [Bool.and_eq_true, Option.isNone_iff_eq_none, beq_iff_eq] at h
    exact ⟨o, rfl, h.1.1, h.1.2, h.2⟩
theorem app_of {q : App} {T : TypeId} {m : Nat} (h : appB q T ops m = true) : AppIs q T ops m := by
  unfold appB at h
  simp only [Bool.and_eq_true, decide_eq_true_eq] at h
  obtain ⟨⟨⟨⟨⟨⟨⟨⟨⟨⟨⟨⟨⟨⟨⟨⟨⟨⟨h1, h3⟩, l0⟩, l1⟩, l2⟩, l3⟩, a0⟩, a1⟩, a2⟩, a3⟩, k0⟩, k2⟩, hsx⟩, w10⟩, w31⟩, w32⟩, h5⟩, h6⟩, h7⟩ := h
  have hops : ∀ j o, ops[j]? = some o → (!isSel o && o.after.all (fun e => !(Region.binds .any e) || decide (e.on < j)) &&
      (if j < m then (if isLaid q.four o then (j == q.i0 || j == q.i1 || j == q.i2 || j == q.i3) else lookB q.four ops m j o) else true)) = true := fun j o ho => by
    have hj := (Array.getElem?_eq_some_iff.1 ho).1
    have := List.all_eq_true.1 h3 j (List.mem_range.2 hj)
    simp only [ho] at this
    exact this
  have hdl2 : ∀ i d, i < m → dstOf ops i = some d → ((ops.toList.take m).map (·.dst))[i]? = some (some d) := fun i d him hd => by
    simp only [List.getElem?_map, List.getElem?_take, him, if_true, Array.getElem?_toList]
    unfold dstOf at hd
    cases e : ops[i]? with
    | none => rw [e] at hd; cases hd
    | some q => rw [e] at hd; exact congrArg some hd
  obtain ⟨o0, p0, p1, p2, p3⟩ := appAt_of a0
  obtain ⟨o2, r0, r1, r2, r3⟩ := appAt_of a2
  rw [p0] at k0
  rw [r0] at k2
  refine ⟨⟨fun i j d hij hi0 hj0 hi hj => ?_, fun j o hj ho hl => ?_, fun j o ho cs b hc => ?_⟩, fun i o ho e he hb => ?_, fun i o hi ho hl => ?_, ⟨l0, l1, l2, l3⟩, ⟨o0, p0, p1, p2, p3, k0⟩, appAt_of a1, ⟨o2, r0, r1, r2, r3, k2⟩, appAt_of a3, fun i hi hd => ?_, w10, w31, w32, h5, fun k o hk ho => ?_, fun hm i hi => ?_⟩
  · rcases Nat.lt_or_gt_of_ne hij with h | h
    · exact dupFree_spec h1 h (hdl2 i d hi0 hi) (hdl2 j d hj0 hj)
    · exact dupFree_spec h1 h (hdl2 j d hj0 hj) (hdl2 i d hi0 hi)
  · have := hops j o ho
    simp only [Bool.and_eq_true, if_pos hj, hl] at this
    exact look_of this.2 ho
  · have := hops j o ho
    simp only [Bool.and_eq_true] at this
    simp [isSel, hc] at this
  · have := hops i o ho
    simp only [Bool.and_eq_true] at this
    have h6 := Array.all_eq_true'.1 this.1.2 e he
    simpa [hb] using h6
  · have := hops i o ho
    simp only [Bool.and_eq_true, if_pos hi, hl, if_true, Bool.or_eq_true, beq_iff_eq] at this
    rcases this.2 with ((h | h) | h) | h
    · exact .inl h
    · exact .inr (.inl h)
    · exact .inr (.inr (.inl h))
    · exact .inr (.inr (.inr h))
  · have := List.all_eq_true.1 hsx i (List.mem_range.2 hi)
    simp only [hd, bne_self_eq_false, Bool.false_or, Bool.and_eq_true] at this
    exact this
  · have hks := (Array.getElem?_eq_some_iff.1 ho).1
    have := List.all_eq_true.1 h6 k (List.mem_range.2 hks)
    simp only [Bool.or_eq_true, decide_eq_true_eq] at this
    obtain ⟨e, he, hb, hek⟩ := lwaits_at (this.resolve_left (by omega)) ho
    exact ⟨e, he, hb, by omega⟩
  · simp only [Bool.or_eq_true, decide_eq_true_eq] at h7
    rcases h7 with h | h
    · omega
    · obtain ⟨j, hj, h6⟩ := List.any_eq_true.1 (List.all_eq_true.1 h i (List.mem_range.2 hi))
      simp only [Bool.and_eq_true, decide_eq_true_eq] at h6
      have hjs := List.mem_range.1 hj
      have hjo : j < ops.size := by omega
      exact ⟨j, ops[j], h6.1, by omega, Array.getElem?_eq_getElem hjo, lwaits_at h6.2 (Array.getElem?_eq_getElem hjo)⟩
variable {α : Type} {C : α → List Value} {n : Nat} {T e : TypeId} {bytes : Nat}
theorem getD_set_k {listed : Array Bool} {i k : Nat} (h : i ≠ k) : (listed.setIfInBounds i true).getD k false = listed.getD k false := by
  rcases Nat.lt_or_ge k listed.size with hj | hj
  · simp [hj, Array.getElem_setIfInBounds, h]
  · simp [Array.getElem?_eq_none, hj]
def sl1 (g k : Nat) : Value := .slice (some ⟨g, 0, none⟩) k k
structure AppX (C : α → List Value) (n : Nat) (e : TypeId) (q : App) (n0 : Nat) (As : List α) (z : α) (listed : Array Bool) (a : Act) (w : World) : Prop where
  x0 : listed.getD q.i0 false = true → listed.getD q.i1 false = false → ∃ g, a.tmps[q.d0]? = some (sl1 g 0) ∧ OwnSl C n e w n0 (sl1 g 0) [] ∧ (listed.getD q.i2 false = true → ∀ g2, a.tmps[q.d2]? = some (sl1 g2 1) → g2 ≠ g)
  x1 : listed.getD q.i1 false = true → listed.getD q.i3 false = false → ∃ v, a.tmps[q.d1]? = some v ∧ OwnSl C n e w n0 v As ∧ (listed.getD q.i2 false = true → ∀ g2, a.tmps[q.d2]? = some (sl1 g2 1) → v.ownBlock ≠ some g2)
  x2 : listed.getD q.i2 false = true → listed.getD q.i3 false = false → ∃ g, a.tmps[q.d2]? = some (sl1 g 1) ∧ w.heap[g]? = some (.cells (C z).toArray e (0, 0))
  x3 : listed.getD q.i3 false = true → ∃ v, a.tmps[q.d3]? = some v ∧ OwnSl C n e w n0 v (As ++ [z])
theorem sl1_inj {g g' k : Nat} (h : sl1 g k = sl1 g' k) : g = g' := by simpa [sl1] using h
theorem AppX.keep {q : App} {n0 : Nat} {As : List α} {z : α} {listed : Array Bool} {a a' : Act} {w w' : World} {i : Nat} (h : AppX C n e q n0 As z listed a w) (hi : i ≠ q.i0 ∧ i ≠ q.i1 ∧ i ≠ q.i2 ∧ i ≠ q.i3) (hb : Below w.heap.size w w')
    (h0 : a'.tmps[q.d0]? = a.tmps[q.d0]?) (h1 : a'.tmps[q.d1]? = a.tmps[q.d1]?) (h2 : a'.tmps[q.d2]? = a.tmps[q.d2]?) (h3 : a'.tmps[q.d3]? = a.tmps[q.d3]?) : AppX C n e q n0 As z (listed.setIfInBounds i true) a' w' := by
  obtain ⟨x0, x1, x2, x3⟩ := h
  constructor
  · rw [getD_set_k hi.1, getD_set_k hi.2.1, getD_set_k hi.2.2.1, h0, h2]
    intro a1 a2
    obtain ⟨g, e1, e2, e3⟩ := x0 a1 a2
    exact ⟨g, e1, e2.below hb, e3⟩
  · rw [getD_set_k hi.2.1, getD_set_k hi.2.2.2, getD_set_k hi.2.2.1, h1, h2]
    intro a1 a2
    obtain ⟨v, e1, e2, e3⟩ := x1 a1 a2
    exact ⟨v, e1, e2.below hb, e3⟩
  · rw [getD_set_k hi.2.2.1, getD_set_k hi.2.2.2, h2]
    intro a1 a2
    obtain ⟨g, e1, e2⟩ := x2 a1 a2
    exact ⟨g, e1, heap_keep e2 hb⟩
  · rw [getD_set_k hi.2.2.2, h3]
    intro a1
    obtain ⟨v, e1, e2⟩ := x3 a1
    exact ⟨v, e1, e2.below hb⟩
/-- What is asked where the walk is through. -/
def AppDone (C : α → List Value) (n : Nat) (e : TypeId) (P : Program) (ops : Array Oper) (W : World) (Q : Exit → Act → World → Prop) (q : App) (tl : List Oper) (F : Act) : Prop :=
  ∃ (As : List α) (z : α), (∃ o, ops[q.i0]? = some o ∧ ∀ w, (execOp F.eval o).run P w = .ok (.value (sl1 w.heap.size 0)) (w.alloc (.cells #[] e))) ∧
    (∃ o, ops[q.i2]? = some o ∧ ∀ w, (execOp F.eval o).run P w = .ok (.value (sl1 w.heap.size 1)) (w.alloc (.cells (C z).toArray e))) ∧
    (∀ w, Below W.heap.size W w → IsSl C n w (F.eval (.tmp q.sx)) As) ∧ As.length ≤ 1000000 ∧
    ∀ w v0 v1 v2 v3, Below W.heap.size W w → OwnSl C n e w W.heap.size v3 (As ++ [z]) → wpList P ops Q tl ((((F.put (some q.d0) v0).put (some q.d1) v1).put (some q.d2) v2).put (some q.d3) v3) w
theorem isApp_of {s x : Tmp} {op : Op} (h : isApp T s x op = true) : op = .call { callee := .builtin .append, args := #[.tmp s, .tmp x], argTypes := #[T, T] } := by
  unfold isApp at h
  split at h
  · rename_i a t
    split at h
    · rename_i s' x' t1 t2 ha ht
      simp only [Bool.and_eq_true, beq_iff_eq] at h
      obtain ⟨⟨⟨rfl, rfl⟩, rfl⟩, rfl⟩ := h
      have ha' : a = #[.tmp s', .tmp x'] := by apply Array.ext'; simpa using ha
      have ht' : t = #[t2, t2] := by apply Array.ext'; simpa using ht
      rw [ha', ht']
    · cases h
  · cases h
/-- What stands of a quiet operation that has come up. -/
def AppR (q : App) (ops : Array Oper) (F : Act) (j : Nat) (a : Act) : Prop := ∀ oj, ops[j]? = some oj → isLaid q.four oj = false → ∀ d, oj.dst = some d → a.tmps[d]? = F.tmps[d]?
/-- **The region.** -/
theorem wp_region_app {id : Nat} {Q : Exit → Act → World → Prop} {T0 : Array Value} {W : World} {l : List Oper} (hm : P.follows .mixedOrders = true) (q : App) (hE : Elem P T e n bytes) (hC : ∀ a, (C a).length = n) (hone : ∀ a, ∀ u ∈ C a, u.oneCell' = true) (m : Nat) (hSB : appB q T l.toArray m = true)
    (hT : (decide (q.d0 < T0.size) && decide (q.d1 < T0.size) && decide (q.d2 < T0.size) && decide (q.d3 < T0.size)) = true)
    (h : wpLex P l.toArray (fun w => Below W.heap.size W w) q.four (fun tl F => AppDone C n e P l.toArray W Q q tl F) m l ⟨T0, []⟩) : (Code.region id l.toArray true).wp P Q ⟨T0, []⟩ W := by
  have S := app_of hSB
  have hms := S.le
  simp only [Bool.and_eq_true, decide_eq_true_eq] at hT
  obtain ⟨⟨⟨ht0, ht1⟩, ht2⟩, ht3⟩ := hT
  obtain ⟨V, F, ⟨tl, htl, As, z, ⟨o0, ho0, hr0⟩, ⟨o2, ho2, hr2⟩, hAs, hAl, hE2⟩, hFd, hFs, hF4, hF5⟩ := wpLex_spec S.slots m 0 l ⟨T0, []⟩ (by simp) (by omega) hms h
  obtain ⟨l0, l1, l2, l3⟩ := S.lt
  obtain ⟨p0, hp0, g0, s0, k0, lk0⟩ := S.o0
  obtain ⟨p1, hp1, g1, s1, k1⟩ := S.o1
  obtain ⟨p2, hp2, g2, s2, k2, lk2⟩ := S.o2
  obtain ⟨p3, hp3, g3, s3, k3⟩ := S.o3
  obtain rfl : p0 = o0 := Option.some.inj (hp0.symm.trans ho0)
  obtain rfl : p2 = o2 := Option.some.inj (hp2.symm.trans ho2)
  have e1 := isApp_of k1
  have e3 := isApp_of k3
  have dd : ∀ i (o : Oper) d, l.toArray[i]? = some o → o.dst = some d → dstOf l.toArray i = some d := fun i o d h1 h2 => by unfold dstOf; rw [h1]; exact h2
  have lt_sz : ∀ (i : Nat) (o : Oper), l.toArray[i]? = some o → i < l.toArray.size := fun i o h => (Array.getElem?_eq_some_iff.1 h).1
  -- the four are apart
  have n01 : q.i0 ≠ q.i1 := fun h => by rw [h, hp1] at hp0; injection hp0 with hp0; rw [← hp0, e1] at k0; simp [isNew] at k0
  have n02 : q.i0 ≠ q.i2 := fun h => by
    rw [h, hp2] at hp0
    injection hp0 with hp0
    rw [← hp0] at k0
    cases ho : p2.op <;> rw [ho] at k0 k2 <;> simp [isNew] at k0 k2
    omega
  have n03 : q.i0 ≠ q.i3 := fun h => by rw [h, hp3] at hp0; injection hp0 with hp0; rw [← hp0, e3] at k0; simp [isNew] at k0
  have n12 : q.i1 ≠ q.i2 := fun h => by rw [← h, hp1] at hp2; injection hp2 with hp2; rw [← hp2, e1] at k2; simp [isNew] at k2
  have n23 : q.i2 ≠ q.i3 := fun h => by rw [h, hp3] at hp2; injection hp2 with hp2; rw [← hp2, e3] at k2; simp [isNew] at k2
  have n13 : q.i1 ≠ q.i3 := fun h => by
    obtain ⟨ed, he, hb, hq⟩ := lwaits_at S.w31 hp3
    have := S.deps q.i3 p3 hp3 ed he hb
    omega
  have un : ∀ i j o o' d d', l.toArray[i]? = some o → l.toArray[j]? = some o' → i < m → j < m → i ≠ j → o.dst = some d → o'.dst = some d' → d ≠ d' := fun i j o o' d d' h1 h2 h3 h4 h5 h6 h7 h8 => by
    subst h8
    exact S.slots.uniq i j d h5 h3 h4 (dd i o d h1 h6) (dd j o' d h2 h7)
  have m01 := un _ _ _ _ _ _ hp0 hp1 l0 l1 n01 s0 s1
  have m02 := un _ _ _ _ _ _ hp0 hp2 l0 l2 n02 s0 s2
  have m03 := un _ _ _ _ _ _ hp0 hp3 l0 l3 n03 s0 s3
  have m12 := un _ _ _ _ _ _ hp1 hp2 l1 l2 n12 s1 s2
  have m13 := un _ _ _ _ _ _ hp1 hp3 l1 l3 n13 s1 s3
  have m23 := un _ _ _ _ _ _ hp2 hp3 l2 l3 n23 s2 s3
  have hn0 : (none : Option Tmp) = none := rfl
  -- what a quiet operation looks at stands as in F
  have hlook : ∀ (i : Nat) (o : Oper) (a : Act) (w : World), i < m → l.toArray[i]? = some o → (∀ t, (∀ i, i < m → dstOf l.toArray i ≠ some t) → a.tmps[t]? = T0[t]?) →
      (∀ e ∈ o.after, Region.binds .any e = true → AppR q l.toArray F e.on a) →
      ∀ d, (∀ j, j < m → dstOf l.toArray j = some d → quietAtB q.four l.toArray j = true ∧ ∃ e ∈ o.after, Region.binds .any e = true ∧ e.on = j) → a.tmps[d]? = F.tmps[d]? := by
    intro i o a w hi ho h4 hR d hd
    by_cases h : ∃ j, j < m ∧ dstOf l.toArray j = some d
    · obtain ⟨j, hj, hdj⟩ := h
      obtain ⟨hq, e, he, hb, rfl⟩ := hd j hj hdj
      have hoj : l.toArray[e.on]? = some l.toArray[e.on] := Array.getElem?_eq_getElem (by omega)
      have hdj' : l.toArray[e.on].dst = some d := by unfold dstOf at hdj; rw [hoj] at hdj; exact hdj
      have hl : isLaid q.four l.toArray[e.on] = false := by unfold quietAtB at hq; rw [hoj] at hq; simpa using hq
      exact hR e he hb _ hoj hl d hdj'
    · have h' : ∀ j, j < m → dstOf l.toArray j ≠ some d := fun j hj e => h ⟨j, hj, e⟩
      rw [h4 d h', hF4 d (fun j _ hj _ => h' j hj)]
  have hlaid : ∀ (i : Nat) (o : Oper) (d : Tmp), l.toArray[i]? = some o → o.dst = some d → (d = q.d0 ∨ d = q.d1 ∨ d = q.d2 ∨ d = q.d3) → isLaid q.four o = true := fun i o d h1 h2 h3 => by
    unfold isLaid App.four
    rcases h3 with rfl | rfl | rfl | rfl <;> simp [h2]
  refine wp_region_any hm (wpAny_laid
    (fun listed a w => Below W.heap.size W w ∧ a.tmps.size = T0.size ∧ a.defers = [] ∧ (∀ t, (∀ i, i < m → dstOf l.toArray i ≠ some t) → a.tmps[t]? = T0[t]?) ∧ AppX C n e q W.heap.size As z listed a w)
    (fun j a w => AppR q l.toArray F j a)
    m hms S.deps S.chain S.last ?_ tl htl ?_ _ _ _ _ (by simp) (by rw [left_all]; exact Nat.le_refl _) (fun j _ => none_listed _ _) ⟨?_, (fun i _ hi => by rw [none_listed] at hi; cases hi), (fun j o hj => by rw [none_listed] at hj; cases hj)⟩)
  · intro i o a w listed hi ho hB hcl hlz hun hR0
    obtain ⟨b1, b2, b3, b4, bX⟩ := hB
    have hdi : dstOf l.toArray i = o.dst := by unfold dstOf; rw [ho]; rfl
    have hRq : ∀ e ∈ o.after, Region.binds .any e = true → AppR q l.toArray F e.on a := fun e he hb => (hR0 e he hb).1
    have hB4 : ∀ (v : Value), ∀ t, (∀ i, i < m → dstOf l.toArray i ≠ some t) → (a.put o.dst v).tmps[t]? = T0[t]? := fun v t ht => by
      rw [lput_off (by rw [← hdi]; exact ht i hi)]
      exact b4 t ht
    -- the others' slots stay
    have hoth : ∀ (v : Value) j oj, j < m → listed.getD j false = true → l.toArray[j]? = some oj → j ≠ i → (∀ e ∈ oj.after, Region.binds .any e = true → e.on ≠ i) → AppR q l.toArray F j a → AppR q l.toArray F j (a.put o.dst v) := fun v j oj hj _ hoj hne _ hR oj' hoj' hl d hd => by
      rw [lput_off (fun e => S.slots.uniq i j d (Ne.symm hne) hi hj (by rw [hdi, e]) (dd j oj' d hoj' hd))]
      exact hR oj' hoj' hl d hd
    by_cases hl : isLaid q.four o = true
    · have hAo : ∀ v, o.dst = some v → (v = q.d0 ∨ v = q.d1 ∨ v = q.d2 ∨ v = q.d3) → True := fun _ _ _ => trivial
      have hRi : ∀ a', AppR q l.toArray F i a' := fun a' oj hoj hlj => by
        obtain rfl : o = oj := by rw [ho] at hoj; exact Option.some.inj hoj
        rw [hl] at hlj
        cases hlj
      have hsz := b1.size
      have hgi : ∀ k, (listed.setIfInBounds i true).getD k false = true → k = i ∨ listed.getD k false = true := fun k hk => listed_set hk
      have hgs : (listed.setIfInBounds i true).getD i false = true := by
        have : i < listed.size := by omega
        simp [this]
      have hdone : ∀ j, listed.getD j false = true → lWaits l.toArray j i = true → False := fun j hj hw => by
        have hjo : ∃ oj, l.toArray[j]? = some oj := by
          unfold lWaits at hw
          cases e : l.toArray[j]? with
          | none => rw [e] at hw; cases hw
          | some oj => exact ⟨oj, rfl⟩
        obtain ⟨oj, hoj⟩ := hjo
        obtain ⟨ed, he, hb, hq⟩ := lwaits_at hw hoj
        have := hcl j oj hj hoj ed he hb
        rw [hq, hun] at this
        cases this
      rcases S.laid i o hi ho hl with rfl | rfl | rfl | rfl
      · -- the empty slice
        obtain rfl : o = p0 := by rw [hp0] at ho; exact (Option.some.inj ho).symm
        have hev : execOp a.eval o = execOp F.eval o := look_eval (S.slots.nosel _ o ho) (fun d hd => hlook _ o a w l0 ho b4 hRq d (fun j hj hdj => (look_of lk0 ho d hd j hj hdj).2))
        refine lop_of ho g0 ?_
        unfold Oper.wp
        rw [hev, hr0 w]
        simp only [Oper.upon]
        have hb : Below w.heap.size w (w.alloc (.cells #[] e)) := (Below.refl _ _).alloc (Nat.le_refl _) _
        have hp1' : (a.put o.dst (sl1 w.heap.size 0)).tmps[q.d1]? = a.tmps[q.d1]? := lput_off (by rw [s0]; intro h; injection h with h; exact m01 h)
        have hp2' : (a.put o.dst (sl1 w.heap.size 0)).tmps[q.d2]? = a.tmps[q.d2]? := lput_off (by rw [s0]; intro h; injection h with h; exact m02 h)
        have hp3' : (a.put o.dst (sl1 w.heap.size 0)).tmps[q.d3]? = a.tmps[q.d3]? := lput_off (by rw [s0]; intro h; injection h with h; exact m03 h)
        refine ⟨⟨below_onto b1 hb, lput_size.trans b2, lput_defers.trans b3, hB4 _, ⟨?_, ?_, ?_, ?_⟩⟩, hRi _, hoth _⟩
        · rw [getD_set_k n01, getD_set_k n02]
          intro _ h1
          refine ⟨w.heap.size, by rw [s0]; exact lput_at (by rw [b2]; exact ht0), sl_own_new hC w W.heap.size hsz [] #[] (by simp [flat]) (by simp) 0 rfl, fun h2 g2 hg2 => ?_⟩
          rw [hp2'] at hg2
          have h3 : listed.getD q.i3 false = false := by
            cases h : listed.getD q.i3 false with
            | false => rfl
            | true =>
              obtain ⟨ed, he, hb, hq⟩ := lwaits_at S.w31 hp3
              have := hcl q.i3 p3 h hp3 ed he hb
              rw [hq, h1] at this
              cases this
          obtain ⟨g, x1, x2⟩ := bX.x2 h2 h3
          rw [x1] at hg2
          obtain rfl := sl1_inj (Option.some.inj hg2)
          exact Nat.ne_of_lt (Array.getElem?_eq_some_iff.1 x2).1
        · rw [getD_set_k n01, getD_set_k n03, getD_set_k n02, hp1', hp2']
          intro h1 h2
          obtain ⟨v, x1, x2, x3⟩ := bX.x1 h1 h2
          exact ⟨v, x1, x2.below hb, x3⟩
        · rw [getD_set_k n02, getD_set_k n03, hp2']
          intro h1 h2
          obtain ⟨g, x1, x2⟩ := bX.x2 h1 h2
          exact ⟨g, x1, heap_keep x2 hb⟩
        · rw [getD_set_k n03, hp3']
          intro h1
          obtain ⟨v, x1, x2⟩ := bX.x3 h1
          exact ⟨v, x1, x2.below hb⟩
      · -- the copy
        obtain rfl : o = p1 := by rw [hp1] at ho; exact (Option.some.inj ho).symm
        have hi0l : listed.getD q.i0 false = true := by
          obtain ⟨ed, he, hb, hq⟩ := lwaits_at S.w10 ho
          have := (hR0 ed he hb).2
          rw [hq] at this
          exact this
        obtain ⟨g, x1, x2, x3⟩ := bX.x0 hi0l hun
        have hsx : a.eval (.tmp q.sx) = F.eval (.tmp q.sx) := leval_tmp (hlook _ o a w l1 ho b4 hRq q.sx (fun j hj hdj => ⟨(S.sx j hj hdj).1, lwaits_at (S.sx j hj hdj).2 ho⟩))
        refine lop_of ho g1 ?_
        have hst := step_append_sl (P := P) (ops := l.toArray) (o := o) (a := a) (w := w) (Q := Q) (E := True) (K := fun a' w' => (Below W.heap.size W w' ∧ a'.tmps.size = T0.size ∧ a'.defers = [] ∧ (∀ t, (∀ i, i < m → dstOf l.toArray i ≠ some t) → a'.tmps[t]? = T0[t]?) ∧ AppX C n e q W.heap.size As z (listed.setIfInBounds q.i1 true) a' w') ∧ AppR q l.toArray F q.i1 a' ∧ ∀ j oj, j < m → listed.getD j false = true → l.toArray[j]? = some oj → j ≠ q.i1 → (∀ e ∈ oj.after, Region.binds .any e = true → e.on ≠ q.i1) → AppR q l.toArray F j a → AppR q l.toArray F j a')
          hE hC hone g1 (.tmp q.d0) (.tmp q.sx) e1 (sl1 g 0) (F.eval (.tmp q.sx)) (leval_at x1) hsx W.heap.size [] As x2 (hAs w b1) (by simp; omega) hsz ?_
        · have hw : Region.wanted o (yielded l.toArray a.tmps) = true := by simp [Region.wanted, g1]
          rw [if_pos hw] at hst
          exact hst
        · intro v' w' ho' hg' ha'
          rw [List.nil_append] at ho'
          have hp0' : (a.put o.dst v').tmps[q.d0]? = a.tmps[q.d0]? := lput_off (by rw [s1]; intro h; injection h with h; exact m01 h.symm)
          have hp2' : (a.put o.dst v').tmps[q.d2]? = a.tmps[q.d2]? := lput_off (by rw [s1]; intro h; injection h with h; exact m12 h)
          have hp3' : (a.put o.dst v').tmps[q.d3]? = a.tmps[q.d3]? := lput_off (by rw [s1]; intro h; injection h with h; exact m13 h)
          have hn3 : listed.getD q.i3 false = false := by
            cases h : listed.getD q.i3 false with
            | false => rfl
            | true => exact (hdone q.i3 h S.w31).elim
          have hgb : W.heap.size ≤ g := x2.from_ (k := g) rfl
          refine ⟨⟨b1.grown hg' hsz (fun k hk => by simp [sl1, Value.ownBlock] at hk; omega), lput_size.trans b2, lput_defers.trans b3, hB4 _, ⟨?_, ?_, ?_, ?_⟩⟩, hRi _, hoth _⟩
          · intro _ h1
            rw [hgs] at h1
            cases h1
          · rw [getD_set_k n13, getD_set_k n12, hp2']
            intro _ _
            refine ⟨v', by rw [s1]; exact lput_at (by rw [b2]; exact ht1), ho', fun h2 g2 hg2 hv => ?_⟩
            have hne := x3 h2 g2 hg2
            rcases ha' with h | h
            · rw [h] at hv
              simp [sl1, Value.ownBlock] at hv
              exact hne hv.symm
            · rw [h] at hv
              injection hv with hv
              obtain ⟨g', y1, y2⟩ := bX.x2 h2 hn3
              rw [y1] at hg2
              obtain rfl := sl1_inj (Option.some.inj hg2)
              have := (Array.getElem?_eq_some_iff.1 y2).1
              omega
          · rw [getD_set_k n12, getD_set_k n13, hp2']
            intro h1 h2
            obtain ⟨g', y1, y2⟩ := bX.x2 h1 h2
            have hne := x3 h1 g' y1
            exact ⟨g', y1, (hg'.block g' (Array.getElem?_eq_some_iff.1 y2).1 (by simp [sl1, Value.ownBlock]; exact hne)).trans y2⟩
          · rw [getD_set_k n13]
            intro h1
            rw [hn3] at h1
            cases h1
      · -- what comes to it
        obtain rfl : o = p2 := by rw [hp2] at ho; exact (Option.some.inj ho).symm
        have hev : execOp a.eval o = execOp F.eval o := look_eval (S.slots.nosel _ o ho) (fun d hd => hlook _ o a w l2 ho b4 hRq d (fun j hj hdj => (look_of lk2 ho d hd j hj hdj).2))
        refine lop_of ho g2 ?_
        unfold Oper.wp
        rw [hev, hr2 w]
        simp only [Oper.upon]
        have hb : Below w.heap.size w (w.alloc (.cells (C z).toArray e)) := (Below.refl _ _).alloc (Nat.le_refl _) _
        have hp0' : (a.put o.dst (sl1 w.heap.size 1)).tmps[q.d0]? = a.tmps[q.d0]? := lput_off (by rw [s2]; intro h; injection h with h; exact m02 h.symm)
        have hp1' : (a.put o.dst (sl1 w.heap.size 1)).tmps[q.d1]? = a.tmps[q.d1]? := lput_off (by rw [s2]; intro h; injection h with h; exact m12 h.symm)
        have hp3' : (a.put o.dst (sl1 w.heap.size 1)).tmps[q.d3]? = a.tmps[q.d3]? := lput_off (by rw [s2]; intro h; injection h with h; exact m23 h)
        have hp2' : (a.put o.dst (sl1 w.heap.size 1)).tmps[q.d2]? = some (sl1 w.heap.size 1) := by rw [s2]; exact lput_at (by rw [b2]; exact ht2)
        refine ⟨⟨below_onto b1 hb, lput_size.trans b2, lput_defers.trans b3, hB4 _, ⟨?_, ?_, ?_, ?_⟩⟩, hRi _, hoth _⟩
        · rw [getD_set_k (Ne.symm n02), getD_set_k (Ne.symm n12), hp0', hp2']
          intro h1 h2
          obtain ⟨g, x1, x2, x3⟩ := bX.x0 h1 h2
          refine ⟨g, x1, x2.below hb, fun _ g2 hg2 => ?_⟩
          obtain rfl := sl1_inj (Option.some.inj hg2)
          have := x2.lt (k := g) rfl
          omega
        · rw [getD_set_k (Ne.symm n12), getD_set_k n23, hp1', hp2']
          intro h1 h2
          obtain ⟨v, x1, x2, x3⟩ := bX.x1 h1 h2
          refine ⟨v, x1, x2.below hb, fun _ g2 hg2 hv => ?_⟩
          obtain rfl := sl1_inj (Option.some.inj hg2)
          have := x2.lt hv
          omega
        · rw [hp2']
          intro _ _
          exact ⟨w.heap.size, rfl, heap_alloc_new w _⟩
        · rw [getD_set_k n23, hp3']
          intro h1
          obtain ⟨v, x1, x2⟩ := bX.x3 h1
          exact ⟨v, x1, x2.below hb⟩
      · -- the whole
        obtain rfl : o = p3 := by rw [hp3] at ho; exact (Option.some.inj ho).symm
        have hi1l : listed.getD q.i1 false = true := by
          obtain ⟨ed, he, hb, hq⟩ := lwaits_at S.w31 ho
          have := (hR0 ed he hb).2
          rw [hq] at this
          exact this
        have hi2l : listed.getD q.i2 false = true := by
          obtain ⟨ed, he, hb, hq⟩ := lwaits_at S.w32 ho
          have := (hR0 ed he hb).2
          rw [hq] at this
          exact this
        obtain ⟨v, x1, x2, x3⟩ := bX.x1 hi1l hun
        obtain ⟨g, y1, y2⟩ := bX.x2 hi2l hun
        have hsl : IsSl C n w (sl1 g 1) [z] := by
          refine ⟨some ⟨g, 0, none⟩, 1, rfl, Nat.le_refl _, Lib.hid fun _ => ⟨g, 0, rfl, (Array.getElem?_eq_some_iff.1 y2).1, fun k hk j u hu => ?_⟩⟩
          have hk0 : k = 0 := by simp at hk; omega
          subst hk0
          rw [cell_of_row w g _ _ _ (0, 0) y2]
          simpa using hu
        refine lop_of ho g3 ?_
        have hst := step_append_sl (P := P) (ops := l.toArray) (o := o) (a := a) (w := w) (Q := Q) (E := True) (K := fun a' w' => (Below W.heap.size W w' ∧ a'.tmps.size = T0.size ∧ a'.defers = [] ∧ (∀ t, (∀ i, i < m → dstOf l.toArray i ≠ some t) → a'.tmps[t]? = T0[t]?) ∧ AppX C n e q W.heap.size As z (listed.setIfInBounds q.i3 true) a' w') ∧ AppR q l.toArray F q.i3 a' ∧ ∀ j oj, j < m → listed.getD j false = true → l.toArray[j]? = some oj → j ≠ q.i3 → (∀ e ∈ oj.after, Region.binds .any e = true → e.on ≠ q.i3) → AppR q l.toArray F j a → AppR q l.toArray F j a')
          hE hC hone g3 (.tmp q.d1) (.tmp q.d2) e3 v (sl1 g 1) (leval_at x1) (leval_at y1) W.heap.size As [z] x2 hsl (by simp; omega) hsz ?_
        · have hw : Region.wanted o (yielded l.toArray a.tmps) = true := by simp [Region.wanted, g3]
          rw [if_pos hw] at hst
          exact hst
        · intro v' w' ho' hg' ha'
          refine ⟨⟨b1.grown hg' hsz (fun k hk => x2.from_ hk), lput_size.trans b2, lput_defers.trans b3, hB4 _, ⟨?_, ?_, ?_, ?_⟩⟩, hRi _, hoth _⟩
          · rw [getD_set_k (Ne.symm n13)]
            intro _ h1
            rw [hi1l] at h1
            cases h1
          · intro _ h1
            rw [hgs] at h1
            cases h1
          · intro _ h1
            rw [hgs] at h1
            cases h1
          · intro _
            exact ⟨v', by rw [s3]; exact lput_at (by rw [b2]; exact ht3), ho'⟩
    · have hl : isLaid q.four o = false := by simpa using hl
      obtain ⟨hy, hv⟩ := hF5 i o (Nat.zero_le _) hi ho hl
      have hy' : Lyields P l.toArray (fun w => Below W.heap.size W w) o (V i) a := hy.of_same (S.slots.nosel i o ho) (fun d hd => hlook i o a w hi ho b4 hRq d (fun j hj hdj => (S.slots.look i o hi ho hl d hd j hj hdj).2))
      have hnd : ∀ d, (d = q.d0 ∨ d = q.d1 ∨ d = q.d2 ∨ d = q.d3) → o.dst ≠ some d := fun d hd e => by
        rw [hlaid i o d ho e hd] at hl
        cases hl
      have hni : i ≠ q.i0 ∧ i ≠ q.i1 ∧ i ≠ q.i2 ∧ i ≠ q.i3 := by
        refine ⟨fun e => ?_, fun e => ?_, fun e => ?_, fun e => ?_⟩
        · subst e; rw [hp0] at ho; injection ho with ho; subst ho; exact hnd _ (.inl rfl) s0
        · subst e; rw [hp1] at ho; injection ho with ho; subst ho; exact hnd _ (.inr (.inl rfl)) s1
        · subst e; rw [hp2] at ho; injection ho with ho; subst ho; exact hnd _ (.inr (.inr (.inl rfl))) s2
        · subst e; rw [hp3] at ho; injection ho with ho; subst ho; exact hnd _ (.inr (.inr (.inr rfl))) s3
      have hK : ∀ w', Below w.heap.size w w' → (Below W.heap.size W w' ∧ (a.put o.dst (V i)).tmps.size = T0.size ∧ (a.put o.dst (V i)).defers = [] ∧ (∀ t, (∀ i, i < m → dstOf l.toArray i ≠ some t) → (a.put o.dst (V i)).tmps[t]? = T0[t]?) ∧ AppX C n e q W.heap.size As z (listed.setIfInBounds i true) (a.put o.dst (V i)) w') ∧ AppR q l.toArray F i (a.put o.dst (V i)) ∧ ∀ j oj, j < m → listed.getD j false = true → l.toArray[j]? = some oj → j ≠ i → (∀ e ∈ oj.after, Region.binds .any e = true → e.on ≠ i) → AppR q l.toArray F j a → AppR q l.toArray F j (a.put o.dst (V i)) := fun w' hb => by
        refine ⟨⟨below_onto b1 hb, lput_size.trans b2, lput_defers.trans b3, hB4 _, bX.keep hni hb (lput_off (hnd _ (.inl rfl))) (lput_off (hnd _ (.inr (.inl rfl)))) (lput_off (hnd _ (.inr (.inr (.inl rfl))))) (lput_off (hnd _ (.inr (.inr (.inr rfl)))))⟩, fun oj hoj hlj d hd => ?_, hoth _⟩
        obtain rfl : o = oj := by rw [ho] at hoj; exact Option.some.inj hoj
        have hFs' : F.tmps.size = T0.size := hFs
        by_cases hds : d < T0.size
        · rw [hd, lput_at (by rw [b2]; exact hds), hv d hd hds]
        · rw [Array.getElem?_eq_none (by rw [lput_size, b2]; exact Nat.le_of_not_lt hds), Array.getElem?_eq_none (by rw [hFs']; exact Nat.le_of_not_lt hds)]
      unfold wpOp
      rw [ho]
      rcases hy' with ⟨hw, hv'⟩ | ⟨hw, hv'⟩
      · simp only [hw, if_true]
        left
        have h3 := hv' w b1
        unfold Oper.wp
        generalize (execOp a.eval o).run P w = r at *
        cases r with
        | ok n w' =>
          cases n <;> simp only [Lupon] at h3 <;> simp only [Oper.upon]
          case value u =>
            obtain ⟨rfl, rfl⟩ := h3
            exact hK _ (Below.refl _ _)
          case skip =>
            obtain ⟨rfl, e2⟩ := h3
            rw [← e2]
            exact hK _ (Below.refl _ _)
          case enter f args =>
            obtain ⟨rfl, hc⟩ := h3
            exact hc.mono fun e w'' ⟨he, hw''⟩ => by subst he; exact hK _ hw''
        | halt x w' => simp only [Lupon] at h3
      · simp only [hw, Bool.false_eq_true, if_false]
        rw [← hv']
        exact hK _ (Below.refl _ _)
  · intro a w listed hB hR0
    obtain ⟨b1, b2, b3, b4, bX⟩ := hB
    obtain ⟨v3, y3, own3⟩ := bX.x3 (hR0 q.i3 l3).2
    have hex : ∀ d, d < T0.size → ∃ v, a.tmps[d]? = some v := fun d hd => ⟨_, Array.getElem?_eq_getElem (by omega)⟩
    obtain ⟨v0, y0⟩ := hex q.d0 ht0
    obtain ⟨v1, y1⟩ := hex q.d1 ht1
    obtain ⟨v2, y2⟩ := hex q.d2 ht2
    have hres := hE2 w v0 v1 v2 v3 b1 own3
    have hFs' : F.tmps.size = T0.size := hFs
    have : ((((F.put (some q.d0) v0).put (some q.d1) v1).put (some q.d2) v2).put (some q.d3) v3) = a := by
      refine Act.ext_tmps (Array.ext_getElem? fun t => ?_) (by rw [lput_defers, lput_defers, lput_defers, lput_defers]; exact hFd.trans b3.symm)
      by_cases h3 : q.d3 = t
      · subst h3
        rw [lput_at (by rw [lput_size, lput_size, lput_size, hFs']; exact ht3), y3]
      rw [lput_off (by intro h; injection h with h; exact h3 h)]
      by_cases h2 : q.d2 = t
      · subst h2
        rw [lput_at (by rw [lput_size, lput_size, hFs']; exact ht2), y2]
      rw [lput_off (by intro h; injection h with h; exact h2 h)]
      by_cases h1 : q.d1 = t
      · subst h1
        rw [lput_at (by rw [lput_size, hFs']; exact ht1), y1]
      rw [lput_off (by intro h; injection h with h; exact h1 h)]
      by_cases h0 : q.d0 = t
      · subst h0
        rw [lput_at (by rw [hFs']; exact ht0), y0]
      rw [lput_off (by intro h; injection h with h; exact h0 h)]
      by_cases hx : ∃ j, j < m ∧ dstOf l.toArray j = some t
      · obtain ⟨j, hj, hdj⟩ := hx
        have hoj : l.toArray[j]? = some l.toArray[j] := Array.getElem?_eq_getElem (by omega)
        have hdj' : l.toArray[j].dst = some t := by unfold dstOf at hdj; rw [hoj] at hdj; exact hdj
        cases hl : isLaid q.four l.toArray[j] with
        | false => exact ((hR0 j hj).1 _ hoj hl t hdj').symm
        | true =>
          exfalso
          rcases S.laid j _ hj hoj hl with rfl | rfl | rfl | rfl
          · rw [hp0] at hoj; injection hoj with hoj; rw [← hoj, s0] at hdj'; injection hdj' with h; exact h0 h
          · rw [hp1] at hoj; injection hoj with hoj; rw [← hoj, s1] at hdj'; injection hdj' with h; exact h1 h
          · rw [hp2] at hoj; injection hoj with hoj; rw [← hoj, s2] at hdj'; injection hdj' with h; exact h2 h
          · rw [hp3] at hoj; injection hoj with hoj; rw [← hoj, s3] at hdj'; injection hdj' with h; exact h3 h
      · have h' : ∀ j, j < m → dstOf l.toArray j ≠ some t := fun j hj e => hx ⟨j, hj, e⟩
        rw [b4 t h', hF4 t (fun j _ hj _ => h' j hj)]
    rw [this] at hres
    exact hres
  · refine ⟨(Below.refl _ _).drew, rfl, rfl, fun _ _ => rfl, ⟨?_, ?_, ?_, ?_⟩⟩
    all_goals
      intro h
      rw [none_listed] at h
      cases h
end
/- Mk1 -/
/-- The maker's numbers; the floats and the atoms lie in slices. -/
structure Mkr where
  a : Int
  b : Int
  y : Int
  t : Int
  As : List (Int × Int)
def mkC (vL vA : Value) (m : Mkr) : List Value := [vL, .int .i64 m.a, .int .i64 m.b, .int .i64 m.y, .int .i64 m.t, vA]
theorem mkInfo : (Try.prog.info? 99).map (·.size) = some 6 := by kernel_rfl
theorem rectInfo47 : (Try.prog.info? 47).map (·.size) = some 4 := by kernel_rfl
/-- Numbers that the document's answers stand within. -/
structure MkOk (m : Mkr) : Prop where
  ha : -1125899906842624 ≤ m.a ∧ m.a ≤ 1125899906842624
  hb : -1125899906842624 ≤ m.b ∧ m.b ≤ 1125899906842624
  ht : -4503599627370496 ≤ m.t ∧ m.t ≤ 2251799813685248
  hA : ∀ z ∈ m.As, szOk z
  hl : m.As.length ≤ 1000
theorem cells6 {w : World} {b : Nat} {x0 x1 x2 x3 x4 x5 : Value} {T : TypeId} (h : w.heap[b]? = some (.cells #[x0, x1, x2, x3, x4, x5] T (0, 0))) :
    w.cell? ⟨b, 0, none⟩ = some x0 ∧ w.cell? ⟨b, 1, none⟩ = some x1 ∧ w.cell? ⟨b, 2, none⟩ = some x2 ∧ w.cell? ⟨b, 3, none⟩ = some x3 ∧ w.cell? ⟨b, 4, none⟩ = some x4 ∧ w.cell? ⟨b, 5, none⟩ = some x5 :=
  ⟨cell_of_row w b 0 _ _ (0, 0) h, cell_of_row w b 1 _ _ (0, 0) h, cell_of_row w b 2 _ _ (0, 0) h, cell_of_row w b 3 _ _ (0, 0) h, cell_of_row w b 4 _ _ (0, 0) h, cell_of_row w b 5 _ _ (0, 0) h⟩
def boxM (L : List Fo) (m : Mkr) : Int × Int := freeS L m.a m.b m.t (highL m.As)
set_option maxRecDepth 20000 in
set_option maxHeartbeats 4000000 in
theorem rbox13_any (L : List Fo) (vL vA : Value) (m : Mkr) (w : World) (hf : IsFos w vL L) (hn : L.length ≤ maxLen) (hA : IsSl szC 2 w vA m.As) (hm : MkOk m) :
    Calls Try.prog 104 #[.agg #[vL, .int .i64 m.a, .int .i64 m.b, .int .i64 m.y, .int .i64 m.t, vA]] w fun e w' => e = .returned (.agg #[.int .i64 (boxM L m).1, .int .i64 m.t, .int .i64 (boxM L m).2, .int .i64 (m.t + highL m.As)]) ∧ Below w.heap.size w w' := by
  obtain ⟨h1, h2, h3, h4, h5⟩ := hm
  have hH := highL_in h4
  have hhi := fun w h => high13_any vA m.As w h (by omega)
  have hfr := fun w h => rfree_any L vL m.a m.b m.t (highL m.As) w h hn (by omega) (by omega)
  unfold TupPost at hfr
  unfold boxM
  obtain ⟨⟨p1, p2⟩, hp⟩ : ∃ p, freeS L m.a m.b m.t (highL m.As) = p := ⟨_, rfl⟩
  rw [hp] at hfr ⊢
  simp only at hfr ⊢
  obtain ⟨H, hH2⟩ : ∃ H, highL m.As = H := ⟨_, rfl⟩
  rw [hH2] at hH hhi hfr ⊢
  have hsum : IntKind.i64.wrap (m.t + H) = m.t + H := by rw [IntKind.wrap_i64]; omega
  obtain ⟨b0, hb0⟩ : ∃ b, w.heap.size = b := ⟨_, rfl⟩
  obtain ⟨W, hW⟩ : ∃ W, (w.alloc (.cells #[vL, .int .i64 m.a, .int .i64 m.b, .int .i64 m.y, .int .i64 m.t, vA] 99)).alloc (.cells #[.int .i64 0, .int .i64 0, .int .i64 0, .int .i64 0] 47) = W := ⟨_, rfl⟩
  have hB : Below w.heap.size w W := by rw [← hW]; exact ((Below.refl _ _).alloc (Nat.le_refl _) _).alloc (by simp) _
  have g0 : W.heap[b0]? = some (.cells #[vL, .int .i64 m.a, .int .i64 m.b, .int .i64 m.y, .int .i64 m.t, vA] 99 (0, 0)) := by rw [← hW, ← hb0, heap_alloc_old _ _ (by simp), heap_alloc_new]
  have g1 : W.heap[b0 + 1]? = some (.cells #[.int .i64 0, .int .i64 0, .int .i64 0, .int .i64 0] 47 (0, 0)) := by rw [← hW, ← hb0]; exact heap_alloc2_new w _ _
  have HF := Lib.hid (fun w' (e : Below W.heap.size W w') => hf.below (hB.trans (e.mono hB.size)) (Nat.le_refl _))
  have HA := Lib.hid (fun w' (e : Below W.heap.size W w') => hA.below (hB.trans (e.mono hB.size)) (Nat.le_refl _))
  have HHI := Lib.hid (fun w' (e : Below W.heap.size W w') => (hhi w' (HA.out w' e)).mono (R' := fun e w2 => e = .returned (.int .i64 H) ∧ Below w'.heap.size w' w2) (fun e w2 ⟨h1, h2⟩ => ⟨h1, by subst h2; exact Below.refl _ _⟩))
  have HFR := Lib.hid (fun w' (e : Below W.heap.size W w') => hfr w' (HF.out w' e))
  have HK : Hid (∀ w', Below W.heap.size W w' → w'.cell? ⟨b0, 0, none⟩ = some vL ∧ w'.cell? ⟨b0, 1, none⟩ = some (.int .i64 m.a) ∧ w'.cell? ⟨b0, 2, none⟩ = some (.int .i64 m.b) ∧ w'.cell? ⟨b0, 3, none⟩ = some (.int .i64 m.y) ∧ w'.cell? ⟨b0, 4, none⟩ = some (.int .i64 m.t) ∧ w'.cell? ⟨b0, 5, none⟩ = some vA) := Lib.hid fun w' e => cells6 (blk_keep g0 e)
  have HW := Lib.hid hW
  have HB0 := Lib.hid hb0
  have HB := Lib.hid hB
  have G1 := Lib.hid g1
  clear hf hA hhi hfr hp hH2 hW hb0 hB g0 g1 h4
  obtain ⟨ma, mb, my, mt, As⟩ := m
  simp only at *
  go_enter Try.func104, Try.ntmps104
  go_wp2_with fail
  rw [HW.out, HB0.out]
  (try simp only [Act.put, List.setIfInBounds_toArray, List.set_cons_zero, List.set_cons_succ])
  (refine wp_region_laid_l (by kernel_rfl) [] 17 (by kernel_rfl) (by kernel_rfl) ?_; (repeat (first | (refine wpLex_laid (by rfl) ?_) | (refine wpLex_no (by rfl) (by rfl) ?_; go_simp) | (refine wpLex_val (by rfl) (by rfl) _ (by intro wq hq; have hSw := HK.out wq hq; (try dsimp only at hSw); go_simp; rfl) ?_; go_simp) | (refine wpLex_call (by rfl) (by rfl) _ _ (by intro wq hq; have hSw := HK.out wq hq; (try dsimp only at hSw); go_simp; exact ⟨rfl, rfl⟩) _ (by intro wq hq; have hSw := HK.out wq hq; (try dsimp only at hSw); first | (go_at_call 51; exact (HHI.out wq hq)) | (go_at_call 20; exact (HFR.out wq hq))) ?_; go_simp))); refine wpLex_zero ?_)
  refine lend_none fun w1 hb1 => ?_
  have HB1 := Lib.hid (show Below W.heap.size W w1 from hb1)
  have HK1 : Hid (∀ w', Below w1.heap.size w1 w' → w'.cell? ⟨b0, 0, none⟩ = some vL ∧ w'.cell? ⟨b0, 1, none⟩ = some (.int .i64 ma) ∧ w'.cell? ⟨b0, 2, none⟩ = some (.int .i64 mb) ∧ w'.cell? ⟨b0, 3, none⟩ = some (.int .i64 my) ∧ w'.cell? ⟨b0, 4, none⟩ = some (.int .i64 mt) ∧ w'.cell? ⟨b0, 5, none⟩ = some vA) := Lib.hid fun w' e => HK.out w' (below_onto hb1 e)
  clear hb1
  go_wp2_with fail
  (refine wp_region_laid_l (by kernel_rfl) [] 11 (by kernel_rfl) (by kernel_rfl) ?_; (repeat (first | (refine wpLex_laid (by rfl) ?_) | (refine wpLex_no (by rfl) (by rfl) ?_; go_simp) | (refine wpLex_val (by rfl) (by rfl) _ (by intro wq hq; have hSw := HK1.out wq hq; (try dsimp only at hSw); go_simp; rfl) ?_; go_simp) | (refine wpLex_call (by rfl) (by rfl) _ _ (by intro wq hq; have hSw := HK1.out wq hq; (try dsimp only at hSw); go_simp; exact ⟨rfl, rfl⟩) _ (by intro wq hq; have hSw := HK1.out wq hq; (try dsimp only at hSw); first | (go_at_call 51; exact (HHI.out wq (below_onto HB1.out hq)))) ?_; go_simp))); refine wpLex_zero ?_)
  refine lend_tail fun w2 hb2 => ?_
  have HB2 := Lib.hid (below_onto HB1.out hb2)
  have HG2 := Lib.hid (blk_keep G1.out (below_onto HB1.out hb2))
  clear hb2 HK HK1
  go_wp2_with (first
    | ((with_reducible refine store_row (dst := none) 47 (.tmp 2) (.tmp 30) (b0 + 1) _ #[.int .i64 p1, .int .i64 mt, .int .i64 p2, .int .i64 (mt + H)] 47 HG2.out ?_ ?_ ?_ ?_ ?_ ?_); rfl; rfl; exact rectInfo47; rfl; (simp [Value.oneCell']); intro w6 hw6 hg6 hz7; have HW6 := Lib.hid hw6; have HG6 := Lib.hid hg6; clear hw6 hg6))
  have d0 := cell_of_row w6 (b0 + 1) 0 _ _ (0, 0) HW6.out
  have d1 := cell_of_row w6 (b0 + 1) 1 _ _ (0, 0) HW6.out
  have d2 := cell_of_row w6 (b0 + 1) 2 _ _ (0, 0) HW6.out
  have d3 := cell_of_row w6 (b0 + 1) 3 _ _ (0, 0) HW6.out
  refine bodyPost_ret (v := .agg #[.int .i64 p1, .int .i64 mt, .int .i64 p2, .int .i64 (mt + H)]) (by simp [results, Try.results104, go_sem, d0, d1, d2, d3]) rfl ⟨rfl, (HB.out.trans (HB2.out.mono HB.out.size)).grown HG6.out (by have := HB.out.size; have := HB2.out.size; omega) (fun k hk => by injection hk with hk; have := HB0.out; omega)⟩
theorem rlnInfo : (Try.prog.info? 101).map (·.size) = some 6 := by kernel_rfl
def lineM (L : List Fo) (m : Mkr) : Lnq := if m.As = [] then ⟨0, 0, 0, 0, 0, 0⟩ else ⟨(boxM L m).1, m.t, (boxM L m).2, m.t + highL m.As, m.As.length, wideL m.As⟩
set_option maxRecDepth 20000 in
set_option maxHeartbeats 4000000 in
theorem rnow_any (L : List Fo) (vL vA : Value) (m : Mkr) (w : World) (hf : IsFos w vL L) (hn : L.length ≤ maxLen) (hA : IsSl szC 2 w vA m.As) (hm : MkOk m) :
    Calls Try.prog 79 #[.agg #[vL, .int .i64 m.a, .int .i64 m.b, .int .i64 m.y, .int .i64 m.t, vA]] w fun e w' => e = .returned (.agg (lnqC (lineM L m)).toArray) ∧ Below w.heap.size w w' := by
  obtain ⟨h1, h2, h3, h4, h5⟩ := id hm
  have hbx := fun w h1 h2 => rbox13_any L vL vA m w h1 hn h2 hm
  have hwd := fun w h => wide13_any vA m.As w h h4 (by omega)
  have hHin := highL_in h4
  obtain ⟨b0, hb0⟩ : ∃ b, w.heap.size = b := ⟨_, rfl⟩
  obtain ⟨W, hW⟩ : ∃ W, (w.alloc (.cells #[vL, .int .i64 m.a, .int .i64 m.b, .int .i64 m.y, .int .i64 m.t, vA] 99)).alloc (.cells #[.int .i64 0, .int .i64 0, .int .i64 0, .int .i64 0, .int .i64 0, .int .i64 0] 101) = W := ⟨_, rfl⟩
  have hB : Below w.heap.size w W := by rw [← hW]; exact ((Below.refl _ _).alloc (Nat.le_refl _) _).alloc (by simp) _
  have g0 : W.heap[b0]? = some (.cells #[vL, .int .i64 m.a, .int .i64 m.b, .int .i64 m.y, .int .i64 m.t, vA] 99 (0, 0)) := by rw [← hW, ← hb0, heap_alloc_old _ _ (by simp), heap_alloc_new]
  have g1 : W.heap[b0 + 1]? = some (.cells #[.int .i64 0, .int .i64 0, .int .i64 0, .int .i64 0, .int .i64 0, .int .i64 0] 101 (0, 0)) := by rw [← hW, ← hb0]; exact heap_alloc2_new w _ _
  have HF := Lib.hid (fun w' (e : Below W.heap.size W w') => hf.below (hB.trans (e.mono hB.size)) (Nat.le_refl _))
  have HA := Lib.hid (fun w' (e : Below W.heap.size W w') => hA.below (hB.trans (e.mono hB.size)) (Nat.le_refl _))
  obtain ⟨A, cap, rfl, hcap, hAA⟩ := id hA
  have HWD := Lib.hid (fun w' (e : Below W.heap.size W w') => (hwd w' (HA.out w' e)).mono (R' := fun e w2 => e = .returned (.int .i64 (wideL m.As)) ∧ Below w'.heap.size w' w2) (fun e w2 ⟨h1, h2⟩ => ⟨h1, by subst h2; exact Below.refl _ _⟩))
  have HBX := Lib.hid (fun w' (e : Below W.heap.size W w') => hbx w' (HF.out w' e) (HA.out w' e))
  have HK : Hid (∀ w', Below W.heap.size W w' → w'.cell? ⟨b0, 0, none⟩ = some vL ∧ w'.cell? ⟨b0, 1, none⟩ = some (.int .i64 m.a) ∧ w'.cell? ⟨b0, 2, none⟩ = some (.int .i64 m.b) ∧ w'.cell? ⟨b0, 3, none⟩ = some (.int .i64 m.y) ∧ w'.cell? ⟨b0, 4, none⟩ = some (.int .i64 m.t) ∧ w'.cell? ⟨b0, 5, none⟩ = some (.slice A m.As.length cap)) := Lib.hid fun w' e => cells6 (blk_keep g0 e)
  have HW := Lib.hid hW
  have HB0 := Lib.hid hb0
  have HB := Lib.hid hB
  have G1 := Lib.hid g1
  obtain ⟨ma, mb, my, mt, As⟩ := m
  simp only at *
  by_cases hAs : As = []
  · have hl0 : As.length = 0 := by rw [hAs]; rfl
    have hq : lineM L ⟨ma, mb, my, mt, As⟩ = ⟨0, 0, 0, 0, 0, 0⟩ := if_pos hAs
    rw [hq]
    subst hAs
    simp only [List.length_nil, lnqC] at HW HB G1 ⊢
    clear HK hAA hcap hA hf hbx hwd hb0 hW hB g0 g1 hq HWD HBX HA HF hm h4
    go_enter Try.func79, Try.ntmps79
    go_wp2_with (first
      | ((with_reducible refine store_new (dst := none) 101 (.tmp 2) (.tmp 7) _ _ #[.int .i64 0, .int .i64 0, .int .i64 0, .int .i64 0, .int .i64 0, .int .i64 0] 101 rfl ?_ ?_ ?_ ?_ ?_ ?_); rfl; rfl; exact rlnInfo; rfl; (simp [Value.oneCell'])))
    rw [HW.out]
    obtain ⟨d0, d1, d2, d3, d4, d5⟩ := cells6 G1.out
    (try rw [HB0.out])
    refine bodyPost_ret (v := .agg #[.int .i64 0, .int .i64 0, .int .i64 0, .int .i64 0, .int .i64 0, .int .i64 0]) (by simp [results, Try.results79, go_sem, d0, d1, d2, d3, d4, d5]) rfl ⟨rfl, HB0.out ▸ HB.out⟩
  · have hl0 : ¬ As.length = 0 := fun e => hAs (List.eq_nil_of_length_eq_zero e)
    have hq : lineM L ⟨ma, mb, my, mt, As⟩ = ⟨(boxM L ⟨ma, mb, my, mt, As⟩).1, mt, (boxM L ⟨ma, mb, my, mt, As⟩).2, mt + highL As, As.length, wideL As⟩ := if_neg hAs
    rw [hq]
    obtain ⟨⟨p1, p2⟩, hp⟩ : ∃ p, boxM L ⟨ma, mb, my, mt, As⟩ = p := ⟨_, rfl⟩
    rw [hp] at HBX ⊢
    obtain ⟨H, hH⟩ : ∃ H, highL As = H := ⟨_, rfl⟩
    obtain ⟨D, hD⟩ : ∃ D, wideL As = D := ⟨_, rfl⟩
    rw [hH] at HBX ⊢
    rw [hD] at HWD ⊢
    simp only [lnqC] at HBX ⊢
    have hk0 : ¬ (As.length : Int) = 0 := by omega
    clear hAA hcap hA hf hbx hwd hb0 hW hB g0 g1 hAs hq hp hH hD hm h4 HA HF
    go_enter Try.func79, Try.ntmps79
    go_wp2_with fail
    rw [HW.out, HB0.out]
    (try simp only [Act.put, List.setIfInBounds_toArray, List.set_cons_zero, List.set_cons_succ])
    (refine wp_region_laid_l (by kernel_rfl) [] 9 (by kernel_rfl) (by kernel_rfl) ?_; (repeat (first | (refine wpLex_laid (by rfl) ?_) | (refine wpLex_no (by rfl) (by rfl) ?_; go_simp) | (refine wpLex_val (by rfl) (by rfl) _ (by intro wq hq; have hSw := HK.out wq hq; (try dsimp only at hSw); go_simp; rfl) ?_; go_simp) | (refine wpLex_call (by rfl) (by rfl) _ _ (by intro wq hq; have hSw := HK.out wq hq; (try dsimp only at hSw); go_simp; exact ⟨rfl, rfl⟩) _ (by intro wq hq; have hSw := HK.out wq hq; (try dsimp only at hSw); first | (go_at_call 104; exact (HBX.out wq hq)) | (go_at_call 50; exact (HWD.out wq hq))) ?_; go_simp))); refine wpLex_zero ?_)
    refine lend_tail fun w2 hb2 => ?_
    have HB2 := Lib.hid (show Below W.heap.size W w2 from hb2)
    have HG2 := Lib.hid (blk_keep G1.out hb2)
    clear hb2 HK
    go_wp2_with (first
      | ((with_reducible refine store_row (dst := none) 101 (.tmp 2) (.tmp 16) (b0 + 1) _ #[.int .i64 p1, .int .i64 mt, .int .i64 p2, .int .i64 (mt + H), .int .i64 As.length, .int .i64 D] 101 HG2.out ?_ ?_ ?_ ?_ ?_ ?_); rfl; rfl; exact rlnInfo; rfl; (simp [Value.oneCell']); intro w6 hw6 hg6 hz7; have HW6 := Lib.hid hw6; have HG6 := Lib.hid hg6; clear hw6 hg6))
    obtain ⟨d0, d1, d2, d3, d4, d5⟩ := cells6 HW6.out
    refine bodyPost_ret (v := .agg #[.int .i64 p1, .int .i64 mt, .int .i64 p2, .int .i64 (mt + H), .int .i64 As.length, .int .i64 D]) (by simp [results, Try.results79, go_sem, d0, d1, d2, d3, d4, d5]) rfl ⟨rfl, (HB.out.trans (HB2.out.mono HB.out.size)).grown HG6.out (by have := HB.out.size; have := HB2.out.size; omega) (fun k hk => by injection hk with hk; have := HB0.out; omega)⟩
/-- The maker whose line is ended. -/
def endM (m : Mkr) : Mkr := if m.As = [] then m else ⟨m.a, m.b, m.t + highL m.As, m.t, []⟩
set_option maxRecDepth 20000 in
set_option maxHeartbeats 4000000 in
theorem rend13_some (L : List Fo) (vL vA : Value) (m : Mkr) (w : World) (hf : IsFos w vL L) (hn : L.length ≤ maxLen) (hA : IsSl szC 2 w vA m.As) (hm : MkOk m) (hne : m.As ≠ []) :
    Calls Try.prog 80 #[.agg #[vL, .int .i64 m.a, .int .i64 m.b, .int .i64 m.y, .int .i64 m.t, vA]] w fun e w' => e = .returned (.agg #[vL, .int .i64 m.a, .int .i64 m.b, .int .i64 (m.t + highL m.As), .int .i64 m.t, .slice none 0 0]) ∧ Below w.heap.size w w' := by
  have hbx := fun w h1 h2 => rbox13_any L vL vA m w h1 hn h2 hm
  obtain ⟨b0, hb0⟩ : ∃ b, w.heap.size = b := ⟨_, rfl⟩
  obtain ⟨W, hW⟩ : ∃ W, (w.alloc (.cells #[vL, .int .i64 m.a, .int .i64 m.b, .int .i64 m.y, .int .i64 m.t, vA] 99)).alloc (.cells #[.slice none 0 0, .int .i64 0, .int .i64 0, .int .i64 0, .int .i64 0, .slice none 0 0] 99) = W := ⟨_, rfl⟩
  have hB : Below w.heap.size w W := by rw [← hW]; exact ((Below.refl _ _).alloc (Nat.le_refl _) _).alloc (by simp) _
  have g0 : W.heap[b0]? = some (.cells #[vL, .int .i64 m.a, .int .i64 m.b, .int .i64 m.y, .int .i64 m.t, vA] 99 (0, 0)) := by rw [← hW, ← hb0, heap_alloc_old _ _ (by simp), heap_alloc_new]
  have g1 : W.heap[b0 + 1]? = some (.cells #[.slice none 0 0, .int .i64 0, .int .i64 0, .int .i64 0, .int .i64 0, .slice none 0 0] 99 (0, 0)) := by rw [← hW, ← hb0]; exact heap_alloc2_new w _ _
  have hbox := hbx W (hf.below hB (Nat.le_refl _)) (hA.below hB (Nat.le_refl _))
  obtain ⟨A, cap, rfl, hcap, hAA⟩ := id hA
  obtain ⟨A2, cap2, rfl, hcap2, hAA2⟩ := id hf
  obtain ⟨ma, mb, my, mt, As⟩ := m
  simp only at *
  have hk0 : (0 : Int) < As.length := by have := List.length_pos_iff.2 hne; omega
  obtain ⟨⟨p1, p2⟩, hp⟩ : ∃ p, boxM L ⟨ma, mb, my, mt, As⟩ = p := ⟨_, rfl⟩
  rw [hp] at hbox
  obtain ⟨H, hH⟩ : ∃ H, highL As = H := ⟨_, rfl⟩
  rw [hH] at hbox ⊢
  have HBX := Lib.hid hbox
  have HW := Lib.hid hW
  have HB0 := Lib.hid hb0
  have HB := Lib.hid hB
  have G0 := Lib.hid g0
  have G1 := Lib.hid g1
  clear hA hf hbx hbox hb0 hW hB g0 g1 hm hne hp hH hcap hAA hcap2 hAA2
  go_enter Try.func80, Try.ntmps80
  go_wp2_with fail
  rw [HW.out]
  refine HBX.out.mono ?_
  rintro e w2 ⟨rfl, hb2⟩
  have g02 := blk_keep G0.out hb2
  obtain ⟨z0, z1, z2, z3, z4, z5⟩ := cells6 g02
  have f3 := frozen_of_row _ b0 3 _ _ g02
  have f5 := frozen_of_row _ b0 5 _ _ g02
  have HG02 := Lib.hid g02
  have HG12 := Lib.hid (blk_keep G1.out hb2)
  have HB2 := Lib.hid (HB.out.trans (hb2.mono HB.out.size))
  rw [HB0.out]
  clear hb2 g02
  have hix : ∀ w, (Instr.index 47 (.agg #[.int .i64 p1, .int .i64 mt, .int .i64 p2, .int .i64 (mt + H)]) (.int .i64 3)).run Try.prog w = .ok (.int .i64 (mt + H)) w := fun w => by kernel_rfl
  go_wp2_with (first
    | ((with_reducible refine store_row (dst := none) 99 (.tmp 2) (.tmp 12) (b0 + 1) _ #[.slice A2 L.length cap2, .int .i64 ma, .int .i64 mb, .int .i64 (mt + H), .int .i64 mt, .slice none 0 0] 99 ((heap_setCell_other _ _ (b0 + 1) _ (by simp)).trans ((heap_setCell_other _ _ (b0 + 1) _ (by simp)).trans HG12.out)) ?_ ?_ ?_ ?_ ?_ ?_); rfl; rfl; exact mkInfo; rfl; (simp [Value.oneCell']); intro w6 hw6 hg6 hz7; have HW6 := Lib.hid hw6; have HG6 := Lib.hid hg6; clear hw6 hg6))
  obtain ⟨d0, d1, d2, d3, d4, d5⟩ := cells6 HW6.out
  have hz := HB2.out.size
  have hb3 := ((HB2.out.setCell (p := ⟨b0, 3, none⟩) (by show w.heap.size ≤ b0; have := HB0.out; omega) (.int .i64 (mt + H))).setCell (p := ⟨b0, 5, none⟩) (by show w.heap.size ≤ b0; have := HB0.out; omega) (.slice none 0 0)).grown HG6.out (by simp; omega) (fun k hk => by injection hk with hk; have := HB0.out; omega)
  refine bodyPost_ret (v := .agg #[.slice A2 L.length cap2, .int .i64 ma, .int .i64 mb, .int .i64 (mt + H), .int .i64 mt, .slice none 0 0]) (by simp [results, Try.results80, go_sem, d0, d1, d2, d3, d4, d5]) rfl ⟨rfl, hb3⟩
set_option maxRecDepth 20000 in
set_option maxHeartbeats 4000000 in
theorem rbegins_any (L : List Fo) (vL vA : Value) (m : Mkr) (z1 z2 y : Int) (w : World) (hf : IsFos w vL L) (hn : L.length ≤ maxLen) (hsm : ∀ f ∈ L, smallF f = true) (hm : MkOk m) (hz : szOk (z1, z2)) (hy : -4503599627370496 ≤ y ∧ y ≤ 2251799813685248) :
    Calls Try.prog 103 #[.agg #[vL, .int .i64 m.a, .int .i64 m.b, .int .i64 m.y, .int .i64 m.t, vA], .agg #[.int .i64 z1, .int .i64 z2], .int .i64 y] w fun e w' => e = .returned (.bool (soLn L m.a m.b z1 z2 y)) ∧ Below w.heap.size w w' := by
  obtain ⟨h1, h2, h3, h4, h5⟩ := hm
  obtain ⟨⟨za, zb⟩, zc, zd⟩ := hz
  simp only at za zb zc zd
  have hbd := fun w h => rbounds10_any L vL y z2 w h hn (by omega) (by omega)
  have hfr := fun w h => rfree_any L vL m.a m.b y z2 w h hn (by omega) (by omega)
  have hed := bnds_edge hsm y z2
  obtain ⟨sv, hsv⟩ : ∃ s, soLn L m.a m.b z1 z2 y = s := ⟨_, rfl⟩
  rw [hsv]
  unfold soLn at hsv
  unfold TupPost at hbd hfr
  unfold freeS at hsv hfr
  generalize bnds L y z2 = p at *
  obtain ⟨p1, p2⟩ := p
  simp only at hbd hfr hed hsv
  unfold far at hed
  obtain ⟨r1, hr1⟩ : ∃ r, max m.a p1 = r := ⟨_, rfl⟩
  obtain ⟨r2, hr2⟩ : ∃ r, min m.b p2 = r := ⟨_, rfl⟩
  have hb1 : -4503599627370496 ≤ r1 ∧ r1 ≤ 4503599627370496 := by omega
  have hb2 : -4503599627370496 ≤ r2 ∧ r2 ≤ 4503599627370496 := by omega
  rw [hr1, hr2] at hfr hsv
  have hw1 : IntKind.i64.wrap (r2 - r1) = r2 - r1 := by rw [IntKind.wrap_i64]; omega
  have hw2 : IntKind.i64.wrap (m.b - m.a) = m.b - m.a := by rw [IntKind.wrap_i64]; omega
  have hcs : (z1 ≤ r2 - r1 ∧ sv = true) ∨ (¬ z1 ≤ r2 - r1 ∧ ¬ m.b - m.a < z1 ∧ sv = false) ∨ (¬ z1 ≤ r2 - r1 ∧ m.b - m.a < z1 ∧ ¬ p1 ≤ m.a ∧ sv = false) ∨ (¬ z1 ≤ r2 - r1 ∧ m.b - m.a < z1 ∧ p1 ≤ m.a ∧ ¬ m.b ≤ p2 ∧ sv = false) ∨ (¬ z1 ≤ r2 - r1 ∧ m.b - m.a < z1 ∧ p1 ≤ m.a ∧ m.b ≤ p2 ∧ sv = true) := by
    have e := hsv
    by_cases h1 : z1 ≤ r2 - r1
    · exact .inl ⟨h1, by rw [← e]; exact decide_eq_true (.inl h1)⟩
    · by_cases h2 : m.b - m.a < z1
      · by_cases h3 : p1 ≤ m.a
        · by_cases h4 : m.b ≤ p2
          · exact .inr (.inr (.inr (.inr ⟨h1, h2, h3, h4, by rw [← e]; exact decide_eq_true (.inr ⟨h2, h3, h4⟩)⟩)))
          · exact .inr (.inr (.inr (.inl ⟨h1, h2, h3, h4, by rw [← e]; exact decide_eq_false (by omega)⟩)))
        · exact .inr (.inr (.inl ⟨h1, h2, h3, by rw [← e]; exact decide_eq_false (by omega)⟩))
      · exact .inr (.inl ⟨h1, h2, by rw [← e]; exact decide_eq_false (by omega)⟩)
  obtain ⟨b0, hb0⟩ : ∃ b, w.heap.size = b := ⟨_, rfl⟩
  obtain ⟨W, hW⟩ : ∃ W, (w.alloc (.cells #[vL, .int .i64 m.a, .int .i64 m.b, .int .i64 m.y, .int .i64 m.t, vA] 99)).alloc (.cells #[.int .i64 z1, .int .i64 z2] 67) = W := ⟨_, rfl⟩
  have hB : Below w.heap.size w W := by rw [← hW]; exact ((Below.refl _ _).alloc (Nat.le_refl _) _).alloc (by simp) _
  have g0 : W.heap[b0]? = some (.cells #[vL, .int .i64 m.a, .int .i64 m.b, .int .i64 m.y, .int .i64 m.t, vA] 99 (0, 0)) := by rw [← hW, ← hb0, heap_alloc_old _ _ (by simp), heap_alloc_new]
  have g1 : W.heap[b0 + 1]? = some (.cells #[.int .i64 z1, .int .i64 z2] 67 (0, 0)) := by rw [← hW, ← hb0]; exact heap_alloc2_new w _ _
  obtain ⟨A2, cap2, rfl, hcap2, hAA2⟩ := id hf
  have HF := Lib.hid (fun w' (e : Below W.heap.size W w') => hf.below (hB.trans (e.mono hB.size)) (Nat.le_refl _))
  have HFR := Lib.hid (fun w' (e : Below W.heap.size W w') => hfr w' (HF.out w' e))
  have HBD := Lib.hid (fun w' (e : Below W.heap.size W w') => hbd w' (HF.out w' e))
  have HW := Lib.hid hW
  have HB0 := Lib.hid hb0
  have HB := Lib.hid hB
  have G0 := Lib.hid g0
  have G1 := Lib.hid g1
  clear hf hfr hbd hb0 hW hB g0 g1 hed hr1 hr2 hsv hcap2 hAA2 h4
  obtain ⟨ma, mb, my, mt, As⟩ := m
  simp only at *
  go_enter Try.func103, Try.ntmps103
  go_wp2_with fail
  rw [HW.out]
  refine (HFR.out W (Below.refl _ _)).mono ?_
  rintro e w1 ⟨rfl, hb1⟩
  obtain ⟨x0, x1, x2, x3, x4, x5⟩ := cells6 (blk_keep G0.out hb1)
  have x7 : w1.cell? ⟨b0 + 1, 1, none⟩ = some (.int .i64 z2) := cell_of_row w1 (b0 + 1) 1 _ _ (0, 0) (blk_keep G1.out hb1)
  have HB1 := Lib.hid hb1
  rw [HB0.out]
  clear hb1
  go_wp2_with fail
  refine (HBD.out w1 HB1.out).mono ?_
  rintro e w2 ⟨rfl, hb2⟩
  have HB2 := Lib.hid (HB1.out.trans (hb2.mono HB1.out.size))
  clear x0 x1 x2 x3 x4 x5 x7 hb2
  obtain ⟨x0, x1, x2, x3, x4, x5⟩ := cells6 (blk_keep G0.out HB2.out)
  have x6 : w2.cell? ⟨b0 + 1, 0, none⟩ = some (.int .i64 z1) := cell_of_row w2 (b0 + 1) 0 _ _ (0, 0) (blk_keep G1.out HB2.out)
  rcases hcs with ⟨e1, es⟩ | ⟨e1, e2, es⟩ | ⟨e1, e2, e3, es⟩ | ⟨e1, e2, e3, e4, es⟩ | ⟨e1, e2, e3, e4, es⟩ <;> subst es
  all_goals
    go_wp2_with fail
    go_ret
    exact ⟨by first | rfl | simp [*], HB.out.trans (HB2.out.mono HB.out.size)⟩
end Go.Proofs.Ytecojcdmigmnhaa
