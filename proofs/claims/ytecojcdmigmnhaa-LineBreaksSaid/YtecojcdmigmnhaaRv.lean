/- A region that draws its order, by one stable fact for each operation. -/
import Derived.Deep.RegionHeld
namespace Go.Proofs.Ytecojcdmigmnhaa
set_option linter.unusedSimpArgs false
set_option linter.unusedVariables false
section
variable {P : Program} {ops : Array Oper} {Q : Exit → Act → World → Prop}
/-- What stands when the operations of 'listed' have come up. -/
def Facts (md : Region.Mode) (ops : Array Oper) (B : Act → World → Prop) (R : Nat → Act → World → Prop) (listed : Array Bool) (a : Act) (w : World) : Prop :=
  B a w ∧ (∀ i, listed.getD i false = true → R i a w) ∧ ∀ j o, listed.getD j false = true → ops[j]? = some o → ∀ e ∈ o.after, Region.binds md e = true → listed.getD e.on false = true
/-- Whoever is left, someone may come up. -/
theorem ready_some {md : Region.Mode} {listed : Array Bool} (hd : ∀ (i : Nat) (o : Oper), ops[i]? = some o → ∀ e ∈ o.after, Region.binds md e = true → e.on < i) (hs : listed.size = ops.size)
    (hr : Region.ready md ops listed = []) : ∀ i, i < ops.size → listed.getD i false = true := by
  intro i
  induction i using Nat.strongRecOn with
  | ind i ih =>
    intro hi
    cases hl : listed.getD i false with
    | true => rfl
    | false =>
      exfalso
      have ho : ops[i]? = some ops[i] := Array.getElem?_eq_getElem hi
      have hm : i ∈ Region.ready md ops listed := by
        refine mem_ready.2 ⟨?_, ops[i], ho, fun e he hb => ih e.on (hd i _ ho e he hb) (by have := hd i _ ho e he hb; omega)⟩
        have hi' : i < listed.size := by omega
        simp [hi'] at hl ⊢
        exact hl
      rw [hr] at hm
      cases hm
theorem listed_set {listed : Array Bool} {i j : Nat} (h : (listed.setIfInBounds i true).getD j false = true) : j = i ∨ listed.getD j false = true := by
  by_cases e : j = i
  · exact .inl e
  · right
    rcases Nat.lt_or_ge j listed.size with hj | hj
    · simpa [hj, Array.getElem_setIfInBounds, Ne.symm e] using h
    · simp [Array.getElem?_eq_none, hj] at h
def left (listed : Array Bool) : Nat := listed.toList.countP (fun b => !b)
theorem left_set {listed : Array Bool} {i : Nat} (h : listed.getD i true = false) : left (listed.setIfInBounds i true) + 1 = left listed := by
  rcases Nat.lt_or_ge i listed.size with hj | hj
  · simp [hj] at h
    obtain ⟨l⟩ := listed
    unfold left
    simp only [List.size_toArray] at hj
    simp only [List.setIfInBounds_toArray]
    simp only [List.getElem_toArray] at h
    induction l generalizing i with
    | nil => simp at hj
    | cons b l ih =>
      cases i with
      | zero =>
        simp only [List.getElem_cons_zero] at h
        subst h
        simp
      | succ i =>
        simp only [List.getElem_cons_succ] at h
        simp only [List.length_cons, Nat.add_lt_add_iff_right] at hj
        have := ih hj h
        simp only [List.set_cons_succ, List.countP_cons]
        omega
  · simp [Array.getElem?_eq_none, hj] at h
theorem wpAny_facts {md : Region.Mode} (B : Act → World → Prop) (R : Nat → Act → World → Prop)
    (hd : ∀ (i : Nat) (o : Oper), ops[i]? = some o → ∀ e ∈ o.after, Region.binds md e = true → e.on < i)
    (hop : ∀ (i : Nat) (o : Oper) (a : Act) (w : World), ops[i]? = some o → B a w → (∀ e ∈ o.after, Region.binds md e = true → R e.on a w) → wpOp P ops Q i (fun a' w' => B a' w' ∧ R i a' w' ∧ ∀ j oj, ops[j]? = some oj → j ≠ i → (∀ e ∈ oj.after, Region.binds md e = true → e.on ≠ i) → R j a w → R j a' w') a w)
    (hend : ∀ a w, B a w → (∀ i, i < ops.size → R i a w) → Q .normal a w) :
    ∀ (fuel : Nat) (listed : Array Bool) (a : Act) (w : World), listed.size = ops.size → left listed ≤ fuel → Facts md ops B R listed a w → wpAny P md ops Q fuel listed a w := by
  have hdone : ∀ (listed : Array Bool) (a : Act) (w : World), listed.size = ops.size → Facts md ops B R listed a w → Region.ready md ops listed = [] → Q .normal a w := fun listed a w hs hF hr =>
    hend a w hF.1 (fun i hi => hF.2.1 i (ready_some hd hs hr i hi))
  intro fuel
  induction fuel with
  | zero =>
    intro listed a w hs hl hF
    have hr : Region.ready md ops listed = [] := by
      apply List.eq_nil_iff_forall_not_mem.2
      intro i hi
      have := left_set (mem_ready.1 hi).1
      omega
    exact ⟨hr, hdone listed a w hs hF hr⟩
  | succ fuel ih =>
    intro listed a w hs hl hF
    refine ⟨hdone listed a w hs hF, fun i hi => ?_⟩
    obtain ⟨hun, o, ho, hall⟩ := mem_ready.1 hi
    have hls := left_set hun
    refine wpOp_mono (fun a' w' h => ih _ a' w' (by simpa using hs) (by omega) ⟨h.1, fun j hj => ?_, fun j oj hj hoj e he hb => ?_⟩) (hop i o a w ho hF.1 (fun e he hb => hF.2.1 _ (hall e he hb)))
    · by_cases e : j = i
      · exact e ▸ h.2.1
      · rcases listed_set hj with hj | hj
        · exact absurd hj e
        · rcases Nat.lt_or_ge j ops.size with hjs | hjs
          · have hoj : ops[j]? = some ops[j] := Array.getElem?_eq_getElem hjs
            refine h.2.2 j _ hoj e (fun e' he' hb' h' => ?_) (hF.2.1 j hj)
            have h1 := hF.2.2 j _ hj hoj e' he' hb'
            rw [h'] at h1
            rcases Nat.lt_or_ge i listed.size with hi' | hi'
            · simp [hi'] at hun h1
              rw [hun] at h1
              cases h1
            · simp [Array.getElem?_eq_none, hi'] at h1
          · have : listed.size ≤ j := by omega
            simp [Array.getElem?_eq_none, this] at hj
    · rcases listed_set hj with rfl | hj
      · rw [ho] at hoj
        cases hoj
        exact getD_set_true (hall e he hb)
      · exact getD_set_true (hF.2.2 j oj hj hoj e he hb)
theorem left_all (n : Nat) : left (Array.replicate n false) = n := by
  unfold left
  rw [Array.toList_replicate]
  induction n with
  | zero => rfl
  | succ n ih => rw [List.replicate_succ, List.countP_cons, ih]; rfl
theorem none_listed (n i : Nat) : (Array.replicate n false).getD i false = false := by
  rcases Nat.lt_or_ge i n with hj | hj
  · simp [hj]
  · simp [Array.getElem?_eq_none, hj]
/-- The whole region. -/
theorem wp_region_facts {id : Nat} {a : Act} {w : World} (hm : P.follows .mixedOrders = true) (B : Act → World → Prop) (R : Nat → Act → World → Prop)
    (hd : ∀ (i : Nat) (o : Oper), ops[i]? = some o → ∀ e ∈ o.after, Region.binds .any e = true → e.on < i)
    (hop : ∀ (i : Nat) (o : Oper) (a : Act) (w : World), ops[i]? = some o → B a w → (∀ e ∈ o.after, Region.binds .any e = true → R e.on a w) → wpOp P ops Q i (fun a' w' => B a' w' ∧ R i a' w' ∧ ∀ j oj, ops[j]? = some oj → j ≠ i → (∀ e ∈ oj.after, Region.binds .any e = true → e.on ≠ i) → R j a w → R j a' w') a w)
    (hend : ∀ a w, B a w → (∀ i, i < ops.size → R i a w) → Q .normal a w) (h0 : B a w.drew) : (Code.region id ops true).wp P Q a w := by
  refine wp_region_any hm ?_
  exact wpAny_facts B R hd hop hend _ _ a _ (by simp) (by rw [left_all]; exact Nat.le_refl _) ⟨h0, (fun i hi => by rw [none_listed] at hi; cases hi), (fun j o hj => by rw [none_listed] at hj; cases hj)⟩
theorem getD_set_self {listed : Array Bool} {i : Nat} (h : i < listed.size) : (listed.setIfInBounds i true).getD i false = true := by
  simp [h]
theorem getD_set_ne {listed : Array Bool} {i j : Nat} (hne : j ≠ i) (h : (listed.setIfInBounds i true).getD j false = false) : listed.getD j false = false := by
  rcases Nat.lt_or_ge j listed.size with hj | hj
  · simpa [hj, Array.getElem_setIfInBounds, Ne.symm hne] using h
  · simp [Array.getElem?_eq_none, hj]
theorem wpAny_facts_u {md : Region.Mode} (B : Act → World → Prop) (R U : Nat → Act → World → Prop)
    (hd : ∀ (i : Nat) (o : Oper), ops[i]? = some o → ∀ e ∈ o.after, Region.binds md e = true → e.on < i)
    (hop : ∀ (i : Nat) (o : Oper) (a : Act) (w : World), ops[i]? = some o → B a w → (∀ e ∈ o.after, Region.binds md e = true → R e.on a w) → U i a w → wpOp P ops Q i (fun a' w' => (B a' w' ∧ ∀ j, j ≠ i → U j a w → U j a' w') ∧ R i a' w' ∧ ∀ j oj, ops[j]? = some oj → j ≠ i → (∀ e ∈ oj.after, Region.binds md e = true → e.on ≠ i) → R j a w → R j a' w') a w)
    (hend : ∀ a w, B a w → (∀ i, i < ops.size → R i a w) → Q .normal a w) :
    ∀ (fuel : Nat) (listed : Array Bool) (a : Act) (w : World), listed.size = ops.size → left listed ≤ fuel → Facts md ops B R listed a w → (∀ i, i < ops.size → listed.getD i false = false → U i a w) → wpAny P md ops Q fuel listed a w := by
  have hdone : ∀ (listed : Array Bool) (a : Act) (w : World), listed.size = ops.size → Facts md ops B R listed a w → Region.ready md ops listed = [] → Q .normal a w := fun listed a w hs hF hr =>
    hend a w hF.1 (fun i hi => hF.2.1 i (ready_some hd hs hr i hi))
  intro fuel
  induction fuel with
  | zero =>
    intro listed a w hs hl hF _
    have hr : Region.ready md ops listed = [] := by
      apply List.eq_nil_iff_forall_not_mem.2
      intro i hi
      have := left_set (mem_ready.1 hi).1
      omega
    exact ⟨hr, hdone listed a w hs hF hr⟩
  | succ fuel ih =>
    intro listed a w hs hl hF hU
    refine ⟨hdone listed a w hs hF, fun i hi => ?_⟩
    obtain ⟨hun, o, ho, hall⟩ := mem_ready.1 hi
    have hls := left_set hun
    refine wpOp_mono (fun a' w' h => ih _ a' w' (by simpa using hs) (by omega) ⟨h.1.1, fun j hj => ?_, fun j oj hj hoj e he hb => ?_⟩ (fun j hjs hj => ?_)) (hop i o a w ho hF.1 (fun e he hb => hF.2.1 _ (hall e he hb)) (hU i (Array.getElem?_eq_some_iff.1 ho).1 (by rcases Nat.lt_or_ge i listed.size with hi' | hi' <;> simp [hi'] at hun ⊢; exact hun)))
    · by_cases e : j = i
      · exact e ▸ h.2.1
      · rcases listed_set hj with hj | hj
        · exact absurd hj e
        · rcases Nat.lt_or_ge j ops.size with hjs | hjs
          · have hoj : ops[j]? = some ops[j] := Array.getElem?_eq_getElem hjs
            refine h.2.2 j _ hoj e (fun e' he' hb' h' => ?_) (hF.2.1 j hj)
            have h1 := hF.2.2 j _ hj hoj e' he' hb'
            rw [h'] at h1
            rcases Nat.lt_or_ge i listed.size with hi' | hi'
            · simp [hi'] at hun h1
              rw [hun] at h1
              cases h1
            · simp [Array.getElem?_eq_none, hi'] at h1
          · have : listed.size ≤ j := by omega
            simp [Array.getElem?_eq_none, this] at hj
    · rcases listed_set hj with rfl | hj
      · rw [ho] at hoj
        cases hoj
        exact getD_set_true (hall e he hb)
      · exact getD_set_true (hF.2.2 j oj hj hoj e he hb)
    · have hne : j ≠ i := fun e => by
        subst e
        rw [getD_set_self (by omega)] at hj
        cases hj
      exact h.1.2 j hne (hU j hjs (getD_set_ne hne hj))
/-- The whole region, with what stands as long as an operation has not come up (U). FactsU -/
theorem wp_region_facts_u {id : Nat} {a : Act} {w : World} (hm : P.follows .mixedOrders = true) (B : Act → World → Prop) (R U : Nat → Act → World → Prop)
    (hd : ∀ (i : Nat) (o : Oper), ops[i]? = some o → ∀ e ∈ o.after, Region.binds .any e = true → e.on < i)
    (hop : ∀ (i : Nat) (o : Oper) (a : Act) (w : World), ops[i]? = some o → B a w → (∀ e ∈ o.after, Region.binds .any e = true → R e.on a w) → U i a w → wpOp P ops Q i (fun a' w' => (B a' w' ∧ ∀ j, j ≠ i → U j a w → U j a' w') ∧ R i a' w' ∧ ∀ j oj, ops[j]? = some oj → j ≠ i → (∀ e ∈ oj.after, Region.binds .any e = true → e.on ≠ i) → R j a w → R j a' w') a w)
    (hend : ∀ a w, B a w → (∀ i, i < ops.size → R i a w) → Q .normal a w) (h0 : B a w.drew) (hU : ∀ i, i < ops.size → U i a w.drew) : (Code.region id ops true).wp P Q a w := by
  refine wp_region_any hm ?_
  exact wpAny_facts_u B R U hd hop hend _ _ a _ (by simp) (by rw [left_all]; exact Nat.le_refl _) ⟨h0, (fun i hi => by rw [none_listed] at hi; cases hi), (fun j o hj => by rw [none_listed] at hj; cases hj)⟩ (fun i hi _ => hU i hi)
end
end Go.Proofs.Ytecojcdmigmnhaa
