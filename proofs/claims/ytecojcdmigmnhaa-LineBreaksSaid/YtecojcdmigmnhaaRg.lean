/- A region that draws its order, whose operations yield one value each in every world, or lay blocks of their own and fill them, with at most one operation that comes last whatever the order: ONE walk, in the order of the text. -/
import Derived.Test.YtecojcdmigmnhaaRv
import Derived.Test.YtecojcdmigmnhaaLs
import Derived.Great.BuildSlice
namespace Go.Proofs.Ytecojcdmigmnhaa
set_option linter.unusedSimpArgs false
set_option linter.unusedVariables false
open Go.RowKit
section
variable {P : Program} {ops : Array Oper}
/-- A block that the region lays: slot d, type t; what fills it: the value in slot x, by alloc and store (bx = false); or operation number x lays it filled (bx = true; n: as a slice of so many). -/
structure Laid where
  bx : Bool
  d : Tmp
  t : TypeId
  x : Tmp
  n : Option Nat := none
def Laid.val (e : Laid) (b : Nat) : Value := match e.n with
  | none => .pointer (some ⟨b, 0, none⟩)
  | some n => .slice (some ⟨b, 0, none⟩) n n
theorem Laid.val_inj {e : Laid} {b b' : Nat} (h : e.val b = e.val b') : b = b' := by
  unfold Laid.val at h
  cases he : e.n <;> simp only [he] at h
  · simpa using h
  · simpa using h
def isLaid (L : List Laid) (o : Oper) : Bool := L.any (fun e => if e.bx then o.dst == some e.d else match o.op with
  | .alloc _ => o.dst == some e.d
  | .store _ (.tmp d) _ => d == e.d
  | _ => false)
def Lupon (P : Program) (w : World) (v : Value) : Result Next → Prop
  | .ok (.value u) w' => w' = w ∧ u = v
  | .ok .skip w' => w' = w ∧ v = undef
  | .ok (.enter f args) w' => w' = w ∧ Calls P f args w (fun e w'' => e = .returned v ∧ Below w.heap.size w w'')
  | _ => False
def Lyields (P : Program) (ops : Array Oper) (C : World → Prop) (o : Oper) (v : Value) (a : Act) : Prop :=
  (Region.wanted o (yielded ops a.tmps) = true ∧ ∀ w, C w → Lupon P w v ((execOp a.eval o).run P w)) ∨ (Region.wanted o (yielded ops a.tmps) = false ∧ v = undef)
/-- The walk in the order of the text, what is laid left out. -/
def wpLex (P : Program) (ops : Array Oper) (C : World → Prop) (L : List Laid) (Q : List Oper → Act → Prop) : Nat → List Oper → Act → Prop
  | 0, l, a => Q l a
  | _ + 1, [], a => Q [] a
  | k + 1, o :: rest, a => if isLaid L o = true then wpLex P ops C L Q k rest a else ∃ v, Lyields P ops C o v a ∧ wpLex P ops C L Q k rest (a.put o.dst v)
theorem wpLex_laid {C : World → Prop} {L : List Laid} {Q : List Oper → Act → Prop} {k : Nat} {o : Oper} {rest : List Oper} {a : Act} (h : isLaid L o = true) (hk : wpLex P ops C L Q k rest a) : wpLex P ops C L Q (k + 1) (o :: rest) a := by
  simp only [wpLex, h, if_true]; exact hk
theorem wpLex_no {C : World → Prop} {L : List Laid} {Q : List Oper → Act → Prop} {k : Nat} {o : Oper} {rest : List Oper} {a : Act} (h : isLaid L o = false) (hg : Region.wanted o (yielded ops a.tmps) = false) (hk : wpLex P ops C L Q k rest (a.put o.dst undef)) : wpLex P ops C L Q (k + 1) (o :: rest) a := by
  simp only [wpLex, h]; exact ⟨_, .inr ⟨hg, rfl⟩, hk⟩
theorem wpLex_val {C : World → Prop} {L : List Laid} {Q : List Oper → Act → Prop} {k : Nat} {o : Oper} {rest : List Oper} {a : Act} (h : isLaid L o = false) (hg : Region.wanted o (yielded ops a.tmps) = true) (v : Value)
    (hr : ∀ w', C w' → (execOp a.eval o).run P w' = .ok (.value v) w') (hk : wpLex P ops C L Q k rest (a.put o.dst v)) : wpLex P ops C L Q (k + 1) (o :: rest) a := by
  simp only [wpLex, h]
  exact ⟨v, .inl ⟨hg, fun w hw => by rw [hr w hw]; exact ⟨rfl, rfl⟩⟩, hk⟩
theorem wpLex_call {C : World → Prop} {L : List Laid} {Q : List Oper → Act → Prop} {k : Nat} {o : Oper} {rest : List Oper} {a : Act} (h : isLaid L o = false) (hg : Region.wanted o (yielded ops a.tmps) = true) (f : FuncId) (args : Array Value)
    (hr : ∀ w', C w' → (execOp a.eval o).run P w' = .ok (.enter f args) w') (v : Value) (hc : ∀ w', C w' → Calls P f args w' fun e w'' => e = .returned v ∧ Below w'.heap.size w' w'') (hk : wpLex P ops C L Q k rest (a.put o.dst v)) : wpLex P ops C L Q (k + 1) (o :: rest) a := by
  simp only [wpLex, h]
  exact ⟨v, .inl ⟨hg, fun w hw => by rw [hr w hw]; exact ⟨rfl, hc w hw⟩⟩, hk⟩
/-- An operation that is asked for in one case alone. -/
theorem wpLex_gv {C : World → Prop} {L : List Laid} {Q : List Oper → Act → Prop} {k : Nat} {o oj : Oper} {rest : List Oper} {a : Act} {j d : Nat} {b : Bool} {x : Value} (h : isLaid L o = false) (hg : o.guard = some (j, b)) (hj : ops[j]? = some oj) (hd : oj.dst = some d) (ht : a.tmps[d]? = some x) (c : Bool) (v : Value)
    (hc : isB x b = c) (hr : c = true → ∀ w', C w' → Lupon P w' v ((execOp a.eval o).run P w')) (hk : wpLex P ops C L Q k rest (a.put o.dst (gval c v))) : wpLex P ops C L Q (k + 1) (o :: rest) a := by
  simp only [wpLex, h]
  refine ⟨_, ?_, hk⟩
  unfold Lyields
  rw [wanted_isB hg hj hd ht, hc]
  cases c with
  | false => exact .inr ⟨rfl, rfl⟩
  | true => exact .inl ⟨rfl, hr rfl⟩
theorem wpLex_zero {C : World → Prop} {L : List Laid} {Q : List Oper → Act → Prop} {l : List Oper} {a : Act} (h : Q l a) : wpLex P ops C L Q 0 l a := h
theorem wpLex_nil {C : World → Prop} {L : List Laid} {Q : List Oper → Act → Prop} {k : Nat} {a : Act} (h : Q [] a) : wpLex P ops C L Q k [] a := by cases k <;> exact h
def dstOf (ops : Array Oper) (i : Nat) : Option Tmp := (ops[i]?).bind (·.dst)
def quietAtB (L : List Laid) (ops : Array Oper) (i : Nat) : Bool := match ops[i]? with | some o => !isLaid L o | none => false
/-- What holds of the slots: no two operations fill one; what a quiet one looks at is filled by one that it waits for, or by none. -/
structure Slots (L : List Laid) (ops : Array Oper) (m : Nat) : Prop where
  uniq : ∀ i j d, i ≠ j → i < m → j < m → dstOf ops i = some d → dstOf ops j ≠ some d
  look : ∀ j o, j < m → ops[j]? = some o → isLaid L o = false → ∀ d ∈ o.looksAt ops, ∀ i, i < m → dstOf ops i = some d → i < j ∧ quietAtB L ops i = true ∧ ∃ e ∈ o.after, Region.binds .any e = true ∧ e.on = i
  nosel : ∀ (j : Nat) (o : Oper), ops[j]? = some o → ∀ cs b, o.op ≠ .select cs b
theorem Act.ext_tmps {a b : Act} (h1 : a.tmps = b.tmps) (h2 : a.defers = b.defers) : a = b := by cases a; cases b; simp_all
theorem look_eval {o : Oper} {a a' : Act} (hs : ∀ cs b, o.op ≠ .select cs b) (h : ∀ d ∈ o.looksAt ops, a'.tmps[d]? = a.tmps[d]?) : execOp a'.eval o = execOp a.eval o :=
  execOp_congr o hs fun x hx => by
    cases x with
    | tmp t =>
      have := h t (List.mem_append_left _ (List.mem_filterMap.2 ⟨.tmp t, by simpa using hx, rfl⟩))
      simp only [Act.eval, Array.getD_eq_getD_getElem?, this]
    | _ => rfl
theorem look_wanted {o : Oper} {a a' : Act} (h : ∀ d ∈ o.looksAt ops, a'.tmps[d]? = a.tmps[d]?) : Region.wanted o (yielded ops a'.tmps) = Region.wanted o (yielded ops a.tmps) := by
  unfold Region.wanted
  cases hg : o.guard with
  | none => rfl
  | some gw =>
    obtain ⟨g, want⟩ := gw
    have hy : yielded ops a'.tmps g = yielded ops a.tmps g := by
      unfold yielded
      cases ht : (ops[g]?).bind (·.dst) with
      | none => rfl
      | some t =>
        have := h t (List.mem_append_right _ (by simp [hg, ht]))
        simp only [Option.bind_some, this]
    simp only [hy]
theorem Lyields.of_same {C : World → Prop} {o : Oper} {v : Value} {a a' : Act} (hs : ∀ cs b, o.op ≠ .select cs b) (h : ∀ d ∈ o.looksAt ops, a'.tmps[d]? = a.tmps[d]?) (hy : Lyields P ops C o v a) : Lyields P ops C o v a' := by
  unfold Lyields at *
  rw [look_eval hs h, look_wanted h]
  exact hy
theorem lput_off {a : Act} {d : Option Tmp} {k : Nat} {v : Value} (h : d ≠ some k) : (a.put d v).tmps[k]? = a.tmps[k]? := by
  cases d with
  | none => rfl
  | some d => simp [Act.put, Array.getElem?_setIfInBounds, show d ≠ k from fun e => h (by rw [e])]
theorem lput_at {a : Act} {d : Nat} {v : Value} (h : d < a.tmps.size) : (a.put (some d) v).tmps[d]? = some v := by
  simp [Act.put, h]
theorem lput_size {a : Act} {d : Option Tmp} {v : Value} : (a.put d v).tmps.size = a.tmps.size := by cases d <;> simp [Act.put]
theorem lput_defers {a : Act} {d : Option Tmp} {v : Value} : (a.put d v).defers = a.defers := by cases d <;> rfl
/-- What the walk shows: one frame, in which every quiet operation yields its value. -/
theorem wpLex_spec {C : World → Prop} {L : List Laid} {Q : List Oper → Act → Prop} {m : Nat} (hS : Slots L ops m) : ∀ (k s : Nat) (l : List Oper) (a : Act), (∀ j, l[j]? = ops[s + j]?) → s + k = m → m ≤ ops.size → wpLex P ops C L Q k l a →
    ∃ (V : Nat → Value) (F : Act), (∃ tl : List Oper, (∀ j, tl[j]? = ops[m + j]?) ∧ Q tl F) ∧ F.defers = a.defers ∧ F.tmps.size = a.tmps.size ∧ (∀ t, (∀ i, s ≤ i → i < m → quietAtB L ops i = true → dstOf ops i ≠ some t) → F.tmps[t]? = a.tmps[t]?) ∧
      ∀ i o, s ≤ i → i < m → ops[i]? = some o → isLaid L o = false → Lyields P ops C o (V i) F ∧ ∀ d, o.dst = some d → d < a.tmps.size → F.tmps[d]? = some (V i) := by
  intro k
  induction k with
  | zero =>
    intro s l a hl hk hm h
    exact ⟨fun _ => undef, a, ⟨l, fun j => by rw [hl j]; congr 1; omega, h⟩, rfl, rfl, fun _ _ => rfl, fun i o h1 h2 => absurd h2 (by omega)⟩
  | succ k ih =>
    intro s l a hl hk hm h
    have hs : s < ops.size := by omega
    have hos : ops[s]? = some ops[s] := Array.getElem?_eq_getElem hs
    cases l with
    | nil =>
      have := hl 0
      rw [Nat.add_zero, hos] at this
      cases this
    | cons o rest =>
      have ho : ops[s]? = some o := by simpa using (hl 0).symm
      have hl' : ∀ j, rest[j]? = ops[s + 1 + j]? := fun j => by have := hl (j + 1); simpa [Nat.add_assoc, Nat.add_comm 1 j] using this
      have hdo : dstOf ops s = o.dst := by simp [dstOf, ho]
      simp only [wpLex] at h
      by_cases hq : isLaid L o = true
      · rw [if_pos hq] at h
        obtain ⟨V, F, h1, h2, h3, h4, h5⟩ := ih (s + 1) rest a hl' (by omega) hm h
        refine ⟨V, F, h1, h2, h3, fun t ht => h4 t (fun i hi hi2 hq2 => ht i (by omega) hi2 hq2), fun i o' hi hi2 hoi hqi => ?_⟩
        by_cases e : i = s
        · subst e
          rw [ho] at hoi
          cases hoi
          rw [hq] at hqi
          cases hqi
        · exact h5 i o' (by omega) hi2 hoi hqi
      · rw [if_neg hq] at h
        have hq : isLaid L o = false := by simpa using hq
        obtain ⟨v, hy, hk2⟩ := h
        obtain ⟨V, F, h1, h2, h3, h4, h5⟩ := ih (s + 1) rest (a.put o.dst v) hl' (by omega) hm hk2
        have hlook : ∀ d ∈ o.looksAt ops, F.tmps[d]? = a.tmps[d]? := fun d hd => by
          have hn : ∀ i, s ≤ i → i < m → dstOf ops i ≠ some d := fun i hi hi2 e => by
            have := (hS.look s o (by omega) ho hq d hd i hi2 e).1
            omega
          rw [h4 d (fun i hi hi2 _ => hn i (by omega) hi2)]
          exact lput_off (by rw [← hdo]; exact hn s (Nat.le_refl _) (by omega))
        refine ⟨fun i => if i = s then v else V i, F, h1, h2.trans lput_defers, h3.trans lput_size, fun t ht => ?_, fun i o' hi hi2 hoi hqi => ?_⟩
        · rw [h4 t (fun i hi hi2 hq2 => ht i (by omega) hi2 hq2)]
          exact lput_off (by rw [← hdo]; exact ht s (Nat.le_refl _) (by omega) (by simp [quietAtB, ho, hq]))
        · by_cases e : i = s
          · subst e
            rw [ho] at hoi
            cases hoi
            simp only [if_true]
            refine ⟨hy.of_same (hS.nosel i o ho) hlook, fun d hd hds => ?_⟩
            rw [h4 d (fun j hj hj2 _ => hS.uniq i j d (by omega) (by omega) (by omega) (by rw [hdo, hd]))]
            rw [hd]
            exact lput_at hds
          · simp only [e, if_false]
            have := h5 i o' (by omega) hi2 hoi hqi
            exact ⟨this.1, fun d hd hds => this.2 d hd (by rw [lput_size]; exact hds)⟩
/-- The value fits its variable. -/
def Fits (P : Program) (t : TypeId) (v : Value) : Prop := (P.info? t).map (·.size) = some v.cells.size ∧ ((∃ c, v = .agg c ∧ c.all (·.oneCell') = true) ∨ v.oneCell' = true)
theorem Fits.row {t : TypeId} {c : Array Value} (h : (P.info? t).map (·.size) = some c.size) (h1 : c.all (·.oneCell') = true) : Fits P t (.agg c) := ⟨h, .inl ⟨c, rfl, h1⟩⟩
theorem Fits.one {t : TypeId} {v : Value} (h : (P.info? t).map (·.size) = some 1) (h1 : v.oneCell' = true) : Fits P t v := ⟨(h.trans (by cases v <;> first | rfl | cases h1)), .inr h1⟩
theorem Fits.store {t : TypeId} {v : Value} (hf : Fits P t v) {w : World} {g : Nat} {t0 : TypeId} {c : Array Value} (hg : w.heap[g]? = some (.cells c t0 (0, 0))) (hs : c.size = v.cells.size) :
    (storeVar t ⟨g, 0, none⟩ v).run P w = .ok () (w.setRow g v.cells) := by
  rcases hf.2 with ⟨c', rfl, h1⟩ | h1
  · exact run_storeVar_row w g t0 t c c' hg hf.1 hs h1
  · have hc : v.cells = #[v] := by cases v <;> first | rfl | cases h1
    rw [hc] at hs ⊢
    obtain ⟨⟨l⟩⟩ : ∃ l : Array Value, l = c := ⟨c, rfl⟩
    match c, hs with
    | ⟨[x]⟩, _ => exact run_storeVar_one w g t0 t x v hg (by rw [hf.1, hc]; rfl) h1
/-- How large the variable's first value is. -/
def Zeros (P : Program) (t : TypeId) (n : Nat) : Prop := ((P.info? t).bind (·.zero)).map (fun z => z.cells.size) = some n
theorem Zeros.run {t : TypeId} {n : Nat} (h : Zeros P t n) (w : World) : ∃ z, (zeroValue t).run P w = .ok z w ∧ z.cells.size = n := by
  unfold Zeros at h
  cases hi : P.info? t with
  | none => simp [hi] at h
  | some i =>
    cases hz : i.zero with
    | none => simp [hi, hz] at h
    | some z =>
      simp [hi, hz] at h
      exact ⟨z, by simp [zeroValue, typeInfo, hi, hz], h⟩

/-- What must come up in the order of the text. -/
theorem wpAny_chain {Q : Exit → Act → World → Prop} {md : Region.Mode} (m : Nat) (hd : ∀ (i : Nat) (o : Oper), ops[i]? = some o → ∀ e ∈ o.after, Region.binds md e = true → e.on < i)
    (hc : ∀ (k : Nat) (o : Oper), m < k → ops[k]? = some o → ∃ e ∈ o.after, Region.binds md e = true ∧ e.on + 1 = k) :
    ∀ (n : Nat) (k : Nat) (tl : List Oper) (fuel : Nat) (listed : Array Bool) (a : Act) (w : World), m ≤ k → ops.size - k = n → (∀ j, tl[j]? = ops[k + j]?) → listed.size = ops.size → left listed ≤ fuel → (∀ j, j < k → j < ops.size → listed.getD j false = true) → (∀ j, k ≤ j → listed.getD j false = false) →
      wpList P ops Q tl a w → wpAny P md ops Q fuel listed a w := by
  intro n
  induction n with
  | zero =>
    intro k tl fuel listed a w hmk hn htl hs hl h1 h2 h
    have hnil : Region.ready md ops listed = [] := by
      apply List.eq_nil_iff_forall_not_mem.2
      intro i hi
      obtain ⟨hi1, o, ho, _⟩ := mem_ready.1 hi
      have his := (Array.getElem?_eq_some_iff.1 ho).1
      have := h1 i (by omega) his
      have hi2 : i < listed.size := by omega
      simp only [Array.getD, hi2, dite_true] at hi1 this
      rw [hi1] at this
      cases this
    have htl' : tl = [] := by
      cases tl with
      | nil => rfl
      | cons x l =>
        have := htl 0
        rw [Array.getElem?_eq_none (by omega)] at this
        cases this
    subst htl'
    cases fuel with
    | zero => exact ⟨hnil, h⟩
    | succ fuel => exact ⟨fun _ => h, fun i hi => by rw [hnil] at hi; cases hi⟩
  | succ n ih =>
    intro k tl fuel listed a w hmk hn htl hs hl h1 h2 h
    have hk : k < ops.size := by omega
    have hok : ops[k]? = some ops[k] := Array.getElem?_eq_getElem hk
    have hkl : k < listed.size := by omega
    have hun : listed.getD k true = false := by
      have := h2 k (Nat.le_refl _)
      simp only [Array.getD, hkl, dite_true] at this ⊢
      exact this
    have hls := left_set hun
    cases tl with
    | nil =>
      have := htl 0
      rw [Nat.add_zero, hok] at this
      cases this
    | cons o tl =>
      have ho : ops[k]? = some o := by simpa using (htl 0).symm
      cases fuel with
      | zero => omega
      | succ fuel =>
        refine ⟨fun hr => ?_, fun i hi => ?_⟩
        · have := ready_some hd hs hr k hk
          rw [h2 k (Nat.le_refl _)] at this
          cases this
        · obtain ⟨hi1, oi, hoi, hall⟩ := mem_ready.1 hi
          have his := (Array.getElem?_eq_some_iff.1 hoi).1
          have hik : k ≤ i := by
            rcases Nat.lt_or_ge i k with hlt | hge
            · have := h1 i hlt his
              have hi2 : i < listed.size := by omega
              simp only [Array.getD, hi2, dite_true] at hi1 this
              rw [hi1] at this
              cases this
            · exact hge
          have hik2 : i = k := by
            rcases Nat.eq_or_lt_of_le hik with e | hlt
            · exact e.symm
            · obtain ⟨e, he, hb, hek⟩ := hc i oi (by omega) hoi
              have := hall e he hb
              rw [h2 e.on (by omega)] at this
              cases this
          subst hik2
          have hh : wpOp P ops Q i (wpList P ops Q tl) a w := by
            unfold wpOp
            rw [ho]
            exact h
          refine wpOp_mono (fun a' w' h' => ih (i + 1) tl fuel _ a' w' (by omega) (by omega) (fun j => by have := htl (j + 1); rw [List.getElem?_cons_succ] at this; rw [this]; congr 1; omega) (by simpa using hs) (by omega) (fun j hj hjs => ?_) (fun j hj => ?_) h') hh
          · by_cases e : j = i
            · subst e
              simp [hkl]
            · exact getD_set_true (h1 j (by omega) hjs)
          · cases e : (listed.setIfInBounds i true).getD j false with
            | false => rfl
            | true =>
              rcases listed_set e with e | e
              · omega
              · rw [h2 j (by omega)] at e
                cases e
/-- Each operation by what it shows; those from number m on come last, in the order of the text. -/
theorem wpAny_laid {Q : Exit → Act → World → Prop} {md : Region.Mode} (B : Array Bool → Act → World → Prop) (R : Nat → Act → World → Prop) (m : Nat) (hm : m ≤ ops.size)
    (hd : ∀ (i : Nat) (o : Oper), ops[i]? = some o → ∀ e ∈ o.after, Region.binds md e = true → e.on < i)
    (hc : ∀ (k : Nat) (o : Oper), m < k → ops[k]? = some o → ∃ e ∈ o.after, Region.binds md e = true ∧ e.on + 1 = k)
    (hw : m < ops.size → ∀ i, i < m → ∃ j o, i < j ∧ j ≤ m ∧ ops[j]? = some o ∧ ∃ e ∈ o.after, Region.binds md e = true ∧ e.on = i)
    (hop : ∀ (i : Nat) (o : Oper) (a : Act) (w : World) (listed : Array Bool), i < m → ops[i]? = some o → B listed a w → (∀ j o, listed.getD j false = true → ops[j]? = some o → ∀ e ∈ o.after, Region.binds md e = true → listed.getD e.on false = true) → listed.size = ops.size → listed.getD i false = false → (∀ e ∈ o.after, Region.binds md e = true → R e.on a w ∧ listed.getD e.on false = true) → wpOp P ops Q i (fun a' w' => B (listed.setIfInBounds i true) a' w' ∧ R i a' w' ∧ ∀ j oj, j < m → listed.getD j false = true → ops[j]? = some oj → j ≠ i → (∀ e ∈ oj.after, Region.binds md e = true → e.on ≠ i) → R j a w → R j a' w') a w)
    (tl : List Oper) (htl : ∀ j, tl[j]? = ops[m + j]?) (hend : ∀ a w listed, B listed a w → (∀ i, i < m → R i a w ∧ listed.getD i false = true) → wpList P ops Q tl a w) :
    ∀ (fuel : Nat) (listed : Array Bool) (a : Act) (w : World), listed.size = ops.size → left listed ≤ fuel → (∀ j, m ≤ j → listed.getD j false = false) →
      (B listed a w ∧ (∀ i, i < m → listed.getD i false = true → R i a w) ∧ ∀ j o, listed.getD j false = true → ops[j]? = some o → ∀ e ∈ o.after, Region.binds md e = true → listed.getD e.on false = true) → wpAny P md ops Q fuel listed a w := by
  have htail : ∀ (fuel : Nat) (listed : Array Bool) (a : Act) (w : World), listed.size = ops.size → left listed ≤ fuel → (∀ j, m ≤ j → listed.getD j false = false) → B listed a w → (∀ i, i < m → listed.getD i false = true → R i a w) → (∀ j, j < m → listed.getD j false = true) → wpAny P md ops Q fuel listed a w :=
    fun fuel listed a w hs hl hlm hB hR hall => wpAny_chain m hd hc _ m tl fuel listed a w (Nat.le_refl _) rfl htl hs hl (fun j hj _ => hall j hj) hlm (hend a w listed hB (fun i hi => ⟨hR i hi (hall i hi), hall i hi⟩))
  intro fuel
  induction fuel with
  | zero =>
    intro listed a w hs hl hlm hF
    refine htail 0 listed a w hs hl hlm hF.1 hF.2.1 (fun j hj => ?_)
    cases hv : listed.getD j false with
    | true => rfl
    | false =>
      have hjl : j < listed.size := by omega
      have hun : listed.getD j true = false := by
        simp only [Array.getD, hjl, dite_true] at hv ⊢
        exact hv
      have := left_set hun
      omega
  | succ fuel ih =>
    intro listed a w hs hl hlm hF
    by_cases hall : ∀ j, j < m → listed.getD j false = true
    · exact htail _ listed a w hs hl hlm hF.1 hF.2.1 hall
    refine ⟨fun hr => absurd (fun j hj => ready_some hd hs hr j (by omega)) hall, fun i hi => ?_⟩
    obtain ⟨hun, o, ho, hdep⟩ := mem_ready.1 hi
    have hls := left_set hun
    have hio : i < ops.size := (Array.getElem?_eq_some_iff.1 ho).1
    have hunf : listed.getD i false = false := by
      have hi' : i < listed.size := by omega
      simp only [Array.getD, hi', dite_true] at hun ⊢
      exact hun
    by_cases him : i < m
    · refine wpOp_mono (fun a' w' h => ih _ a' w' (by simpa using hs) (by omega) (fun j hj => ?_) ⟨h.1, fun j hjm hj => ?_, fun j oj hj hoj e he hb => ?_⟩) (hop i o a w listed him ho hF.1 hF.2.2 hs hunf (fun e he hb => ⟨hF.2.1 _ (by have := hd i o ho e he hb; omega) (hdep e he hb), hdep e he hb⟩))
      · cases e : (listed.setIfInBounds i true).getD j false with
        | false => rfl
        | true =>
          rcases listed_set e with e | e
          · omega
          · rw [hlm j hj] at e
            cases e
      · by_cases e : j = i
        · exact e ▸ h.2.1
        · rcases listed_set hj with hj | hj
          · exact absurd hj e
          · have hoj : ops[j]? = some ops[j] := Array.getElem?_eq_getElem (by omega)
            refine h.2.2 j _ hjm hj hoj e (fun e' he' hb' h' => ?_) (hF.2.1 j hjm hj)
            have h1 := hF.2.2 j _ hj hoj e' he' hb'
            rw [h'] at h1
            rcases Nat.lt_or_ge i listed.size with hi' | hi'
            · simp [hi'] at hun h1
              rw [hun] at h1
              cases h1
            · simp [Array.getElem?_eq_none, hi'] at h1
      · rcases listed_set hj with rfl | hj
        · rw [ho] at hoj
          cases hoj
          exact getD_set_true (hdep e he hb)
        · exact getD_set_true (hF.2.2 j oj hj hoj e he hb)
    · exfalso
      have hmm : i = m := by
        rcases Nat.eq_or_lt_of_le (Nat.le_of_not_lt him) with e | hlt
        · exact e.symm
        · obtain ⟨e, he, hb, hek⟩ := hc i o hlt ho
          have := hdep e he hb
          rw [hlm e.on (by omega)] at this
          cases this
      subst hmm
      refine hall (fun k hk => ?_)
      have hlist : ∀ n k, k < i → i - k ≤ n → listed.getD k false = true := by
        intro n
        induction n with
        | zero => intro k hk hn; omega
        | succ n ihn =>
          intro k hk hn
          obtain ⟨j, oj, hkj, hjm, hoj, e, he, hb, hek⟩ := hw hio k hk
          rw [← hek]
          by_cases hji : j = i
          · subst hji
            rw [ho] at hoj
            cases hoj
            exact hdep e he hb
          · exact hF.2.2 j oj (ihn j (by omega) (by omega)) hoj e he hb
      exact hlist _ k hk (Nat.le_refl _)
def lWaits (ops : Array Oper) (j i : Nat) : Bool := match ops[j]? with | some o => o.after.any (fun e => Region.binds .any e && e.on == i) | none => false
theorem lwaits_at {j i : Nat} {o : Oper} (h : lWaits ops j i = true) (ho : ops[j]? = some o) : ∃ e ∈ o.after, Region.binds .any e = true ∧ e.on = i := by
  unfold lWaits at h
  rw [ho] at h
  simp only [Array.any_eq_true', Bool.and_eq_true, beq_iff_eq] at h
  exact h
def dupFree : List (Option Tmp) → Bool
  | [] => true
  | x :: l => (x.isNone || !l.contains x) && dupFree l
theorem dupFree_spec : ∀ {l : List (Option Tmp)} {i j : Nat} {d : Tmp}, dupFree l = true → i < j → l[i]? = some (some d) → l[j]? ≠ some (some d)
  | [], _, _, _, _, _, h => by simp at h
  | x :: l, 0, j + 1, d, h, _, hi => fun hj => by
    simp at hi hj
    subst hi
    simp [dupFree] at h
    exact h.1 (List.mem_of_getElem? hj)
  | x :: l, i + 1, j + 1, d, h, hij, hi => fun hj => by
    simp [dupFree] at h hi hj
    exact dupFree_spec h.2 (by omega) hi hj
def lookB (L : List Laid) (ops : Array Oper) (m k : Nat) (o : Oper) : Bool := (o.looksAt ops).all (fun d => (List.range m).all fun i => dstOf ops i != some d || (decide (i < k) && quietAtB L ops i && lWaits ops k i))
/-- What is laid is laid as L says. -/
def laidOp (L : List Laid) (ops : Array Oper) (m k : Nat) (o : Oper) : Bool :=
  o.guard.isNone && match o.op with
  | .alloc t => L.any (fun e => !e.bx && e.n.isNone && o.dst == some e.d && e.t == t)
  | .store t (.tmp d) (.tmp x) => o.dst.isNone && L.any (fun e => !e.bx && e.n.isNone && e.d == d && e.t == t && e.x == x) && (List.range m).all (fun i => dstOf ops i != some x || (quietAtB L ops i && lWaits ops k i)) && (List.range m).all (fun i => dstOf ops i != some d || lWaits ops k i)
  | .store .. => false
  | _ => L.any (fun e => e.bx && o.dst == some e.d && e.x == k) && lookB L ops m k o
def isSel (o : Oper) : Bool := match o.op with | .select .. => true | _ => false
def shapeB (L : List Laid) (ops : Array Oper) (m : Nat) : Bool :=
  dupFree ((ops.toList.take m).map (·.dst)) && dupFree (L.map (fun e => some e.d)) &&
  (List.range ops.size).all (fun j => match ops[j]? with
    | none => true
    | some o => !isSel o && o.after.all (fun e => !(Region.binds .any e) || decide (e.on < j)) &&
      (if j < m then (if isLaid L o then laidOp L ops m j o else lookB L ops m j o) else true)) &&
  L.all (fun e => (List.range m).any (fun i => match ops[i]? with | some o => dstOf ops i == some e.d && isLaid L o && (!e.bx || e.x == i) | none => false) && (e.bx || (List.range m).any (fun i => match ops[i]? with | some ⟨_, .store _ (.tmp d) _, _, _, _, _⟩ => d == e.d | _ => false))) &&
  decide (m ≤ ops.size) && (List.range ops.size).all (fun k => decide (k ≤ m) || lWaits ops k (k - 1)) &&
  (decide (ops.size ≤ m) || (List.range m).all (fun i => (List.range (m + 1)).any (fun j => decide (i < j) && lWaits ops j i)))
theorem isLaid_d {L : List Laid} {o : Oper} {e : Laid} (hb : e.bx = false) (he : e ∈ L) {t : TypeId} {x : Operand} (h : o.op = .store t (.tmp e.d) x) : isLaid L o = true := by
  unfold isLaid
  rw [List.any_eq_true]
  exact ⟨e, he, by simp [hb, h]⟩
theorem isLaid_x {L : List Laid} {o : Oper} {e : Laid} (hb : e.bx = true) (he : e ∈ L) (h : o.dst = some e.d) : isLaid L o = true := by
  unfold isLaid
  rw [List.any_eq_true]
  exact ⟨e, he, by simp [hb, h]⟩
structure Shape (L : List Laid) (ops : Array Oper) (m : Nat) : Prop where
  slots : Slots L ops m
  deps : ∀ (i : Nat) (o : Oper), ops[i]? = some o → ∀ e ∈ o.after, Region.binds .any e = true → e.on < i
  laid : ∀ i o, i < m → ops[i]? = some o → isLaid L o = true → laidOp L ops m i o = true
  hasA : ∀ e ∈ L, ∃ i o, i < m ∧ ops[i]? = some o ∧ o.dst = some e.d ∧ isLaid L o = true ∧ (e.bx = true → e.x = i)
  hasS : ∀ e ∈ L, e.bx = false → ∃ i o t x, i < m ∧ ops[i]? = some o ∧ o.op = .store t (.tmp e.d) x
  le : m ≤ ops.size
  chain : ∀ (k : Nat) (o : Oper), m < k → ops[k]? = some o → ∃ e ∈ o.after, Region.binds .any e = true ∧ e.on + 1 = k
  last : m < ops.size → ∀ i, i < m → ∃ j o, i < j ∧ j ≤ m ∧ ops[j]? = some o ∧ ∃ e ∈ o.after, Region.binds .any e = true ∧ e.on = i
  dup : dupFree (L.map (fun e => some e.d)) = true
theorem dupFree_nodup : ∀ {L : List Laid}, dupFree (L.map (fun e => some e.d)) = true → (L.map (·.d)).Nodup
  | [], _ => List.nodup_nil
  | e :: L, h => by
    simp [dupFree] at h
    simp only [List.map_cons, List.nodup_cons, List.mem_map, not_exists, not_and]
    exact ⟨fun x hx => h.1 x hx, dupFree_nodup h.2⟩
theorem look_of {L : List Laid} {m k : Nat} {o : Oper} (h : lookB L ops m k o = true) (ho : ops[k]? = some o) : ∀ d ∈ o.looksAt ops, ∀ i, i < m → dstOf ops i = some d → i < k ∧ quietAtB L ops i = true ∧ ∃ e ∈ o.after, Region.binds .any e = true ∧ e.on = i := fun d hd i hi hdi => by
  have h6 := List.all_eq_true.1 (List.all_eq_true.1 h d hd) i (List.mem_range.2 hi)
  simp only [hdi, bne_self_eq_false, Bool.false_or, Bool.and_eq_true, decide_eq_true_eq] at h6
  exact ⟨h6.1.1, h6.1.2, lwaits_at h6.2 ho⟩
theorem shape_of {L : List Laid} {m : Nat} (h : shapeB L ops m = true) : Shape L ops m := by
  unfold shapeB at h
  simp only [Bool.and_eq_true] at h
  obtain ⟨⟨⟨⟨⟨⟨h1, h2⟩, h3⟩, h4⟩, h5⟩, h6⟩, h7⟩ := h
  have hops : ∀ j o, ops[j]? = some o → (!isSel o && o.after.all (fun e => !(Region.binds .any e) || decide (e.on < j)) &&
      (if j < m then (if isLaid L o then laidOp L ops m j o else lookB L ops m j o) else true)) = true := fun j o ho => by
    have hj := (Array.getElem?_eq_some_iff.1 ho).1
    have := List.all_eq_true.1 h3 j (List.mem_range.2 hj)
    simp only [ho] at this
    exact this
  have hdl2 : ∀ i d, i < m → dstOf ops i = some d → ((ops.toList.take m).map (·.dst))[i]? = some (some d) := fun i d him hd => by
    simp only [List.getElem?_map, List.getElem?_take, him, if_true, Array.getElem?_toList]
    unfold dstOf at hd
    cases e : ops[i]? with
    | none => rw [e] at hd; cases hd
    | some q => rw [e] at hd; exact congrArg some hd
  refine ⟨⟨fun i j d hij hi0 hj0 hi hj => ?_, fun j o hj ho hl => ?_, fun j o ho cs b hc => ?_⟩, fun i o ho e he hb => ?_, fun i o hi ho hl => ?_, fun e he => ?_, fun e he hb => ?_, of_decide_eq_true h5, fun k o hk ho => ?_, fun hm i hi => ?_, h2⟩
  · rcases Nat.lt_or_gt_of_ne hij with h | h
    · exact dupFree_spec h1 h (hdl2 i d hi0 hi) (hdl2 j d hj0 hj)
    · exact dupFree_spec h1 h (hdl2 j d hj0 hj) (hdl2 i d hi0 hi)
  · have := hops j o ho
    simp only [Bool.and_eq_true, if_pos hj, hl] at this
    exact look_of this.2 ho
  · have := hops j o ho
    simp only [Bool.and_eq_true] at this
    simp [isSel, hc] at this
  · have := hops i o ho
    simp only [Bool.and_eq_true] at this
    have h6 := Array.all_eq_true'.1 this.1.2 e he
    simpa [hb] using h6
  · have := hops i o ho
    simp only [Bool.and_eq_true, if_pos hi, hl, if_true] at this
    exact this.2
  · have := List.all_eq_true.1 h4 e he
    simp only [Bool.and_eq_true] at this
    obtain ⟨i, hi, h6⟩ := List.any_eq_true.1 this.1
    cases ho : ops[i]? with
    | none => simp [ho] at h6
    | some o =>
      simp only [ho, Bool.and_eq_true, beq_iff_eq, dstOf, Option.bind_some, Bool.or_eq_true, Bool.not_eq_true'] at h6
      exact ⟨i, o, List.mem_range.1 hi, ho, h6.1.1, h6.1.2, fun hb => h6.2.resolve_left (by rw [hb]; decide)⟩
  · have := List.all_eq_true.1 h4 e he
    simp only [Bool.and_eq_true, hb, Bool.false_or] at this
    obtain ⟨i, hi, h6⟩ := List.any_eq_true.1 this.2
    cases ho : ops[i]? with
    | none => simp [ho] at h6
    | some o =>
      obtain ⟨dst, op, ty, pos, after, guard⟩ := o
      rw [ho] at h6
      cases op <;> try (simp at h6; done)
      rename_i t x y
      cases x <;> try (simp at h6; done)
      simp only [beq_iff_eq] at h6
      subst h6
      exact ⟨i, _, t, y, List.mem_range.1 hi, ho, rfl⟩
  · have hks := (Array.getElem?_eq_some_iff.1 ho).1
    have := List.all_eq_true.1 h6 k (List.mem_range.2 hks)
    simp only [Bool.or_eq_true, decide_eq_true_eq] at this
    obtain ⟨e, he, hb, hek⟩ := lwaits_at (this.resolve_left (by omega)) ho
    exact ⟨e, he, hb, by omega⟩
  · simp only [Bool.or_eq_true, decide_eq_true_eq] at h7
    rcases h7 with h | h
    · omega
    · obtain ⟨j, hj, h6⟩ := List.any_eq_true.1 (List.all_eq_true.1 h i (List.mem_range.2 hi))
      simp only [Bool.and_eq_true, decide_eq_true_eq] at h6
      have hjs := List.mem_range.1 hj
      have hjo : j < ops.size := by omega
      exact ⟨j, ops[j], h6.1, by omega, Array.getElem?_eq_getElem hjo, lwaits_at h6.2 (Array.getElem?_eq_getElem hjo)⟩
/-- The blocks that were laid: what fills each; the slots that point to them. -/
def LFit (P : Program) (ops : Array Oper) (F : Act) (p : Laid × Array Value) : Prop :=
  (p.1.bx = true → ∃ o, ops[p.1.x]? = some o ∧ ∀ w, (execOp F.eval o).run P w = .ok (.value (p.1.val w.heap.size)) (w.alloc (.cells p.2 p.1.t))) ∧
  (p.1.bx = false → p.2 = (F.eval (.tmp p.1.x)).cells ∧ Fits P p.1.t (F.eval (.tmp p.1.x)) ∧ Zeros P p.1.t p.2.size)
def LEnd (W : World) (E : Act → World → Prop) : List (Laid × Array Value) → Act → List Nat → (World → Prop) → Prop
  | [], a, _, K => ∀ w', Below W.heap.size W w' → K w' → E a w'
  | (e, c) :: L, a, bs, K => ∀ b, W.heap.size ≤ b → (∀ b' ∈ bs, b ≠ b') → LEnd W E L (a.put (some e.d) (e.val b)) (b :: bs) (fun w' => K w' ∧ w'.heap[b]? = some (.cells c e.t (0, 0)))
def LHas (n : Nat) (p : Laid × Array Value) (a : Act) (w : World) : Prop := ∃ b c, a.tmps[p.1.d]? = some (p.1.val b) ∧ n ≤ b ∧ w.heap[b]? = some (.cells c p.1.t (0, 0)) ∧ c.size = p.2.size
def LGot (n : Nat) (p : Laid × Array Value) (a : Act) (w : World) : Prop := ∃ b, a.tmps[p.1.d]? = some (p.1.val b) ∧ n ≤ b ∧ w.heap[b]? = some (.cells p.2 p.1.t (0, 0))
/-- The slot has been written. -/
def LW (ops : Array Oper) (listed : Array Bool) (e : Laid) : Prop := ∃ i o, listed.getD i false = true ∧ ops[i]? = some o ∧ o.dst = some e.d
def LB (L : List Laid) (ops : Array Oper) (m : Nat) (W : World) (a0 : Act) (listed : Array Bool) (a : Act) (w : World) : Prop :=
  Below W.heap.size W w ∧ a.tmps.size = a0.tmps.size ∧ a.defers = a0.defers ∧ (∀ t, (∀ i, i < m → dstOf ops i ≠ some t) → a.tmps[t]? = a0.tmps[t]?) ∧
  (∀ e ∈ L, LW ops listed e → ∀ b, a.tmps[e.d]? = some (e.val b) → b < w.heap.size ∧ ∀ e' ∈ L, LW ops listed e' → e'.d ≠ e.d → ∀ b', a.tmps[e'.d]? = some (e'.val b') → b' ≠ b)
def LR (Lc : List (Laid × Array Value)) (ops : Array Oper) (n : Nat) (F : Act) (i : Nat) (a : Act) (w : World) : Prop :=
  ∀ o, ops[i]? = some o → (isLaid (Lc.map (·.1)) o = false → ∀ d, o.dst = some d → a.tmps[d]? = F.tmps[d]?) ∧
    ∀ p ∈ Lc, (o.dst = some p.1.d → p.1.bx = false → LHas n p a w) ∧ (o.dst = some p.1.d → p.1.bx = true → LGot n p a w) ∧ (∀ t x, o.op = .store t (.tmp p.1.d) x → p.1.bx = false → LGot n p a w)
theorem lop_of {Q : Exit → Act → World → Prop} {K : Act → World → Prop} {a : Act} {w : World} {o : Oper} {i : Nat} (ho : ops[i]? = some o) (hgd : o.guard = none) (h : Oper.wp P o a w K Q) : wpOp P ops Q i K a w := by
  unfold wpOp
  rw [ho]
  have hw : Region.wanted o (yielded ops a.tmps) = true := by simp [Region.wanted, hgd]
  simp only [hw, if_true]
  exact .inl h
theorem heap_keep {w w' : World} {b : Nat} {o : Obj} (h : w.heap[b]? = some o) (hb : Below w.heap.size w w') : w'.heap[b]? = some o := (hb.block b (Array.getElem?_eq_some_iff.1 h).1).trans h
theorem below_onto {W w w' : World} (h : Below W.heap.size W w) (hb : Below w.heap.size w w') : Below W.heap.size W w' := h.trans (hb.mono h.size)
theorem leval_tmp {a b : Act} {x : Tmp} (h : a.tmps[x]? = b.tmps[x]?) : a.eval (.tmp x) = b.eval (.tmp x) := by simp only [Act.eval, Array.getD_eq_getD_getElem?, h]
theorem leval_at {a : Act} {x : Tmp} {v : Value} (h : a.tmps[x]? = some v) : a.eval (.tmp x) = v := by simp [Act.eval, Array.getD_eq_getD_getElem?, h]
/-- The end: the frame that stands is the one that LEnd speaks of. -/
theorem lend_out {W : World} {E : Act → World → Prop} {a : Act} {w : World} (hb : Below W.heap.size W w) : ∀ (L : List (Laid × Array Value)) (a1 : Act) (bs : List Nat) (K : World → Prop), LEnd W E L a1 bs K → K w → ((L.map (·.1)).map (·.d)).Nodup →
    (∀ p ∈ L, ∃ b, a.tmps[p.1.d]? = some (p.1.val b) ∧ W.heap.size ≤ b ∧ w.heap[b]? = some (.cells p.2 p.1.t (0, 0)) ∧ (∀ b' ∈ bs, b ≠ b') ∧ ∀ p' ∈ L, p'.1.d ≠ p.1.d → ∀ b', a.tmps[p'.1.d]? = some (p'.1.val b') → b' ≠ b) →
    a1.tmps.size = a.tmps.size → a1.defers = a.defers → (∀ t, (∀ p ∈ L, p.1.d ≠ t) → a1.tmps[t]? = a.tmps[t]?) → E a w
  | [], a1, bs, K, h, hK, _, _, hs, hd, ht => by
    have : a1 = a := Act.ext_tmps (Array.ext_getElem? fun t => ht t (fun e he => by cases he)) hd
    exact this ▸ h w hb hK
  | (e, c) :: L, a1, bs, K, h, hK, hnd, hL, hs, hd, ht => by
    obtain ⟨b, q1, q2, q3, q4, q5⟩ := hL (e, c) (List.mem_cons_self ..)
    simp only [List.map_cons, List.nodup_cons, List.mem_map, not_exists, not_and] at hnd
    refine lend_out hb L _ (b :: bs) _ (h b q2 q4) ⟨hK, q3⟩ hnd.2 (fun p' hp' => ?_) (by rw [lput_size]; exact hs) (by rw [lput_defers]; exact hd) (fun t hte => ?_)
    · obtain ⟨b', p1, p2, p3, p4, p5⟩ := hL p' (List.mem_cons_of_mem _ hp')
      exact ⟨b', p1, p2, p3, fun k hk => by
        rcases List.mem_cons.1 hk with rfl | hk
        · exact q5 p' (List.mem_cons_of_mem _ hp') (fun e => hnd.1 p'.1 ⟨p', hp', rfl⟩ e) b' p1
        · exact p4 k hk, fun p'' hp'' => p5 p'' (List.mem_cons_of_mem _ hp'')⟩
    · by_cases hte2 : e.d = t
      · subst hte2
        have hlt := (Array.getElem?_eq_some_iff.1 q1).1
        rw [lput_at (by rw [hs]; exact hlt), q1]
      · rw [lput_off (by intro e; injection e with e; exact hte2 e)]
        exact ht t (fun p' hp' => by
          rcases List.mem_cons.1 hp' with rfl | hp'
          · exact hte2
          · exact hte p' hp')
theorem LW.before {listed : Array Bool} {e : Laid} {i : Nat} {o : Oper} (ho : ops[i]? = some o) (hne : o.dst ≠ some e.d) (h : LW ops (listed.setIfInBounds i true) e) : LW ops listed e := by
  obtain ⟨j, oj, hj, hoj, hd⟩ := h
  rcases listed_set hj with rfl | hj
  · rw [ho] at hoj
    cases hoj
    exact absurd hd hne
  · exact ⟨j, oj, hj, hoj, hd⟩
/-- An operation that fills a slot of its own and lays blocks at most. -/
theorem LB.put {L : List Laid} {m : Nat} {W : World} {a0 a : Act} {listed : Array Bool} {w w' : World} {o : Oper} {v : Value} {i : Nat} (h : LB L ops m W a0 listed a w) (hb : Below w.heap.size w w') (hi : i < m) (ho : ops[i]? = some o) (hne : ∀ e ∈ L, o.dst ≠ some e.d) : LB L ops m W a0 (listed.setIfInBounds i true) (a.put o.dst v) w' := by
  obtain ⟨b1, b2, b3, b4, b5⟩ := h
  have hdi : dstOf ops i = o.dst := by simp [dstOf, ho]
  refine ⟨below_onto b1 hb, lput_size.trans b2, lput_defers.trans b3, fun t ht => ?_, fun e he hw b hbe => ?_⟩
  · rw [lput_off (by rw [← hdi]; exact ht i hi)]
    exact b4 t ht
  · rw [lput_off (hne e he)] at hbe
    have hw := hw.before ho (hne e he)
    refine ⟨Nat.lt_of_lt_of_le (b5 e he hw b hbe).1 hb.size, fun e' he' hw' hd b' hb' => ?_⟩
    rw [lput_off (hne e' he')] at hb'
    exact (b5 e he hw b hbe).2 e' he' (hw'.before ho (hne e' he')) hd b' hb'
theorem LHas.keep {n : Nat} {p : Laid × Array Value} {a a' : Act} {w w' : World} (h : LHas n p a w) (hb : Below w.heap.size w w') (ha : a'.tmps[p.1.d]? = a.tmps[p.1.d]?) : LHas n p a' w' := by
  obtain ⟨b, c, h1, h2, h3, h4⟩ := h
  exact ⟨b, c, ha.trans h1, h2, heap_keep h3 hb, h4⟩
theorem LGot.keep {n : Nat} {p : Laid × Array Value} {a a' : Act} {w w' : World} (h : LGot n p a w) (hb : Below w.heap.size w w') (ha : a'.tmps[p.1.d]? = a.tmps[p.1.d]?) : LGot n p a' w' := by
  obtain ⟨b, h1, h2, h3⟩ := h
  exact ⟨b, ha.trans h1, h2, heap_keep h3 hb⟩
theorem LGot.has {n : Nat} {p : Laid × Array Value} {a : Act} {w : World} (h : LGot n p a w) : LHas n p a w := by
  obtain ⟨b, h1, h2, h3⟩ := h
  exact ⟨b, _, h1, h2, h3, rfl⟩
theorem laid_mem {Lc : List (Laid × Array Value)} {p : Laid × Array Value} (h : p ∈ Lc) : p.1 ∈ Lc.map (·.1) := List.mem_map.2 ⟨p, h, rfl⟩
theorem laid_one {Lc : List (Laid × Array Value)} (hd : dupFree ((Lc.map (·.1)).map (fun e => some e.d)) = true) {p p' : Laid × Array Value} (hp : p ∈ Lc) (hp' : p' ∈ Lc) (h : p.1.d = p'.1.d) : p = p' := by
  obtain ⟨i, hi⟩ := List.getElem?_of_mem hp
  obtain ⟨j, hj⟩ := List.getElem?_of_mem hp'
  have hi2 : ((Lc.map (·.1)).map (fun e => some e.d))[i]? = some (some p.1.d) := by simp [hi]
  have hj2 : ((Lc.map (·.1)).map (fun e => some e.d))[j]? = some (some p.1.d) := by simp [hj, h]
  rcases Nat.lt_trichotomy i j with h | h | h
  · exact absurd hj2 (dupFree_spec hd h hi2)
  · subst h
    rw [hi] at hj
    cases hj
    rfl
  · exact absurd hi2 (dupFree_spec hd h hj2)
theorem LR.keep {Lc : List (Laid × Array Value)} {m : Nat} {n : Nat} {F a : Act} {w w' : World} {dst : Option Tmp} {v : Value} {i j : Nat} {oj : Oper} (S : Shape (Lc.map (·.1)) ops m) (hi : i < m) (hdi : dstOf ops i = dst) (hb : Below w.heap.size w w')
    (hjm : j < m) (hoj : ops[j]? = some oj) (hne : j ≠ i) (hnw : ∀ e ∈ oj.after, Region.binds .any e = true → e.on ≠ i) (h : LR Lc ops n F j a w) : LR Lc ops n F j (a.put dst v) w' := by
  have hms : m ≤ ops.size := S.le
  obtain ⟨r1, r2⟩ := h oj hoj
  intro o ho
  obtain rfl : o = oj := by rw [hoj] at ho; exact (Option.some.inj ho).symm
  have hdj : ∀ d, o.dst = some d → dst ≠ some d := fun d hd e => S.slots.uniq i j d (Ne.symm hne) hi hjm (by rw [hdi, e]) (by simp [dstOf, ho, hd])
  refine ⟨fun hl d hd => (lput_off (hdj d hd)).trans (r1 hl d hd), fun p hp => ⟨fun h1 h2 => ((r2 p hp).1 h1 h2).keep hb (lput_off (hdj _ h1)), fun h1 h2 => ((r2 p hp).2.1 h1 h2).keep hb (lput_off (hdj _ h1)), fun t x h1 h2 => ((r2 p hp).2.2 t x h1 h2).keep hb (lput_off fun hd => ?_)⟩⟩
  have hl := isLaid_d h2 (laid_mem hp) h1
  have hlo := S.laid j o hjm ho hl
  unfold laidOp at hlo
  cases x with
  | tmp x =>
    simp only [h1, Bool.and_eq_true] at hlo
    have h6 := List.all_eq_true.1 hlo.2.2 i (List.mem_range.2 hi)
    rw [hdi, hd] at h6
    simp only [bne_self_eq_false, Bool.false_or] at h6
    obtain ⟨e', he', hb', h'⟩ := lwaits_at h6 ho
    exact hnw e' he' hb' h'
  | _ => simp [h1] at hlo
theorem laid_eq {L : List Laid} (hd : dupFree (L.map (fun e => some e.d)) = true) {e e1 : Laid} (he : e ∈ L) (he1 : e1 ∈ L) (h1 : e1.d = e.d) : e1 = e := by
  obtain ⟨i, hi⟩ := List.getElem?_of_mem he1
  obtain ⟨j, hj⟩ := List.getElem?_of_mem he
  have hi2 : (L.map (fun e => some e.d))[i]? = some (some e1.d) := by simp [hi]
  have hj2 : (L.map (fun e => some e.d))[j]? = some (some e1.d) := by simp [hj, h1]
  rcases Nat.lt_trichotomy i j with h | h | h
  · exact absurd hj2 (dupFree_spec hd h hi2)
  · subst h
    rw [hi] at hj
    cases hj
    rfl
  · exact absurd hi2 (dupFree_spec hd h hj2)
theorem LB.new {L : List Laid} {m : Nat} {W : World} {a0 a : Act} {listed : Array Bool} {w : World} {e : Laid} {o : Obj} {op : Oper} {i : Nat} (h : LB L ops m W a0 listed a w) (S : Shape L ops m) (hi : i < m) (ho : ops[i]? = some op) (hd : op.dst = some e.d) (he : e ∈ L) (hs : e.d < a.tmps.size) : LB L ops m W a0 (listed.setIfInBounds i true) (a.put (some e.d) (e.val w.heap.size)) (w.alloc o) := by
  obtain ⟨b1, b2, b3, b4, b5⟩ := h
  have hb : Below w.heap.size w (w.alloc o) := (Below.refl _ _).alloc (Nat.le_refl _) _
  have hsz : (w.alloc o).heap.size = w.heap.size + 1 := by simp
  have hdi : dstOf ops i = some e.d := by simp [dstOf, ho, hd]
  refine ⟨below_onto b1 hb, lput_size.trans b2, lput_defers.trans b3, fun t ht => ?_, fun e1 he1 hw b hbe => ?_⟩
  · rw [lput_off (by rw [← hdi]; exact ht i hi)]
    exact b4 t ht
  · by_cases h1 : e1.d = e.d
    · obtain rfl := laid_eq S.dup he he1 h1
      rw [lput_at hs] at hbe
      obtain rfl := Laid.val_inj (Option.some.inj hbe)
      refine ⟨by omega, fun e' he' hw' hd' b' hb' => ?_⟩
      rw [lput_off (by intro q; injection q with q; exact hd' q.symm)] at hb'
      have := (b5 e' he' (hw'.before ho (by rw [hd]; intro q; injection q with q; exact hd' q.symm)) b' hb').1
      omega
    · rw [lput_off (by intro q; injection q with q; exact h1 q.symm)] at hbe
      have hw := hw.before ho (by rw [hd]; intro q; injection q with q; exact h1 q.symm)
      refine ⟨by have := (b5 e1 he1 hw b hbe).1; omega, fun e' he' hw' hd' b' hb' => ?_⟩
      by_cases h2 : e'.d = e.d
      · obtain rfl := laid_eq S.dup he he' h2
        rw [lput_at hs] at hb'
        obtain rfl := Laid.val_inj (Option.some.inj hb')
        have := (b5 e1 he1 hw b hbe).1
        omega
      · rw [lput_off (by intro q; injection q with q; exact h2 q.symm)] at hb'
        exact (b5 e1 he1 hw b hbe).2 e' he' (hw'.before ho (by rw [hd]; intro q; injection q with q; exact h2 q.symm)) hd' b' hb'
theorem looks_same {Lc : List (Laid × Array Value)} {m : Nat} {W : World} {F a0 a : Act} {w : World} {i : Nat} {o : Oper} {d : Tmp} {listed : Array Bool} (S : Shape (Lc.map (·.1)) ops m) (ho : ops[i]? = some o) (hi : i < m) (hB : LB (Lc.map (·.1)) ops m W a0 listed a w)
    (hF : ∀ t, (∀ i, 0 ≤ i → i < m → quietAtB (Lc.map (·.1)) ops i = true → dstOf ops i ≠ some t) → F.tmps[t]? = a0.tmps[t]?)
    (hR : ∀ e ∈ o.after, Region.binds .any e = true → LR Lc ops W.heap.size F e.on a w) (hd : ∀ j, j < m → dstOf ops j = some d → quietAtB (Lc.map (·.1)) ops j = true ∧ ∃ e ∈ o.after, Region.binds .any e = true ∧ e.on = j) : a.tmps[d]? = F.tmps[d]? := by
  have hms : m ≤ ops.size := S.le
  by_cases h : ∃ j, j < m ∧ dstOf ops j = some d
  · obtain ⟨j, hj, hdj⟩ := h
    obtain ⟨hq, e, he, hb, rfl⟩ := hd j hj hdj
    have hoj : ops[e.on]? = some ops[e.on] := Array.getElem?_eq_getElem (by omega)
    have hdj' : ops[e.on].dst = some d := by simpa [dstOf, hoj] using hdj
    have hl : isLaid (Lc.map (·.1)) ops[e.on] = false := by simpa [quietAtB, hoj] using hq
    exact (hR e he hb _ hoj).1 hl d hdj'
  · have h' : ∀ j, j < m → dstOf ops j ≠ some d := fun j hj e => h ⟨j, hj, e⟩
    rw [hB.2.2.2.1 d h', hF d (fun j _ hj _ => h' j hj)]
/-- What is asked where the walk is through. -/
def LDone (P : Program) (ops : Array Oper) (W : World) (Q : Exit → Act → World → Prop) (L : List Laid) (tl : List Oper) (F : Act) : Prop := ∃ Lc : List (Laid × Array Value), Lc.map (·.1) = L ∧ (∀ p ∈ Lc, LFit P ops F p) ∧ LEnd W (wpList P ops Q tl) Lc F [] (fun _ => True)
/-- **A region that lays blocks, in whatever order.** -/
theorem wp_region_laid {id : Nat} {Q : Exit → Act → World → Prop} {T : Array Value} {W : World} (hm : P.follows .mixedOrders = true) (L : List Laid) (m : Nat) (hSB : shapeB L ops m = true) (hT : L.all (fun e => decide (e.d < T.size)) = true)
    (h : wpLex P ops (fun w => Below W.heap.size W w) L (fun tl F => LDone P ops W Q L tl F) m ops.toList ⟨T, []⟩) : (Code.region id ops true).wp P Q ⟨T, []⟩ W := by
  have S := shape_of hSB
  have hms : m ≤ ops.size := S.le
  obtain ⟨V, F, ⟨tl, htl, Lc, hLc, hFit, hE⟩, hFd, hFs, hF4, hF5⟩ := wpLex_spec S.slots m 0 ops.toList ⟨T, []⟩ (by simp) (by omega) hms h
  subst hLc
  have hTd : ∀ p ∈ Lc, p.1.d < T.size := fun p hp => of_decide_eq_true (List.all_eq_true.1 hT p.1 (laid_mem hp))
  have hone : ∀ {p p' : Laid × Array Value}, p ∈ Lc → p' ∈ Lc → p.1.d = p'.1.d → p = p' := fun hp hp' h => laid_one S.dup hp hp' h
  refine wp_region_any hm (wpAny_laid (LB (Lc.map (·.1)) ops m W ⟨T, []⟩) (LR Lc ops W.heap.size F) m hms S.deps S.chain S.last ?_ tl htl ?_ _ _ _ _ (by simp) (by rw [left_all]; exact Nat.le_refl _) (fun j _ => none_listed _ _) ⟨?_, (fun i _ hi => by rw [none_listed] at hi; cases hi), (fun j o hj => by rw [none_listed] at hj; cases hj)⟩)
  · intro i o a w listed hi ho hB hcl hlz _ hR0
    have hR : ∀ e ∈ o.after, Region.binds .any e = true → LR Lc ops W.heap.size F e.on a w := fun e he hb => (hR0 e he hb).1
    have hdi : dstOf ops i = o.dst := by simp [dstOf, ho]
    have hsz : a.tmps.size = T.size := hB.2.1
    by_cases hl : isLaid (Lc.map (·.1)) o = true
    · have hlo := S.laid i o hi ho hl
      -- an operation that lays its block filled
      have hfresh : ∀ p ∈ Lc, p.1.bx = true → o.dst = some p.1.d → p.1.x = i → o.guard = none → (∀ t x y, o.op ≠ .store t x y) → lookB (Lc.map (·.1)) ops m i o = true → wpOp P ops Q i (fun a' w' => LB (Lc.map (·.1)) ops m W ⟨T, []⟩ (listed.setIfInBounds i true) a' w' ∧ LR Lc ops W.heap.size F i a' w' ∧ ∀ j oj, j < m → listed.getD j false = true → ops[j]? = some oj → j ≠ i → (∀ e ∈ oj.after, Region.binds .any e = true → e.on ≠ i) → LR Lc ops W.heap.size F j a w → LR Lc ops W.heap.size F j a' w') a w := by
        intro p hp hbx hd hx hg hns hlk
        obtain ⟨o', ho', hrun⟩ := (hFit p hp).1 hbx
        rw [hx, ho] at ho'
        cases ho'
        have hev : execOp a.eval o = execOp F.eval o := look_eval (S.slots.nosel i o ho) (fun d hd => looks_same S ho hi hB hF4 hR (fun j hj hdj => (look_of hlk ho d hd j hj hdj).2))
        refine lop_of ho hg ?_
        unfold Oper.wp
        rw [hev, hrun w]
        simp only [Oper.upon]
        rw [hd]
        have hb : Below w.heap.size w (w.alloc (.cells p.2 p.1.t)) := (Below.refl _ _).alloc (Nat.le_refl _) _
        refine ⟨hB.new S hi ho hd (laid_mem hp) (by rw [hsz]; exact hTd p hp), fun o' ho' => ?_, fun j oj hjm _ hoj hne hnw hRj => hRj.keep S hi (hdi.trans hd) hb hjm hoj hne hnw⟩
        rw [ho] at ho'
        cases ho'
        refine ⟨fun hq => (by rw [hl] at hq; cases hq), fun p' hp' => ⟨fun h1 h2 => ?_, fun h1 h2 => ?_, fun t x h1 => absurd h1 (hns _ _ _)⟩⟩
        · rw [hd] at h1
          injection h1 with h1
          obtain rfl := hone hp hp' h1
          rw [hbx] at h2
          cases h2
        · rw [hd] at h1
          injection h1 with h1
          obtain rfl := hone hp hp' h1
          exact ⟨w.heap.size, lput_at (by rw [hsz]; exact hTd p hp), hB.1.size, heap_alloc_new w _⟩
      have hother : (((Lc.map (·.1)).any (fun e => e.bx && o.dst == some e.d && e.x == i)) && lookB (Lc.map (·.1)) ops m i o) = true → o.guard = none → (∀ t x y, o.op ≠ .store t x y) → wpOp P ops Q i (fun a' w' => LB (Lc.map (·.1)) ops m W ⟨T, []⟩ (listed.setIfInBounds i true) a' w' ∧ LR Lc ops W.heap.size F i a' w' ∧ ∀ j oj, j < m → listed.getD j false = true → ops[j]? = some oj → j ≠ i → (∀ e ∈ oj.after, Region.binds .any e = true → e.on ≠ i) → LR Lc ops W.heap.size F j a w → LR Lc ops W.heap.size F j a' w') a w := by
        intro h hg hns
        simp only [Bool.and_eq_true] at h
        obtain ⟨e, he, h6⟩ := List.any_eq_true.1 h.1
        obtain ⟨p, hp, rfl⟩ := List.mem_map.1 he
        simp only [Bool.and_eq_true, beq_iff_eq] at h6
        exact hfresh p hp h6.1.1 h6.1.2 h6.2 hg hns h.2
      unfold laidOp at hlo
      simp only [Bool.and_eq_true, Option.isNone_iff_eq_none] at hlo
      obtain ⟨hg, hlo⟩ := hlo
      split at hlo
      · rename_i t hop
        simp only [List.any_eq_true, Bool.and_eq_true, Bool.not_eq_true', beq_iff_eq, Option.isNone_iff_eq_none] at hlo
        obtain ⟨e, he, ⟨⟨hbx, hn⟩, hd⟩, rfl⟩ := hlo
        obtain ⟨p, hp, rfl⟩ := List.mem_map.1 he
        obtain ⟨hc, hf, hz⟩ := (hFit p hp).2 hbx
        obtain ⟨z, hz1, hz2⟩ := hz.run w
        refine lop_of ho hg ?_
        unfold Oper.wp
        rw [show (execOp a.eval o).run P w = .ok (.value (p.1.val w.heap.size)) (w.alloc (.cells z.cells p.1.t)) by simp [execOp, hop, go_sem, hz1, Laid.val, hn]]
        simp only [Oper.upon]
        rw [hd]
        have hb : Below w.heap.size w (w.alloc (.cells z.cells p.1.t)) := (Below.refl _ _).alloc (Nat.le_refl _) _
        refine ⟨hB.new S hi ho hd he (by rw [hsz]; exact hTd p hp), fun o' ho' => ?_, fun j oj hjm _ hoj hne hnw hRj => hRj.keep S hi (hdi.trans hd) hb hjm hoj hne hnw⟩
        rw [ho] at ho'
        cases ho'
        refine ⟨fun hq => (by rw [hl] at hq; cases hq), fun p' hp' => ⟨fun h1 h2 => ?_, fun h1 h2 => ?_, fun t x h1 => (by rw [hop] at h1; cases h1)⟩⟩
        · rw [hd] at h1
          injection h1 with h1
          obtain rfl := hone hp hp' h1
          exact ⟨w.heap.size, z.cells, lput_at (by rw [hsz]; exact hTd p hp), hB.1.size, heap_alloc_new w _, hz2⟩
        · rw [hd] at h1
          injection h1 with h1
          obtain rfl := hone hp hp' h1
          rw [hbx] at h2
          cases h2
      · rename_i t d x hop
        simp only [Bool.and_eq_true, List.any_eq_true, Bool.not_eq_true', beq_iff_eq, Option.isNone_iff_eq_none] at hlo
        obtain ⟨⟨⟨hdn, e, he, ⟨⟨⟨hbx, hn⟩, rfl⟩, rfl⟩, rfl⟩, hx⟩, hal⟩ := hlo
        obtain ⟨p, hp, rfl⟩ := List.mem_map.1 he
        have hval : ∀ b, p.1.val b = .pointer (some ⟨b, 0, none⟩) := fun b => by simp [Laid.val, hn]
        obtain ⟨hc, hf, hz⟩ := (hFit p hp).2 hbx
        have hxe : a.eval (.tmp p.1.x) = F.eval (.tmp p.1.x) := leval_tmp (looks_same S ho hi hB hF4 hR (fun j hj hdj => by
          have h6 := List.all_eq_true.1 hx j (List.mem_range.2 hj)
          simp only [hdj, bne_self_eq_false, Bool.false_or, Bool.and_eq_true] at h6
          exact ⟨h6.1, lwaits_at h6.2 ho⟩))
        obtain ⟨k, ok, hk, hok, hkd, hkl, hkx⟩ := S.hasA p.1 he
        have hH : LHas W.heap.size p a w ∧ LW ops listed p.1 := by
          have h6 := List.all_eq_true.1 hal k (List.mem_range.2 hk)
          rw [show dstOf ops k = some p.1.d by simp [dstOf, hok, hkd]] at h6
          simp only [bne_self_eq_false, Bool.false_or] at h6
          obtain ⟨e', he', hb', rfl⟩ := lwaits_at h6 ho
          exact ⟨((hR e' he' hb' ok hok).2 p hp).1 hkd hbx, e'.on, ok, (hR0 e' he' hb').2, hok, hkd⟩
        obtain ⟨⟨b, c, p1, p2, p3, p4⟩, hLW⟩ := hH
        have p1' := p1
        rw [hval] at p1'
        rw [hc] at p4
        have hrun := hf.store p3 p4
        refine lop_of ho hg ?_
        unfold Oper.wp execOp
        simp only [hop, leval_at p1', hxe, Instr.storeAt, Instr.sureAddr, Sem.run_bind, Sem.run_pure, Result.andThen_ok]
        rw [hrun]
        simp only [Result.andThen_ok, Oper.upon]
        rw [hdn]
        have hh := setRow_heap w b c (F.eval (.tmp p.1.x)).cells p.1.t _ p3
        rw [← hc] at hh
        have hoth : ∀ k, k ≠ b → (w.setRow b (F.eval (.tmp p.1.x)).cells).heap[k]? = w.heap[k]? := fun k hk => setRow_other w b k _ hk
        have hz : (w.setRow b (F.eval (.tmp p.1.x)).cells).heap.size = w.heap.size := by simp
        have hgr : w.grownBy (w.setRow b (F.eval (.tmp p.1.x)).cells) (some b) := ⟨rfl, rfl, rfl, by simp, fun k _ hk => hoth k (fun e => hk (by rw [e]))⟩
        rw [← hc] at hoth hz hgr ⊢
        obtain ⟨w2, hw2⟩ : ∃ w2, w.setRow b p.2 = w2 := ⟨_, rfl⟩
        rw [hw2] at hh hoth hz hgr ⊢
        have hG : LGot W.heap.size p a w2 := ⟨b, p1, p2, hh⟩
        obtain ⟨b1, b2, b3, b4, b5⟩ := hB
        show LB (Lc.map (·.1)) ops m W ⟨T, []⟩ (listed.setIfInBounds i true) (a.put none undef) w2 ∧ _
        rw [show a.put none undef = a from rfl]
        refine ⟨⟨b1.grown hgr b1.size (fun k hk => by injection hk with hk; omega), b2, b3, b4, fun e1 he1 hw b' hb' => by rw [hz]; exact ⟨(b5 e1 he1 (hw.before ho (by rw [hdn]; intro q; cases q)) b' hb').1, fun e2 he2 hw2 hne2 b2 hb2 => (b5 e1 he1 (hw.before ho (by rw [hdn]; intro q; cases q)) b' hb').2 e2 he2 (hw2.before ho (by rw [hdn]; intro q; cases q)) hne2 b2 hb2⟩⟩, fun o' ho' => ?_, fun j oj hjm hjl hoj hne hnw hRj => ?_⟩
        · rw [ho] at ho'
          cases ho'
          refine ⟨fun hq => (by rw [hl] at hq; cases hq), fun p' hp' => ⟨fun h1 h2 => (by rw [hdn] at h1; cases h1), fun h1 h2 => (by rw [hdn] at h1; cases h1), fun t x h1 h2 => ?_⟩⟩
          rw [hop] at h1
          injection h1 with h1 h3
          injection h3 with h3
          obtain rfl := hone hp hp' h3
          exact hG
        · intro o' ho'
          obtain ⟨r1, r2⟩ := hRj o' ho'
          have hkeepG : ∀ p' ∈ Lc, LW ops listed p'.1 → LGot W.heap.size p' a w → LGot W.heap.size p' a w2 := fun p' hp' hw' ⟨b', s1, s2, s3⟩ => by
            by_cases h1 : p'.1.d = p.1.d
            · obtain rfl := hone hp hp' h1.symm
              exact hG
            · exact ⟨b', s1, s2, (hoth b' ((b5 p.1 he hLW b p1).2 p'.1 (laid_mem hp') hw' h1 b' s1)).trans s3⟩
          have hkeepH : ∀ p' ∈ Lc, LW ops listed p'.1 → LHas W.heap.size p' a w → LHas W.heap.size p' a w2 := fun p' hp' hw' ⟨b', c', s1, s2, s3, s4⟩ => by
            by_cases h1 : p'.1.d = p.1.d
            · obtain rfl := hone hp hp' h1.symm
              exact hG.has
            · exact ⟨b', c', s1, s2, (hoth b' ((b5 p.1 he hLW b p1).2 p'.1 (laid_mem hp') hw' h1 b' s1)).trans s3, s4⟩
          refine ⟨r1, fun p' hp' => ⟨fun h1 h2 => hkeepH p' hp' ⟨j, o', hjl, ho', h1⟩ ((r2 p' hp').1 h1 h2), fun h1 h2 => hkeepG p' hp' ⟨j, o', hjl, ho', h1⟩ ((r2 p' hp').2.1 h1 h2), fun t x h1 h2 => hkeepG p' hp' ?_ ((r2 p' hp').2.2 t x h1 h2)⟩⟩
          obtain ⟨k', ok', hk', hok', hkd', hkl', _⟩ := S.hasA p'.1 (laid_mem hp')
          have hlo' := S.laid j o' hjm ho' (isLaid_d h2 (laid_mem hp') h1)
          unfold laidOp at hlo'
          cases x with
          | tmp x =>
            simp only [h1, Bool.and_eq_true] at hlo'
            have h6 := List.all_eq_true.1 hlo'.2.2 k' (List.mem_range.2 hk')
            rw [show dstOf ops k' = some p'.1.d by simp [dstOf, hok', hkd']] at h6
            simp only [bne_self_eq_false, Bool.false_or] at h6
            obtain ⟨e', he', hb', hq'⟩ := lwaits_at h6 ho'
            exact ⟨e'.on, ok', hcl j o' hjl ho' e' he' hb', by rw [hq']; exact hok', hkd'⟩
          | _ => simp [h1] at hlo'
      · cases hlo
      · rename_i hn1 hn2 hn3
        exact hother hlo hg (fun t x y => hn3 t x y)
    · have hl : isLaid (Lc.map (·.1)) o = false := by simpa using hl
      obtain ⟨hy, hv⟩ := hF5 i o (Nat.zero_le _) hi ho hl
      have hy' : Lyields P ops (fun w => Below W.heap.size W w) o (V i) a := hy.of_same (S.slots.nosel i o ho) (fun d hd => looks_same S ho hi hB hF4 hR (fun j hj hdj => (S.slots.look i o hi ho hl d hd j hj hdj).2))
      have hdL : ∀ e ∈ Lc.map (·.1), o.dst ≠ some e.d := fun e he hd => by
        obtain ⟨k, ok, hk, hok, hkd, hkl, _⟩ := S.hasA e he
        have hki : k ≠ i := fun e => by
          subst e
          rw [ho] at hok
          cases hok
          rw [hl] at hkl
          cases hkl
        exact S.slots.uniq k i e.d hki hk hi (by simp [dstOf, hok, hkd]) (by rw [hdi, hd])
      have hK : ∀ w', Below w.heap.size w w' → LB (Lc.map (·.1)) ops m W ⟨T, []⟩ (listed.setIfInBounds i true) (a.put o.dst (V i)) w' ∧ LR Lc ops W.heap.size F i (a.put o.dst (V i)) w' ∧ ∀ j oj, j < m → listed.getD j false = true → ops[j]? = some oj → j ≠ i → (∀ e ∈ oj.after, Region.binds .any e = true → e.on ≠ i) → LR Lc ops W.heap.size F j a w → LR Lc ops W.heap.size F j (a.put o.dst (V i)) w' := fun w' hb => by
        refine ⟨hB.put hb hi ho hdL, fun o' ho' => ?_, fun j oj hjm _ hoj hne hnw hRj => hRj.keep S hi hdi hb hjm hoj hne hnw⟩
        rw [ho] at ho'
        cases ho'
        refine ⟨fun _ d hd => ?_, fun p hp => ⟨fun h1 => absurd h1 (hdL p.1 (laid_mem hp)), fun h1 => absurd h1 (hdL p.1 (laid_mem hp)), fun t x h1 h2 => (by rw [isLaid_d h2 (laid_mem hp) h1] at hl; cases hl)⟩⟩
        have hFs' : F.tmps.size = T.size := hFs
        by_cases hds : d < T.size
        · rw [hd, lput_at (by rw [hsz]; exact hds), hv d hd hds]
        · rw [Array.getElem?_eq_none (by rw [lput_size, hsz]; exact Nat.le_of_not_lt hds), Array.getElem?_eq_none (by rw [hFs']; exact Nat.le_of_not_lt hds)]
      unfold wpOp
      rw [ho]
      rcases hy' with ⟨hw, hv'⟩ | ⟨hw, hv'⟩
      · simp only [hw, if_true]
        left
        have h3 := hv' w hB.1
        unfold Oper.wp
        generalize (execOp a.eval o).run P w = r at *
        cases r with
        | ok n w' =>
          cases n <;> simp only [Lupon] at h3 <;> simp only [Oper.upon]
          case value u =>
            obtain ⟨rfl, rfl⟩ := h3
            exact hK _ (Below.refl _ _)
          case skip =>
            obtain ⟨rfl, e2⟩ := h3
            rw [← e2]
            exact hK _ (Below.refl _ _)
          case enter f args =>
            obtain ⟨rfl, hc⟩ := h3
            exact hc.mono fun e w'' ⟨he, hw''⟩ => by subst he; exact hK _ hw''
        | halt x w' => simp only [Lupon] at h3
      · simp only [hw, Bool.false_eq_true, if_false]
        rw [← hv']
        exact hK _ (Below.refl _ _)
  · intro a w listed hB hR0
    have hR : ∀ i, i < m → LR Lc ops W.heap.size F i a w := fun i hi => (hR0 i hi).1
    obtain ⟨b1, b2, b3, b4, b5⟩ := hB
    have hLW : ∀ p ∈ Lc, LW ops listed p.1 := fun p hp => by
      obtain ⟨k, ok, hk, hok, hkd, _⟩ := S.hasA p.1 (laid_mem hp)
      exact ⟨k, ok, (hR0 k hk).2, hok, hkd⟩
    refine lend_out b1 Lc F [] _ hE trivial (dupFree_nodup S.dup) (fun p hp => ?_) (by rw [hFs, b2]) (by rw [hFd, b3]) (fun t ht => ?_)
    · have hG : LGot W.heap.size p a w := by
        cases hbx : p.1.bx with
        | true =>
          obtain ⟨k, ok, hk, hok, hkd, hkl, _⟩ := S.hasA p.1 (laid_mem hp)
          exact ((hR k hk ok hok).2 p hp).2.1 hkd hbx
        | false =>
          obtain ⟨k, ok, t, x, hk, hok, hko⟩ := S.hasS p.1 (laid_mem hp) hbx
          exact ((hR k hk ok hok).2 p hp).2.2 t x hko hbx
      obtain ⟨b, s1, s2, s3⟩ := hG
      exact ⟨b, s1, s2, s3, (fun b' hb' => by cases hb'), fun p' hp' hd b' hb' => (b5 p.1 (laid_mem hp) (hLW p hp) b s1).2 p'.1 (laid_mem hp') (hLW p' hp') hd b' hb'⟩
    · by_cases hx : ∃ j, j < m ∧ dstOf ops j = some t
      · obtain ⟨j, hj, hdj⟩ := hx
        have hoj : ops[j]? = some ops[j] := Array.getElem?_eq_getElem (by omega)
        have hdj' : ops[j].dst = some t := by simpa [dstOf, hoj] using hdj
        cases hl : isLaid (Lc.map (·.1)) ops[j] with
        | false => exact ((hR j hj _ hoj).1 hl t hdj').symm
        | true =>
          exfalso
          have hlo := S.laid j _ hj hoj hl
          generalize ops[j] = o at *
          unfold laidOp at hlo
          simp only [Bool.and_eq_true, Option.isNone_iff_eq_none] at hlo
          obtain ⟨hg, hlo⟩ := hlo
          split at hlo
          · simp only [List.any_eq_true, Bool.and_eq_true, beq_iff_eq] at hlo
            obtain ⟨e, he, ⟨_, hd⟩, _⟩ := hlo
            obtain ⟨p, hp, rfl⟩ := List.mem_map.1 he
            rw [hdj'] at hd
            injection hd with hd
            exact ht p hp hd.symm
          · simp only [Bool.and_eq_true, Option.isNone_iff_eq_none] at hlo
            rw [hdj'] at hlo
            exact absurd hlo.1.1.1 (by simp)
          · cases hlo
          · simp only [List.any_eq_true, Bool.and_eq_true, beq_iff_eq] at hlo
            obtain ⟨⟨e, he, ⟨_, hd⟩, _⟩, _⟩ := hlo
            obtain ⟨p, hp, rfl⟩ := List.mem_map.1 he
            rw [hdj'] at hd
            injection hd with hd
            exact ht p hp hd.symm
      · have h' : ∀ j, j < m → dstOf ops j ≠ some t := fun j hj e => hx ⟨j, hj, e⟩
        rw [b4 t h', hF4 t (fun j _ hj _ => h' j hj)]
  · refine ⟨(Below.refl _ _).drew, rfl, rfl, fun _ _ => rfl, fun e he hw => ?_⟩
    obtain ⟨i, o, hi, _⟩ := hw
    rw [none_listed] at hi
    cases hi
/-- The same for a region that is written out. -/
theorem wp_region_laid_l {id : Nat} {Q : Exit → Act → World → Prop} {T : Array Value} {W : World} {l : List Oper} (hm : P.follows .mixedOrders = true) (L : List Laid) (m : Nat) (hSB : shapeB L l.toArray m = true) (hT : L.all (fun e => decide (e.d < T.size)) = true)
    (h : wpLex P l.toArray (fun w => Below W.heap.size W w) L (fun tl F => LDone P l.toArray W Q L tl F) m l ⟨T, []⟩) : (Code.region id l.toArray true).wp P Q ⟨T, []⟩ W :=
  wp_region_laid hm L m hSB hT (by simpa using h)
theorem wpList_done {Q : Exit → Act → World → Prop} {a : Act} {w : World} (h : Q .normal a w) : wpList P ops Q [] a w := h
/-- Nothing is laid. -/
theorem lend_tail {W : World} {F : Act} {Q : Exit → Act → World → Prop} {tl : List Oper} (h : ∀ w', Below W.heap.size W w' → wpList P ops Q tl F w') : LDone P ops W Q [] tl F :=
  ⟨[], rfl, fun p hp => (by cases hp), fun w' hb _ => h w' hb⟩
theorem lend_none {W : World} {F : Act} {Q : Exit → Act → World → Prop} (h : ∀ w', Below W.heap.size W w' → Q .normal F w') : LDone P ops W Q [] [] F :=
  lend_tail h
/-- One block is laid, by alloc and store. -/
theorem lend_one {W : World} {F : Act} {Q : Exit → Act → World → Prop} {tl : List Oper} {e : Laid} (v : Value) (hbx : e.bx = false) (hv : F.eval (.tmp e.x) = v) (hf : Fits P e.t v) (hz : Zeros P e.t v.cells.size)
    (h : ∀ b w', W.heap.size ≤ b → Below W.heap.size W w' → w'.heap[b]? = some (.cells v.cells e.t (0, 0)) → wpList P ops Q tl (F.put (some e.d) (e.val b)) w') : LDone P ops W Q [e] tl F := by
  subst hv
  refine ⟨[(e, _)], rfl, fun p hp => ?_, fun b hb _ w' hw hk => h b w' hb hw hk.2⟩
  obtain rfl := List.mem_singleton.1 hp
  exact ⟨fun hb => (by rw [hbx] at hb; cases hb), fun _ => ⟨rfl, hf, hz⟩⟩
/-- One block is laid by an operation that fills it (box, a slice that is written out). -/
theorem lend_new {W : World} {F : Act} {Q : Exit → Act → World → Prop} {tl : List Oper} {e : Laid} (c : Array Value) (o : Oper) (hbx : e.bx = true) (ho : ops[e.x]? = some o) (hr : ∀ w, (execOp F.eval o).run P w = .ok (.value (e.val w.heap.size)) (w.alloc (.cells c e.t)))
    (h : ∀ b w', W.heap.size ≤ b → Below W.heap.size W w' → w'.heap[b]? = some (.cells c e.t (0, 0)) → wpList P ops Q tl (F.put (some e.d) (e.val b)) w') : LDone P ops W Q [e] tl F := by
  refine ⟨[(e, c)], rfl, fun p hp => ?_, fun b hb _ w' hw hk => h b w' hb hw hk.2⟩
  obtain rfl := List.mem_singleton.1 hp
  exact ⟨fun _ => ⟨o, ho, hr⟩, fun hb => (by rw [hbx] at hb; cases hb)⟩
/-- Several blocks: one after the other, by hand. -/
theorem lend_lc {W : World} {F : Act} {Q : Exit → Act → World → Prop} {tl : List Oper} {L : List Laid} (Lc : List (Laid × Array Value)) (hL : Lc.map (·.1) = L) (hf : ∀ p ∈ Lc, LFit P ops F p) (h : LEnd W (wpList P ops Q tl) Lc F [] (fun _ => True)) : LDone P ops W Q L tl F := ⟨Lc, hL, hf, h⟩
theorem lfit_val {F : Act} {e : Laid} {c : Array Value} (v : Value) (hbx : e.bx = false) (hv : F.eval (.tmp e.x) = v) (hc : v.cells = c) (hf : Fits P e.t v) (hz : Zeros P e.t c.size) : LFit P ops F (e, c) :=
  ⟨fun hb => (by simp only at hb; rw [hbx] at hb; cases hb), fun _ => by subst hv; exact ⟨hc.symm, hf, hz⟩⟩
theorem lfit_new {F : Act} {e : Laid} {c : Array Value} (o : Oper) (hbx : e.bx = true) (ho : ops[e.x]? = some o) (hr : ∀ w, (execOp F.eval o).run P w = .ok (.value (e.val w.heap.size)) (w.alloc (.cells c e.t))) : LFit P ops F (e, c) :=
  ⟨fun _ => ⟨o, ho, hr⟩, fun hb => (by simp only at hb; rw [hbx] at hb; cases hb)⟩
end
end Go.Proofs.Ytecojcdmigmnhaa
