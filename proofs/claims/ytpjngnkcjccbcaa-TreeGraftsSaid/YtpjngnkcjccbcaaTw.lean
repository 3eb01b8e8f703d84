/- A tree that is being built, in memory: what each step leaves. -/
import Derived.Test.YtpjngnkcjccbcaaTk
namespace Go.Proofs.Ytpjngnkcjccbcaa
set_option linter.unusedSimpArgs false
set_option linter.unusedVariables false
open Go.RowKit
/-- A tree's nodes, their lists of children, and the path, of the call's own, all apart. -/
structure TW (w : World) (base bt : Nat) (nv : Value) (ns : List (Nd × Value)) (pv : Value) (path : List Int) : Prop where
  tb : TB w base bt nv ns
  pth : Ints w base pv path
  kid : ∀ i (h : i < ns.length), Ints w base (ns[i]).2 (ns[i]).1.ch
  ap : ∀ i (_ : i < ns.length) j (_ : j < ns.length) g, (ns[i]).2.ownBlock = some g → (ns[j]).2.ownBlock = some g → i = j
  pa : ∀ i (_ : i < ns.length) g, (ns[i]).2.ownBlock = some g → pv.ownBlock ≠ some g
theorem ints_type {w : World} {base g : Nat} {v : Value} {l : List Int} (h : Ints w base v l) (hg : v.ownBlock = some g) : ∃ cs, w.heap[g]? = some (.cells cs 3 (0, 0)) := by
  rcases h.2 with ⟨rfl, _⟩ | ⟨g', cap, cur, rfl, _, hh, _⟩
  · simp [Value.ownBlock] at hg
  · simp [Value.ownBlock] at hg
    subst hg
    exact ⟨_, hh⟩
theorem own_type {w : World} {base g size n : Nat} {e : TypeId} {v : Value} {xs : List Value} (h : w.ownsRow base e size v n xs) (hg : v.ownBlock = some g) : ∃ cs, w.heap[g]? = some (.cells cs e (0, 0)) := by
  rcases h.2 with ⟨rfl, _⟩ | ⟨g', cap, cur, rfl, _, hh, _⟩
  · simp [Value.ownBlock] at hg
  · simp [Value.ownBlock] at hg
    subst hg
    exact ⟨_, hh⟩
theorem type_ne {w : World} {g : Nat} {c c' : Array Value} {t t' : TypeId} (h : w.heap[g]? = some (.cells c t (0, 0))) (h' : w.heap[g]? = some (.cells c' t' (0, 0))) (hne : t ≠ t') : False := by
  rw [h] at h'
  injection h' with h'
  injection h' with _ ht
  exact hne ht
section
variable {w w' : World} {base bt : Nat} {nv pv : Value} {ns : List (Nd × Value)} {path : List Int}
theorem TB.kept {row : Option Nat} (h : TB w base bt nv ns) (hg : w.grownBy w' row) (h1 : some bt ≠ row) (h2 : nv.ownBlock = none ∨ nv.ownBlock ≠ row) : TB w' base bt nv ns :=
  ⟨(hg.block bt h.lt h1).trans h.blk, h.hb, h.own.kept hg h2⟩
/-- What is written is a row of whole numbers. -/
theorem TB.kept_int {g : Nat} {cs : Array Value} (h : TB w base bt nv ns) (hg : w.grownBy w' (some g)) (hh : w.heap[g]? = some (.cells cs 3 (0, 0))) : TB w' base bt nv ns := by
  refine h.kept hg ?_ ?_
  · intro e
    injection e with e
    subst e
    exact type_ne h.blk hh (by decide)
  · right
    intro e
    obtain ⟨cs', h'⟩ := own_type h.own e
    exact type_ne h' hh (by decide)
theorem TB.kept_none (h : TB w base bt nv ns) (hg : w.grownBy w' none) : TB w' base bt nv ns := h.kept hg (by simp) (by cases nv.ownBlock <;> simp)
theorem TB.kept_ints {v : Value} {l : List Int} (h : TB w base bt nv ns) (hv : Ints w base v l) (hg : w.grownBy w' v.ownBlock) : TB w' base bt nv ns := by
  cases hb : v.ownBlock with
  | none => rw [hb] at hg; exact h.kept_none hg
  | some g =>
    rw [hb] at hg
    obtain ⟨cs, hh⟩ := ints_type hv hb
    exact h.kept_int hg hh
theorem TW.below (h : TW w base bt nv ns pv path) (hb : Below w.heap.size w w') : TW w' base bt nv ns pv path :=
  ⟨h.tb.below hb, h.pth.below hb, fun i hi => (h.kid i hi).below hb, h.ap, h.pa⟩
/-- The path cut short. -/
def cutV (v : Value) (d : Nat) : Value := match v with | .slice A _ c => .slice A d c | v => v
theorem cutV_own (v : Value) (d : Nat) : (cutV v d).ownBlock = v.ownBlock := by
  cases v <;> try rfl
  rename_i A n c
  cases A <;> rfl
theorem Ints.cut {v : Value} {l : List Int} (h : Ints w base v l) {d : Nat} (hd : d ≤ l.length) : Ints w base (cutV v d) (l.take d) := by
  have hl : (l.take d).length = d := by simp; omega
  refine ⟨by simp, ?_⟩
  rcases h.2 with ⟨rfl, h0⟩ | ⟨g, cap, cur, rfl, hg, hh, hn, hm, hs, ht⟩
  · left
    have : d = 0 := by omega
    subst this
    exact ⟨rfl, by simp⟩
  · right
    refine ⟨g, cap, cur, by rw [hl]; rfl, hg, hh, by rw [hl]; omega, hm, hs, ?_⟩
    rw [hl, List.map_take, ← ht, List.take_take]
    congr 1
    omega
/-- The path has got its next box. -/
theorem TW.path_app (h : TW w base bt nv ns pv path) {d : Nat} (hd : d ≤ path.length) {pv' : Value} {n : Int} (h1 : Ints w' base pv' (path.take d ++ [n])) (hg : w.grownBy w' (cutV pv d).ownBlock)
    (ha : pv'.ownBlock = (cutV pv d).ownBlock ∨ pv'.ownBlock = some w.heap.size) : TW w' base bt nv ns pv' (path.take d ++ [n]) := by
  rw [cutV_own] at hg ha
  refine ⟨h.tb.kept_ints h.pth hg, h1, fun i hi => (h.kid i hi).kept hg ?_, h.ap, fun i hi g hgi => ?_⟩
  · cases hb : (ns[i]).2.ownBlock with
    | none => exact .inl rfl
    | some g => exact .inr (fun e => h.pa i hi g hb e.symm)
  · rcases ha with ha | ha
    · rw [ha]; exact h.pa i hi g hgi
    · rw [ha]
      intro e
      injection e with e
      have := ((h.kid i hi).lt hgi).2
      omega
/-- The nodes have got their next one. -/
theorem TW.node_app (h : TW w base bt nv ns pv path) {nv' : Value} {nd : Nd} (hch : nd.ch = []) (h1 : w'.ownsRow base 80 18 nv' (ns ++ [(nd, Value.slice none 0 0)]).length (flat ndP (ns ++ [(nd, Value.slice none 0 0)]))) (hg : w.grownBy w' nv.ownBlock) (hbt : base ≤ w.heap.size) :
    TW (w'.setCell ⟨bt, 0, none⟩ nv') base bt nv' (ns ++ [(nd, Value.slice none 0 0)]) pv path ∧ Below base w (w'.setCell ⟨bt, 0, none⟩ nv') := by
  have hnb : nv.ownBlock ≠ some bt := fun e => by
    obtain ⟨cs, hh⟩ := own_type h.tb.own e
    exact type_ne h.tb.blk hh (by decide)
  have hblk : w'.heap[bt]? = some (.cells #[nv] 77 (0, 0)) := (hg.block bt h.tb.lt (fun e => hnb e.symm)).trans h.tb.blk
  have hnb' : nv'.ownBlock ≠ some bt := fun e => by
    obtain ⟨cs, hh⟩ := own_type h1 e
    exact type_ne hblk hh (by decide)
  have hgr : w'.grownBy (w'.setCell ⟨bt, 0, none⟩ nv') (some bt) := ⟨rfl, rfl, rfl, by simp, fun k _ hk => heap_setCell_other w' ⟨bt, 0, none⟩ k nv' (fun e => hk (by rw [e]))⟩
  have hint : ∀ (v : Value) (l : List Int), Ints w base v l → Ints (w'.setCell ⟨bt, 0, none⟩ nv') base v l := by
    intro v l hv
    have hv1 : Ints w' base v l := hv.kept hg (by
      cases hb : v.ownBlock with
      | none => exact .inl rfl
      | some g =>
        right
        intro e
        obtain ⟨c1, q1⟩ := own_type h.tb.own e.symm
        obtain ⟨c2, q2⟩ := ints_type hv hb
        exact type_ne q1 q2 (by decide))
    refine hv1.kept hgr ?_
    cases hb : v.ownBlock with
    | none => exact .inl rfl
    | some g =>
      right
      intro e
      injection e with e
      subst e
      obtain ⟨c2, q2⟩ := ints_type hv1 hb
      exact type_ne hblk q2 (by decide)
  have hlen : (ns ++ [(nd, Value.slice none 0 0)]).length = ns.length + 1 := by simp
  refine ⟨⟨⟨?_, h.tb.hb, h1.kept hgr (.inr hnb')⟩, hint _ _ h.pth, ?_, ?_, ?_⟩, ?_⟩
  · rw [heap_setCell_same w' bt 0 _ _ _ hblk]; rfl
  · intro i hi
    by_cases e : i < ns.length
    · rw [List.getElem_append_left e]
      exact hint _ _ (h.kid i e)
    · have : i = ns.length := by omega
      subst this
      rw [List.getElem_append_right (by omega)]
      simp only [Nat.sub_self, List.getElem_cons_zero, hch]
      exact Ints.nil _ _
  · intro i hi j hj g e1 e2
    by_cases a : i < ns.length
    · by_cases b : j < ns.length
      · rw [List.getElem_append_left a] at e1
        rw [List.getElem_append_left b] at e2
        exact h.ap i a j b g e1 e2
      · have : j = ns.length := by omega
        subst this
        rw [List.getElem_append_right (by omega)] at e2
        simp [Value.ownBlock] at e2
    · have : i = ns.length := by omega
      subst this
      rw [List.getElem_append_right (by omega)] at e1
      simp [Value.ownBlock] at e1
  · intro i hi g e1
    by_cases a : i < ns.length
    · rw [List.getElem_append_left a] at e1
      exact h.pa i a g e1
    · have : i = ns.length := by omega
      subst this
      rw [List.getElem_append_right (by omega)] at e1
      simp [Value.ownBlock] at e1
  · exact ((Below.refl base w).grown hg hbt (fun k hk => (h.tb.own.lt k hk).1)).setCell h.tb.hb nv'
/-- One cell of one node is written. -/
theorem TB.set_cell {g cap k j : Nat} {u : Value} {p : Nd × Value} (h : TB w base bt (.slice (some ⟨g, 0, none⟩) ns.length cap) ns) (hk : k < ns.length) (hj : j < 18) (hp : ndP p = (ndP ns[k]).set j u) :
    TB (w.setCell ⟨g, k * 18 + j, none⟩ u) base bt (.slice (some ⟨g, 0, none⟩) ns.length cap) (ns.set k p) ∧ w.grownBy (w.setCell ⟨g, k * 18 + j, none⟩ u) (some g) ∧ base ≤ g := by
  obtain ⟨h1, h2⟩ := h.own.stored (k * 18 + j) u
  rw [flat_set ndP_len ns k j hk hj u p hp] at h1
  have hne : some bt ≠ some g := by
    intro e
    injection e with e
    subst e
    obtain ⟨cs, hh⟩ := own_type h.own rfl
    exact type_ne h.blk hh (by decide)
  refine ⟨⟨(h2.block bt h.lt hne).trans h.blk, h.hb, ?_⟩, h2, (h.own.lt g rfl).1⟩
  rw [List.length_set]
  exact h1
theorem ints_far {g : Nat} {cs : Array Value} (hh : w.heap[g]? = some (.cells cs 80 (0, 0))) (hg : w.grownBy w' (some g)) {v : Value} {l : List Int} (hv : Ints w base v l) : Ints w' base v l :=
  hv.kept hg (by
    cases hb : v.ownBlock with
    | none => exact .inl rfl
    | some g' =>
      right
      intro e
      injection e with e
      subst e
      obtain ⟨c2, q2⟩ := ints_type hv hb
      exact type_ne hh q2 (by decide))
/-- A node's end is written. -/
theorem TW.set_end {g cap k : Nat} {v : Int} (h : TW w base bt (.slice (some ⟨g, 0, none⟩) ns.length cap) ns pv path) (hk : k < ns.length) :
    TW (w.setCell ⟨g, k * 18 + 15, none⟩ (.int .i64 v)) base bt (.slice (some ⟨g, 0, none⟩) ns.length cap) (ns.set k ({ (ns[k]).1 with en := v }, (ns[k]).2)) pv path ∧ Below base w (w.setCell ⟨g, k * 18 + 15, none⟩ (.int .i64 v)) := by
  obtain ⟨h1, h2, h3⟩ := h.tb.set_cell (u := .int .i64 v) (j := 15) (p := ({ (ns[k]).1 with en := v }, (ns[k]).2)) hk (by omega) rfl
  obtain ⟨cs, hh⟩ := own_type h.tb.own rfl
  have hget : ∀ i (hi : i < (ns.set k ({ (ns[k]).1 with en := v }, (ns[k]).2)).length), ((ns.set k ({ (ns[k]).1 with en := v }, (ns[k]).2))[i]).2 = (ns[i]'(by simpa using hi)).2 ∧ ((ns.set k ({ (ns[k]).1 with en := v }, (ns[k]).2))[i]).1.ch = (ns[i]'(by simpa using hi)).1.ch := by
    intro i hi
    rw [List.getElem_set]
    split
    · rename_i e; subst e; exact ⟨rfl, rfl⟩
    · exact ⟨rfl, rfl⟩
  refine ⟨⟨h1, ints_far hh h2 h.pth, ?_, ?_, ?_⟩, (Below.refl base w).setCell h3 _⟩
  · intro i hi
    rw [(hget i hi).1, (hget i hi).2]
    exact ints_far hh h2 (h.kid i _)
  · intro i hi j hj g' e1 e2
    rw [(hget i hi).1] at e1
    rw [(hget j hj).1] at e2
    exact h.ap i _ j _ g' e1 e2
  · intro i hi g' e1
    rw [(hget i hi).1] at e1
    exact h.pa i _ g' e1
/-- A node has got a child. -/
theorem TW.kid_app {g cap k : Nat} {n : Int} {v' : Value} (h : TW w base bt (.slice (some ⟨g, 0, none⟩) ns.length cap) ns pv path) (hk : k < ns.length)
    (h1 : Ints w' base v' ((ns[k]).1.ch ++ [n])) (hg : w.grownBy w' (ns[k]).2.ownBlock) (ha : v'.ownBlock = (ns[k]).2.ownBlock ∨ v'.ownBlock = some w.heap.size) (hbt : base ≤ w.heap.size) :
    TW (w'.setCell ⟨g, k * 18 + 17, none⟩ v') base bt (.slice (some ⟨g, 0, none⟩) ns.length cap) (ns.set k ({ (ns[k]).1 with ch := (ns[k]).1.ch ++ [n] }, v')) pv path ∧ Below base w (w'.setCell ⟨g, k * 18 + 17, none⟩ v') := by
  have tb1 : TB w' base bt (.slice (some ⟨g, 0, none⟩) ns.length cap) ns := h.tb.kept_ints (h.kid k hk) hg
  obtain ⟨g1, g2, g3⟩ := tb1.set_cell (u := v') (j := 17) (p := ({ (ns[k]).1 with ch := (ns[k]).1.ch ++ [n] }, v')) hk (by omega) rfl
  obtain ⟨cs, hh⟩ := own_type tb1.own rfl
  -- other rows of numbers stay
  have hfar : ∀ (v : Value) (l : List Int), Ints w base v l → (∀ b, v.ownBlock = some b → (ns[k]).2.ownBlock ≠ some b) → Ints (w'.setCell ⟨g, k * 18 + 17, none⟩ v') base v l := by
    intro v l hv hne
    refine ints_far hh g2 (hv.kept hg ?_)
    cases hb : v.ownBlock with
    | none => exact .inl rfl
    | some b => exact .inr (fun e => hne b hb e.symm)
  have hnew : Ints (w'.setCell ⟨g, k * 18 + 17, none⟩ v') base v' ((ns[k]).1.ch ++ [n]) := ints_far hh g2 h1
  have hlen : (ns.set k ({ (ns[k]).1 with ch := (ns[k]).1.ch ++ [n] }, v')).length = ns.length := by simp
  have hself : ∀ (hi : k < (ns.set k ({ (ns[k]).1 with ch := (ns[k]).1.ch ++ [n] }, v')).length), (ns.set k ({ (ns[k]).1 with ch := (ns[k]).1.ch ++ [n] }, v'))[k] = ({ (ns[k]).1 with ch := (ns[k]).1.ch ++ [n] }, v') := fun hi => by simp
  have hoth : ∀ i (hi : i < (ns.set k ({ (ns[k]).1 with ch := (ns[k]).1.ch ++ [n] }, v')).length), i ≠ k → (ns.set k ({ (ns[k]).1 with ch := (ns[k]).1.ch ++ [n] }, v'))[i] = ns[i]'(by simpa using hi) := fun i hi e => by
    rw [List.getElem_set, if_neg (fun h => e h.symm)]
  -- the child's row is apart from the others
  have hap : ∀ i (hi : i < ns.length), i ≠ k → ∀ b, (ns[i]).2.ownBlock = some b → v'.ownBlock ≠ some b := by
    intro i hi hik b hb e
    rcases ha with ha | ha
    · rw [ha] at e
      exact hik (h.ap i hi k hk b hb e)
    · rw [ha] at e
      injection e with e
      have := ((h.kid i hi).lt hb).2
      omega
  refine ⟨⟨g1, hfar _ _ h.pth (fun b hb e => h.pa k hk b e hb), ?_, ?_, ?_⟩, ((Below.refl base w).grown hg hbt (fun b hb => ((h.kid k hk).lt hb).1)).setCell g3 _⟩
  · intro i hi
    by_cases e : i = k
    · subst e
      rw [hself]
      exact hnew
    · rw [hoth i hi e]
      have hi' : i < ns.length := by omega
      exact hfar _ _ (h.kid i hi') (fun b hb e2 => e (h.ap i hi' k hk b hb e2))
  · intro i hi j hj b e1 e2
    have hi' : i < ns.length := by omega
    have hj' : j < ns.length := by omega
    by_cases a : i = k
    · by_cases c : j = k
      · omega
      · subst a
        rw [hself] at e1
        rw [hoth j hj c] at e2
        exact absurd e1 (hap j hj' c b e2)
    · by_cases c : j = k
      · subst c
        rw [hself] at e2
        rw [hoth i hi a] at e1
        exact absurd e2 (hap i hi' a b e1)
      · rw [hoth i hi a] at e1
        rw [hoth j hj c] at e2
        exact h.ap i hi' j hj' b e1 e2
  · intro i hi b e1
    have hi' : i < ns.length := by omega
    by_cases a : i = k
    · subst a
      rw [hself] at e1
      intro e2
      rcases ha with ha | ha
      · rw [ha] at e1
        exact h.pa i hi' b e1 e2
      · rw [ha] at e1
        injection e1 with e1
        have := (h.pth.lt e2).2
        omega
    · rw [hoth i hi a] at e1
      exact h.pa i hi' b e1
end
end Go.Proofs.Ytpjngnkcjccbcaa
