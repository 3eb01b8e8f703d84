/- Place: speaks, the document's example: two floats are put in one statement. -/
import Derived.Test.YtecojcdmigmnhaaP5
import Derived.Test.YtecojcdmigmnhaaRw2
namespace Go.Proofs.Ytecojcdmigmnhaa
set_option linter.unusedSimpArgs false
set_option linter.unusedVariables false
open Go.RowKit
/-- Rectangles outlive it. -/
def KeepR (w w' : World) : Prop := w.heap.size ≤ w'.heap.size ∧ ∀ (k : Nat) (C : Array Value), w.heap[k]? = some (Obj.cells C 52 (0, 0)) → w'.heap[k]? = some (Obj.cells C 52 (0, 0))
theorem KeepR.of_below {w w' : World} (h : Below w.heap.size w w') : KeepR w w' := ⟨h.size, fun _ _ hk => keepB hk h⟩
theorem KeepR.of_touch {w w' : World} {base base' sp : Nat} {L : List Fo} (h : SpTouch w w' base sp) (hs : SpaceIs w base' sp L) : KeepR w w' :=
  ⟨h.1.2.2.2, fun _ _ hk => SpTouch.keepT h hs hk (by decide) (by decide) (by decide) (by decide)⟩
theorem Ptr4.keepR {n A : Nat} {a a' : Act} {w w' : World} (h : Ptr4 n A a w) (hb : KeepR w w') (ha : a'.tmps[A]? = a.tmps[A]?) : Ptr4 n A a' w' := by
  obtain ⟨b, h1, h2, C, h3, h4⟩ := h
  exact ⟨b, ha.trans h1, h2, C, h3, hb.2 b C h4⟩
theorem Got4.keepR {n A : Nat} {v : Int × Int × Int × Int} {a a' : Act} {w w' : World} (h : Got4 n A v a w) (hb : KeepR w w') (ha : a'.tmps[A]? = a.tmps[A]?) : Got4 n A v a' w' := by
  obtain ⟨b, h1, h2, h3⟩ := h
  exact ⟨b, ha.trans h1, h2, hb.2 b _ h3⟩
/-- The facts, by number: six values in slots 10 to 15, two pointers in slots 3 and 4, what stands behind them. -/
def RP (n : Nat) (v : Nat → Value) (r1 r2 : Int × Int × Int × Int) : Nat → Act → World → Prop
  | 0, a, _ => a.tmps[10]? = some (v 0)
  | 1, a, _ => a.tmps[11]? = some (v 1)
  | 2, a, _ => a.tmps[12]? = some (v 2)
  | 3, a, _ => a.tmps[13]? = some (v 3)
  | 4, a, _ => a.tmps[14]? = some (v 4)
  | 5, a, _ => a.tmps[15]? = some (v 5)
  | 6, a, w => Ptr4 n 3 a w
  | 7, a, w => Ptr4 n 4 a w
  | 8, a, w => Got4 n 3 r1 a w
  | 9, a, w => Got4 n 4 r2 a w
  | _, _, _ => True
/-- A slot of one's own is filled, or one of the two pointers' (whose own facts are another's). -/
theorem RP.put {n : Nat} {v : Nat → Value} {r1 r2 : Int × Int × Int × Int} {i d : Nat} (hd : (i < 6 ∧ d = 10 + i) ∨ (i = 6 ∧ d = 3) ∨ (i = 7 ∧ d = 4)) {a : Act} {w w' : World} {x : Value} (hb : KeepR w w') :
    ∀ j, j ≠ i → (6 ≤ i → j ≠ i + 2) → RP n v r1 r2 j a w → RP n v r1 r2 j (a.put (some d) x) w' := by
  intro j hj hj2 h
  have ho : ∀ k, k ≠ d → (a.put (some d) x).tmps[k]? = a.tmps[k]? := fun k hk => put_off hk
  match j, hj, hj2, h with
  | 0, hj, _, h => exact (ho 10 (by omega)).trans h
  | 1, hj, _, h => exact (ho 11 (by omega)).trans h
  | 2, hj, _, h => exact (ho 12 (by omega)).trans h
  | 3, hj, _, h => exact (ho 13 (by omega)).trans h
  | 4, hj, _, h => exact (ho 14 (by omega)).trans h
  | 5, hj, _, h => exact (ho 15 (by omega)).trans h
  | 6, hj, _, h => exact Ptr4.keepR h hb (ho 3 (by omega))
  | 7, hj, _, h => exact Ptr4.keepR h hb (ho 4 (by omega))
  | 8, hj, hj2, h => exact Got4.keepR h hb (ho 3 (by omega))
  | 9, hj, hj2, h => exact Got4.keepR h hb (ho 4 (by omega))
  | _ + 10, _, _, _ => trivial
/-- A store into A's block (number 8), or B's (number 9). -/
theorem RP.storeA {n : Nat} {v : Nat → Value} {r1 r2 x : Int × Int × Int × Int} {a : Act} {w w' : World} {b : Nat} (hA : a.tmps[3]? = some (.pointer (some ⟨b, 0, none⟩))) (hn : n ≤ b) (hv : Is4 b x w')
    (hne : ∀ b', a.tmps[4]? = some (.pointer (some ⟨b', 0, none⟩)) → b' ≠ b) (hk : ∀ k, k ≠ b → w'.heap[k]? = w.heap[k]?) : ∀ j, j ≠ 8 → RP n v r1 r2 j a w → RP n v r1 r2 j a w' := by
  intro j hj h
  match j, hj, h with
  | 0, _, h => exact h
  | 1, _, h => exact h
  | 2, _, h => exact h
  | 3, _, h => exact h
  | 4, _, h => exact h
  | 5, _, h => exact h
  | 6, _, h => exact ⟨b, hA, hn, _, rfl, hv⟩
  | 7, _, h => exact Ptr4.aside h hne hk
  | 8, hj, h => exact absurd rfl hj
  | 9, _, h => exact Got4.aside h hne hk
  | _ + 10, _, _ => trivial
theorem RP.storeB {n : Nat} {v : Nat → Value} {r1 r2 x : Int × Int × Int × Int} {a : Act} {w w' : World} {b : Nat} (hB : a.tmps[4]? = some (.pointer (some ⟨b, 0, none⟩))) (hn : n ≤ b) (hv : Is4 b x w')
    (hne : ∀ b', a.tmps[3]? = some (.pointer (some ⟨b', 0, none⟩)) → b' ≠ b) (hk : ∀ k, k ≠ b → w'.heap[k]? = w.heap[k]?) : ∀ j, j ≠ 9 → RP n v r1 r2 j a w → RP n v r1 r2 j a w' := by
  intro j hj h
  match j, hj, h with
  | 0, _, h => exact h
  | 1, _, h => exact h
  | 2, _, h => exact h
  | 3, _, h => exact h
  | 4, _, h => exact h
  | 5, _, h => exact h
  | 6, _, h => exact Ptr4.aside h hne hk
  | 7, _, h => exact ⟨b, hB, hn, _, rfl, hv⟩
  | 8, _, h => exact Got4.aside h hne hk
  | 9, hj, h => exact absurd rfl hj
  | _ + 10, _, _ => trivial
/-- The space: nothing put, one float put, both put. -/
def SpcP (base sp : Nat) (r1 r2 : Int × Int × Int × Int) (f1 f2 : Fo) (a : Act) (w : World) : Prop :=
  (a.tmps[12]? = some undef ∧ a.tmps[15]? = some undef ∧ SpaceIs w base sp []) ∨ (a.tmps[12]? = some (agg4 r1) ∧ a.tmps[15]? = some undef ∧ SpaceIs w base sp [f1]) ∨ (a.tmps[12]? = some (agg4 r1) ∧ a.tmps[15]? = some (agg4 r2) ∧ SpaceIs w base sp [f1, f2])
theorem SpcP.any {base sp : Nat} {r1 r2 : Int × Int × Int × Int} {f1 f2 : Fo} {a a' : Act} {w w' : World} (h : SpcP base sp r1 r2 f1 f2 a w) (h12 : a'.tmps[12]? = a.tmps[12]?) (h15 : a'.tmps[15]? = a.tmps[15]?) (hs : ∀ L, SpaceIs w base sp L → SpaceIs w' base sp L) : SpcP base sp r1 r2 f1 f2 a' w' := by
  rcases h with ⟨h1, h2, h3⟩ | ⟨h1, h2, h3⟩ | ⟨h1, h2, h3⟩
  · exact .inl ⟨h12.trans h1, h15.trans h2, hs _ h3⟩
  · exact .inr (.inl ⟨h12.trans h1, h15.trans h2, hs _ h3⟩)
  · exact .inr (.inr ⟨h12.trans h1, h15.trans h2, hs _ h3⟩)
def BaseP (base sp bW : Nat) (wc : Array Value) (r1 r2 : Int × Int × Int × Int) (f1 f2 : Fo) (w0 : World) (T : Array Value) (a : Act) (w : World) : Prop :=
  Below base w0 w ∧ w.heap[bW]? = some (.cells wc 90 (0, 0)) ∧ a.tmps.size = T.size ∧ a.defers = [] ∧ (∀ k, (k < 3 ∨ 16 ≤ k ∨ (5 ≤ k ∧ k < 10)) → a.tmps[k]? = T[k]?) ∧
  ((∀ b, a.tmps[3]? = some (.pointer (some ⟨b, 0, none⟩)) → b < w.heap.size ∧ ∀ b', a.tmps[4]? = some (.pointer (some ⟨b', 0, none⟩)) → b ≠ b') ∧ (∀ b, a.tmps[4]? = some (.pointer (some ⟨b, 0, none⟩)) → b < w.heap.size)) ∧
  SpcP base sp r1 r2 f1 f2 a w
/-- What stands as long as an operation has not come up: the Put's slots are empty. -/
def UP : Nat → Act → World → Prop
  | 2, a, _ => a.tmps[12]? = some undef
  | 5, a, _ => a.tmps[15]? = some undef
  | _, _, _ => True
theorem UP.put {d i : Nat} (hi : (i = 2 ∧ d = 12) ∨ (i = 5 ∧ d = 15) ∨ (d ≠ 12 ∧ d ≠ 15)) {a : Act} {w w' : World} {x : Value} : ∀ j, j ≠ i → UP j a w → UP j (a.put (some d) x) w' := by
  intro j hj h
  have ho : ∀ k, k ≠ d → (a.put (some d) x).tmps[k]? = a.tmps[k]? := fun k hk => put_off hk
  match j, hj, h with
  | 2, hj, h => exact (ho 12 (by omega)).trans h
  | 5, hj, h => exact (ho 15 (by omega)).trans h
  | 0, _, _ => trivial
  | 1, _, _ => trivial
  | 3, _, _ => trivial
  | 4, _, _ => trivial
  | _ + 6, _, _ => trivial
structure Ops10 (ops : Array Oper) (nP : FuncId) (ts tw : TypeId) : Prop where
  h0 : OpIs ops 0 (.move (.tmp 1)) (some 10)
  h1 : OpIs ops 1 (.load tw (.tmp 2)) (some 11)
  h2 : OpIs ops 2 (.call { callee := .value (.func nP), args := #[.tmp 10, .tmp 11], argTypes := #[ts, tw] }) (some 12)
  h3 : OpIs ops 3 (.move (.tmp 1)) (some 13)
  h4 : OpIs ops 4 (.load tw (.tmp 2)) (some 14)
  h5 : OpIs ops 5 (.call { callee := .value (.func nP), args := #[.tmp 13, .tmp 14], argTypes := #[ts, tw] }) (some 15)
  h6 : OpIs ops 6 (.alloc 52) (some 3)
  h7 : OpIs ops 7 (.alloc 52) (some 4)
  h8 : OpIs ops 8 (.store 52 (.tmp 3) (.tmp 12)) none
  h9 : OpIs ops 9 (.store 52 (.tmp 4) (.tmp 15)) none
def waits10 (ops : Array Oper) : Bool := waitsB ops 2 0 && waitsB ops 2 1 && waitsB ops 5 3 && waitsB ops 5 4 && waitsB ops 5 2 && waitsB ops 8 6 && waitsB ops 8 2 && waitsB ops 9 7 && waitsB ops 9 5
set_option maxHeartbeats 4000000 in
theorem two_puts {ops : Array Oper} {Q : Exit → Act → World → Prop} {id : Nat} {T : Array Value} {w0 : World} (base sp bW : Nat) (wc : List Value) (r1 r2 : Int × Int × Int × Int) (f1 f2 : Fo) (nP : FuncId) (ts tw : TypeId) (dw : TypeDesc)
    (hm : (Try.prog).follows .mixedOrders = true) (hz : ops.size = 10) (hdep : depsB ops = true) (ho : Ops10 ops nP ts tw) (hw : waits10 ops = true)
    (cfP : ∀ x y w, (callFunc nP #[x, y]).run Try.prog w = .ok (.enter nP #[x, y]) w) (hT : 16 ≤ T.size) (hbase : base ≤ w0.heap.size)
    (ts0 : T[1]? = some (.pointer (some ⟨sp, 0, none⟩))) (tp : T[2]? = some (.pointer (some ⟨bW, 0, none⟩))) (t3 : T[3]? = some undef) (t4 : T[4]? = some undef) (t12 : T[12]? = some undef) (t15 : T[15]? = some undef)
    (hu : (Try.prog).underlying tw = some dw) (hr : dw.isRow = true) (hi1 : ((Try.prog).info? tw).map (·.size) = some wc.length)
    (g1 : w0.heap[bW]? = some (.cells wc.toArray 90 (0, 0))) (hs0 : SpaceIs w0 base sp [])
    (p1 : ∀ w, base ≤ w.heap.size → SpaceIs w base sp [] → Calls Try.prog nP #[.pointer (some ⟨sp, 0, none⟩), .agg wc.toArray] w fun e w' => e = .returned (agg4 r1) ∧ SpaceIs w' base sp [f1] ∧ SpTouch w w' base sp)
    (p2 : ∀ w, base ≤ w.heap.size → SpaceIs w base sp [f1] → Calls Try.prog nP #[.pointer (some ⟨sp, 0, none⟩), .agg wc.toArray] w fun e w' => e = .returned (agg4 r2) ∧ SpaceIs w' base sp [f1, f2] ∧ SpTouch w w' base sp)
    (hend : ∀ bA bB w, Is4 bA r1 w → Is4 bB r2 w → Below base w0 w →
      Q .normal ⟨(((((((((T.setIfInBounds 10 (.pointer (some ⟨sp, 0, none⟩))).setIfInBounds 11 (.agg wc.toArray)).setIfInBounds 12 (agg4 r1)).setIfInBounds 13 (.pointer (some ⟨sp, 0, none⟩))).setIfInBounds 14 (.agg wc.toArray)).setIfInBounds 15 (agg4 r2)).setIfInBounds 3 (.pointer (some ⟨bA, 0, none⟩))).setIfInBounds 4 (.pointer (some ⟨bB, 0, none⟩)))), []⟩ w) :
    (Code.region id ops true).wp Try.prog Q ⟨T, []⟩ w0 := by
  unfold waits10 at hw
  simp only [Bool.and_eq_true] at hw
  obtain ⟨⟨⟨⟨⟨⟨⟨⟨w20, w21⟩, w53⟩, w54⟩, w52⟩, w86⟩, w82⟩, w97⟩, w95⟩ := hw
  obtain ⟨v, hv⟩ : ∃ v : Nat → Value, v = fun i => match i with | 0 => .pointer (some ⟨sp, 0, none⟩) | 1 => .agg wc.toArray | 2 => agg4 r1 | 3 => .pointer (some ⟨sp, 0, none⟩) | 4 => .agg wc.toArray | _ => agg4 r2 := ⟨_, rfl⟩
  have v0 : v 0 = .pointer (some ⟨sp, 0, none⟩) := congrFun hv 0
  have v1 : v 1 = .agg wc.toArray := congrFun hv 1
  have v2 : v 2 = agg4 r1 := congrFun hv 2
  have v3 : v 3 = .pointer (some ⟨sp, 0, none⟩) := congrFun hv 3
  have v4 : v 4 = .agg wc.toArray := congrFun hv 4
  have v5 : v 5 = agg4 r2 := congrFun hv 5
  clear hv
  refine wp_region_facts_u hm (BaseP base sp bW wc.toArray r1 r2 f1 f2 w0 T) (RP w0.heap.size v r1 r2) UP (deps_at hdep) ?_ ?_ ?_ ?_
  · intro i o a w hoi hB hR hU
    have hi : i < 10 := by
      have := (Array.getElem?_eq_some_iff.1 hoi).1
      omega
    have hwt : ∀ j, waitsB ops i j = true → RP w0.heap.size v r1 r2 j a w := fun j hj => by
      obtain ⟨e, he, hb, rfl⟩ := waits_at hj hoi
      exact hR e he hb
    have hB' := hB
    obtain ⟨b1, b2, b3, b4, b5, ⟨b6, b7⟩, b8⟩ := hB'
    have hsz := b1.size
    -- an operation that fills a slot of its own, and leaves the space
    have own : ∀ (i d : Nat) (x : Value), i < 6 → d = 10 + i → d ≠ 12 → d ≠ 15 → RP w0.heap.size v r1 r2 i (a.put (some d) x) w →
        (BaseP base sp bW wc.toArray r1 r2 f1 f2 w0 T (a.put (some d) x) w ∧ ∀ j, j ≠ i → UP j a w → UP j (a.put (some d) x) w) ∧ RP w0.heap.size v r1 r2 i (a.put (some d) x) w ∧
        ∀ j oj, ops[j]? = some oj → j ≠ i → (∀ e ∈ oj.after, Region.binds .any e = true → e.on ≠ i) → RP w0.heap.size v r1 r2 j a w → RP w0.heap.size v r1 r2 j (a.put (some d) x) w := by
      intro i d x hi6 hd n12 n15 hf
      have ho : ∀ k, k ≠ d → (a.put (some d) x).tmps[k]? = a.tmps[k]? := fun k hk => put_off hk
      refine ⟨⟨⟨b1, b2, put_size.trans b3, b4, fun k hk => (ho k (by omega)).trans (b5 k hk), ⟨fun b hb => ?_, fun b hb => ?_⟩, b8.any (ho 12 (Ne.symm n12)) (ho 15 (Ne.symm n15)) (fun _ h => h)⟩, UP.put (.inr (.inr ⟨n12, n15⟩))⟩, hf, fun j oj _ hj _ hRj => RP.put (.inl ⟨hi6, hd⟩) (KeepR.of_below (Below.refl _ _)) j hj (fun h => absurd h (by omega)) hRj⟩
      · rw [ho 3 (by omega)] at hb
        exact ⟨(b6 b hb).1, fun b' hb' => by rw [ho 4 (by omega)] at hb'; exact (b6 b hb).2 b' hb'⟩
      · rw [ho 4 (by omega)] at hb
        exact b7 b hb
    -- a Put
    have put : ∀ (i d : Nat) (x : Value) (w' : World), i < 6 → d = 10 + i → KeepR w w' → SpTouch w w' base sp → (∃ L, SpaceIs w base sp L) → SpcP base sp r1 r2 f1 f2 (a.put (some d) x) w' → ((i = 2 ∧ d = 12) ∨ (i = 5 ∧ d = 15)) → RP w0.heap.size v r1 r2 i (a.put (some d) x) w' →
        (BaseP base sp bW wc.toArray r1 r2 f1 f2 w0 T (a.put (some d) x) w' ∧ ∀ j, j ≠ i → UP j a w → UP j (a.put (some d) x) w') ∧ RP w0.heap.size v r1 r2 i (a.put (some d) x) w' ∧
        ∀ j oj, ops[j]? = some oj → j ≠ i → (∀ e ∈ oj.after, Region.binds .any e = true → e.on ≠ i) → RP w0.heap.size v r1 r2 j a w → RP w0.heap.size v r1 r2 j (a.put (some d) x) w' := by
      intro i d x w' hi6 hd hkr htc hsx hsp hid hf
      obtain ⟨L, hL⟩ := hsx
      have ho : ∀ k, k ≠ d → (a.put (some d) x).tmps[k]? = a.tmps[k]? := fun k hk => put_off hk
      have h1 := hkr.1
      refine ⟨⟨⟨b1.trans (htc.below (by omega)), SpTouch.keepT htc hL b2 (by decide) (by decide) (by decide) (by decide), put_size.trans b3, b4, fun k hk => (ho k (by omega)).trans (b5 k hk), ⟨fun b hb => ?_, fun b hb => ?_⟩, hsp⟩, UP.put (by omega)⟩, hf, fun j oj _ hj _ hRj => RP.put (.inl ⟨hi6, hd⟩) hkr j hj (fun h => absurd h (by omega)) hRj⟩
      · rw [ho 3 (by omega)] at hb
        exact ⟨by have := (b6 b hb).1; omega, fun b' hb' => by rw [ho 4 (by omega)] at hb'; exact (b6 b hb).2 b' hb'⟩
      · rw [ho 4 (by omega)] at hb
        have := b7 b hb
        omega
    match i, hi, hU with
    | 0, _, _ =>
      obtain ⟨e1, e2, e3⟩ := ho.h0.at hoi
      refine op_of hoi e3 (wp_move e1 ?_)
      rw [e2, act_eval ((b5 1 (by omega)).trans ts0)]
      exact own 0 10 _ (by omega) rfl (by omega) (by omega) ((put_at (by omega)).trans (by rw [v0]))
    | 1, _, _ =>
      obtain ⟨e1, e2, e3⟩ := ho.h1.at hoi
      refine op_of hoi e3 (wp_load4 e1 bW 0 (act_eval ((b5 2 (by omega)).trans tp)) wc dw (blk_range b2) hu hr hi1 ?_)
      rw [e2]
      exact own 1 11 _ (by omega) rfl (by omega) (by omega) ((put_at (by omega)).trans (by rw [v1]))
    | 2, _, hU =>
      obtain ⟨e1, e2, e3⟩ := ho.h2.at hoi
      have a1 := act_eval (hwt 0 w20)
      have a2 := act_eval (hwt 1 w21)
      have hu2 : a.tmps[12]? = some undef := hU
      obtain ⟨h15, hsp⟩ : a.tmps[15]? = some undef ∧ SpaceIs w base sp [] := by
        rcases b8 with ⟨_, h⟩ | ⟨h, _⟩ | ⟨h, _⟩
        · exact h
        · rw [hu2] at h; cases h
        · rw [hu2] at h; cases h
      refine op_of hoi e3 (wp_call2 e1 (cfP _ _ _) ?_)
      rw [a1, a2, e2, v0, v1]
      refine (p1 w (by omega) hsp).mono fun e w' ⟨he, hs1, ht⟩ => ⟨agg4 r1, he, put 2 12 _ w' (by omega) rfl (KeepR.of_touch ht hsp) ht ⟨_, hsp⟩ ?_ (.inl ⟨rfl, rfl⟩) ((put_at (by omega)).trans (by rw [v2]))⟩
      exact .inr (.inl ⟨put_at (by omega), (put_off (by omega)).trans h15, hs1⟩)
    | 3, _, _ =>
      obtain ⟨e1, e2, e3⟩ := ho.h3.at hoi
      refine op_of hoi e3 (wp_move e1 ?_)
      rw [e2, act_eval ((b5 1 (by omega)).trans ts0)]
      exact own 3 13 _ (by omega) rfl (by omega) (by omega) ((put_at (by omega)).trans (by rw [v3]))
    | 4, _, _ =>
      obtain ⟨e1, e2, e3⟩ := ho.h4.at hoi
      refine op_of hoi e3 (wp_load4 e1 bW 0 (act_eval ((b5 2 (by omega)).trans tp)) wc dw (blk_range b2) hu hr hi1 ?_)
      rw [e2]
      exact own 4 14 _ (by omega) rfl (by omega) (by omega) ((put_at (by omega)).trans (by rw [v4]))
    | 5, _, hU =>
      obtain ⟨e1, e2, e3⟩ := ho.h5.at hoi
      have a1 := act_eval (hwt 3 w53)
      have a2 := act_eval (hwt 4 w54)
      have hr2 : a.tmps[12]? = some (v 2) := hwt 2 w52
      rw [v2] at hr2
      have hu2 : a.tmps[15]? = some undef := hU
      have hsp : SpaceIs w base sp [f1] := by
        rcases b8 with ⟨h, _⟩ | ⟨_, _, h⟩ | ⟨_, h, _⟩
        · rw [hr2] at h; cases h
        · exact h
        · rw [hu2] at h; cases h
      refine op_of hoi e3 (wp_call2 e1 (cfP _ _ _) ?_)
      rw [a1, a2, e2, v3, v4]
      exact (p2 w (by omega) hsp).mono fun e w' ⟨he, hs1, ht⟩ => ⟨agg4 r2, he, put 5 15 _ w' (by omega) rfl (KeepR.of_touch ht hsp) ht ⟨_, hsp⟩ (.inr (.inr ⟨(put_off (by omega)).trans hr2, put_at (by omega), hs1⟩)) (.inr ⟨rfl, rfl⟩) ((put_at (by omega)).trans (by rw [v5]))⟩
    | 6, _, _ =>
      obtain ⟨e1, e2, e3⟩ := ho.h6.at hoi
      refine op_of hoi e3 (wp_alloc1 (z := .agg #[.int .i64 0, .int .i64 0, .int .i64 0, .int .i64 0]) e1 (by kernel_rfl) ?_)
      rw [e2]
      have hb0 : Below w.heap.size w (w.alloc (.cells (Value.agg #[.int .i64 0, .int .i64 0, .int .i64 0, .int .i64 0]).cells 52)) := (Below.refl _ _).alloc (Nat.le_refl _) _
      have ho' : ∀ k, k ≠ 3 → (a.put (some 3) (.pointer (some ⟨w.heap.size, 0, none⟩))).tmps[k]? = a.tmps[k]? := fun k hk => put_off hk
      have hat : (a.put (some 3) (.pointer (some ⟨w.heap.size, 0, none⟩))).tmps[3]? = some (.pointer (some ⟨w.heap.size, 0, none⟩)) := put_at (by omega)
      refine ⟨⟨⟨b1.trans (hb0.mono (by omega)), keepB b2 hb0, put_size.trans b3, b4, fun k hk => (ho' k (by omega)).trans (b5 k hk), ⟨fun b hb => ?_, fun b hb => ?_⟩, b8.any (ho' 12 (by omega)) (ho' 15 (by omega)) (fun _ h => h.below hb0 (Nat.le_refl _))⟩, UP.put (.inr (.inr ⟨by omega, by omega⟩))⟩, Ptr4.new (by omega) (by omega), fun j oj hoj hj hnw hRj => RP.put (.inr (.inl ⟨rfl, rfl⟩)) (KeepR.of_below hb0) j hj (fun _ e => by
        subst e
        obtain ⟨e', he', hb', h'⟩ := waits_at w86 hoj
        exact hnw e' he' hb' h') hRj⟩
      · rw [hat] at hb
        cases hb
        refine ⟨by simp, fun b' hb' => ?_⟩
        rw [ho' 4 (by omega)] at hb'
        have := b7 b' hb'
        omega
      · rw [ho' 4 (by omega)] at hb
        have := b7 b hb
        simp
        omega
    | 7, _, _ =>
      obtain ⟨e1, e2, e3⟩ := ho.h7.at hoi
      refine op_of hoi e3 (wp_alloc1 (z := .agg #[.int .i64 0, .int .i64 0, .int .i64 0, .int .i64 0]) e1 (by kernel_rfl) ?_)
      rw [e2]
      have hb0 : Below w.heap.size w (w.alloc (.cells (Value.agg #[.int .i64 0, .int .i64 0, .int .i64 0, .int .i64 0]).cells 52)) := (Below.refl _ _).alloc (Nat.le_refl _) _
      have ho' : ∀ k, k ≠ 4 → (a.put (some 4) (.pointer (some ⟨w.heap.size, 0, none⟩))).tmps[k]? = a.tmps[k]? := fun k hk => put_off hk
      have hat : (a.put (some 4) (.pointer (some ⟨w.heap.size, 0, none⟩))).tmps[4]? = some (.pointer (some ⟨w.heap.size, 0, none⟩)) := put_at (by omega)
      refine ⟨⟨⟨b1.trans (hb0.mono (by omega)), keepB b2 hb0, put_size.trans b3, b4, fun k hk => (ho' k (by omega)).trans (b5 k hk), ⟨fun b hb => ?_, fun b hb => ?_⟩, b8.any (ho' 12 (by omega)) (ho' 15 (by omega)) (fun _ h => h.below hb0 (Nat.le_refl _))⟩, UP.put (.inr (.inr ⟨by omega, by omega⟩))⟩, Ptr4.new (by omega) (by omega), fun j oj hoj hj hnw hRj => RP.put (.inr (.inr ⟨rfl, rfl⟩)) (KeepR.of_below hb0) j hj (fun _ e => by
        subst e
        obtain ⟨e', he', hb', h'⟩ := waits_at w97 hoj
        exact hnw e' he' hb' h') hRj⟩
      · rw [ho' 3 (by omega)] at hb
        have h6 := b6 b hb
        refine ⟨by simp; omega, fun b' hb' => ?_⟩
        rw [hat] at hb'
        cases hb'
        omega
      · rw [hat] at hb
        cases hb
        simp
    | 8, _, _ =>
      obtain ⟨e1, e2, e3⟩ := ho.h8.at hoi
      obtain ⟨b, hA, hn, hrow⟩ := hwt 6 w86
      have hv3 : a.tmps[12]? = some (v 2) := hwt 2 w82
      rw [v2] at hv3
      refine op_of hoi e3 (wp_store4 (n := base) e1 (act_eval hA) (act_eval hv3) hrow b1 (by omega) (fun w' hv hb hk hs => ?_))
      rw [e2, put_none]
      obtain ⟨C, hC, hrow'⟩ := hrow
      have hbW : bW ≠ b := type_off b2 hrow' (by decide)
      have hg : w.grownBy w' (some b) := ⟨hb.os.trans b1.os.symm, hb.tape.trans b1.tape.symm, hb.output.trans b1.output.symm, by omega, fun k _ hk' => hk k (fun e => hk' (by rw [e]))⟩
      exact ⟨⟨⟨hb, (hk bW hbW).trans b2, b3, b4, b5, ⟨fun b' hb' => by rw [hs]; exact b6 b' hb', fun b' hb' => by rw [hs]; exact b7 b' hb'⟩, b8.any rfl rfl (fun _ h => h.offP hg hrow' (by decide) (by decide) (by decide) (by decide))⟩, fun j _ h => by
        match j, h with
        | 2, h => exact h
        | 5, h => exact h
        | 0, _ => trivial
        | 1, _ => trivial
        | 3, _ => trivial
        | 4, _ => trivial
        | _ + 6, _ => trivial⟩, ⟨b, hA, hn, hv⟩, fun j oj _ hj _ hRj => RP.storeA hA hn hv (fun b' hb' => Ne.symm ((b6 b hA).2 b' hb')) hk j hj hRj⟩
    | 9, _, _ =>
      obtain ⟨e1, e2, e3⟩ := ho.h9.at hoi
      obtain ⟨b, hA, hn, hrow⟩ := hwt 7 w97
      have hv3 : a.tmps[15]? = some (v 5) := hwt 5 w95
      rw [v5] at hv3
      refine op_of hoi e3 (wp_store4 (n := base) e1 (act_eval hA) (act_eval hv3) hrow b1 (by omega) (fun w' hv hb hk hs => ?_))
      rw [e2, put_none]
      obtain ⟨C, hC, hrow'⟩ := hrow
      have hbW : bW ≠ b := type_off b2 hrow' (by decide)
      have hg : w.grownBy w' (some b) := ⟨hb.os.trans b1.os.symm, hb.tape.trans b1.tape.symm, hb.output.trans b1.output.symm, by omega, fun k _ hk' => hk k (fun e => hk' (by rw [e]))⟩
      exact ⟨⟨⟨hb, (hk bW hbW).trans b2, b3, b4, b5, ⟨fun b' hb' => by rw [hs]; exact b6 b' hb', fun b' hb' => by rw [hs]; exact b7 b' hb'⟩, b8.any rfl rfl (fun _ h => h.offP hg hrow' (by decide) (by decide) (by decide) (by decide))⟩, fun j _ h => by
        match j, h with
        | 2, h => exact h
        | 5, h => exact h
        | 0, _ => trivial
        | 1, _ => trivial
        | 3, _ => trivial
        | 4, _ => trivial
        | _ + 6, _ => trivial⟩, ⟨b, hA, hn, hv⟩, fun j oj _ hj _ hRj => RP.storeB hA hn hv (fun b' hb' => (b6 b' hb').2 b hA) hk j hj hRj⟩
  · intro a w hB hR
    obtain ⟨b1, b2, b3, b4, b5, b6, b8⟩ := hB
    obtain ⟨bA, hA, hnA, hvA⟩ := hR 8 (by omega)
    obtain ⟨bB, hBp, hnB, hvB⟩ := hR 9 (by omega)
    have q0 : a.tmps[10]? = some (v 0) := hR 0 (by omega)
    have q1 : a.tmps[11]? = some (v 1) := hR 1 (by omega)
    have q2 : a.tmps[12]? = some (v 2) := hR 2 (by omega)
    have q3 : a.tmps[13]? = some (v 3) := hR 3 (by omega)
    have q4 : a.tmps[14]? = some (v 4) := hR 4 (by omega)
    have q5 : a.tmps[15]? = some (v 5) := hR 5 (by omega)
    rw [v0] at q0
    rw [v1] at q1
    rw [v2] at q2
    rw [v3] at q3
    rw [v4] at q4
    rw [v5] at q5
    have he : a = ⟨(((((((((T.setIfInBounds 10 (.pointer (some ⟨sp, 0, none⟩))).setIfInBounds 11 (.agg wc.toArray)).setIfInBounds 12 (agg4 r1)).setIfInBounds 13 (.pointer (some ⟨sp, 0, none⟩))).setIfInBounds 14 (.agg wc.toArray)).setIfInBounds 15 (agg4 r2)).setIfInBounds 3 (.pointer (some ⟨bA, 0, none⟩))).setIfInBounds 4 (.pointer (some ⟨bB, 0, none⟩)))), []⟩ := by
      obtain ⟨tm, df⟩ := a
      have b4 : df = [] := b4
      subst b4
      refine congrArg (fun t => Act.mk t []) (Array.ext_getElem? ?_)
      intro s
      rw [set_at (by simp only [Array.size_setIfInBounds]; omega), set_at (by simp only [Array.size_setIfInBounds]; omega), set_at (by simp only [Array.size_setIfInBounds]; omega), set_at (by simp only [Array.size_setIfInBounds]; omega), set_at (by simp only [Array.size_setIfInBounds]; omega), set_at (by simp only [Array.size_setIfInBounds]; omega), set_at (by simp only [Array.size_setIfInBounds]; omega), set_at (by omega)]
      split
      · rename_i e; rw [e]; exact hBp
      split
      · rename_i e; rw [e]; exact hA
      split
      · rename_i e; rw [e]; exact q5
      split
      · rename_i e; rw [e]; exact q4
      split
      · rename_i e; rw [e]; exact q3
      split
      · rename_i e; rw [e]; exact q2
      split
      · rename_i e; rw [e]; exact q1
      split
      · rename_i e; rw [e]; exact q0
      · exact b5 s (by omega)
    rw [he]
    exact hend bA bB w hvA hvB b1
  · refine ⟨(Below.refl _ _).drew, g1, rfl, rfl, fun _ _ => rfl, ⟨fun b hb => ?_, fun b hb => ?_⟩, .inl ⟨t12, t15, hs0⟩⟩
    · have hb : T[3]? = some (.pointer (some ⟨b, 0, none⟩)) := hb
      rw [t3] at hb
      cases hb
    · have hb : T[4]? = some (.pointer (some ⟨b, 0, none⟩)) := hb
      rw [t4] at hb
      cases hb
  · intro i hi
    match i, hi with
    | 2, _ => exact t12
    | 5, _ => exact t15
    | 0, _ => trivial
    | 1, _ => trivial
    | 3, _ => trivial
    | 4, _ => trivial
    | _ + 6, _ => trivial
end Go.Proofs.Ytecojcdmigmnhaa
