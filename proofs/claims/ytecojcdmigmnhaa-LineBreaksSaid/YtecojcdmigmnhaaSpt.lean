/- Spaces: what may change (SpTouch); New, Put. -/
import Derived.Test.YtecojcdmigmnhaaSpm
import Derived.Deep.RegionHeld3
import Derived.Deep.RegionLaw
import Derived.Deep.AppendLies
namespace Go.Proofs.Ytecojcdmigmnhaa
set_option linter.unusedSimpArgs false
set_option linter.unusedVariables false
open Go.RowKit
def SpTyped (w : World) (k : Nat) : Prop := ∃ C f, w.heap[k]? = some (.cells C 162 f) ∨ w.heap[k]? = some (.cells C 105 f) ∨ w.heap[k]? = some (.cells C 164 f)
/-- Nothing below base has turned, and above it only the space, lists, and rows of shelves and of floats. -/
def SpTouch (w w' : World) (base sp : Nat) : Prop := (w'.os = w.os ∧ w'.tape = w.tape ∧ w'.output = w.output ∧ w.heap.size ≤ w'.heap.size) ∧
  ∀ k, k < w.heap.size → (k < base ∨ (k ≠ sp ∧ ¬ SpTyped w k)) → w'.heap[k]? = w.heap[k]?
theorem SpTouch.refl (w : World) (base sp : Nat) : SpTouch w w base sp := ⟨⟨rfl, rfl, rfl, Nat.le_refl _⟩, fun _ _ _ => rfl⟩
theorem SpTouch.trans {a b c : World} {base sp : Nat} (h : SpTouch a b base sp) (k : SpTouch b c base sp) : SpTouch a c base sp := by
  obtain ⟨⟨h1, h2, h3, h4⟩, h5⟩ := h
  obtain ⟨⟨k1, k2, k3, k4⟩, k5⟩ := k
  refine ⟨⟨k1.trans h1, k2.trans h2, k3.trans h3, Nat.le_trans h4 k4⟩, fun i hi hc => ?_⟩
  have e := h5 i hi hc
  refine (k5 i (by omega) (hc.imp id fun ⟨n, t⟩ => ⟨n, fun ⟨C, f, x⟩ => t ⟨C, f, ?_⟩⟩)).trans e
  rw [e] at x
  exact x
theorem SpTouch.of_below {w w' : World} {base sp : Nat} (h : Below w.heap.size w w') : SpTouch w w' base sp := ⟨⟨h.os, h.tape, h.output, h.size⟩, fun k hk _ => h.block k hk⟩
theorem SpTouch.below {w w' : World} {base sp : Nat} (h : SpTouch w w' base sp) (hb : base ≤ w.heap.size) : Below base w w' :=
  ⟨h.1.1, h.1.2.1, h.1.2.2.1, h.1.2.2.2, fun k hk => h.2 k (by omega) (.inl hk)⟩
theorem SpTouch.of_sh {w w' : World} {base sp lp : Nat} {F : List Sh} (h : ShTouch w w' base lp) (hl : ListIs w base lp F) : SpTouch w w' base sp := by
  obtain ⟨v, h1, _, _⟩ := hl
  refine ⟨h.1, fun k hk hc => h.2 k hk (hc.imp id fun ⟨_, t⟩ => ⟨fun e => t ?_, fun C f e => t ⟨C, f, .inl e⟩⟩)⟩
  subst e
  exact ⟨_, _, .inr (.inr h1)⟩
theorem SpTouch.of_flo {w w' : World} {base sp g : Nat} {C : Array Value} {f : Nat × Nat} (h : w.grownBy w' (some g)) (hg : w.heap[g]? = some (.cells C 105 f)) (hb : base ≤ g) : SpTouch w w' base sp := by
  refine ⟨⟨h.os, h.tape, h.output, h.size⟩, fun k hk hc => h.block k hk (fun e => ?_)⟩
  injection e with e
  subst e
  rcases hc with hc | ⟨_, t⟩
  · omega
  · exact t ⟨_, _, .inr (.inl hg)⟩
theorem SpTouch.of_sp {w w' : World} {base sp : Nat} (h : w.grownBy w' (some sp)) (hb : base ≤ sp) : SpTouch w w' base sp := by
  refine ⟨⟨h.os, h.tape, h.output, h.size⟩, fun k hk hc => h.block k hk (fun e => ?_)⟩
  injection e with e
  subst e
  rcases hc with hc | ⟨t, _⟩
  · omega
  · exact t rfl
theorem SpTouch.drew {w w' : World} {base sp : Nat} (h : SpTouch w w' base sp) : SpTouch w w'.drew base sp := h
theorem SpTouch.drewL {w w' : World} {base sp : Nat} (h : SpTouch w.drew w' base sp) : SpTouch w w' base sp := h
theorem spfInfo3 : (Try.prog.info? 105).map (fun i => (i.zero, i.size, i.bytes)) = some (some (.agg #[.int .i64 0, .int .i64 0, .int .i64 0, .int .i64 0, .int .i64 0]), 5, 40) := by kernel_rfl
def PutPost (L : List Fo) (f : Fo) (base sp : Nat) (w : World) (e : Ending) (w' : World) : Prop := e = .returned (.tuple #[]) ∧ SpaceIs w' base sp (L ++ [f]) ∧ SpTouch w w' base sp
theorem type_off {w : World} {a b : Nat} {C D : Array Value} {s t : TypeId} {f g : Nat × Nat} (h : w.heap[a]? = some (.cells C s f)) (k : w.heap[b]? = some (.cells D t g)) (hne : s ≠ t) : a ≠ b := by
  intro e
  subst e
  have := h.symm.trans k
  injection this with this
  injection this with _ h2
  exact hne h2
theorem own_same {w w' : World} {base size n : Nat} {e : TypeId} {v : Value} {xs : List Value} (h : w.ownsRow base e size v n xs) (hb : ∀ (g : Nat) (C : Array Value) (f : Nat × Nat), base ≤ g → w.heap[g]? = some (Obj.cells C e f) → w'.heap[g]? = w.heap[g]?) : w'.ownsRow base e size v n xs := by
  refine ⟨h.1, h.2.imp id ?_⟩
  rintro ⟨g, cap, cur, e1, h1, h2, h3⟩
  exact ⟨g, cap, cur, e1, h1, (hb g _ _ h1 h2).trans h2, h3⟩
theorem ListIs.same {w w' : World} {base lp : Nat} {F : List Sh} (h : ListIs w base lp F) (hb : ∀ (g : Nat) (C : Array Value) (f : Nat × Nat), w.heap[g]? = some (Obj.cells C 162 f) ∨ w.heap[g]? = some (Obj.cells C 164 f) → w'.heap[g]? = w.heap[g]?) : ListIs w' base lp F := by
  obtain ⟨v, h1, h2, h3⟩ := h
  exact ⟨v, (hb lp _ _ (.inr h1)).trans h1, h2, own_same h3 fun g C f _ hg => hb g C f (.inl hg)⟩
/-- A space that is being put into: its parts, one by one. -/
structure PS (w : World) (base sp lp b0 : Nat) (v : Value) (l b1 b2 b3 : Int × Bool) (F : List Sh) (R : List Fo) (f : Fo) (wc : World) : Prop where
  cells : wc.heap[sp]? = some (.cells (spC lp v l b1 b2 b3) 127 (0, 0))
  list : ListIs wc base lp F
  own : wc.ownsRow base 105 5 v R.length (flat foC R)
  box : wc.heap[b0]? = some (.cells #[.int .i64 f.x0, .int .i64 f.y0, .int .i64 f.x1, .int .i64 f.y1] 52 (0, 0))
  touch : SpTouch w wc base sp
theorem PS.below {w wc w' : World} {base sp lp b0 : Nat} {v : Value} {l b1 b2 b3 : Int × Bool} {F : List Sh} {R : List Fo} {f : Fo} (h : PS w base sp lp b0 v l b1 b2 b3 F R f wc) (hb : Below wc.heap.size wc w') : PS w base sp lp b0 v l b1 b2 b3 F R f w' :=
  ⟨(hb.block sp (Array.getElem?_eq_some_iff.1 h.cells).1).trans h.cells, h.list.below hb (Nat.le_refl _), own_below h.own hb, (hb.block b0 (Array.getElem?_eq_some_iff.1 h.box).1).trans h.box, h.touch.trans (SpTouch.of_below hb)⟩
theorem PS.grown {w wc w' : World} {base sp lp b0 : Nat} {v : Value} {l b1 b2 b3 l' b1' b2' b3' : Int × Bool} {F : List Sh} {R : List Fo} {f : Fo} (h : PS w base sp lp b0 v l b1 b2 b3 F R f wc) (hb : base ≤ sp)
    (hg : wc.grownBy w' (some sp)) (hc : w'.heap[sp]? = some (.cells (spC lp v l' b1' b2' b3') 127 (0, 0))) : PS w base sp lp b0 v l' b1' b2' b3' F R f w' := by
  have hk : ∀ (g : Nat) (C : Array Value) (t : TypeId) (f : Nat × Nat), t ≠ 127 → wc.heap[g]? = some (Obj.cells C t f) → w'.heap[g]? = wc.heap[g]? := fun g C t f ht hh =>
    hg.block g (Array.getElem?_eq_some_iff.1 hh).1 (fun e => by injection e with e; exact type_off hh h.cells ht e)
  exact ⟨hc, h.list.same fun g C f hh => hh.elim (hk g C _ f (by decide)) (hk g C _ f (by decide)), own_same h.own fun g C f _ hh => hk g C _ f (by decide) hh, (hk b0 _ _ _ (by decide) h.box).trans h.box, h.touch.trans (SpTouch.of_sp hg hb)⟩
theorem PS.add {w wc w' : World} {base sp lp b0 : Nat} {v : Value} {l b1 b2 b3 : Int × Bool} {F F' : List Sh} {R : List Fo} {f : Fo} (h : PS w base sp lp b0 v l b1 b2 b3 F R f wc) (hl : ListIs w' base lp F') (ht : ShTouch wc w' base lp) : PS w base sp lp b0 v l b1 b2 b3 F' R f w' := by
  obtain ⟨u, k1, k2, k3⟩ := id h.list
  have hk : ∀ (g : Nat) (C : Array Value) (t : TypeId) (f : Nat × Nat), t ≠ 164 → t ≠ 162 → wc.heap[g]? = some (Obj.cells C t f) → w'.heap[g]? = wc.heap[g]? := fun g C t f h1 h2 hh =>
    ht.2 g (Array.getElem?_eq_some_iff.1 hh).1 (.inr ⟨type_off hh k1 h1, fun D f' e => type_off hh e h2 rfl⟩)
  exact ⟨(hk sp _ _ _ (by decide) (by decide) h.cells).trans h.cells, hl, own_same h.own fun g C f _ hh => hk g C _ f (by decide) (by decide) hh, (hk b0 _ _ _ (by decide) (by decide) h.box).trans h.box, h.touch.trans (SpTouch.of_sh ht h.list)⟩
theorem PS.reach2 {w wc : World} {base sp lp b0 : Nat} {v : Value} {l b1 b2 b3 : Int × Bool} {F : List Sh} {R : List Fo} {f : Fo} (h : PS w base sp lp b0 v l b1 b2 b3 F R f wc) (hb : base ≤ sp) (n : Int) :
    Calls Try.prog 63 #[.pointer (some ⟨sp, 2, none⟩), .int .i64 n] wc fun e w' => e = .returned (.tuple #[]) ∧ PS w base sp lp b0 v (rch l n) b1 b2 b3 F R f w' ∧ wc.grownBy w' (some sp) := by
  refine (reach_any sp 2 _ _ l.1 n l.2 wc h.cells rfl rfl).mono ?_
  rintro e w' ⟨rfl, h1, h2, _⟩
  exact ⟨rfl, h.grown hb h2 h1, h2⟩
theorem PS.reach6 {w wc : World} {base sp lp b0 : Nat} {v : Value} {l b1 b2 b3 : Int × Bool} {F : List Sh} {R : List Fo} {f : Fo} (h : PS w base sp lp b0 v l b1 b2 b3 F R f wc) (hb : base ≤ sp) (n : Int) :
    Calls Try.prog 63 #[.pointer (some ⟨sp, 6, none⟩), .int .i64 n] wc fun e w' => e = .returned (.tuple #[]) ∧ PS w base sp lp b0 v l (rch b1 n) b2 b3 F R f w' ∧ wc.grownBy w' (some sp) := by
  refine (reach_any sp 6 _ _ b1.1 n b1.2 wc h.cells rfl rfl).mono ?_
  rintro e w' ⟨rfl, h1, h2, _⟩
  exact ⟨rfl, h.grown hb h2 h1, h2⟩
theorem PS.reach8 {w wc : World} {base sp lp b0 : Nat} {v : Value} {l b1 b2 b3 : Int × Bool} {F : List Sh} {R : List Fo} {f : Fo} (h : PS w base sp lp b0 v l b1 b2 b3 F R f wc) (hb : base ≤ sp) (n : Int) :
    Calls Try.prog 63 #[.pointer (some ⟨sp, 8, none⟩), .int .i64 n] wc fun e w' => e = .returned (.tuple #[]) ∧ PS w base sp lp b0 v l b1 (rch b2 n) b3 F R f w' ∧ wc.grownBy w' (some sp) := by
  refine (reach_any sp 8 _ _ b2.1 n b2.2 wc h.cells rfl rfl).mono ?_
  rintro e w' ⟨rfl, h1, h2, _⟩
  exact ⟨rfl, h.grown hb h2 h1, h2⟩
theorem PS.reach10 {w wc : World} {base sp lp b0 : Nat} {v : Value} {l b1 b2 b3 : Int × Bool} {F : List Sh} {R : List Fo} {f : Fo} (h : PS w base sp lp b0 v l b1 b2 b3 F R f wc) (hb : base ≤ sp) (n : Int) :
    Calls Try.prog 63 #[.pointer (some ⟨sp, 10, none⟩), .int .i64 n] wc fun e w' => e = .returned (.tuple #[]) ∧ PS w base sp lp b0 v l b1 b2 (rch b3 n) F R f w' ∧ wc.grownBy w' (some sp) := by
  refine (reach_any sp 10 _ _ b3.1 n b3.2 wc h.cells rfl rfl).mono ?_
  rintro e w' ⟨rfl, h1, h2, _⟩
  exact ⟨rfl, h.grown hb h2 h1, h2⟩
/-- The bottoms after k rounds. -/
def btK (L : List Fo) (f : Fo) (c : Int) (k : Nat) : Int × Bool := if (c = f.s ∧ 1 ≤ k) ∨ (c = 3 ∧ 2 ≤ k) then rch (botS c L) f.y1 else botS c L
theorem btK_end (L : List Fo) (f : Fo) (c : Int) : btK L f c 2 = botS c (L ++ [f]) := by
  rw [botS_snoc]
  unfold btK bt1
  simp
theorem btK_zero (L : List Fo) (f : Fo) (c : Int) : btK L f c 0 = botS c L := by unfold btK; simp
set_option maxRecDepth 20000 in
set_option maxHeartbeats 8000000 in
theorem put_any (L : List Fo) (f : Fo) (base sp : Nat) (w : World) (h : SpaceIs w base sp L) (hok : ShOk (shelves L)) (hL : L.length ≤ 100000) (m0 : Mid f.x0) (m1 : Mid f.y0) (m2 : Mid f.x1) (m3 : Mid f.y1) (l0 : -far < f.y0) (l1 : -far < f.y1) (hs : f.s = 1 ∨ f.s = 2) (hbase : base ≤ w.heap.size) :
    Calls Try.prog 25 #[.pointer (some ⟨sp, 0, none⟩), .int .i64 f.s, .agg #[.int .i64 f.x0, .int .i64 f.y0, .int .i64 f.x1, .int .i64 f.y1]] w (PutPost L f base sp w) := by
  have hsl := shelves_length L
  have had := fun lp w h hb => add_any (shelves L) f base lp w h hok (by omega) m0 m1 m2 m3 l0 l1 hb
  unfold AddPost at had
  rw [← shelves_snoc] at had
  have HAD := Lib.hid had
  clear had hok m0 m1 m2 m3 l0 l1 hsl
  obtain ⟨lp, v, q1, q2, q3, q4⟩ := h
  obtain ⟨b0, hb0⟩ : ∃ b, w.heap.size = b := ⟨_, rfl⟩
  obtain ⟨i0, hi0, hz0, hz1, hz2⟩ := info_parts spfInfo3
  have hsp : sp < w.heap.size := (Array.getElem?_eq_some_iff.1 q1).1
  have hnv : v.ownBlock ≠ some sp := by
    intro e
    rcases q4.2 with ⟨rfl, _⟩ | ⟨g, cap, cur, rfl, hg, hh, _⟩
    · simp [Value.ownBlock] at e
    · simp only [Value.ownBlock, Option.some.injEq] at e
      exact type_off hh q1 (by decide) e
  have c1 : w.cell? ⟨sp, 1, none⟩ = some v := cell_of_row w sp 1 _ _ (0, 0) q1
  have f1 := frozen_of_row w sp 1 _ _ q1
  have Q1 := Lib.hid q1
  have Q3 := Lib.hid q3
  have Q4 := Lib.hid q4
  have HNV := Lib.hid hnv
  have HB0 := Lib.hid hb0
  have HL := Lib.hid hL
  have HSI := Lib.hid hs
  clear q1 q3 q4 hnv hb0
  go_enter Try.func25, Try.ntmps25
  go_wp2_with fail
  obtain ⟨W1, hW1⟩ : ∃ W, w.alloc (.cells #[.int .i64 f.x0, .int .i64 f.y0, .int .i64 f.x1, .int .i64 f.y1] 52) = W := ⟨_, rfl⟩
  have hB1 : Below w.heap.size w W1 := by rw [← hW1]; exact (Below.refl _ _).alloc (Nat.le_refl _) _
  have hbx : W1.heap[b0]? = some (.cells #[.int .i64 f.x0, .int .i64 f.y0, .int .i64 f.x1, .int .i64 f.y1] 52 (0, 0)) := by rw [← hW1, ← HB0.out]; exact heap_alloc_new w _
  have hz1 : W1.heap.size = b0 + 1 := by rw [← hW1, ← HB0.out]; simp
  rw [hW1, HB0.out]
  have c1' : W1.cell? ⟨sp, 1, none⟩ = some v := (hB1.cell (p := ⟨sp, 1, none⟩) hsp).trans c1
  have f1' : W1.frozen? ⟨sp, 1, none⟩ = false := (hB1.frozen (p := ⟨sp, 1, none⟩) hsp).trans f1
  have hk : ∀ w' : World, w'.heap[b0]? = W1.heap[b0]? → (w'.cell? ⟨b0, 0, none⟩ = some (.int .i64 f.x0) ∧ w'.cell? ⟨b0, 1, none⟩ = some (.int .i64 f.y0) ∧ w'.cell? ⟨b0, 2, none⟩ = some (.int .i64 f.x1) ∧ w'.cell? ⟨b0, 3, none⟩ = some (.int .i64 f.y1)) := fun w' e =>
    have h := e.trans hbx
    ⟨cell_of_row w' b0 0 _ _ (0, 0) h, cell_of_row w' b0 1 _ _ (0, 0) h, cell_of_row w' b0 2 _ _ (0, 0) h, cell_of_row w' b0 3 _ _ (0, 0) h⟩
  have hnw : ∀ W : World, Below W1.heap.size W1 W → W.ownsRow base 105 5 v L.length (flat foC L) := fun W hW => own_below (own_below Q4.out hB1) hW
  have hsb : sp ≠ b0 := by have := HB0.out; omega
  have hbb : b0 < W1.heap.size := by omega
  have hbs : base ≤ W1.heap.size := by have := hB1.size; omega
  have hs1 : sp < W1.heap.size := by have := hB1.size; omega
  have hbsp : base ≤ sp := q2
  have hnb : v.ownBlock ≠ some b0 := by
    intro e
    rcases Q4.out.2 with ⟨rfl, _⟩ | ⟨g, cap, cur, rfl, hg, hh, _⟩
    · simp [Value.ownBlock] at e
    · simp only [Value.ownBlock, Option.some.injEq] at e
      have := (Array.getElem?_eq_some_iff.1 hh).1
      have := HB0.out
      omega
  have HNB := Lib.hid hnb
  have hpm : ∀ (g6 cap6 : Nat) (W w6 : World), Below W1.heap.size W1 W → w6.ownsRow base 105 5 (.slice (some ⟨g6, 0, none⟩) (L.length + 1) cap6) (L.length + 1) (flat foC L ++ foC f) → W.grownBy w6 v.ownBlock →
      PS w base sp lp b0 (.slice (some ⟨g6, 0, none⟩) (L.length + 1) cap6) (lastS L) (botS 1 L) (botS 2 L) (botS 3 L) (full (shelves L)) (L ++ [f]) f (w6.setCell ⟨sp, 1, none⟩ (.slice (some ⟨g6, 0, none⟩) (L.length + 1) cap6)) := by
    intro g6 cap6 W w6 hW ho hg
    have hWw : Below w.heap.size w W := hB1.trans (hW.mono (by have := hB1.size; omega))
    have hne : ∀ k, k < W1.heap.size → (∃ (C : Array Value) (t : TypeId) (fr : Nat × Nat), t ≠ 105 ∧ W1.heap[k]? = some (Obj.cells C t fr)) → w6.heap[k]? = W1.heap[k]? := by
      rintro k hk ⟨C, t, fr, ht, hh⟩
      refine (hg.block k (by have := hW.size; omega) (fun e => ?_)).trans (hW.block k hk)
      rcases Q4.out.2 with ⟨rfl, _⟩ | ⟨g, cap, cur, rfl, _, hh', _⟩
      · simp [Value.ownBlock] at e
      · simp only [Value.ownBlock, Option.some.injEq] at e
        have hgl := (Array.getElem?_eq_some_iff.1 hh').1
        exact type_off hh ((hB1.block g hgl).trans hh') ht e
    have k1 : W1.heap[sp]? = some (.cells (spL lp v L) 127 (0, 0)) := (hB1.block sp hsp).trans Q1.out
    have k6 := (hne sp hs1 ⟨_, _, _, by decide, k1⟩).trans k1
    have hset : ∀ (g : Nat), g ≠ sp → (w6.setCell ⟨sp, 1, none⟩ (.slice (some ⟨g6, 0, none⟩) (L.length + 1) cap6)).heap[g]? = w6.heap[g]? := fun g h => Below.heap_setCell _ _ _ _ h
    have hsg : w6.grownBy (w6.setCell ⟨sp, 1, none⟩ (.slice (some ⟨g6, 0, none⟩) (L.length + 1) cap6)) (some sp) := grown_setCells sp [_] 1 w6
    have kl : ListIs w6 base lp (full (shelves L)) := (Q3.out.below hB1 (Nat.le_refl _)).same fun g C f hh => hh.elim (fun hh => hne g (Array.getElem?_eq_some_iff.1 hh).1 ⟨_, _, _, by decide, hh⟩) (fun hh => hne g (Array.getElem?_eq_some_iff.1 hh).1 ⟨_, _, _, by decide, hh⟩)
    have kb := (hne b0 (by omega) ⟨_, _, _, by decide, hbx⟩).trans hbx
    refine ⟨heap_setCell_same w6 sp 1 _ _ _ k6, kl.same fun g C f hh => hset g (hh.elim (fun hh => type_off hh k6 (by decide)) (fun hh => type_off hh k6 (by decide))), own_same ?_ fun g C f _ hh => hset g (type_off hh k6 (by decide)), (hset b0 (Ne.symm hsb)).trans kb, ?_⟩
    · rw [List.length_append, flat_snoc]
      exact ho
    · refine SpTouch.trans (SpTouch.of_below hWw) (SpTouch.trans ?_ (SpTouch.of_sp hsg hbsp))
      rcases Q4.out.2 with ⟨rfl, _⟩ | ⟨g, cap, cur, rfl, hbg, hh', _⟩
      · exact SpTouch.of_below ⟨hg.os, hg.tape, hg.output, hg.size, fun k hk => hg.block k hk (by simp [Value.ownBlock])⟩
      · exact SpTouch.of_flo hg ((hWw.block g (Array.getElem?_eq_some_iff.1 hh').1).trans hh') hbg
  have HPM := Lib.hid hpm
  have HK := Lib.hid hk
  have HNW := Lib.hid hnw
  have HBX := Lib.hid hbx
  have HB1 := Lib.hid hB1
  have HZ1 := Lib.hid hz1
  clear hpm hnb hk hnw hbx hB1 hW1 c1 f1 hz1
  go_cut [] (fun wc => ∃ v', PS w base sp lp b0 v' (lastS L) (botS 1 L) (botS 2 L) (botS 3 L) (full (shelves L)) (L ++ [f]) f wc)
  case first =>
    refine wp_region_held_drew (S := (fun w' => w'.cell? ⟨b0, 0, none⟩ = some (.int .i64 f.x0) ∧ w'.cell? ⟨b0, 1, none⟩ = some (.int .i64 f.y0) ∧ w'.cell? ⟨b0, 2, none⟩ = some (.int .i64 f.x1) ∧ w'.cell? ⟨b0, 3, none⟩ = some (.int .i64 f.y1))) (by kernel_rfl) (by first | exact HK.out _ rfl | exact HK.out _ (heap_alloc_old _ _ hbb) | exact HK.out _ HX6.out | exact HK.out _ ((Below.heap_setCell w6 _ _ b0 (Ne.symm hsb)).trans HX6.out)) (fun hHeld => ?_)
    refine wpAnyH_take (i := 0) (v := ?_) rfl (by kernel_rfl) (by kernel_rfl) (by kernel_rfl) (fun _ _ _ h => h) (Or.inl ⟨by rfl, ?_⟩) (by assumption) ?_
    rotate_left
    focus ((intro wS hSw; (try dsimp only at hSw); go_simp); (try (with_reducible rfl)))
    simp only [Act.put, List.getElem_toArray, List.getElem_cons_zero, List.getElem_cons_succ, List.setIfInBounds_toArray, List.set_cons_zero, List.set_cons_succ]
    refine wpAnyH_take (i := 1) (v := ?_) rfl (by kernel_rfl) (by kernel_rfl) (by kernel_rfl) (fun _ _ _ h => h) (Or.inl ⟨by rfl, ?_⟩) (by assumption) ?_
    rotate_left
    focus ((intro wS hSw; (try dsimp only at hSw); go_simp); (try (with_reducible rfl)))
    simp only [Act.put, List.getElem_toArray, List.getElem_cons_zero, List.getElem_cons_succ, List.setIfInBounds_toArray, List.set_cons_zero, List.set_cons_succ]
    refine wpAnyH_take (i := 2) (v := ?_) rfl (by kernel_rfl) (by kernel_rfl) (by kernel_rfl) (fun _ _ _ h => h) (Or.inl ⟨by rfl, ?_⟩) (by assumption) ?_
    rotate_left
    focus ((intro wS hSw; (try dsimp only at hSw); go_simp); (try (with_reducible rfl)))
    simp only [Act.put, List.getElem_toArray, List.getElem_cons_zero, List.getElem_cons_succ, List.setIfInBounds_toArray, List.set_cons_zero, List.set_cons_succ]
    refine wpAnyH_take (i := 3) (v := ?_) rfl (by kernel_rfl) (by kernel_rfl) (by kernel_rfl) (fun _ _ _ h => h) (Or.inl ⟨by rfl, ?_⟩) (by assumption) ?_
    rotate_left
    focus ((intro wS hSw; (try dsimp only at hSw); go_simp); (try (with_reducible rfl)))
    simp only [Act.put, List.getElem_toArray, List.getElem_cons_zero, List.getElem_cons_succ, List.setIfInBounds_toArray, List.set_cons_zero, List.set_cons_succ]
    refine wpAnyH_take (i := 5) (v := ?_) rfl (by kernel_rfl) (by kernel_rfl) (by kernel_rfl) (fun _ _ _ h => h) (Or.inl ⟨by rfl, ?_⟩) (by assumption) ?_
    rotate_left
    focus ((intro wS hSw; (try dsimp only at hSw); go_simp); (try (with_reducible rfl)))
    simp only [Act.put, List.getElem_toArray, List.getElem_cons_zero, List.getElem_cons_succ, List.setIfInBounds_toArray, List.set_cons_zero, List.set_cons_succ]
    refine wpAnyH_take (i := 6) (v := ?_) rfl (by kernel_rfl) (by kernel_rfl) (by kernel_rfl) (fun _ _ _ h => h) (Or.inl ⟨by rfl, ?_⟩) (by assumption) ?_
    rotate_left
    focus ((intro wS hSw; (try dsimp only at hSw); go_simp); (try (with_reducible rfl)))
    simp only [Act.put, List.getElem_toArray, List.getElem_cons_zero, List.getElem_cons_succ, List.setIfInBounds_toArray, List.set_cons_zero, List.set_cons_succ]
    refine wpAnyH_take (i := 7) (v := ?_) rfl (by kernel_rfl) (by kernel_rfl) (by kernel_rfl) (fun _ _ _ h => h) (Or.inl ⟨by rfl, ?_⟩) (by assumption) ?_
    rotate_left
    focus ((intro wS hSw; (try dsimp only at hSw); go_simp); (try (with_reducible rfl)))
    simp only [Act.put, List.getElem_toArray, List.getElem_cons_zero, List.getElem_cons_succ, List.setIfInBounds_toArray, List.set_cons_zero, List.set_cons_succ]
    refine wpAnyH_ready (rs := [4, 8]) (by kernel_rfl) (by simp) ?_
    refine AllReadyH.cons rfl (fun K hK => ?_) ?_
    · skip
      go_simp
      refine hK.out _ _ (by first | exact HK.out _ rfl | exact HK.out _ (heap_alloc_old _ _ hbb) | exact HK.out _ HX6.out | exact HK.out _ ((Below.heap_setCell w6 _ _ b0 (Ne.symm hsb)).trans HX6.out)) (fun hHeld => ?_)
      clear hK K
      (try simp only [Act.put, List.getElem_toArray, List.getElem_cons_zero, List.getElem_cons_succ, List.setIfInBounds_toArray, List.set_cons_zero, List.set_cons_succ])
      refine wpAnyH_ready (rs := [8]) (by kernel_rfl) (by simp) ?_
      refine AllReadyH.cons rfl (fun K hK => ?_) AllReadyH.nil
      go_simp
      refine hK.out _ _ (by first | exact HK.out _ rfl | exact HK.out _ (heap_alloc_old _ _ hbb) | exact HK.out _ HX6.out | exact HK.out _ ((Below.heap_setCell w6 _ _ b0 (Ne.symm hsb)).trans HX6.out)) (fun hHeld => ?_)
      clear hK K
      (try simp only [Act.put, List.getElem_toArray, List.getElem_cons_zero, List.getElem_cons_succ, List.setIfInBounds_toArray, List.set_cons_zero, List.set_cons_succ])
      refine wpAnyH_ready (rs := [9]) (by kernel_rfl) (by simp) ?_
      refine AllReadyH.cons rfl (fun K hK => ?_) AllReadyH.nil
      refine step_append_own (by rfl) (.tmp 12) (.tmp 16) 93 (by rfl) base 105 i0 (.agg #[.int .i64 0, .int .i64 0, .int .i64 0, .int .i64 0, .int .i64 0]) 5 40 Try.underlying93 hi0 hz0 hz1 hz2 rfl (by decide) v L.length (flat foC L) (by rfl) (HNW.out _ (by (repeat (first | exact Below.refl _ _ | (refine Below.alloc ?_ (by first | omega | (simp; done) | (simp; omega)) _) | (refine Below.on (by assumption) ?_ (by first | omega | (simp; done) | (simp; omega))) | (refine Below.grown ?_ (by assumption) (by first | omega | (simp; done) | (simp; omega)) (by intro k hk; cases hk)) | refine Below.drew ?_)))) ⟨W1.heap.size, 0, none⟩ 1 1 (foC f) (by rfl) rfl (World.news_of_block (cs := #[.int .i64 f.s, .int .i64 f.x0, .int .i64 f.y0, .int .i64 f.x1, .int .i64 f.y1]) (t := 105) (fr := (0, 0)) (heap_alloc_new W1 _)) (foC_one f) (by unfold maxLen; have := HL.out; omega) (by have := HL.out; omega) (by simp; omega) ?_; intro v6 w6 ho6 hg6 ha6; obtain ⟨g6, cap6, rfl, hcp6, hbg6, hgl6⟩ := own_form ho6 (by omega) rfl; have c6 := (far2_cell (w := W1) (b := sp) (o := 1) (by (repeat (first | exact Below.refl _ _ | (refine Below.alloc ?_ (by first | omega | (simp; done) | (simp; omega)) _) | (refine Below.on (by assumption) ?_ (by first | omega | (simp; done) | (simp; omega))) | (refine Below.grown ?_ (by assumption) (by first | omega | (simp; done) | (simp; omega)) (by intro k hk; cases hk)) | refine Below.drew ?_))) hg6 hs1 HNV.out).trans c1'; have f6 := (far2_frozen (w := W1) (b := sp) (o := 1) (by (repeat (first | exact Below.refl _ _ | (refine Below.alloc ?_ (by first | omega | (simp; done) | (simp; omega)) _) | (refine Below.on (by assumption) ?_ (by first | omega | (simp; done) | (simp; omega))) | (refine Below.grown ?_ (by assumption) (by first | omega | (simp; done) | (simp; omega)) (by intro k hk; cases hk)) | refine Below.drew ?_))) hg6 hs1 HNV.out).trans f1'; have HA6 := Lib.hid ha6; have HO6 := Lib.hid ho6; have HG6 := Lib.hid hg6; clear ho6 hg6 ha6
      have HX6 := Lib.hid ((HG6.out.block b0 (by simp; omega) (Ne.symm HNB.out)).trans (heap_alloc_old W1 _ hbb))
      refine hK.out _ _ (by first | exact HK.out _ rfl | exact HK.out _ (heap_alloc_old _ _ hbb) | exact HK.out _ HX6.out | exact HK.out _ ((Below.heap_setCell w6 _ _ b0 (Ne.symm hsb)).trans HX6.out)) (fun hHeld => ?_)
      clear hK K
      (try simp only [Act.put, List.getElem_toArray, List.getElem_cons_zero, List.getElem_cons_succ, List.setIfInBounds_toArray, List.set_cons_zero, List.set_cons_succ])
      refine wpAnyH_take (i := 10) (v := ?_) rfl (by kernel_rfl) (by kernel_rfl) (by kernel_rfl) (fun _ _ _ h => h) (Or.inl ⟨by rfl, ?_⟩) (by assumption) ?_
      rotate_left
      focus ((intro wS hSw; (try dsimp only at hSw); go_simp); (try (with_reducible rfl)))
      simp only [Act.put, List.getElem_toArray, List.getElem_cons_zero, List.getElem_cons_succ, List.setIfInBounds_toArray, List.set_cons_zero, List.set_cons_succ]
      refine wpAnyH_take (i := 11) (v := ?_) rfl (by kernel_rfl) (by kernel_rfl) (by kernel_rfl) (fun _ _ _ h => h) (Or.inl ⟨by rfl, ?_⟩) (by assumption) ?_
      rotate_left
      focus ((intro wS hSw; (try dsimp only at hSw); go_simp); (try (with_reducible rfl)))
      simp only [Act.put, List.getElem_toArray, List.getElem_cons_zero, List.getElem_cons_succ, List.setIfInBounds_toArray, List.set_cons_zero, List.set_cons_succ]
      refine wpAnyH_ready (rs := [12]) (by kernel_rfl) (by simp) ?_
      refine AllReadyH.cons rfl (fun K hK => ?_) AllReadyH.nil
      go_simp
      refine hK.out _ _ (by first | exact HK.out _ rfl | exact HK.out _ (heap_alloc_old _ _ hbb) | exact HK.out _ HX6.out | exact HK.out _ ((Below.heap_setCell w6 _ _ b0 (Ne.symm hsb)).trans HX6.out)) (fun hHeld => ?_)
      clear hK K
      (try simp only [Act.put, List.getElem_toArray, List.getElem_cons_zero, List.getElem_cons_succ, List.setIfInBounds_toArray, List.set_cons_zero, List.set_cons_succ])
      refine wpAnyH_done (by kernel_rfl) ?_ _
      clear hHeld
      go_wp2_with fail
      go_meet
      case rel => exact ⟨_, HPM.out _ _ _ _ (by (repeat (first | exact Below.refl _ _ | (refine Below.alloc ?_ (by first | omega | (simp; done) | (simp; omega)) _) | (refine Below.on (by assumption) ?_ (by first | omega | (simp; done) | (simp; omega))) | (refine Below.grown ?_ (by assumption) (by first | omega | (simp; done) | (simp; omega)) (by intro k hk; cases hk)) | refine Below.drew ?_))) HO6.out HG6.out⟩
    · refine AllReadyH.cons rfl (fun K hK => ?_) AllReadyH.nil
      go_simp
      refine hK.out _ _ (by first | exact HK.out _ rfl | exact HK.out _ (heap_alloc_old _ _ hbb) | exact HK.out _ HX6.out | exact HK.out _ ((Below.heap_setCell w6 _ _ b0 (Ne.symm hsb)).trans HX6.out)) (fun hHeld => ?_)
      clear hK K
      (try simp only [Act.put, List.getElem_toArray, List.getElem_cons_zero, List.getElem_cons_succ, List.setIfInBounds_toArray, List.set_cons_zero, List.set_cons_succ])
      refine wpAnyH_ready (rs := [4]) (by kernel_rfl) (by simp) ?_
      refine AllReadyH.cons rfl (fun K hK => ?_) AllReadyH.nil
      go_simp
      refine hK.out _ _ (by first | exact HK.out _ rfl | exact HK.out _ (heap_alloc_old _ _ hbb) | exact HK.out _ HX6.out | exact HK.out _ ((Below.heap_setCell w6 _ _ b0 (Ne.symm hsb)).trans HX6.out)) (fun hHeld => ?_)
      clear hK K
      (try simp only [Act.put, List.getElem_toArray, List.getElem_cons_zero, List.getElem_cons_succ, List.setIfInBounds_toArray, List.set_cons_zero, List.set_cons_succ])
      refine wpAnyH_ready (rs := [9]) (by kernel_rfl) (by simp) ?_
      refine AllReadyH.cons rfl (fun K hK => ?_) AllReadyH.nil
      refine step_append_own (by rfl) (.tmp 12) (.tmp 16) 93 (by rfl) base 105 i0 (.agg #[.int .i64 0, .int .i64 0, .int .i64 0, .int .i64 0, .int .i64 0]) 5 40 Try.underlying93 hi0 hz0 hz1 hz2 rfl (by decide) v L.length (flat foC L) (by rfl) (HNW.out _ (by (repeat (first | exact Below.refl _ _ | (refine Below.alloc ?_ (by first | omega | (simp; done) | (simp; omega)) _) | (refine Below.on (by assumption) ?_ (by first | omega | (simp; done) | (simp; omega))) | (refine Below.grown ?_ (by assumption) (by first | omega | (simp; done) | (simp; omega)) (by intro k hk; cases hk)) | refine Below.drew ?_)))) ⟨W1.heap.size, 0, none⟩ 1 1 (foC f) (by rfl) rfl (World.news_of_block (cs := #[.int .i64 f.s, .int .i64 f.x0, .int .i64 f.y0, .int .i64 f.x1, .int .i64 f.y1]) (t := 105) (fr := (0, 0)) (heap_alloc_new W1 _)) (foC_one f) (by unfold maxLen; have := HL.out; omega) (by have := HL.out; omega) (by simp; omega) ?_; intro v6 w6 ho6 hg6 ha6; obtain ⟨g6, cap6, rfl, hcp6, hbg6, hgl6⟩ := own_form ho6 (by omega) rfl; have c6 := (far2_cell (w := W1) (b := sp) (o := 1) (by (repeat (first | exact Below.refl _ _ | (refine Below.alloc ?_ (by first | omega | (simp; done) | (simp; omega)) _) | (refine Below.on (by assumption) ?_ (by first | omega | (simp; done) | (simp; omega))) | (refine Below.grown ?_ (by assumption) (by first | omega | (simp; done) | (simp; omega)) (by intro k hk; cases hk)) | refine Below.drew ?_))) hg6 hs1 HNV.out).trans c1'; have f6 := (far2_frozen (w := W1) (b := sp) (o := 1) (by (repeat (first | exact Below.refl _ _ | (refine Below.alloc ?_ (by first | omega | (simp; done) | (simp; omega)) _) | (refine Below.on (by assumption) ?_ (by first | omega | (simp; done) | (simp; omega))) | (refine Below.grown ?_ (by assumption) (by first | omega | (simp; done) | (simp; omega)) (by intro k hk; cases hk)) | refine Below.drew ?_))) hg6 hs1 HNV.out).trans f1'; have HA6 := Lib.hid ha6; have HO6 := Lib.hid ho6; have HG6 := Lib.hid hg6; clear ho6 hg6 ha6
      have HX6 := Lib.hid ((HG6.out.block b0 (by simp; omega) (Ne.symm HNB.out)).trans (heap_alloc_old W1 _ hbb))
      refine hK.out _ _ (by first | exact HK.out _ rfl | exact HK.out _ (heap_alloc_old _ _ hbb) | exact HK.out _ HX6.out | exact HK.out _ ((Below.heap_setCell w6 _ _ b0 (Ne.symm hsb)).trans HX6.out)) (fun hHeld => ?_)
      clear hK K
      (try simp only [Act.put, List.getElem_toArray, List.getElem_cons_zero, List.getElem_cons_succ, List.setIfInBounds_toArray, List.set_cons_zero, List.set_cons_succ])
      refine wpAnyH_take (i := 10) (v := ?_) rfl (by kernel_rfl) (by kernel_rfl) (by kernel_rfl) (fun _ _ _ h => h) (Or.inl ⟨by rfl, ?_⟩) (by assumption) ?_
      rotate_left
      focus ((intro wS hSw; (try dsimp only at hSw); go_simp); (try (with_reducible rfl)))
      simp only [Act.put, List.getElem_toArray, List.getElem_cons_zero, List.getElem_cons_succ, List.setIfInBounds_toArray, List.set_cons_zero, List.set_cons_succ]
      refine wpAnyH_take (i := 11) (v := ?_) rfl (by kernel_rfl) (by kernel_rfl) (by kernel_rfl) (fun _ _ _ h => h) (Or.inl ⟨by rfl, ?_⟩) (by assumption) ?_
      rotate_left
      focus ((intro wS hSw; (try dsimp only at hSw); go_simp); (try (with_reducible rfl)))
      simp only [Act.put, List.getElem_toArray, List.getElem_cons_zero, List.getElem_cons_succ, List.setIfInBounds_toArray, List.set_cons_zero, List.set_cons_succ]
      refine wpAnyH_ready (rs := [12]) (by kernel_rfl) (by simp) ?_
      refine AllReadyH.cons rfl (fun K hK => ?_) AllReadyH.nil
      go_simp
      refine hK.out _ _ (by first | exact HK.out _ rfl | exact HK.out _ (heap_alloc_old _ _ hbb) | exact HK.out _ HX6.out | exact HK.out _ ((Below.heap_setCell w6 _ _ b0 (Ne.symm hsb)).trans HX6.out)) (fun hHeld => ?_)
      clear hK K
      (try simp only [Act.put, List.getElem_toArray, List.getElem_cons_zero, List.getElem_cons_succ, List.setIfInBounds_toArray, List.set_cons_zero, List.set_cons_succ])
      refine wpAnyH_done (by kernel_rfl) ?_ _
      clear hHeld
      go_wp2_with fail
      go_meet
      case rel => exact ⟨_, HPM.out _ _ _ _ (by (repeat (first | exact Below.refl _ _ | (refine Below.alloc ?_ (by first | omega | (simp; done) | (simp; omega)) _) | (refine Below.on (by assumption) ?_ (by first | omega | (simp; done) | (simp; omega))) | (refine Below.grown ?_ (by assumption) (by first | omega | (simp; done) | (simp; omega)) (by intro k hk; cases hk)) | refine Below.drew ?_))) HO6.out HG6.out⟩
  obtain ⟨v', hP⟩ := hcut
  clear HNW HK HPM HBX HNB HZ1 HB1 c1' f1' hbb hs1 hbs hz0 hz1 hz2 hi0
  have c0 : wc.cell? ⟨sp, 0, none⟩ = some (.pointer (some ⟨lp, 0, none⟩)) := cell_of_row wc sp 0 _ _ (0, 0) hP.cells
  have x0 : wc.cell? ⟨b0, 0, none⟩ = some (.int .i64 f.x0) := cell_of_row wc b0 0 _ _ (0, 0) hP.box
  have x1 : wc.cell? ⟨b0, 1, none⟩ = some (.int .i64 f.y0) := cell_of_row wc b0 1 _ _ (0, 0) hP.box
  have x2 : wc.cell? ⟨b0, 2, none⟩ = some (.int .i64 f.x1) := cell_of_row wc b0 2 _ _ (0, 0) hP.box
  have x3 : wc.cell? ⟨b0, 3, none⟩ = some (.int .i64 f.y1) := cell_of_row wc b0 3 _ _ (0, 0) hP.box
  have hzc : base ≤ wc.drew.heap.size := by have := hP.touch.1.2.2.2; show base ≤ wc.heap.size; omega
  have HP := Lib.hid (hP.below ((Below.refl _ _).drew))
  have HZC := Lib.hid hzc
  clear hP hzc
  go_wp2_with fail
  go_still_tail 6, (by kernel_rfl)
  go_wp2_with fail
  refine (HAD.out lp _ HP.out.list HZC.out).mono ?_
  rintro e w3 ⟨rfl, hl3, ht3⟩
  have hP := HP.out.add hl3 ht3
  clear c0 x0 x1 x2 x3 hl3 ht3 HP HZC HAD
  have x1 : w3.cell? ⟨b0, 1, none⟩ = some (.int .i64 f.y0) := cell_of_row w3 b0 1 _ _ (0, 0) hP.box
  have HP := Lib.hid (hP.below ((Below.refl _ _).drew))
  clear hP
  go_wp2_with fail
  go_still_tail 5, (by kernel_rfl)
  go_wp2_with fail
  refine (HP.out.reach2 hbsp _).mono ?_
  rintro e w4 ⟨rfl, hP, hg4⟩
  rw [← lastS_snoc] at hP
  clear x1 HP hg4
  have HP := Lib.hid hP
  clear hP
  rcases HSI.out with es | es
  · rw [es]
    have hk0 : ∀ c, btK L f c 0 = botS c L := btK_zero L f
    have hk1 : btK L f 1 1 = rch (botS 1 L) f.y1 ∧ btK L f 2 1 = botS 2 L ∧ btK L f 3 1 = botS 3 L := by unfold btK; simp [es]
    have hk2 : btK L f 1 2 = btK L f 1 1 ∧ btK L f 2 2 = btK L f 2 1 ∧ btK L f 3 2 = rch (botS 3 L) f.y1 := by unfold btK; simp [es]
    have hP0 : PS w base sp lp b0 v' (lastS (L ++ [f])) (btK L f 1 0) (btK L f 2 0) (btK L f 3 0) (full (shelves (L ++ [f]))) (L ++ [f]) f w4 := by rw [hk0, hk0, hk0]; exact HP.out
    obtain ⟨W5, hW5⟩ : ∃ W, w4.alloc (.cells #[.int .i64 1, .int .i64 3] 3) = W := ⟨_, rfl⟩
    have hP5 := hP0.below (w' := W5) (by rw [← hW5]; exact (Below.refl _ _).alloc (Nat.le_refl _) _)
    obtain ⟨bA, hbA⟩ : ∃ b, w4.heap.size = b := ⟨_, rfl⟩
    have hA5 : W5.heap[bA]? = some (.cells #[.int .i64 1, .int .i64 3] 3 (0, 0)) := by rw [← hW5, ← hbA]; exact heap_alloc_new w4 _
    have HP5 := Lib.hid (And.intro hP5 hA5)
    have HK0 := Lib.hid hk0
    have HK1 := Lib.hid hk1
    have HK2 := Lib.hid hk2
    have HW5 := Lib.hid hW5
    have HBA := Lib.hid hbA
    clear hP0 hP5 hA5 hk0 hk1 hk2 hW5 hbA HP
    go_wp2_with fail
    rw [HW5.out, HBA.out]
    go_loopw [36] (fun x wr => ∃ k : Nat, k ≤ 2 ∧ x = .int .i64 k ∧ Hid (PS w base sp lp b0 v' (lastS (L ++ [f])) (btK L f 1 k) (btK L f 2 k) (btK L f 3 k) (full (shelves (L ++ [f]))) (L ++ [f]) f wr ∧ wr.heap[bA]? = some (.cells #[.int .i64 1, .int .i64 3] 3 (0, 0)))) (fun x _ => 2 - (intOf x).toNat)
    case atStart => exact ⟨0, by omega, rfl, HP5⟩
    case round =>
      obtain ⟨k, hk, rfl, hI⟩ := hrel
      have a0 := cell_of_row wr bA 0 _ _ (0, 0) hI.out.2
      have a1 := cell_of_row wr bA 1 _ _ (0, 0) hI.out.2
      have y1 : wr.cell? ⟨b0, 3, none⟩ = some (.int .i64 f.y1) := cell_of_row wr b0 3 _ _ (0, 0) hI.out.1.box
      have hd := Lib.hid (hI.out.1.below ((Below.refl _ _).drew))
      rcases (show k = 0 ∨ k = 1 ∨ k = 2 by omega) with rfl | rfl | rfl
      · go_wp2_with fail
        go_still_tail 7, (by kernel_rfl)
        go_wp2_with fail
        refine (hd.out.reach6 hbsp _).mono ?_
        rintro e w6 ⟨rfl, hP, hg6⟩
        have hP' := Lib.hid (show PS w base sp lp b0 v' (lastS (L ++ [f])) (btK L f 1 1) (btK L f 2 1) (btK L f 3 1) (full (shelves (L ++ [f]))) (L ++ [f]) f w6 from by
          rw [HK0.out, HK0.out, HK0.out] at hP
          rw [HK1.out.1, HK1.out.2.1, HK1.out.2.2]
          exact hP)
        have hA' := Lib.hid ((hg6.block bA (Array.getElem?_eq_some_iff.1 hI.out.2).1 (fun e => by injection e with e; exact type_off hI.out.2 hI.out.1.cells (by decide) e)).trans hI.out.2)
        clear hP hg6 a0 a1 y1
        go_wp2_with fail
        go_roundw
        case rel => exact ⟨1, by omega, rfl, Lib.hid ⟨hP'.out, hA'.out⟩⟩
        case measure => simp [intOf]
      · go_wp2_with fail
        go_still_tail 7, (by kernel_rfl)
        go_wp2_with fail
        refine (hd.out.reach10 hbsp _).mono ?_
        rintro e w6 ⟨rfl, hP, hg6⟩
        have hP' := Lib.hid (show PS w base sp lp b0 v' (lastS (L ++ [f])) (btK L f 1 2) (btK L f 2 2) (btK L f 3 2) (full (shelves (L ++ [f]))) (L ++ [f]) f w6 from by
          rw [HK1.out.2.2] at hP
          rw [HK2.out.1, HK2.out.2.1, HK2.out.2.2]
          exact hP)
        have hA' := Lib.hid ((hg6.block bA (Array.getElem?_eq_some_iff.1 hI.out.2).1 (fun e => by injection e with e; exact type_off hI.out.2 hI.out.1.cells (by decide) e)).trans hI.out.2)
        clear hP hg6 a0 a1 y1
        go_wp2_with fail
        go_roundw
        case rel => exact ⟨2, by omega, rfl, Lib.hid ⟨hP'.out, hA'.out⟩⟩
        case measure => simp [intOf]
      · clear a0 a1 y1 hd
        go_wp2_with fail
        refine bodyPost_ret (results_none rfl _ _ _) rfl ?_
        have hP := hI.out.1
        rw [btK_end, btK_end, btK_end] at hP
        exact ⟨rfl, ⟨lp, v', hP.cells, hbsp, hP.list, hP.own⟩, hP.touch⟩
  · rw [es]
    have hk0 : ∀ c, btK L f c 0 = botS c L := btK_zero L f
    have hk1 : btK L f 1 1 = botS 1 L ∧ btK L f 2 1 = rch (botS 2 L) f.y1 ∧ btK L f 3 1 = botS 3 L := by unfold btK; simp [es]
    have hk2 : btK L f 1 2 = btK L f 1 1 ∧ btK L f 2 2 = btK L f 2 1 ∧ btK L f 3 2 = rch (botS 3 L) f.y1 := by unfold btK; simp [es]
    have hP0 : PS w base sp lp b0 v' (lastS (L ++ [f])) (btK L f 1 0) (btK L f 2 0) (btK L f 3 0) (full (shelves (L ++ [f]))) (L ++ [f]) f w4 := by rw [hk0, hk0, hk0]; exact HP.out
    obtain ⟨W5, hW5⟩ : ∃ W, w4.alloc (.cells #[.int .i64 2, .int .i64 3] 3) = W := ⟨_, rfl⟩
    have hP5 := hP0.below (w' := W5) (by rw [← hW5]; exact (Below.refl _ _).alloc (Nat.le_refl _) _)
    obtain ⟨bA, hbA⟩ : ∃ b, w4.heap.size = b := ⟨_, rfl⟩
    have hA5 : W5.heap[bA]? = some (.cells #[.int .i64 2, .int .i64 3] 3 (0, 0)) := by rw [← hW5, ← hbA]; exact heap_alloc_new w4 _
    have HP5 := Lib.hid (And.intro hP5 hA5)
    have HK0 := Lib.hid hk0
    have HK1 := Lib.hid hk1
    have HK2 := Lib.hid hk2
    have HW5 := Lib.hid hW5
    have HBA := Lib.hid hbA
    clear hP0 hP5 hA5 hk0 hk1 hk2 hW5 hbA HP
    go_wp2_with fail
    rw [HW5.out, HBA.out]
    go_loopw [36] (fun x wr => ∃ k : Nat, k ≤ 2 ∧ x = .int .i64 k ∧ Hid (PS w base sp lp b0 v' (lastS (L ++ [f])) (btK L f 1 k) (btK L f 2 k) (btK L f 3 k) (full (shelves (L ++ [f]))) (L ++ [f]) f wr ∧ wr.heap[bA]? = some (.cells #[.int .i64 2, .int .i64 3] 3 (0, 0)))) (fun x _ => 2 - (intOf x).toNat)
    case atStart => exact ⟨0, by omega, rfl, HP5⟩
    case round =>
      obtain ⟨k, hk, rfl, hI⟩ := hrel
      have a0 := cell_of_row wr bA 0 _ _ (0, 0) hI.out.2
      have a1 := cell_of_row wr bA 1 _ _ (0, 0) hI.out.2
      have y1 : wr.cell? ⟨b0, 3, none⟩ = some (.int .i64 f.y1) := cell_of_row wr b0 3 _ _ (0, 0) hI.out.1.box
      have hd := Lib.hid (hI.out.1.below ((Below.refl _ _).drew))
      rcases (show k = 0 ∨ k = 1 ∨ k = 2 by omega) with rfl | rfl | rfl
      · go_wp2_with fail
        go_still_tail 7, (by kernel_rfl)
        go_wp2_with fail
        refine (hd.out.reach8 hbsp _).mono ?_
        rintro e w6 ⟨rfl, hP, hg6⟩
        have hP' := Lib.hid (show PS w base sp lp b0 v' (lastS (L ++ [f])) (btK L f 1 1) (btK L f 2 1) (btK L f 3 1) (full (shelves (L ++ [f]))) (L ++ [f]) f w6 from by
          rw [HK0.out, HK0.out, HK0.out] at hP
          rw [HK1.out.1, HK1.out.2.1, HK1.out.2.2]
          exact hP)
        have hA' := Lib.hid ((hg6.block bA (Array.getElem?_eq_some_iff.1 hI.out.2).1 (fun e => by injection e with e; exact type_off hI.out.2 hI.out.1.cells (by decide) e)).trans hI.out.2)
        clear hP hg6 a0 a1 y1
        go_wp2_with fail
        go_roundw
        case rel => exact ⟨1, by omega, rfl, Lib.hid ⟨hP'.out, hA'.out⟩⟩
        case measure => simp [intOf]
      · go_wp2_with fail
        go_still_tail 7, (by kernel_rfl)
        go_wp2_with fail
        refine (hd.out.reach10 hbsp _).mono ?_
        rintro e w6 ⟨rfl, hP, hg6⟩
        have hP' := Lib.hid (show PS w base sp lp b0 v' (lastS (L ++ [f])) (btK L f 1 2) (btK L f 2 2) (btK L f 3 2) (full (shelves (L ++ [f]))) (L ++ [f]) f w6 from by
          rw [HK1.out.2.2] at hP
          rw [HK2.out.1, HK2.out.2.1, HK2.out.2.2]
          exact hP)
        have hA' := Lib.hid ((hg6.block bA (Array.getElem?_eq_some_iff.1 hI.out.2).1 (fun e => by injection e with e; exact type_off hI.out.2 hI.out.1.cells (by decide) e)).trans hI.out.2)
        clear hP hg6 a0 a1 y1
        go_wp2_with fail
        go_roundw
        case rel => exact ⟨2, by omega, rfl, Lib.hid ⟨hP'.out, hA'.out⟩⟩
        case measure => simp [intOf]
      · clear a0 a1 y1 hd
        go_wp2_with fail
        refine bodyPost_ret (results_none rfl _ _ _) rfl ?_
        have hP := hI.out.1
        rw [btK_end, btK_end, btK_end] at hP
        exact ⟨rfl, ⟨lp, v', hP.cells, hbsp, hP.list, hP.own⟩, hP.touch⟩
end Go.Proofs.Ytecojcdmigmnhaa
