/- Lines, plain: a line of All by its number; the loop over them. -/
import Derived.Test.YtecojcdmigmnhaaLkp
namespace Go.Proofs.Ytecojcdmigmnhaa
set_option linter.unusedSimpArgs false
set_option linter.unusedVariables false
open Go.RowKit
/-- Two blocks are laid, by alloc and store. -/
theorem lend_two {P : Program} {ops : Array Oper} {W : World} {F : Act} {Q : Exit → Act → World → Prop} {tl : List Oper} {e e2 : Laid} (v v2 : Value) (hbx : e.bx = false) (hbx2 : e2.bx = false) (hv : F.eval (.tmp e.x) = v) (hv2 : F.eval (.tmp e2.x) = v2) (hf : Fits P e.t v) (hf2 : Fits P e2.t v2) (hz : Zeros P e.t v.cells.size) (hz2 : Zeros P e2.t v2.cells.size)
    (h : ∀ b b2 w', W.heap.size ≤ b → W.heap.size ≤ b2 → b2 ≠ b → Below W.heap.size W w' → w'.heap[b]? = some (.cells v.cells e.t (0, 0)) → w'.heap[b2]? = some (.cells v2.cells e2.t (0, 0)) → wpList P ops Q tl ((F.put (some e.d) (e.val b)).put (some e2.d) (e2.val b2)) w') : LDone P ops W Q [e, e2] tl F := by
  refine lend_lc [(e, v.cells), (e2, v2.cells)] rfl (fun p hp => ?_) (fun b hb _ b2 hb2 hne w' hw hk => h b b2 w' hb hb2 (hne b (List.mem_cons_self ..)) hw hk.1.2 hk.2)
  rcases List.mem_cons.1 hp with rfl | hp
  · exact lfit_val v hbx hv rfl hf hz
  · obtain rfl := List.mem_singleton.1 hp
    exact lfit_val v2 hbx2 hv2 rfl hf2 hz2
theorem highL_pos : ∀ (l : List (Int × Int)) (n : Int), n ≤ l.foldl (fun n z => max n z.2) n
  | [], n => Int.le_refl _
  | z :: l, n => Int.le_trans (by omega) (highL_pos l (max n z.2))
theorem highL_le : ∀ (l : List (Int × Int)) (n : Int), (∀ z ∈ l, szOk z) → n ≤ 2147483648 → l.foldl (fun n z => max n z.2) n ≤ 2147483648
  | [], n, _, h => h
  | z :: l, n, hz, h => highL_le l (max n z.2) (fun x hx => hz x (List.mem_cons_of_mem _ hx)) (by have := (hz z (List.mem_cons_self ..)).2.2; omega)
theorem highL_in {l : List (Int × Int)} (h : ∀ z ∈ l, szOk z) : 0 ≤ highL l ∧ highL l ≤ 2147483648 := ⟨highL_pos l 0, highL_le l 0 h (by decide)⟩
theorem wideL_in {l : List (Int × Int)} (h : ∀ z ∈ l, szOk z) : 0 ≤ wideL l ∧ wideL l ≤ l.length * 2147483648 := by
  induction l with
  | nil => exact ⟨Int.le_refl _, Int.le_refl _⟩
  | cons z l ih =>
    have h1 := ih (fun x hx => h x (List.mem_cons_of_mem _ hx))
    have h2 := (h z (List.mem_cons_self ..)).1
    have e : wideL (z :: l) = z.1 + wideL l := rfl
    rw [e, List.length_cons]
    omega
theorem wideL_app (l k : List (Int × Int)) : wideL (l ++ k) = wideL l + wideL k := by simp [wideL]
theorem wideL_pre {l : List (Int × Int)} (h : ∀ z ∈ l, szOk z) (i : Nat) : wideL (l.take i) ≤ wideL l := by
  have e := wideL_app (l.take i) (l.drop i)
  rw [List.take_append_drop] at e
  have := (wideL_in (l := l.drop i) (fun z hz => h z (List.mem_of_mem_drop hz))).1
  omega
/-- Line number i of All, where 'done' atoms stand in those ahead. -/
theorem line_at {L : List Fo} {a b y : Int} {zs : List (Int × Int)} {lines : List Lnq} {i done : Nat} (hz : ∀ z ∈ zs, szOk z) (hd : done ≤ zs.length) (h : lines.drop i = lnAll L a b y (zs.drop done)) (hi : i < lines.length) :
    ∃ n : Nat, 1 ≤ n ∧ done + n ≤ zs.length ∧ LineP L a b y ((zs.drop done).take n) lines[i] ∧ ((zs.drop done).take n).length = n ∧
      (∀ hh : done + n < zs.length, fitsQ L a b lines[i] zs[done + n].1 zs[done + n].2 = false) ∧ lines.drop (i + 1) = lnAll L a b lines[i].b (zs.drop (done + n)) := by
  have hne : zs.drop done ≠ [] := fun e => by
    rw [e, lnAll_nil] at h
    have := congrArg List.length h
    rw [List.length_drop] at this
    simp at this
    omega
  obtain ⟨part, r, q, h1, h2, h3, h4⟩ := lnAll_cons L a b y (zs.drop done) hne (fun z hz' => (hz z (List.mem_of_mem_drop hz')).2.1)
  have hp : (zs.drop done).take part.length = part := by rw [h1]; simp
  have hr : zs.drop (done + part.length) = r := by rw [← List.drop_drop, h1]; simp
  have hlen : part.length + r.length = zs.length - done := by
    have := congrArg List.length h1
    simp at this
    omega
  have hq : lines[i] = q := by
    have e1 : (lines.drop i)[0]? = some q := by rw [h, h4]; rfl
    rw [List.getElem?_drop] at e1
    have e2 : lines[i + 0]? = some lines[i] := by rw [Nat.add_zero]; exact List.getElem?_eq_getElem hi
    rw [e2] at e1
    exact Option.some.inj e1
  rw [hq]
  refine ⟨part.length, by have := List.length_pos_iff.2 h2.ne; omega, by omega, by rw [hp]; exact h2, by rw [hp], ?_, ?_⟩
  · intro hh
    have hrz : r = zs[done + part.length] :: zs.drop (done + part.length + 1) := by rw [← hr]; exact List.drop_eq_getElem_cons hh
    exact h3 _ _ hrz
  · have e1 : lines.drop (i + 1) = (lines.drop i).drop 1 := by rw [List.drop_drop]
    rw [e1, h, h4, hr]
    rfl
theorem line_end {L : List Fo} {a b y : Int} {zs : List (Int × Int)} {lines : List Lnq} {i done : Nat} (hz : ∀ z ∈ zs, szOk z) (hd : done ≤ zs.length) (h : lines.drop i = lnAll L a b y (zs.drop done)) (hi : lines.length ≤ i) : done = zs.length := by
  by_cases hne : zs.drop done = []
  · have := List.drop_eq_nil_iff.1 hne
    omega
  · obtain ⟨part, r, q, h1, h2, h3, h4⟩ := lnAll_cons L a b y (zs.drop done) hne (fun z hz' => (hz z (List.mem_of_mem_drop hz')).2.1)
    rw [h4, List.drop_eq_nil_of_le hi] at h
    cases h
/-- How great a line's numbers are. -/
theorem line_in {L : List Fo} {a b y M : Int} {part : List (Int × Int)} {q : Lnq} {k : Nat} (h : LineP L a b y part q) (hsm : ∀ f ∈ L, smallF f = true) (hM : ∀ s ∈ full (shelves L), s.t ≤ M) (hz : ∀ z ∈ part, szOk z) (hy : -4503599627370496 ≤ y ∧ y ≤ M + k * 2147483648) (hb : M + k * 2147483648 ≤ 2251799813685248) :
    (-4503599627370496 ≤ q.t ∧ q.t ≤ M + k * 2147483648) ∧ (0 ≤ highL part ∧ highL part ≤ 2147483648) ∧ (0 ≤ wideL part ∧ wideL part ≤ part.length * 2147483648) := by
  obtain ⟨g1, g2, g3, g4, g5, g6, g7⟩ := h
  cases part with
  | nil => exact absurd rfl g1
  | cons z ps =>
    have ht := g4 z ps rfl
    have h1 := topQ_le (L := L) (a := a) (b := b) (y := y) (wd := z.1) (h := z.2) hM
    have h2 := topQ_in (L := L) (a := a) (b := b) (wd := z.1) (ht := z.2) hsm (y := y) ⟨hy.1, by omega⟩
    rw [← ht] at h1 h2
    exact ⟨⟨h2.1, by omega⟩, highL_in hz, wideL_in hz⟩
theorem lq_cells {w : World} {g o : Nat} {q : Lnq} (h : w.rangeAt g o (lnqC q)) : w.cell? ⟨g, o, none⟩ = some (.int .i64 q.l) ∧ w.cell? ⟨g, o + 1, none⟩ = some (.int .i64 q.t) ∧ w.cell? ⟨g, o + 2, none⟩ = some (.int .i64 q.r) ∧ w.cell? ⟨g, o + 3, none⟩ = some (.int .i64 q.b) ∧ w.cell? ⟨g, o + 4, none⟩ = some (.int .i64 q.n) ∧ w.cell? ⟨g, o + 5, none⟩ = some (.int .i64 q.d) :=
  ⟨h 0 _ rfl, h 1 _ rfl, h 2 _ rfl, h 3 _ rfl, h 4 _ rfl, h 5 _ rfl⟩
theorem lq6 {w w' : World} {k : Nat} {q : Lnq} {T : TypeId} (h : w.heap[k]? = some (.cells (lnqC q).toArray T (0, 0))) (hb : Below w.heap.size w w') :
    w'.cell? ⟨k, 0, none⟩ = some (.int .i64 q.l) ∧ w'.cell? ⟨k, 1, none⟩ = some (.int .i64 q.t) ∧ w'.cell? ⟨k, 2, none⟩ = some (.int .i64 q.r) ∧ w'.cell? ⟨k, 3, none⟩ = some (.int .i64 q.b) ∧ w'.cell? ⟨k, 4, none⟩ = some (.int .i64 q.n) ∧ w'.cell? ⟨k, 5, none⟩ = some (.int .i64 q.d) := lnq6 (blk_keep h hb)
/-- The state of a loop over the lines. -/
def LgI (L : List Fo) (a b : Int) (zs : List (Int × Int)) (lines : List Lnq) (w2 : World) (i done : Nat) (y : Int) (wr : World) : Prop :=
  lines.drop i = lnAll L a b y (zs.drop done) ∧ done ≤ zs.length ∧ (-4503599627370496 ≤ y ∧ y ≤ 140737488355328 + done * 2147483648) ∧ Below w2.heap.size w2 wr
end Go.Proofs.Ytecojcdmigmnhaa
