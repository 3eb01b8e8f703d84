/- Placing, plain: what a mirror shows. -/
import Derived.Test.YtnkbbobdhcloeaaPw
namespace Go.Proofs.Ytnkbbobdhcloeaa
set_option linter.unusedSimpArgs false
set_option linter.unusedVariables false
open Go.RowKit
def mirF (f : Fo) : Fo := ⟨3 - f.s, -f.x1, f.y0, -f.x0, f.y1⟩
def mirC (c : Int) : Int := if c = 1 ∨ c = 2 then 3 - c else c
def mirQ (q : Wp) : Wp := ⟨3 - q.s, mirC q.c, -q.b, -q.a, q.wd, q.h, q.y⟩
def mirP (p : Int × Int) : Int × Int := (-p.2, -p.1)
theorem mir_cnts (f : Fo) : cnts (mirF f) = cnts f := by
  unfold cnts mirF
  simp only [decide_eq_decide]
  omega
theorem mir_put (f : Fo) (y : Int) (p : Int × Int) (hs : f.s = 1 ∨ f.s = 2) : put1 (mirF f) y (mirP p) = mirP (put1 f y p) := by
  unfold put1
  rw [mir_cnts]
  have e1 : (mirF f).y0 = f.y0 := rfl
  have e2 : (mirF f).y1 = f.y1 := rfl
  have e3 : (mirF f).s = 3 - f.s := rfl
  have e4 : (mirF f).x0 = -f.x1 := rfl
  have e5 : (mirF f).x1 = -f.x0 := rfl
  rw [e1, e2, e3, e4, e5]
  by_cases hh : cnts f = true ∧ f.y0 ≤ y ∧ y < f.y1
  · rw [if_pos hh, if_pos hh]
    rcases hs with h | h
    · rw [if_neg (by omega), if_pos h]
      show (-p.2, min (-p.1) (-f.x1)) = (-p.2, -(max p.1 f.x1))
      rw [Prod.mk.injEq]
      omega
    · rw [if_pos (by omega), if_neg (by omega)]
      show (max (-p.2) (-f.x0), -p.1) = (-(min p.2 f.x0), -p.1)
      rw [Prod.mk.injEq]
      omega
  · rw [if_neg hh, if_neg hh]
theorem mir_bnd {L : List Fo} (hs : ∀ f ∈ L, f.s = 1 ∨ f.s = 2) (y : Int) : bnd (L.map mirF) y = mirP (bnd L y) := by
  unfold bnd
  have : ∀ (L : List Fo) (p : Int × Int), (∀ f ∈ L, f.s = 1 ∨ f.s = 2) → (L.map mirF).foldl (fun p f => put1 f y p) (mirP p) = mirP (L.foldl (fun p f => put1 f y p) p) := by
    intro L
    induction L with
    | nil => intro p _; rfl
    | cons f l ih =>
      intro p h
      rw [List.map_cons, List.foldl_cons, List.foldl_cons, mir_put f y p (h f (by simp))]
      exact ih _ fun g hg => h g (by simp [hg])
  exact this L (-far, far) hs
theorem mir_bnds {L : List Fo} (hs : ∀ f ∈ L, f.s = 1 ∨ f.s = 2) (y h : Int) : bnds (L.map mirF) y h = mirP (bnds L y h) := by
  have hb := band_is L y (y + hgh h)
  refine IsBand.unique (band_is (L.map mirF) y (y + hgh h)) ⟨?_, ?_, ?_, ?_, ?_, ?_⟩
  · have := hb.r1
    show -far ≤ -(bnds L y h).2
    exact Int.neg_le_neg this
  · have := hb.l1
    show -(bnds L y h).1 ≤ far
    unfold bnds
    omega
  · intro z h1 h2
    rw [mir_bnd hs]
    exact Int.neg_le_neg (hb.r2 z h1 h2)
  · intro z h1 h2
    rw [mir_bnd hs]
    exact Int.neg_le_neg (hb.l2 z h1 h2)
  · rcases hb.r3 with e | ⟨z, h1, h2, e⟩
    · left
      show -(bnds L y h).2 = -far
      unfold bnds
      rw [e]
    · right
      refine ⟨z, h1, h2, ?_⟩
      rw [mir_bnd hs]
      show -(bnd L z).2 = -(bnds L y h).2
      unfold bnds
      rw [e]
  · rcases hb.l3 with e | ⟨z, h1, h2, e⟩
    · left
      show -(bnds L y h).1 = far
      unfold bnds
      rw [e]
      rfl
    · right
      refine ⟨z, h1, h2, ?_⟩
      rw [mir_bnd hs]
      show -(bnd L z).1 = -(bnds L y h).1
      unfold bnds
      rw [e]
theorem mir_free {L : List Fo} (hs : ∀ f ∈ L, f.s = 1 ∨ f.s = 2) (a b y h : Int) : freeS (L.map mirF) (-b) (-a) y h = mirP (freeS L a b y h) := by
  unfold freeS
  rw [mir_bnds hs]
  unfold mirP
  simp only [Prod.mk.injEq]
  omega
theorem mir_at (s wd f0 f1 : Int) (hs : s = 1 ∨ s = 2) : atS (3 - s) wd (-f1) (-f0) = mirP (atS s wd f0 f1) := by
  unfold atS
  rcases hs with rfl | rfl
  · rw [if_neg (by omega), if_pos rfl]
    show (-f0 - wd, -f0) = (-(f0 + wd), -f0)
    rw [Prod.mk.injEq]
    omega
  · rw [if_pos (by omega), if_neg (by omega)]
    show (-f1, -f1 + wd) = (-f1, -(f1 - wd))
    rw [Prod.mk.injEq]
    omega
theorem mir_so {L : List Fo} {q : Wp} (hs : ∀ f ∈ L, f.s = 1 ∨ f.s = 2) (hq : q.s = 1 ∨ q.s = 2) (z : Int) : soP (L.map mirF) (mirQ q) z = soP L q z := by
  unfold soP
  have e1 : freeS (L.map mirF) (mirQ q).a (mirQ q).b z (mirQ q).h = mirP (freeS L q.a q.b z q.h) := mir_free hs q.a q.b z q.h
  have e2 : atS (mirQ q).s (mirQ q).wd (mirQ q).a (mirQ q).b = mirP (atS q.s q.wd q.a q.b) := mir_at q.s q.wd q.a q.b hq
  have e3 : bnds (L.map mirF) z (mirQ q).h = mirP (bnds L z q.h) := mir_bnds hs z q.h
  have e4 : (mirQ q).wd = q.wd := rfl
  have e5 : (mirQ q).a = -q.b := rfl
  have e6 : (mirQ q).b = -q.a := rfl
  rw [e1, e2, e3, e4, e5, e6]
  unfold mirP
  simp only [decide_eq_decide]
  omega
theorem mir_left {L : List Fo} {q : Wp} (hs : ∀ f ∈ L, f.s = 1 ∨ f.s = 2) (hq : q.s = 1 ∨ q.s = 2) (z : Int) : leftP (L.map mirF) (mirQ q) z = -(leftP L q z + q.wd) := by
  unfold leftP
  have e1 : freeS (L.map mirF) (mirQ q).a (mirQ q).b z (mirQ q).h = mirP (freeS L q.a q.b z q.h) := mir_free hs q.a q.b z q.h
  rw [e1]
  have e2 := mir_at q.s q.wd (freeS L q.a q.b z q.h).1 (freeS L q.a q.b z q.h).2 hq
  have e3 : (atS q.s q.wd (freeS L q.a q.b z q.h).1 (freeS L q.a q.b z q.h).2).2 = (atS q.s q.wd (freeS L q.a q.b z q.h).1 (freeS L q.a q.b z q.h).2).1 + q.wd := by
    unfold atS
    split
    · rfl
    · show (freeS L q.a q.b z q.h).2 = (freeS L q.a q.b z q.h).2 - q.wd + q.wd
      omega
  show (atS (3 - q.s) q.wd (-(freeS L q.a q.b z q.h).2) (-(freeS L q.a q.b z q.h).1)).1 = _
  rw [e2, ← e3]
  rfl
theorem mir_last (L : List Fo) : lastS (L.map mirF) = lastS L := by
  unfold lastS
  rw [List.foldl_map]
  rfl
theorem mir_bot {L : List Fo} {c : Int} (hs : ∀ f ∈ L, f.s = 1 ∨ f.s = 2) (hc : 0 ≤ c ∧ c ≤ 3) : botS (mirC c) (L.map mirF) = botS c L := by
  unfold botS
  rw [List.foldl_map]
  have : ∀ (L : List Fo) (e : Int × Bool), (∀ f ∈ L, f.s = 1 ∨ f.s = 2) → L.foldl (fun e f => bt1 (mirC c) (mirF f) e) e = L.foldl (fun e f => bt1 c f e) e := by
    intro L
    induction L with
    | nil => intro e _; rfl
    | cons f l ih =>
      intro e h
      rw [List.foldl_cons, List.foldl_cons]
      have e1 : bt1 (mirC c) (mirF f) e = bt1 c f e := by
        have hf := h f (by simp)
        unfold bt1 mirC
        have e2 : (mirF f).s = 3 - f.s := rfl
        have e3 : (mirF f).y1 = f.y1 := rfl
        rw [e2, e3]
        by_cases hh : c = f.s ∨ c = 3
        · rw [if_pos hh, if_pos (by split <;> omega)]
        · rw [if_neg hh, if_neg (by split <;> omega)]
      rw [e1]
      exact ih _ fun g hg => h g (by simp [hg])
  exact this L (0, false) hs
theorem mir_start {L : List Fo} {q : Wp} (hs : ∀ f ∈ L, f.s = 1 ∨ f.s = 2) (hq : okWp q = true) : startP (L.map mirF) (mirQ q) = startP L q := by
  obtain ⟨_, _, h7, h8, _⟩ := okWp_at hq
  unfold startP clrS
  rw [mir_last, show (mirQ q).c = mirC q.c from rfl, mir_bot hs ⟨h7, h8⟩]
  rfl
theorem mir_near {L : List Fo} (h : nearB L = true) : nearB (L.map mirF) = true := by
  unfold nearB
  rw [List.all_eq_true]
  intro g hg
  obtain ⟨f, hf, rfl⟩ := List.mem_map.1 hg
  obtain ⟨h0, h1, h2, h3, h4⟩ := nearF_at (nearB_at h f hf)
  unfold nearF nr49 mirF
  simp only [Bool.and_eq_true, decide_eq_true_eq]
  omega
theorem mir_ok {q : Wp} (hq : okWp q = true) : okWp (mirQ q) = true := by
  obtain ⟨⟨h1, h2, h3, h4, h5⟩, h6, h7, h8, h9⟩ := okWp_at hq
  unfold in48 at h1 h2 h3 h4 h5
  unfold okWp mirQ mirC in48
  refine decide_eq_true ?_
  simp only
  refine ⟨by omega, by omega, ?_, ?_, by omega⟩
  · split <;> omega
  · split <;> omega
/-- The two places. -/
theorem mir_top {L : List Fo} {q : Wp} (h : nearB L = true) (hq : okWp q = true) : topP (L.map mirF) (mirQ q) = topP L q := by
  have hs : ∀ f ∈ L, f.s = 1 ∨ f.s = 2 := fun f hf => (nearF_at (nearB_at h f hf)).2.2.2.2
  have h1 := topP_first (mir_near h) (mir_ok hq)
  have h2 := topP_first h hq
  rw [mir_start hs hq] at h1
  exact IsFirst.unique ⟨h1.1, (mir_so hs (okWp_at hq).2.1 _).symm.trans h1.2.1, fun z hz hsz => h1.2.2 z hz ((mir_so hs (okWp_at hq).2.1 z).trans hsz)⟩ h2
end Go.Proofs.Ytnkbbobdhcloeaa
