/- Placing a float, plain: where it starts, where it may stand, where it stands. -/
import Derived.Test.YtecojcdmigmnhaaWt9
import Derived.Test.YtecojcdmigmnhaaNz
namespace Go.Proofs.Ytecojcdmigmnhaa
set_option linter.unusedSimpArgs false
set_option linter.unusedVariables false
open Go.RowKit
def okWp (q : Wp) : Bool := decide ((in48 q.a ∧ in48 q.b ∧ in48 q.wd ∧ in48 q.h ∧ in48 q.y) ∧ (q.s = 1 ∨ q.s = 2) ∧ 0 ≤ q.c ∧ q.c ≤ 3 ∧ q.a ≤ q.b)
theorem okWp_at {q : Wp} (h : okWp q = true) : (in48 q.a ∧ in48 q.b ∧ in48 q.wd ∧ in48 q.h ∧ in48 q.y) ∧ (q.s = 1 ∨ q.s = 2) ∧ 0 ≤ q.c ∧ q.c ≤ 3 ∧ q.a ≤ q.b := by
  unfold okWp at h
  exact of_decide_eq_true h
/-- The columns of one that stands at its side's end of some columns. -/
def atS (s wd f0 f1 : Int) : Int × Int := if s = 1 then (f0, f0 + wd) else (f1 - wd, f1)
def soP (L : List Fo) (q : Wp) (y : Int) : Bool :=
  decide (q.wd ≤ (freeS L q.a q.b y q.h).2 - (freeS L q.a q.b y q.h).1 ∨ (q.b - q.a < q.wd ∧ (bnds L y q.h).1 ≤ (atS q.s q.wd q.a q.b).1 ∧ (atS q.s q.wd q.a q.b).2 ≤ (bnds L y q.h).2))
def leftP (L : List Fo) (q : Wp) (y : Int) : Int := (atS q.s q.wd (freeS L q.a q.b y q.h).1 (freeS L q.a q.b y q.h).2).1
def startP (L : List Fo) (q : Wp) : Int := if (lastS L).2 = true then max (clrS q.c L q.y) (lastS L).1 else clrS q.c L q.y
def topP (L : List Fo) (q : Wp) : Int := firstL (soP L q) (startP L q) (rest (full (shelves L)) (startP L q))
theorem rch_or (e : Int × Bool) (n : Int) : rch e n = (n, true) ∨ rch e n = e := by
  unfold rch
  split
  · exact .inl rfl
  · exact .inr rfl
theorem lastS_mem : ∀ (L : List Fo), (lastS L).2 = true → ∃ f ∈ L, (lastS L).1 = f.y0 := by
  intro L
  have : ∀ (n : Nat) (L : List Fo), L.length = n → (lastS L).2 = true → ∃ f ∈ L, (lastS L).1 = f.y0 := by
    intro n
    induction n with
    | zero =>
      intro L hn h
      have e := List.eq_nil_of_length_eq_zero hn
      subst e
      cases h
    | succ n ih =>
      intro L hn h
      rcases List.eq_nil_or_concat L with rfl | ⟨l, f, rfl⟩
      · cases h
      · rw [List.concat_eq_append] at hn h ⊢
        rw [lastS_snoc] at h ⊢
        rcases rch_or (lastS l) f.y0 with e | e
        · rw [e]; exact ⟨f, by simp, rfl⟩
        · rw [e] at h ⊢
          obtain ⟨g, hg, e2⟩ := ih l (by simpa using hn) h
          exact ⟨g, by simp [hg], e2⟩
  exact this L.length L rfl
theorem botS_mem (c : Int) : ∀ (L : List Fo), (botS c L).2 = true → ∃ f ∈ L, (botS c L).1 = f.y1 := by
  intro L
  have : ∀ (n : Nat) (L : List Fo), L.length = n → (botS c L).2 = true → ∃ f ∈ L, (botS c L).1 = f.y1 := by
    intro n
    induction n with
    | zero =>
      intro L hn h
      have e := List.eq_nil_of_length_eq_zero hn
      subst e
      cases h
    | succ n ih =>
      intro L hn h
      rcases List.eq_nil_or_concat L with rfl | ⟨l, f, rfl⟩
      · cases h
      · rw [List.concat_eq_append] at hn h ⊢
        rw [botS_snoc] at h ⊢
        have hb : bt1 c f (botS c l) = (f.y1, true) ∨ bt1 c f (botS c l) = botS c l := by
          unfold bt1
          split
          · exact rch_or _ _
          · exact .inr rfl
        rcases hb with e | e
        · rw [e]; exact ⟨f, by simp, rfl⟩
        · rw [e] at h ⊢
          obtain ⟨g, hg, e2⟩ := ih l (by simpa using hn) h
          exact ⟨g, by simp [hg], e2⟩
  exact this L.length L rfl
theorem clrS_in {L : List Fo} {c y : Int} (h : nearB L = true) (hy : in48 y) : -562949953421312 ≤ clrS c L y ∧ clrS c L y ≤ 562949953421312 := by
  unfold in48 at hy
  unfold clrS
  split
  · rename_i hb
    obtain ⟨f, hf, e⟩ := botS_mem c L hb
    obtain ⟨_, _, _, g3, _⟩ := nearF_at (nearB_at h f hf)
    rw [e]
    omega
  · omega
theorem startP_in {L : List Fo} {q : Wp} (h : nearB L = true) (hq : okWp q = true) : -562949953421312 ≤ startP L q ∧ startP L q ≤ 562949953421312 := by
  have hc := clrS_in (c := q.c) h (okWp_at hq).1.2.2.2.2
  unfold startP
  split
  · rename_i hb
    obtain ⟨f, hf, e⟩ := lastS_mem L hb
    obtain ⟨_, g1, _, _, _⟩ := nearF_at (nearB_at h f hf)
    rw [e]
    omega
  · exact hc
theorem soP_mono {L : List Fo} {q : Wp} {y z : Int} (hyz : y ≤ z) (hc : ∀ x, y ≤ x → x ≤ z → bnd L x = bnd L y) (hs : soP L q z = true) : soP L q y = true := by
  have hm := bnds_mono (h := q.h) hyz hc
  unfold soP freeS at hs ⊢
  generalize atS q.s q.wd q.a q.b = m at *
  simp only [decide_eq_true_eq] at hs ⊢
  omega
theorem atS_in {q : Wp} (hq : okWp q = true) : -far ≤ (atS q.s q.wd q.a q.b).1 ∧ (atS q.s q.wd q.a q.b).2 ≤ far := by
  obtain ⟨⟨h1, h2, h3, h4, h5⟩, _⟩ := okWp_at hq
  unfold in48 at h1 h2 h3
  unfold atS far
  split <;> (simp only; omega)
theorem soP_far {L : List Fo} {q : Wp} {z : Int} (hz : ∀ f ∈ L, f.y1 ≤ z) (hq : okWp q = true) : soP L q z = true := by
  have hm := atS_in hq
  obtain ⟨⟨h1, h2, h3, h4, h5⟩, h6, h7, h8, h9⟩ := okWp_at hq
  unfold in48 at h1 h2 h3
  unfold soP freeS
  rw [bnds_beyond hz]
  generalize atS q.s q.wd q.a q.b = m at *
  unfold far at hm ⊢
  simp only [decide_eq_true_eq]
  omega
theorem topP_first {L : List Fo} {q : Wp} (h : nearB L = true) (hq : okWp q = true) : IsFirst (soP L q) (startP L q) (topP L q) := by
  have hst := startP_in h hq
  exact first_is (near_low h) (fun _ _ _ h1 h2 h3 => soP_mono h1 h2 h3) (fun y _ => by
    obtain ⟨z, h1, h2⟩ := beyond L y
    exact ⟨z, h1, soP_far h2 hq⟩) _ _ rfl (by unfold far; omega)
theorem topP_edge {L : List Fo} {q : Wp} (h : nearB L = true) (hq : okWp q = true) : topP L q = startP L q ∨ isEdge L (topP L q) := by
  have hst := startP_in h hq
  exact stop_edge L (soP L q) (startP L q) (by unfold far; omega) (topP_first h hq)
theorem topP_in {L : List Fo} {q : Wp} (h : nearB L = true) (hq : okWp q = true) : -562949953421312 ≤ topP L q ∧ topP L q ≤ 562949953421312 := by
  have hst := startP_in h hq
  rcases topP_edge h hq with e | ⟨f, hf, _, e⟩
  · rw [e]; exact hst
  · obtain ⟨_, g1, _, g3, _⟩ := nearF_at (nearB_at h f hf)
    rcases e with e | e <;> (rw [e]; assumption)
theorem startP_ge {L : List Fo} {q : Wp} : q.y ≤ startP L q := by
  have := clr_le q.c L q.y
  unfold startP
  split <;> omega
theorem topP_le {L : List Fo} {q q' : Wp} (h : nearB L = true) (hq : okWp q = true) (hq' : okWp q' = true) (hy : startP L q ≤ startP L q') (hs : ∀ z, soP L q' z = true → soP L q z = true) : topP L q ≤ topP L q' :=
  (topP_first h hq).2.2 _ (by have := (topP_first h hq').1; omega) (hs _ (topP_first h hq').2.1)
theorem startP_mono {L : List Fo} {q q' : Wp} (hc : q.c = q'.c) (hy : q.y ≤ q'.y) : startP L q ≤ startP L q' := by
  unfold startP
  rw [hc]
  have : clrS q'.c L q.y ≤ clrS q'.c L q'.y := by unfold clrS; split <;> omega
  split <;> omega
theorem soP_tall {L : List Fo} {s c a b wd h k y z : Int} (hk : h ≤ k) (hs : soP L ⟨s, c, a, b, wd, k, y⟩ z = true) : soP L ⟨s, c, a, b, wd, h, y⟩ z = true := by
  have hm := bnds_tall (L := L) (y := z) hk
  unfold soP freeS at hs ⊢
  simp only at hs ⊢
  generalize atS s wd a b = m at *
  simp only [decide_eq_true_eq] at hs ⊢
  omega
theorem soP_narrow {L : List Fo} {s c a b wd wd' h y z : Int} (hw : wd' ≤ wd) (h0 : 0 ≤ wd') (hab : a ≤ b) (hs : soP L ⟨s, c, a, b, wd, h, y⟩ z = true) : soP L ⟨s, c, a, b, wd', h, y⟩ z = true := by
  unfold soP freeS atS at hs ⊢
  simp only at hs ⊢
  split at hs <;> (simp only [decide_eq_true_eq] at hs ⊢; simp only [*, if_true, if_false]; omega)
/-- Where it stands, among its columns and what is free. -/
theorem leftP_in {L : List Fo} {q : Wp} {y : Int} (hn : nearB L = true) (hq : okWp q = true) : -2251799813685248 ≤ leftP L q y ∧ leftP L q y ≤ 2251799813685248 := by
  obtain ⟨⟨h1, h2, h3, h4, h5⟩, _⟩ := okWp_at hq
  unfold in48 at h1 h2 h3
  have hb := band_is L y (y + hgh q.h)
  have h0 := hb.l1
  have e : ((bnds L y q.h).1 = -far ∨ (-562949953421312 ≤ (bnds L y q.h).1 ∧ (bnds L y q.h).1 ≤ 562949953421312)) ∧ ((bnds L y q.h).2 = far ∨ (-562949953421312 ≤ (bnds L y q.h).2 ∧ (bnds L y q.h).2 ≤ 562949953421312)) := by
    constructor
    · rcases hb.l3 with e | ⟨z, _, _, e⟩
      · exact .inl e
      · rcases (bnd_l L z).2 with e2 | ⟨f, hf, _, _, e2⟩
        · exact .inl (e.symm.trans e2)
        · obtain ⟨_, _, g2, _, _⟩ := nearF_at (nearB_at hn f hf)
          right
          rw [show (bnds L y q.h).1 = f.x1 from e.symm.trans e2.symm]
          exact g2
    · rcases hb.r3 with e | ⟨z, _, _, e⟩
      · exact .inl e
      · rcases (bnd_r L z).2 with e2 | ⟨f, hf, _, _, e2⟩
        · exact .inl (e.symm.trans e2)
        · obtain ⟨g0, _, _, _, _⟩ := nearF_at (nearB_at hn f hf)
          right
          rw [show (bnds L y q.h).2 = f.x0 from e.symm.trans e2.symm]
          exact g0
  unfold leftP atS freeS far at *
  split <;> (simp only; omega)
end Go.Proofs.Ytecojcdmigmnhaa
