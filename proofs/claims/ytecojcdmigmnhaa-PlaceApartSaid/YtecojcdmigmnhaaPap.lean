/- Placing one behind the other, plain: what is placed stays near, and apart. -/
import Derived.Test.YtecojcdmigmnhaaP5
namespace Go.Proofs.Ytecojcdmigmnhaa
set_option linter.unusedSimpArgs false
set_option linter.unusedVariables false
open Go.RowKit
def wpL (q : Wp) : List Value := [.int .i64 q.s, .int .i64 q.c, .int .i64 q.a, .int .i64 q.b, .int .i64 q.wd, .int .i64 q.h, .int .i64 q.y]
def wp0 : Wp := ⟨0, 0, 0, 0, 0, 0, 0⟩
def wpAt (L : List Wp) (i : Nat) : Wp := L.getD i wp0
theorem wpAt_eq (L : List Wp) (i : Nat) (h : i < L.length) : wpAt L i = L[i] := by simp [wpAt, List.getD_eq_getElem?_getD, List.getElem?_eq_getElem h]
/-- A slice of wants that came in. -/
def IsWps (w : World) (v : Value) (L : List Wp) : Prop := ∃ (A : Option Addr) (cap : Nat), v = .slice A L.length cap ∧ L.length ≤ cap ∧
  (0 < L.length → ∃ g o, A = some ⟨g, o, none⟩ ∧ g < w.heap.size ∧ ∀ k, k < L.length → w.rangeAt g (o + k * 7) (wpL (wpAt L k)))
def yB (L : List Fo) (m : Int) : Prop := ∀ f ∈ L, (-1099511627776 ≤ f.y0 ∧ f.y0 ≤ m) ∧ (-1099511627776 ≤ f.y1 ∧ f.y1 ≤ m)
def okPa (q : Wp) : Bool := decide (-1099511627776 ≤ q.y ∧ q.y ≤ 1099511627776 ∧ 0 ≤ q.h ∧ q.h ≤ 1099511627776)
theorem bnds_near {L : List Fo} (hn : nearB L = true) (y h : Int) : ((bnds L y h).1 = -far ∨ (-562949953421312 ≤ (bnds L y h).1 ∧ (bnds L y h).1 ≤ 562949953421312)) ∧ ((bnds L y h).2 = far ∨ (-562949953421312 ≤ (bnds L y h).2 ∧ (bnds L y h).2 ≤ 562949953421312)) := by
  have hb := band_is L y (y + hgh h)
  constructor
  · rcases hb.l3 with e | ⟨z, _, _, e⟩
    · exact .inl e
    · rcases (bnd_l L z).2 with e2 | ⟨f, hf, _, _, e2⟩
      · exact .inl (e.symm.trans e2)
      · obtain ⟨_, _, g2, _, _⟩ := nearF_at (nearB_at hn f hf)
        right
        rw [show (bnds L y h).1 = f.x1 from e.symm.trans e2.symm]
        exact g2
  · rcases hb.r3 with e | ⟨z, _, _, e⟩
    · exact .inl e
    · rcases (bnd_r L z).2 with e2 | ⟨f, hf, _, _, e2⟩
      · exact .inl (e.symm.trans e2)
      · obtain ⟨g0, _, _, _, _⟩ := nearF_at (nearB_at hn f hf)
        right
        rw [show (bnds L y h).2 = f.x0 from e.symm.trans e2.symm]
        exact g0
/-- Where one stands between the bounds, and in its columns. -/
theorem put_cols {L : List Fo} {q : Wp} {t : Int} (hq : okWp q = true) (hs : soP L q t = true) :
    (bnds L t q.h).1 ≤ leftP L q t ∧ leftP L q t + q.wd ≤ (bnds L t q.h).2 ∧ (q.s = 1 → leftP L q t = max q.a (bnds L t q.h).1 ∧ (leftP L q t + q.wd ≤ min q.b (bnds L t q.h).2 ∨ leftP L q t = q.a)) ∧ (q.s = 2 → leftP L q t + q.wd = min q.b (bnds L t q.h).2 ∧ (max q.a (bnds L t q.h).1 ≤ leftP L q t ∨ leftP L q t = q.b - q.wd)) := by
  obtain ⟨_, h6, _⟩ := okWp_at hq
  unfold soP freeS at hs
  unfold leftP freeS
  generalize bnds L t q.h = p at *
  obtain ⟨l, r⟩ := p
  simp only at hs ⊢
  have hs := of_decide_eq_true hs
  unfold atS at hs ⊢
  rcases h6 with h | h
  · rw [if_pos h] at hs
    rw [if_pos h]
    simp only at hs ⊢
    refine ⟨by omega, by omega, fun _ => ⟨by first | trivial | omega, by omega⟩, fun h' => by omega⟩
  · have hne : ¬ q.s = 1 := by omega
    rw [if_neg hne] at hs
    rw [if_neg hne]
    simp only at hs ⊢
    refine ⟨by omega, by omega, fun h' => by omega, fun _ => ⟨by omega, by omega⟩⟩
theorem edge_y {L : List Fo} {m e : Int} (h : yB L m) (he : isEdge L e) : -1099511627776 ≤ e ∧ e ≤ m := by
  obtain ⟨f, hf, _, e⟩ := he
  have := h f hf
  rcases e with rfl | rfl
  · exact this.1
  · exact this.2
theorem start_y {L : List Fo} {q : Wp} {m : Int} (h : yB L m) (hy : -1099511627776 ≤ q.y ∧ q.y ≤ m) : -1099511627776 ≤ startP L q ∧ startP L q ≤ m := by
  have hc : -1099511627776 ≤ clrS q.c L q.y ∧ clrS q.c L q.y ≤ m := by
    unfold clrS
    split
    · rename_i hb
      obtain ⟨f, hf, e⟩ := botS_mem q.c L hb
      have := (h f hf).2
      rw [e]
      omega
    · omega
  unfold startP
  split
  · rename_i hb
    obtain ⟨f, hf, e⟩ := lastS_mem L hb
    have := (h f hf).1
    rw [e]
    omega
  · exact hc
/-- One more. -/
theorem put_near {L : List Fo} {q : Wp} {m : Int} (hn : nearB L = true) (hy : yB L m) (hm : 1099511627776 ≤ m ∧ m ≤ 70368744177664) (hq : okWp q = true) (ha : okPa q = true) : nearB (L ++ [putP L q]) = true ∧ yB (L ++ [putP L q]) (m + 1099511627776) := by
  unfold okPa at ha
  have ha := of_decide_eq_true ha
  obtain ⟨⟨h1, h2, h3, h4, h5⟩, h6, h7, h8, h9⟩ := okWp_at hq
  unfold in48 at h1 h2 h3
  have hf := topP_first hn hq
  obtain ⟨t, ht0⟩ : ∃ t, topP L q = t := ⟨_, rfl⟩
  have hst := start_y (q := q) hy (by omega)
  have ht : -1099511627776 ≤ t ∧ t ≤ m := by
    rw [← ht0]
    rcases topP_edge hn hq with e | e
    · rw [e]; exact hst
    · exact edge_y hy e
  rw [ht0] at hf
  have hb := bnds_near hn t q.h
  have hc := put_cols hq hf.2.1
  have hx : (-562949953421312 ≤ leftP L q t ∧ leftP L q t ≤ 562949953421312) ∧ (-562949953421312 ≤ leftP L q t + q.wd ∧ leftP L q t + q.wd ≤ 562949953421312) := by
    obtain ⟨c1, c2, c3, c4⟩ := hc
    unfold far at hb
    rcases h6 with h | h
    · have := c3 h; omega
    · have := c4 h; omega
  have hp : putP L q = ⟨q.s, leftP L q t, t, leftP L q t + q.wd, t + q.h⟩ := by unfold putP; rw [ht0]
  rw [hp]
  constructor
  · unfold nearB at hn ⊢
    rw [List.all_append, hn]
    simp only [Bool.true_and, List.all_cons, List.all_nil, Bool.and_true]
    unfold nearF nr49
    simp only [Bool.and_eq_true, decide_eq_true_eq]
    omega
  · intro g hg
    rcases List.mem_append.1 hg with hg | hg
    · have := hy g hg
      omega
    · have e : g = ⟨q.s, leftP L q t, t, leftP L q t + q.wd, t + q.h⟩ := by simpa using hg
      subst e
      simp only
      omega
/-- No earlier one meets it. -/
theorem apartP {L : List Fo} {q : Wp} {t : Int} (hq : okWp q = true) (hs : soP L q t = true) {f : Fo} (hf : f ∈ L) (hsd : f.s = 1 ∨ f.s = 2) :
    fullB (max f.x0 (leftP L q t)) (max f.y0 t) (min f.x1 (leftP L q t + q.wd)) (min f.y1 (t + q.h)) = false := by
  unfold fullB
  refine decide_eq_false fun hh => ?_
  have hb := band_is L t (t + hgh q.h)
  have hz1 : t ≤ max f.y0 t := by omega
  have hz2 : max f.y0 t < t + hgh q.h := by unfold hgh; omega
  have hc : cnts f = true := decide_eq_true ⟨by omega, by omega, hsd⟩
  have hit : hits f (max f.y0 t) := ⟨hc, by omega, by omega⟩
  obtain ⟨c1, c2, _, _⟩ := put_cols hq hs
  by_cases e : f.s = 1
  · have h1 := (bnd_l L (max f.y0 t)).1 f hf hit e
    have h2 := hb.l2 _ hz1 hz2
    have h3 : f.x1 ≤ (bnds L t q.h).1 := Int.le_trans h1 h2
    omega
  · have h1 := (bnd_r L (max f.y0 t)).1 f hf hit e
    have h2 := hb.r2 _ hz1 hz2
    have h3 : (bnds L t q.h).2 ≤ f.x0 := Int.le_trans h2 h1
    omega
/-- What the law asks of where it stands. -/
theorem put_asks {L : List Fo} {q : Wp} (hn : nearB L = true) (hq : okWp q = true) : q.y ≤ topP L q ∧ ((lastS L).2 = true → (lastS L).1 ≤ topP L q) ∧ ((botS q.c L).2 = true → (botS q.c L).1 ≤ topP L q) ∧
    (q.s = 1 → q.a ≤ leftP L q (topP L q)) ∧ (q.s = 2 → leftP L q (topP L q) + q.wd ≤ q.b) := by
  have hf := topP_first hn hq
  have h1 := hf.1
  have h2 := startP_ge (L := L) (q := q)
  have hc : q.y ≤ clrS q.c L q.y ∧ ((botS q.c L).2 = true → (botS q.c L).1 ≤ clrS q.c L q.y) := by
    unfold clrS
    split
    · exact ⟨by omega, fun _ => by omega⟩
    · exact ⟨Int.le_refl _, fun h => by contradiction⟩
  have hd : clrS q.c L q.y ≤ startP L q ∧ ((lastS L).2 = true → (lastS L).1 ≤ startP L q) := by
    unfold startP
    split
    · exact ⟨by omega, fun _ => by omega⟩
    · exact ⟨Int.le_refl _, fun h => by contradiction⟩
  obtain ⟨_, _, c3, c4⟩ := put_cols hq hf.2.1
  exact ⟨by omega, fun h => by have := hd.2 h; omega, fun h => by have := hc.2 h; omega, fun h => by have := (c3 h).1; omega, fun h => by have := (c4 h).1; omega⟩
end Go.Proofs.Ytecojcdmigmnhaa
