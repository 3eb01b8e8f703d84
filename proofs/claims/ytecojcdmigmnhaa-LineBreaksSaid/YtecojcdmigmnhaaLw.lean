/- Lines: the document's Wide, High; no float meets a line's box (plain). -/
import Derived.Test.YtecojcdmigmnhaaLr
import Derived.Test.YtecojcdmigmnhaaAv6
namespace Go.Proofs.Ytecojcdmigmnhaa
set_option linter.unusedSimpArgs false
set_option linter.unusedVariables false
open Go.RowKit
set_option maxRecDepth 20000 in
set_option maxHeartbeats 4000000 in
theorem wide13_any (v : Value) (zs : List (Int × Int)) (w : World) (h : IsSl szC 2 w v zs) (hz : ∀ z ∈ zs, szOk z) (hL : zs.length ≤ 1000000) : Calls Try.prog 50 #[v] w fun e w' => e = .returned (.int .i64 (wideL zs)) ∧ w = w' := by
  obtain ⟨A, cap, rfl, hc, HA⟩ := id h
  have HZ := Lib.hid hz
  clear hc h hz
  go_enter Try.func50, Try.ntmps50
  go_wp2_with fail
  go_loop [3, 4] (fun n x => ∃ i : Nat, i ≤ zs.length ∧ x = .int .i64 i ∧ n = .int .i64 (wideL (zs.take i))) (fun _ x => zs.length - (intOf x).toNat)
  case atStart => exact ⟨0, by omega, rfl, rfl⟩
  case round =>
    obtain ⟨i, hi, rfl, rfl⟩ := hrel
    by_cases hlt : i < zs.length
    · obtain ⟨g, o, rfl, hg, hs⟩ := HA.out (by omega)
      obtain ⟨c0, c1⟩ := sz_cells (hs i hlt)
      have h1 := wideL_snoc (zs.take i) zs[i]
      rw [← List.take_succ_eq_append_getElem hlt] at h1
      have h2 := wideL_in (l := zs.take i) (fun z hz => HZ.out z (List.mem_of_mem_take hz))
      rw [List.length_take] at h2
      have h3 := HZ.out zs[i] (List.getElem_mem hlt)
      obtain ⟨W1, hW1⟩ : ∃ W, wideL (zs.take i) = W := ⟨_, rfl⟩
      obtain ⟨W2, hW2⟩ : ∃ W, wideL (zs.take (i + 1)) = W := ⟨_, rfl⟩
      rw [hW1] at h1 h2 ⊢
      rw [hW2] at h1
      generalize zs[i] = z at *
      obtain ⟨z1, z2⟩ := z
      obtain ⟨⟨za, zb⟩, _⟩ := h3
      simp only at c0 h1 za zb
      have hw : IntKind.i64.wrap (W1 + z1) = W2 := by rw [IntKind.wrap_i64]; omega
      have HE := Lib.hid hW2
      clear hs c1 hW1 hW2 h1 h2
      go_wp2_with fail
      go_round
      case rel => exact ⟨i + 1, by omega, by go_num, by rw [HE.out]⟩
      case measure => simp [intOf]; omega
    · have hir : i = zs.length := by omega
      subst hir
      rw [List.take_length]
      go_wp2_with fail
      go_ret
      exact ⟨rfl, rfl⟩
set_option maxRecDepth 20000 in
set_option maxHeartbeats 4000000 in
theorem high13_any (v : Value) (zs : List (Int × Int)) (w : World) (h : IsSl szC 2 w v zs) (hL : zs.length ≤ 1000000) : Calls Try.prog 51 #[v] w fun e w' => e = .returned (.int .i64 (highL zs)) ∧ w = w' := by
  obtain ⟨A, cap, rfl, hc, HA⟩ := id h
  clear hc h
  go_enter Try.func51, Try.ntmps51
  go_wp2_with fail
  go_loop [3, 4] (fun n x => ∃ i : Nat, i ≤ zs.length ∧ x = .int .i64 i ∧ n = .int .i64 (highL (zs.take i))) (fun _ x => zs.length - (intOf x).toNat)
  case atStart => exact ⟨0, by omega, rfl, rfl⟩
  case round =>
    obtain ⟨i, hi, rfl, rfl⟩ := hrel
    by_cases hlt : i < zs.length
    · obtain ⟨g, o, rfl, hg, hs⟩ := HA.out (by omega)
      obtain ⟨c0, c1⟩ := sz_cells (hs i hlt)
      have h1 := highL_snoc (zs.take i) zs[i]
      rw [← List.take_succ_eq_append_getElem hlt] at h1
      obtain ⟨W1, hW1⟩ : ∃ W, highL (zs.take i) = W := ⟨_, rfl⟩
      obtain ⟨W2, hW2⟩ : ∃ W, highL (zs.take (i + 1)) = W := ⟨_, rfl⟩
      rw [hW1] at h1 ⊢
      rw [hW2] at h1
      generalize zs[i] = z at *
      obtain ⟨z1, z2⟩ := z
      simp only at c1 h1
      have HE := Lib.hid hW2
      have H1 := Lib.hid h1
      clear hs c0 hW1 hW2 h1
      by_cases hc : W1 < z2
      · go_wp2_with fail
        go_round
        case rel => exact ⟨i + 1, by omega, by go_num, by rw [HE.out]; congr 1; have := H1.out; omega⟩
        case measure => simp [intOf]; omega
      · go_wp2_with fail
        go_round
        case rel => exact ⟨i + 1, by omega, by go_num, by rw [HE.out]; congr 1; have := H1.out; omega⟩
        case measure => simp [intOf]; omega
    · have hir : i = zs.length := by omega
      subst hir
      rw [List.take_length]
      go_wp2_with fail
      go_ret
      exact ⟨rfl, rfl⟩
/-- No full float meets a line's box. -/
theorem apartLn {L : List Fo} {a b t H : Int} {f : Fo} (hf : f ∈ L) (hsd : f.s = 1 ∨ f.s = 2) :
    fullB (max f.x0 (freeS L a b t H).1) (max f.y0 t) (min f.x1 (freeS L a b t H).2) (min f.y1 (t + H)) = false := by
  unfold fullB
  refine decide_eq_false fun hh => ?_
  have hb := band_is L t (t + hgh H)
  have hz1 : t ≤ max f.y0 t := by omega
  have hz2 : max f.y0 t < t + hgh H := by unfold hgh; omega
  unfold freeS at hh
  simp only at hh
  have hc : cnts f = true := decide_eq_true ⟨by omega, by omega, hsd⟩
  have hit : hits f (max f.y0 t) := ⟨hc, by omega, by omega⟩
  by_cases e : f.s = 1
  · have h1 := (bnd_l L (max f.y0 t)).1 f hf hit e
    have h2 := hb.l2 _ hz1 hz2
    have h3 : f.x1 ≤ (bnds L t H).1 := Int.le_trans h1 h2
    omega
  · have h1 := (bnd_r L (max f.y0 t)).1 f hf hit (by omega)
    have h2 := hb.r2 _ hz1 hz2
    have h3 : (bnds L t H).2 ≤ f.x0 := Int.le_trans h2 h1
    omega
/-- A line that is wider than its box has but one atom, which is wider than the columns, and these are free. -/
theorem wideLn {L : List Fo} {a b y : Int} {part : List (Int × Int)} {q : Lnq} (h : LineP L a b y part q) (hso : ∀ z r, part = z :: r → soLn L a b z.1 z.2 q.t = true) (hw : q.r - q.l < q.d) (hz : ∀ z ∈ part, szOk z) :
    ∃ z, part = [z] ∧ q.l = a ∧ q.r = b ∧ b - a < z.1 ∧ q.d = z.1 := by
  obtain ⟨g1, g2, g3, g4, g5, ⟨g6, g6'⟩, g7⟩ := h
  match part, g1 with
  | [z], _ =>
    have hs := hso z [] rfl
    have hh : highL [z] = z.2 := by have := (hz z (List.mem_cons_self ..)).2.1; simp [highL]; omega
    rw [hh] at g6 g6'
    have hd : q.d = z.1 := by rw [g3]; simp [wideL]
    unfold soLn at hs
    have hs := of_decide_eq_true hs
    rw [← g6, ← g6'] at hs
    have e1 : q.l = max a (bnds L q.t z.2).1 := g6
    have e2 : q.r = min b (bnds L q.t z.2).2 := g6'
    exact ⟨z, rfl, by omega, by omega, by omega, hd⟩
  | z :: z2 :: r, _ =>
    have := g7 (by simp)
    omega
/-- A part of a slice. -/
theorem isSl_part {α : Type} {C : α → List Value} {m : Nat} {w : World} {g o i n cap : Nat} {v : Value} {L : List α} (h : IsSl C m w v L) (hi : i + n ≤ L.length) (hv : v = .slice (some ⟨g, o, none⟩) L.length cap) : IsSl C m w (.slice (some ⟨g, o + i * m, none⟩) n (cap - i)) ((L.drop i).take n) := by
  obtain ⟨A, cap', e, hc, hA⟩ := h
  rw [hv] at e
  injection e with e1 e2 e3
  subst e1
  subst e3
  have hl : ((L.drop i).take n).length = n := by rw [List.length_take, List.length_drop]; omega
  refine ⟨_, cap - i, by rw [hl], by rw [hl]; omega, Lib.hid fun h0 => ?_⟩
  rw [hl] at h0
  obtain ⟨g', o', e, hg, hs⟩ := hA.out (by omega)
  injection e with e
  injection e with e1 e2 _
  subst e1
  subst e2
  refine ⟨g, o + i * m, rfl, hg, fun k hk j u hu => ?_⟩
  have hk' : k < n := by rw [hl] at hk; exact hk
  have e : ((L.drop i).take n)[k] = L[i + k]'(by omega) := by rw [List.getElem_take, List.getElem_drop]
  rw [e] at hu
  have := hs (i + k) (by omega) j u hu
  rw [Nat.add_mul] at this
  rw [show o + i * m + k * m + j = o + (i * m + k * m) + j by omega]
  exact this
theorem isSl_at {α : Type} {C : α → List Value} {m : Nat} {w : World} {g o n cap : Nat} {L : List α} (h : IsSl C m w (.slice (some ⟨g, o, none⟩) n cap) L) (k : Nat) (hk : k < L.length) : g < w.heap.size ∧ w.rangeAt g (o + k * m) (C L[k]) := by
  obtain ⟨A, cap', e, hc, hA⟩ := h
  injection e with e1 e2 e3
  subst e1
  obtain ⟨g', o', e, hg, hs⟩ := hA.out (by omega)
  injection e with e
  injection e with e1 e2 _
  subst e1
  subst e2
  exact ⟨hg, hs k hk⟩
end Go.Proofs.Ytecojcdmigmnhaa
