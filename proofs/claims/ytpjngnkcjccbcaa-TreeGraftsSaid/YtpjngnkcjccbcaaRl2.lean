/- The rule of the layer record that asks all numbers of a box. -/
import Derived.Test.YtpjngnkcjccbcaaRul
import Derived.Lib.Hide
import Derived.Deep.RegionLaw
import Derived.Deep.RegionLawGrows
import Derived.Deep.AppendLies
import Derived.RegionTactic
import Derived.BigRegion
import Derived.Outline
import Derived.Lib.SmallJoins
namespace Go.Proofs.Ytpjngnkcjccbcaa
set_option linter.unusedSimpArgs false
set_option linter.unusedVariables false
open Go.RowKit
theorem rule2one (n : Int) (w : World) : Calls Try.prog 68 #[.int .i64 n] w fun e w' => e = .returned (.bool (bigB n)) ∧ w = w' := by
  go_enter Try.func68, Try.ntmps68
  go_wp2_with (first | (go_at_call 65; refine (out_any _ _ _ _).mono ?_; rintro e w' ⟨rfl, rfl⟩))
  go_ret
  exact ⟨congrArg (fun b => Ending.returned (.bool b)) (by rw [Bool.eq_iff_iff]; simp [outB, bigB] <;> omega), rfl⟩
/-- The place of the first number that is too great; -1: there is none. -/
def idxB : List Int → Nat → Int
  | [], _ => -1
  | x :: l, k => if bigB x = true then k else idxB l (k + 1)
theorem idxB_at (xs : List Int) (k : Nat) (hk : k < xs.length) : idxB (xs.drop k) k = if bigB (xs.getD k 0) = true then (k : Int) else idxB (xs.drop (k + 1)) (k + 1) := by
  rw [List.drop_eq_getElem_cons hk]
  simp [idxB, List.getElem?_eq_getElem hk]
theorem idxB_end (xs : List Int) : idxB (xs.drop xs.length) xs.length = -1 := by simp [idxB]
set_option maxHeartbeats 400000 in
theorem index_any (xs : List Int) (B off cap : Nat) (w : World) (hl : xs.length ≤ 1000) (hc : ∀ k, k < xs.length → w.cell? ⟨B, off + k, none⟩ = some (.int .i64 (xs.getD k 0))) :
    Calls Try.prog 82 #[.slice (some ⟨B, off, none⟩) xs.length cap, .func (.func 68) #[] #[]] w fun e w' => e = .returned (.int .i64 (idxB xs 0)) ∧ w = w' := by
  go_enter Try.func82, Try.ntmps82
  go_wp2
  go_loop [5, 8] (fun _ i => ∃ k : Nat, k ≤ xs.length ∧ i = .int .i64 k ∧ Hid (idxB xs 0 = idxB (xs.drop k) k)) (fun _ i => xs.length - (intOf i).toNat)
  case atStart => exact ⟨0, Nat.zero_le _, rfl, rfl⟩
  case round =>
    obtain ⟨k, hk, rfl, hid⟩ := hrel
    by_cases hlt : k < xs.length
    · have hcell := hc k hlt
      have hat := idxB_at xs k hlt
      clear hc
      generalize xs.getD k 0 = x at hcell hat
      have HAT := Lib.hid hat
      clear hat
      cases hb : bigB x with
      | true =>
        go_wp2_with (first | (go_at_call 68; refine (rule2one _ _).mono ?_; rintro e w' ⟨rfl, rfl⟩))
        go_ret
        exact ⟨ret_i (by rw [hid.out, HAT.out, if_pos hb]), rfl⟩
      | false =>
        go_wp2_with (first | (go_at_call 68; refine (rule2one _ _).mono ?_; rintro e w' ⟨rfl, rfl⟩))
        go_round
        case rel => exact ⟨k + 1, by omega, by go_num, by rw [hid.out, HAT.out, if_neg (by rw [hb]; exact Bool.false_ne_true)]; rfl⟩
        case measure => simp [intOf]; omega
    · have hk' : k = xs.length := by omega
      go_wp2
      go_ret
      exact ⟨ret_i (by rw [hid.out, hk', idxB_end]), rfl⟩
theorem contains_any (xs : List Int) (B off cap : Nat) (w : World) (hl : xs.length ≤ 1000) (hc : ∀ k, k < xs.length → w.cell? ⟨B, off + k, none⟩ = some (.int .i64 (xs.getD k 0))) :
    Calls Try.prog 67 #[.slice (some ⟨B, off, none⟩) xs.length cap, .func (.func 68) #[] #[]] w fun e w' => e = .returned (.bool (decide (0 ≤ idxB xs 0))) ∧ w = w' := by
  go_enter Try.func67, Try.ntmps67
  go_wp2_with (first | (go_at_call 82; refine (index_any xs B off cap _ hl hc).mono ?_; rintro e w' ⟨rfl, rfl⟩))
  go_ret
  exact ⟨rfl, rfl⟩
theorem cells4 {W : World} {B o : Nat} {x0 x1 x2 x3 : Value} (h0 : W.cell? ⟨B, o, none⟩ = some x0) (h1 : W.cell? ⟨B, o + 1, none⟩ = some x1) (h2 : W.cell? ⟨B, o + 2, none⟩ = some x2) (h3 : W.cell? ⟨B, o + 3, none⟩ = some x3) :
    ∀ j u, [x0, x1, x2, x3][j]? = some u → W.cell? ((⟨B, o, none⟩ : Addr).add j) = some u := by
  intro j u hu
  match j, hu with
  | 0, hu => simp at hu; simpa [Addr.add, hu] using h0
  | 1, hu => simp at hu; simpa [Addr.add, hu] using h1
  | 2, hu => simp at hu; simpa [Addr.add, hu] using h2
  | 3, hu => simp at hu; simpa [Addr.add, hu] using h3
  | j + 4, hu => simp at hu
theorem cells2 {W : World} {B o : Nat} {x0 x1 : Value} (h0 : W.cell? ⟨B, o, none⟩ = some x0) (h1 : W.cell? ⟨B, o + 1, none⟩ = some x1) :
    ∀ j u, [x0, x1][j]? = some u → W.cell? ((⟨B, o, none⟩ : Addr).add j) = some u := by
  intro j u hu
  match j, hu with
  | 0, hu => simp at hu; simpa [Addr.add, hu] using h0
  | 1, hu => simp at hu; simpa [Addr.add, hu] using h1
  | j + 2, hu => simp at hu
theorem intInfo : (Try.prog.info? 3).map (fun i => (i.zero, i.size, i.bytes)) = some (some (.int .i64 0), 1, 8) := by kernel_rfl
def nums (b : Bx) : List Int := [b.w, b.h, b.m0, b.m1, b.m2, b.m3, b.e0, b.e1, b.e2, b.e3]
theorem cell_of_own {W : World} {base e g n cap : Nat} {l : List Value} (h : W.ownsRow base e 1 (.slice (some ⟨g, 0, none⟩) n cap) n l) {k : Nat} {u : Value} (hu : l[k]? = some u) : W.cell? ⟨g, k, none⟩ = some u := by
  have h1 := h.cells (g := g) rfl k u hu
  unfold Addr.add at h1
  split at h1
  · rename_i hk; subst hk; exact h1
  · simpa using h1
theorem own_nums {W : World} {base e g n cap : Nat} {b : Bx} (h : W.ownsRow base e 1 (.slice (some ⟨g, 0, none⟩) n cap) n ([.int .i64 b.w, .int .i64 b.h] ++ [.int .i64 b.m0, .int .i64 b.m1, .int .i64 b.m2, .int .i64 b.m3, .int .i64 b.e0, .int .i64 b.e1, .int .i64 b.e2, .int .i64 b.e3])) :
    ∀ k, k < 10 → W.cell? ⟨g, k, none⟩ = some (.int .i64 ((nums b).getD k 0)) := by
  intro k hk
  match k, hk with
  | 0, _ => exact cell_of_own h rfl
  | 1, _ => exact cell_of_own h rfl
  | 2, _ => exact cell_of_own h rfl
  | 3, _ => exact cell_of_own h rfl
  | 4, _ => exact cell_of_own h rfl
  | 5, _ => exact cell_of_own h rfl
  | 6, _ => exact cell_of_own h rfl
  | 7, _ => exact cell_of_own h rfl
  | 8, _ => exact cell_of_own h rfl
  | 9, _ => exact cell_of_own h rfl
theorem contains10 (b : Bx) (g cap : Nat) (w : World) (hc : ∀ k, k < 10 → w.cell? ⟨g, k, none⟩ = some (.int .i64 ((nums b).getD k 0))) :
    Calls Try.prog 67 #[.slice (some ⟨g, 0, none⟩) 10 cap, .func (.func 68) #[] #[]] w fun e w' => e = .returned (.bool (decide (0 ≤ idxB (nums b) 0))) ∧ w = w' :=
  contains_any (nums b) g 0 cap w (by simp [nums]) (fun k hk => by rw [Nat.zero_add]; exact hc k hk)
set_option maxHeartbeats 1000000 in
set_option maxRecDepth 20000 in
theorem rule2 (b : Bx) (w : World) : Calls Try.prog 66 #[.agg #[.int .i64 b.d, .int .i64 b.k, .int .i64 b.s, .int .i64 b.c, .int .i64 b.w, .int .i64 b.h, .int .i64 b.m0, .int .i64 b.m1, .int .i64 b.m2, .int .i64 b.m3, .int .i64 b.e0, .int .i64 b.e1, .int .i64 b.e2, .int .i64 b.e3]] w fun e w' => e = .returned (.bool (decide (0 ≤ idxB (nums b) 0))) ∧ Below w.heap.size w w' := by
  obtain ⟨i0, hi, hz0, hz1, hz2⟩ := info_parts intInfo
  go_enter Try.func66, Try.ntmps66
  go_upto_region 1 with (fail)
  go_cut [3] (fun v wc => ∃ g cap, v = .slice (some ⟨g, 0, none⟩) 10 cap ∧ (∀ k, k < 10 → wc.cell? ⟨g, k, none⟩ = some (.int .i64 ((nums b).getD k 0))) ∧ Below w.heap.size w wc)
  case first =>
    go_region_law (first
      | (refine step_append_grows rfl (.tmp 10) (.tmp 12) 52 rfl 3 i0 (.int .i64 0) 1 8 Try.underlying52 hi hz0 hz1 hz2 rfl (by decide) (some ⟨w.heap.size, 6, none⟩) 4 4 [.int .i64 b.m0, .int .i64 b.m1, .int .i64 b.m2, .int .i64 b.m3] rfl (by simp) rfl (by intro b' hb'; cases hb'; exact cells4 (by simp [go_sem]) (by simp [go_sem]) (by simp [go_sem]) (by simp [go_sem])) ⟨w.heap.size, 10, none⟩ 4 4 [.int .i64 b.e0, .int .i64 b.e1, .int .i64 b.e2, .int .i64 b.e3] rfl rfl (cells4 (by simp [go_sem]) (by simp [go_sem]) (by simp [go_sem]) (by simp [go_sem])) (by simp [Value.oneCell']) (by decide) (by unfold maxLen; decide) (by decide) ?_; intro v1 w1 hown1 hg1; obtain ⟨g1, cap1, rfl⟩ := Go.Joins.ownsRow_form hown1 (by decide); have hbx := Below.grown (Below.refl _ _) hg1 (Nat.le_refl _) (by intro k hk; cases hk); obtain ⟨hcx, hfx⟩ := bcell hbx; have hzx := hbx.size; (try simp at hzx); have hc0 := fun o => hcx w.heap.size o (by first | omega | (simp; done) | (simp; omega)); (try have hc1 := fun o => hcx (w.heap.size + 1) o (by first | omega | (simp; done) | (simp; omega))); clear hcx hfx)
      | (refine step_append_grows rfl (.tmp 8) (.tmp 13) 52 rfl 3 i0 (.int .i64 0) 1 8 Try.underlying52 hi hz0 hz1 hz2 rfl (by decide) (some ⟨_, 0, none⟩) 2 2 [.int .i64 b.w, .int .i64 b.h] rfl (by simp) rfl (by intro b' hb'; cases hb'; exact cells2 (by go_simp) (by go_simp)) ⟨g1, 0, none⟩ 8 cap1 [.int .i64 b.m0, .int .i64 b.m1, .int .i64 b.m2, .int .i64 b.m3, .int .i64 b.e0, .int .i64 b.e1, .int .i64 b.e2, .int .i64 b.e3] rfl rfl (by first | exact hown1.cells rfl | exact (hown1.alloc _).cells rfl) (by simp [Value.oneCell']) (by decide) (by unfold maxLen; decide) (by decide) ?_; intro v2 w2 hown2 hg2; obtain ⟨g2, cap2, rfl⟩ := Go.Joins.ownsRow_form hown2 (by decide)))
    all_goals (go_wp2_with fail; go_meet)
    all_goals (case rel => exact ⟨g2, cap2, rfl, own_nums hown2, by (repeat (first | exact Below.refl _ _ | (refine Below.alloc ?_ (by first | omega | (simp; done) | (simp; omega)) _) | (refine Below.on (by assumption) ?_ (by first | omega | (simp; done) | (simp; omega))) | (refine Below.grown ?_ (by assumption) (by first | omega | (simp; done) | (simp; omega)) (by intro k hk; cases hk)) | refine Below.drew ?_))⟩)
  obtain ⟨g, cap, rfl, hcells, hb1⟩ := hcut
  have HB := Lib.hid hb1
  clear hb1
  go_wp2_with (first | (go_at_call 67; refine (contains10 b g cap _ hcells).mono ?_; rintro e w' ⟨rfl, rfl⟩))
  go_ret
  exact ⟨rfl, HB.out⟩
end Go.Proofs.Ytpjngnkcjccbcaa
