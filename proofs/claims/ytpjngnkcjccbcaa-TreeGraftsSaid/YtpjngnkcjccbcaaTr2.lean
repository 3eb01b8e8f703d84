/- Contracts of the reference of layer 6: what lays new memory. -/
import Derived.Test.YtpjngnkcjccbcaaTr
import Derived.Test.YtpjngnkcjccbcaaIn
import Derived.Test.YtpjngnkcjccbcaaFit
namespace Go.Proofs.Ytpjngnkcjccbcaa
set_option linter.unusedSimpArgs false
set_option linter.unusedVariables false
open Go.RowKit
theorem ropen_any (b : Bx) (w : World) : Calls Try.prog 46 #[.agg #[.int .i64 b.d, .int .i64 b.k, .int .i64 b.s, .int .i64 b.c, .int .i64 b.w, .int .i64 b.h, .int .i64 b.m0, .int .i64 b.m1, .int .i64 b.m2, .int .i64 b.m3, .int .i64 b.e0, .int .i64 b.e1, .int .i64 b.e2, .int .i64 b.e3]] w fun e w' => e = .returned (.bool (openB b.k)) ∧ Below w.heap.size w w' := by
  go_enter Try.func46, Try.ntmps46
  go_wp2
  all_goals go_ret
  all_goals exact ⟨congrArg (fun b => Ending.returned (.bool b)) (by (try simp only [beq_eq_false_iff_ne, ne_eq, beq_iff_eq, bne_iff_ne] at *); rw [Bool.eq_iff_iff]; simp [openB] <;> omega), by (repeat (first | exact Below.refl _ _ | (refine Below.alloc ?_ (by first | omega | (simp; done) | (simp; omega)) _) | (refine Below.on (by assumption) ?_ (by first | omega | (simp; done) | (simp; omega))) | (refine Below.grown ?_ (by assumption) (by first | omega | (simp; done) | (simp; omega)) (by intro k hk; cases hk)) | refine Below.drew ?_))⟩
/-- The boxes of one that stand ahead of a place. -/
def kidsTo (L : List Bx) (i m : Nat) : List Int := ((List.range m).filter fun k => decide (i < k) && decide (dep L k = dep L i + 1)).map (fun k : Nat => (k : Int))
def kidsS (L : List Bx) (i : Nat) : List Int := kidsTo L i (endS L i)
theorem kidsTo_le (L : List Bx) (i m : Nat) (h : m ≤ i + 1) : kidsTo L i m = [] := by
  unfold kidsTo
  rw [List.map_eq_nil_iff, List.filter_eq_nil_iff]
  intro a ha
  simp only [List.mem_range] at ha
  simp
  omega
theorem kidsTo_succ (L : List Bx) (i m : Nat) (h : i < m) : kidsTo L i (m + 1) = if dep L m = dep L i + 1 then kidsTo L i m ++ [(m : Int)] else kidsTo L i m := by
  unfold kidsTo
  rw [List.range_succ, List.filter_append, List.map_append]
  by_cases e : dep L m = dep L i + 1
  · rw [if_pos e]; simp [h, e]
  · rw [if_neg e]; simp [e]
theorem kidsTo_len (L : List Bx) (i m : Nat) : (kidsTo L i m).length ≤ m := by
  unfold kidsTo
  rw [List.length_map]
  exact Nat.le_trans (List.length_filter_le _ _) (by simp)
theorem endUp_ge (L : List Bx) (t : Int) (k : Nat) : k ≤ endUp L t k := by
  rw [endUp]
  split
  · have := endUp_ge L t (k + 1); omega
  · exact Nat.le_refl _
  termination_by L.length - k
theorem endUp_le (L : List Bx) (t : Int) (k : Nat) (h : k ≤ L.length) : endUp L t k ≤ L.length := by
  rw [endUp]
  split
  · exact endUp_le L t (k + 1) (by omega)
  · exact h
  termination_by L.length - k
theorem endS_gt (L : List Bx) (i : Nat) : i < endS L i := endUp_ge L _ (i + 1)
theorem endS_le (L : List Bx) (i : Nat) (h : i < L.length) : endS L i ≤ L.length := endUp_le L _ (i + 1) h
set_option maxHeartbeats 1000000 in
theorem children_any (L : List Bx) (B off cap i : Nat) (w : World) (hb : Bxs w B off L) (hi : i < L.length) (hL : L.length ≤ 1000000000000) (hd : -1000 ≤ dep L i ∧ dep L i ≤ 1000) :
    Calls Try.prog 45 #[.slice (some ⟨B, off, none⟩) L.length cap, .int .i64 i] w fun e w' => ∃ v, e = .returned v ∧ Ints w' w.heap.size v (kidsS L i) ∧ Below w.heap.size w w' := by
  have HB := Lib.hid hb
  have hBlt := hb.lt (by omega)
  have he := endS_le L i hi
  have he' := endS_gt L i
  clear hb
  go_enter Try.func45, Try.ntmps45
  go_wp2
  go_loopw [5, 6] (fun v x wr => ∃ q : Nat, i < q ∧ q ≤ endS L i ∧ x = .int .i64 q ∧ Hid (Ints wr w.heap.size v (kidsTo L i q)) ∧ Hid (Below w.heap.size w wr)) (fun _ x _ => endS L i - (intOf x).toNat)
  case atStart => exact ⟨i + 1, by omega, by omega, by go_num, by rw [kidsTo_le L i _ (Nat.le_refl _)]; exact Ints.empty w (Nat.le_refl _), by (repeat (first | exact Below.refl _ _ | (refine Below.alloc ?_ (by first | omega | (simp; done) | (simp; omega)) _) | (refine Below.on (by assumption) ?_ (by first | omega | (simp; done) | (simp; omega))) | (refine Below.grown ?_ (by assumption) (by first | omega | (simp; done) | (simp; omega)) (by intro k hk; cases hk)) | refine Below.drew ?_))⟩
  case round =>
    obtain ⟨q, hq0, hq, rfl, hI, hB⟩ := hrel
    have hw := HB.out.below hB.out hBlt
    have hsz := hB.out.size
    have c2 : wr.cell? ⟨B, off + i * 14, none⟩ = some (.int .i64 (dep L i)) := (hw i hi).1.1
    have HW := Lib.hid hw
    clear hw
    by_cases hlt : q < endS L i
    · have c1 : wr.cell? ⟨B, off + q * 14, none⟩ = some (.int .i64 (dep L q)) := (HW.out q (by omega)).1.1
      have hs := kidsTo_succ L i q hq0
      have hkl := kidsTo_len L i q
      by_cases hx : dep L q = dep L i + 1
      · have hx' : (dep L q == dep L i + 1) = true := by simpa using hx
        rw [if_pos hx] at hs
        have HS := Lib.hid hs
        clear hx hs
        go_wp2_with (go_at_call 42; refine (end_any L B off cap i _ HW.out hi hL).mono ?_; rintro e w1 ⟨rfl, hb1⟩; have d1 := hb1.cell (p := ⟨B, off + q * 14, none⟩) (show B < _ by omega); have d2 := hb1.cell (p := ⟨B, off + i * 14, none⟩) (show B < _ by omega); have HB1 := Lib.hid hb1; clear hb1)
        go_quiet (fail)
        have hsz1 := HB1.out.size
        have hI1 : Ints (w1.drewN nq) w.heap.size u5 (kidsTo L i q) := hI.out.below (below_drewN HB1.out nq)
        have HI := Lib.hid hI1
        clear hI1 d1 d2 c1 c2
        go_wp2_with (at_builtin; refine app1 _ (by rfl) _ _ (by rfl) w.heap.size u5 (kidsTo L i q) (by rfl) (HI.out.alloc _) _ 1 (by rfl) q (by exact cell_new rfl rfl) (by omega) (by simp; omega) ?_; intro v2 w2 hI2 hg2 ha2; have HI2 := Lib.hid hI2; have HG2 := Lib.hid hg2; clear hI2 hg2 ha2)
        have hB2 : Below w.heap.size w w2 := ((below_drewN (hB.out.trans (HB1.out.mono hsz)) nq).alloc (by simp; omega) _).grown HG2.out (by simp; omega) (fun k hk => (HI.out.lt hk).1)
        have HB2 := Lib.hid hB2
        clear hB2
        go_roundw
        case rel => exact ⟨q + 1, by omega, by omega, by go_num, by rw [HS.out]; exact HI2.out, HB2.out⟩
        case measure => simp [intOf]; omega
      · have hx' : (dep L q == dep L i + 1) = false := by simpa using hx
        rw [if_neg hx] at hs
        have HS := Lib.hid hs
        clear hx hs
        go_wp2_with (go_at_call 42; refine (end_any L B off cap i _ HW.out hi hL).mono ?_; rintro e w1 ⟨rfl, hb1⟩; have d1 := hb1.cell (p := ⟨B, off + q * 14, none⟩) (show B < _ by omega); have d2 := hb1.cell (p := ⟨B, off + i * 14, none⟩) (show B < _ by omega); have HB1 := Lib.hid hb1; clear hb1)
        go_quiet (fail)
        go_wp2_with fail
        have hB2 : Below w.heap.size w (w1.drewN nq) := below_drewN (hB.out.trans (HB1.out.mono hsz)) nq
        have HB2 := Lib.hid hB2
        clear hB2
        go_roundw
        case rel => exact ⟨q + 1, by omega, by omega, by go_num, by rw [HS.out]; exact hI.out.below (below_drewN HB1.out nq), HB2.out⟩
        case measure => simp [intOf]; omega
    · obtain rfl : q = endS L i := by omega
      go_wp2_with (go_at_call 42; refine (end_any L B off cap i _ HW.out hi hL).mono ?_; rintro e w1 ⟨rfl, hb1⟩; have HB1 := Lib.hid hb1; clear hb1)
      go_ret
      exact ⟨_, rfl, hI.out.below HB1.out, hB.out.trans (HB1.out.mono hsz)⟩
end Go.Proofs.Ytpjngnkcjccbcaa
