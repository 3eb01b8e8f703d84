/- The walk of the law RecordFits. -/
import Derived.Test.YtpjngnkcjccbcaaLaw4
import Derived.Test.YtpjngnkcjccbcaaFit
namespace Go.Proofs.Ytpjngnkcjccbcaa
set_option linter.unusedSimpArgs false
set_option linter.unusedVariables false
open Go.RowKit

theorem openB_eq (p : Int) : (openB p == (p == 2 || p == 3)) = true := by
  rw [beq_iff_eq]
  unfold openB
  rw [Bool.eq_iff_iff]
  simp
set_option maxHeartbeats 1000000 in
theorem recordFits_any (p c : Int) (w : World) : Calls Try.prog 7 #[.int .i64 p, .int .i64 c] w fun e w' => e = .returned (.bool true) ∧ Below w.heap.size w w' := by
  go_enter Try.func7, Try.ntmps7
  go_wp2_with (first | (go_at_call 25; refine (speaks04 _).mono ?_; rintro e wx ⟨rfl, hbx⟩; have hzx := hbx.size; obtain ⟨hcx, hfx⟩ := bcell hbx; (try simp [Nat.add_one_le_iff] at hzx)))
  have HB := Lib.hid hbx
  clear hbx hzx hcx hfx
  go_loopw [5] (fun i wr => ∃ k : Nat, k ≤ 7 ∧ i = .int .i64 k ∧ Hid (Below w.heap.size w wr)) (fun i _ => 7 - (intOf i).toNat)
  case atStart => exact ⟨0, by omega, rfl, HB.out⟩
  case round =>
    obtain ⟨k, hk, rfl, hB1⟩ := hrel
    clear HB
    by_cases hlt : k < 7
    · have hd : decide ((k : Int) ≤ 6) = true := by simp; omega
      go_wp2
      obtain ⟨wo, rfl⟩ : ∃ wo : World, wo = wr := ⟨_, rfl⟩
      go_loopw [6] (fun i wr => ∃ m : Nat, m ≤ 7 ∧ i = .int .i64 m ∧ Hid (Below w.heap.size w wr)) (fun i _ => 7 - (intOf i).toNat)
      case atStart => exact ⟨0, by omega, rfl, hB1⟩
      case round =>
        obtain ⟨m, hm, rfl, hB2⟩ := hrel
        by_cases hlm : m < 7
        · have hd2 : decide ((m : Int) ≤ 6) = true := by simp; omega
          go_wp2_with (first | (go_at_call 27; refine (fits_any _ _ _).mono ?_; rintro e w' ⟨rfl, rfl⟩) | (go_at_call 28; refine (rfits_any _ _ _).mono ?_; rintro e wx ⟨rfl, hbx⟩; have HX := Lib.hid hbx; clear hbx))
          go_roundw
          case rel => exact ⟨m + 1, by omega, by go_num, Below.on HX.out hB2.out hB2.out.size⟩
          case measure => simp [intOf]; omega
        · go_wp2
          go_roundw
          case rel => exact ⟨k + 1, by omega, by go_num, hB2⟩
          case measure => simp [intOf]; omega
    · go_wp2_with (first | (go_at_call 27; refine (fits_any _ _ _).mono ?_; rintro e w' ⟨rfl, rfl⟩) | (go_at_call 29; refine (open_any _ _).mono ?_; rintro e w' ⟨rfl, rfl⟩) | (go_at_call 28; refine (rfits_any _ _ _).mono ?_; rintro e wx ⟨rfl, hbx⟩; have HX := Lib.hid hbx; clear hbx))
      all_goals go_ret
      all_goals refine ⟨congrArg (fun b => Ending.returned (.bool b)) ?_, Below.on HX.out hB1.out hB1.out.size⟩
      · rfl
      · exact openB_eq p
end Go.Proofs.Ytpjngnkcjccbcaa
