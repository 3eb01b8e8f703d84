/- Contracts of the reference of layer 6: Same, Context. -/
import Derived.Test.YtpjngnkcjccbcaaTr2
namespace Go.Proofs.Ytpjngnkcjccbcaa
set_option linter.unusedSimpArgs false
set_option linter.unusedVariables false
open Go.RowKit
theorem take_eq_succ (xs ys : List Int) (k : Nat) (h1 : k < xs.length) (h2 : k < ys.length) (h : xs.take k = ys.take k) (e : xs.getD k 0 = ys.getD k 0) : xs.take (k + 1) = ys.take (k + 1) := by
  rw [List.take_succ_eq_append_getElem h1, List.take_succ_eq_append_getElem h2, h]
  simp [List.getD_eq_getElem?_getD, List.getElem?_eq_getElem h1, List.getElem?_eq_getElem h2] at e
  rw [e]
set_option maxHeartbeats 1000000 in
theorem same_any (a b : Value) (xs ys : List Int) (w : World) (ha : IsInts w a xs) (hb : IsInts w b ys) (hL : xs.length ≤ 1000000000000) (hM : ys.length ≤ 1000000000000) :
    Calls Try.prog 44 #[a, b] w fun e w' => e = .returned (.bool (decide (xs = ys))) ∧ Below w.heap.size w w' := by
  obtain ⟨A, ca, rfl, hca, hA⟩ := ha
  obtain ⟨B, cb, rfl, hcb, hB⟩ := hb
  by_cases hl : xs.length = ys.length
  · have hl' : ((xs.length : Int) != (ys.length : Int)) = false := by simp [hl]
    have HL := Lib.hid hl
    have HA := Lib.hid hA
    have HB := Lib.hid hB
    clear hl hA hB
    go_enter Try.func44, Try.ntmps44
    go_wp2
    go_loopw [5] (fun v wr => ∃ k : Nat, k ≤ xs.length ∧ v = .int .i64 k ∧ Hid (xs.take k = ys.take k) ∧ Hid (Below w.heap.size w wr)) (fun v _ => xs.length - (intOf v).toNat)
    case atStart => exact ⟨0, by omega, rfl, rfl, Below.refl _ _⟩
    case round =>
      obtain ⟨k, hk, rfl, ht, hW⟩ := hrel
      have hll := HL.out
      by_cases hlt : k < xs.length
      · obtain ⟨g, o, rfl, hg, hcell⟩ := HA.out (by omega)
        obtain ⟨g', o', rfl, hg', hcell'⟩ := HB.out (by omega)
        have c1 := (hW.out.cell (p := ⟨g, o + k, none⟩) hg).trans (hcell k hlt)
        have c2 := (hW.out.cell (p := ⟨g', o' + k, none⟩) hg').trans (hcell' k (by omega))
        have b1 : (k : Int) < (ys.length : Int) := by omega
        clear hcell hcell' hll
        by_cases hx : xs.getD k 0 = ys.getD k 0
        · have ht' := Lib.hid (take_eq_succ xs ys k hlt (by omega) ht.out hx)
          generalize xs.getD k 0 = x at *
          generalize ys.getD k 0 = y at *
          have hx' : (x != y) = false := by simpa using hx
          clear hx
          go_wp2
          go_quiet (fail)
          go_wp2
          go_roundw
          case rel => exact ⟨k + 1, by omega, by go_num, ht', below_drewN hW.out _⟩
          case measure => simp [intOf]; omega
        · have hne : Hid (¬ xs = ys) := fun e => hx (by rw [e])
          generalize xs.getD k 0 = x at *
          generalize ys.getD k 0 = y at *
          have hx' : (x != y) = true := by simpa using hx
          clear hx
          go_wp2
          go_quiet (fail)
          go_wp2
          go_ret
          exact ⟨ret_b (decide_eq_false hne.out).symm, below_drewN hW.out _⟩
      · have hk' : k = xs.length := by omega
        have he : Hid (xs = ys) := by
          have h := ht.out
          rw [hk', List.take_length, hll, List.take_length] at h
          exact h
        clear hll hk'
        go_wp2
        go_ret
        exact ⟨ret_b (decide_eq_true he.out).symm, hW.out⟩
  · have hl' : ((xs.length : Int) != (ys.length : Int)) = true := by simp; omega
    have hne : Hid (¬ xs = ys) := fun e => hl (by rw [e])
    clear hl hA hB
    go_enter Try.func44, Try.ntmps44
    go_wp2
    go_ret
    exact ⟨ret_b (decide_eq_false hne.out).symm, Below.refl _ _⟩
end Go.Proofs.Ytpjngnkcjccbcaa
