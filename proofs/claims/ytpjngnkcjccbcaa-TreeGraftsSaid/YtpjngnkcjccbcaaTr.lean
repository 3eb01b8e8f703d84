/- Contracts of the reference of layer 6. -/
import Derived.Test.YtpjngnkcjccbcaaTd
import Derived.Lib.Hide
namespace Go.Proofs.Ytpjngnkcjccbcaa
set_option linter.unusedSimpArgs false
set_option linter.unusedVariables false
open Go.RowKit
set_option maxHeartbeats 1000000 in
theorem parent_any (L : List Bx) (B off cap i : Nat) (w : World) (hb : Bxs w B off L) (hi : i < L.length) (hL : L.length ≤ 1000000000000) (hd : -1000 ≤ dep L i ∧ dep L i ≤ 1000) :
    Calls Try.prog 41 #[.slice (some ⟨B, off, none⟩) L.length cap, .int .i64 i] w fun e w' => e = .returned (.int .i64 (parentS L i)) ∧ Below w.heap.size w w' := by
  have HB := Lib.hid hb
  have hBlt := hb.lt (by omega)
  clear hb
  go_enter Try.func41, Try.ntmps41
  go_wp2
  go_loopw [5] (fun v wr => ∃ q : Int, -1 ≤ q ∧ q < i ∧ v = .int .i64 q ∧ Hid (parentS L i = parUp L (dep L i - 1) (q + 1).toNat) ∧ Hid (Below w.heap.size w wr)) (fun v _ => (intOf v + 1).toNat)
  case atStart => exact ⟨i - 1, by omega, by omega, rfl, by unfold parentS; congr 1; omega, Below.refl _ _⟩
  case round =>
    obtain ⟨q, hq0, hq, rfl, hp, hB⟩ := hrel
    by_cases h0 : q < 0
    · go_wp2
      go_ret
      exact ⟨ret_i (by rw [hp.out]; rw [show (q + 1).toNat = 0 from by omega]; rfl), hB.out⟩
    · obtain ⟨m, rfl⟩ := Int.eq_ofNat_of_zero_le (show 0 ≤ q by omega)
      have hm : m < L.length := by omega
      have hw := HB.out.below hB.out hBlt
      have c1 : wr.cell? ⟨B, off + m * 14, none⟩ = some (.int .i64 (dep L m)) := (hw m hm).1.1
      have c2 : wr.cell? ⟨B, off + i * 14, none⟩ = some (.int .i64 (dep L i)) := (hw i hi).1.1
      clear hw
      have hs : parUp L (dep L i - 1) ((m : Int) + 1).toNat = if dep L m = dep L i - 1 then (m : Int) else parUp L (dep L i - 1) m := rfl
      rw [hs] at hp
      clear hs
      by_cases hx : dep L m = dep L i - 1
      · have hx' : (dep L m == dep L i - 1) = true := by simpa using hx
        rw [if_pos hx] at hp
        clear hx
        go_wp2
        go_quiet (fail)
        go_wp2
        go_ret
        exact ⟨ret_i hp.out.symm, below_drewN hB.out _⟩
      · have hx' : (dep L m == dep L i - 1) = false := by simpa using hx
        rw [if_neg hx] at hp
        clear hx
        go_wp2
        go_quiet (fail)
        go_wp2
        go_roundw
        case rel => exact ⟨m - 1, by omega, by omega, by go_num, by rw [hp.out]; congr 1; omega, below_drewN hB.out _⟩
        case measure => simp [intOf]
theorem endUp_eq (L : List Bx) (t : Int) (k : Nat) : endUp L t k = if k < L.length ∧ t < dep L k then endUp L t (k + 1) else k := by
  rw [endUp]
  split <;> rfl
set_option maxHeartbeats 1000000 in
theorem end_any (L : List Bx) (B off cap i : Nat) (w : World) (hb : Bxs w B off L) (hi : i < L.length) (hL : L.length ≤ 1000000000000) :
    Calls Try.prog 42 #[.slice (some ⟨B, off, none⟩) L.length cap, .int .i64 i] w fun e w' => e = .returned (.int .i64 (endS L i)) ∧ Below w.heap.size w w' := by
  have HB := Lib.hid hb
  have hBlt := hb.lt (by omega)
  clear hb
  go_enter Try.func42, Try.ntmps42
  go_wp2
  go_loopw [5] (fun v wr => ∃ q : Nat, i < q ∧ q ≤ L.length ∧ v = .int .i64 q ∧ Hid (endS L i = endUp L (dep L i) q) ∧ Hid (Below w.heap.size w wr)) (fun v _ => L.length - (intOf v).toNat)
  case atStart => exact ⟨i + 1, by omega, by omega, by go_num, rfl, Below.refl _ _⟩
  case round =>
    obtain ⟨q, hq0, hq, rfl, hp, hB⟩ := hrel
    have hw := HB.out.below hB.out hBlt
    have c2 : wr.cell? ⟨B, off + i * 14, none⟩ = some (.int .i64 (dep L i)) := (hw i hi).1.1
    rw [endUp_eq] at hp
    by_cases hlt : q < L.length
    · have c1 : wr.cell? ⟨B, off + q * 14, none⟩ = some (.int .i64 (dep L q)) := (hw q hlt).1.1
      clear hw
      by_cases hx : dep L i < dep L q
      · have hx' : decide (dep L i < dep L q) = true := by simpa using hx
        rw [if_pos ⟨hlt, hx⟩] at hp
        go_wp2
        go_quiet (fail)
        go_wp2
        go_roundw
        case rel => exact ⟨q + 1, by omega, by omega, by go_num, hp, below_drewN hB.out _⟩
        case measure => simp [intOf]; omega
      · have hx' : decide (dep L i < dep L q) = false := by simpa using hx
        rw [if_neg (fun h => hx h.2)] at hp
        clear hx
        go_wp2
        go_quiet (fail)
        go_wp2
        go_ret
        exact ⟨ret_i (by rw [hp.out]), below_drewN hB.out _⟩
    · clear hw
      rw [if_neg (fun h => hlt h.1)] at hp
      have hx' : decide ((q : Int) < L.length) = false := by simp; omega
      go_wp2
      go_quiet (fail)
      go_wp2
      go_ret
      exact ⟨ret_i (by rw [hp.out]), below_drewN hB.out _⟩
end Go.Proofs.Ytpjngnkcjccbcaa
