/- Contracts of the reference of layer 6: Context. -/
import Derived.Test.YtpjngnkcjccbcaaTr3
namespace Go.Proofs.Ytpjngnkcjccbcaa
set_option linter.unusedSimpArgs false
set_option linter.unusedVariables false
open Go.RowKit
theorem parUp_lt (L : List Bx) (t : Int) (k : Nat) : -1 ≤ parUp L t k ∧ parUp L t k < k := by
  induction k with
  | zero => simp [parUp]
  | succ k ih => unfold parUp; split <;> omega
theorem parentS_lt (L : List Bx) (i : Nat) : -1 ≤ parentS L i ∧ parentS L i < i := parUp_lt L _ i
/-- The first of a box and those in which it stands that has a context of its own, or stands in none. -/
def ctxUp (L : List Bx) (p : Int) : Int := if h : 0 < p ∧ openB (knd L p.toNat) = false then ctxUp L (parentS L p.toNat) else p
  termination_by p.toNat
  decreasing_by have := parentS_lt L p.toNat; omega
theorem ctxUp_eq (L : List Bx) (p : Int) : ctxUp L p = if 0 < p ∧ openB (knd L p.toNat) = false then ctxUp L (parentS L p.toNat) else p := by
  rw [ctxUp]
  split <;> rfl
def ctxS (L : List Bx) (i : Nat) : Int := if ctxUp L (parentS L i) < 0 then 0 else ctxUp L (parentS L i)
set_option maxHeartbeats 1000000 in
theorem context_any (L : List Bx) (B off cap i : Nat) (w : World) (hb : Bxs w B off L) (hi : i < L.length) (hL : L.length ≤ 1000000000000) (hd : ∀ k, k ≤ i → -1000 ≤ dep L k ∧ dep L k ≤ 1000) :
    Calls Try.prog 43 #[.slice (some ⟨B, off, none⟩) L.length cap, .int .i64 i] w fun e w' => e = .returned (.int .i64 (ctxS L i)) ∧ Below w.heap.size w w' := by
  have HB := Lib.hid hb
  have hBlt := hb.lt (by omega)
  have hpl := parentS_lt L i
  have HD := Lib.hid hd
  clear hb hd
  go_enter Try.func43, Try.ntmps43
  go_wp2_with (go_at_call 41; refine (parent_any L B off cap i _ HB.out hi hL (HD.out i (Nat.le_refl _))).mono ?_; rintro e w1 ⟨rfl, hb1⟩; have HB1 := Lib.hid hb1; clear hb1)
  go_loopw [5] (fun v wr => ∃ p : Int, -1 ≤ p ∧ p < i ∧ v = .int .i64 p ∧ Hid (ctxUp L (parentS L i) = ctxUp L p) ∧ Hid (Below w.heap.size w wr)) (fun v _ => (intOf v + 1).toNat)
  case atStart => exact ⟨_, hpl.1, hpl.2, rfl, rfl, HB1.out⟩
  case round =>
    obtain ⟨p, hp0, hp1, rfl, hp, hW⟩ := hrel
    have hx := ctxUp_eq L p
    by_cases h0 : 0 < p
    · obtain ⟨q, rfl⟩ := Int.eq_ofNat_of_zero_le (show 0 ≤ p by omega)
      have hq : q < L.length := by omega
      have hw := HB.out.below hW.out hBlt
      have hsz := hW.out.size
      obtain ⟨⟨a0, a1, a2, a3⟩, ⟨a4, a5⟩, ⟨a6, a7, a8, a9⟩, ⟨a10, a11, a12, a13⟩⟩ := hw q hq
      have HW := Lib.hid hw
      clear hw
      simp only [Int.toNat_natCast] at hx
      by_cases ho : openB (knd L q) = true
      · rw [if_neg (by simp [ho])] at hx
        have hn : (decide ((q : Int) < 0)) = false := by simp
        have HX := Lib.hid hx
        have hpos : Hid (¬ (q : Int) < 0) := (by omega : ¬ (q : Int) < 0)
        have hop : Calls Try.prog 46 #[.agg #[.int .i64 (at_ L q).d, .int .i64 (at_ L q).k, .int .i64 (at_ L q).s, .int .i64 (at_ L q).c, .int .i64 (at_ L q).w, .int .i64 (at_ L q).h, .int .i64 (at_ L q).m0, .int .i64 (at_ L q).m1, .int .i64 (at_ L q).m2, .int .i64 (at_ L q).m3, .int .i64 (at_ L q).e0, .int .i64 (at_ L q).e1, .int .i64 (at_ L q).e2, .int .i64 (at_ L q).e3]] wr fun e w' => e = .returned (.bool true) ∧ Below wr.heap.size wr w' := by
          have h := ropen_any (at_ L q) wr
          rw [show openB (at_ L q).k = true from ho] at h
          exact h
        have HO := Lib.hid hop
        clear hx ho hop
        go_wp2_with (go_at_call 46; refine (HO.out).mono ?_; rintro e w2 ⟨rfl, hb2⟩; have HB2 := Lib.hid hb2; clear hb2)
        go_ret
        exact ⟨ret_i (by unfold ctxS; rw [hp.out, HX.out, if_neg (by have := hpos.out; omega)]), hW.out.trans (HB2.out.mono hsz)⟩
      · have ho' : openB (knd L q) = false := by simpa using ho
        rw [if_pos ⟨h0, ho'⟩] at hx
        have HX := Lib.hid hx
        have hpq := parentS_lt L q
        have hop : Calls Try.prog 46 #[.agg #[.int .i64 (at_ L q).d, .int .i64 (at_ L q).k, .int .i64 (at_ L q).s, .int .i64 (at_ L q).c, .int .i64 (at_ L q).w, .int .i64 (at_ L q).h, .int .i64 (at_ L q).m0, .int .i64 (at_ L q).m1, .int .i64 (at_ L q).m2, .int .i64 (at_ L q).m3, .int .i64 (at_ L q).e0, .int .i64 (at_ L q).e1, .int .i64 (at_ L q).e2, .int .i64 (at_ L q).e3]] wr fun e w' => e = .returned (.bool false) ∧ Below wr.heap.size wr w' := by
          have h := ropen_any (at_ L q) wr
          rw [show openB (at_ L q).k = false from ho'] at h
          exact h
        have HO := Lib.hid hop
        clear hx ho hop ho'
        go_wp2_with (first
          | (go_at_call 46; refine (HO.out).mono ?_; rintro e w2 ⟨rfl, hb2⟩; have hw2 := HW.out.below hb2 (by omega); have HW2 := Lib.hid hw2; have HB2 := Lib.hid hb2; have hsz2 := hb2.size; clear hb2 hw2)
          | (go_at_call 41; refine (parent_any L B off cap q _ HW2.out hq hL (HD.out q (by omega))).mono ?_; rintro e w3 ⟨rfl, hb3⟩; have HB3 := Lib.hid hb3; clear hb3))
        go_roundw
        case rel => exact ⟨parentS L q, hpq.1, by omega, rfl, hp.out.trans HX.out, (hW.out.trans (HB2.out.mono hsz)).trans (HB3.out.mono (by omega))⟩
        case measure => simp [intOf]; omega
    · rw [if_neg (fun h => h0 h.1)] at hx
      have hh : p = -1 ∨ p = 0 := by omega
      clear h0
      rcases hh with rfl | rfl
      · have HX := Lib.hid hx
        clear hx
        go_wp2
        go_ret
        exact ⟨ret_i (by unfold ctxS; rw [hp.out, HX.out]; rfl), hW.out⟩
      · have HX := Lib.hid hx
        clear hx
        go_wp2
        go_ret
        exact ⟨ret_i (by unfold ctxS; rw [hp.out, HX.out]; rfl), hW.out⟩
end Go.Proofs.Ytpjngnkcjccbcaa
