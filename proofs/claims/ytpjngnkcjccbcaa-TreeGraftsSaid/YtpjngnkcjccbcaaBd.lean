/- The contracts of tree.Build, of runaroundlaw06.Begin, and of the law's example. -/
import Derived.Test.YtpjngnkcjccbcaaBw
import Derived.Test.YtpjngnkcjccbcaaTc
namespace Go.Proofs.Ytpjngnkcjccbcaa
set_option linter.unusedSimpArgs false
set_option linter.unusedVariables false
open Go.RowKit
theorem build_none (v : Value) (w : World) (hv : ∃ A cap, v = .slice A 0 cap) : Calls Try.prog 31 #[v] w (BuildPost [] w) := by
  obtain ⟨A, cap, rfl⟩ := hv
  have hc : chkS [] = (-1, 15) := rfl
  have HC := Lib.hid hc
  clear hc
  go_enter Try.func31, Try.ntmps31
  go_wp2_with fail
  go_ret3
  exact post_bad (Below.refl _ _) HC.out (by omega)
theorem build_any (L : List Bx) (v : Value) (w : World) (h : IsBxs w v L) (hL : L.length ≤ 100000000) : Calls Try.prog 31 #[v] w (BuildPost L w) := by
  obtain ⟨A, cap, rfl, hc, hA⟩ := h
  rcases Nat.eq_zero_or_pos L.length with h0 | h0
  · have : L = [] := List.eq_nil_of_length_eq_zero h0
    subst this
    exact build_none _ w ⟨A, cap, rfl⟩
  · obtain ⟨g, o, e, hb⟩ := hA h0
    exact build_walk L A g o cap w (fun _ => e) hb hL h0
/-- What Begin leaves of boxes. -/
def BeginPost (L : List Bx) (w : World) (e : Ending) (w' : World) : Prop := Below w.heap.size w w' ∧
  ((chkS L).2 = 0 → ∃ bt, e = .returned (.pointer (some ⟨bt, 0, none⟩)) ∧ TreeIs w' bt (NS L L.length)) ∧
  ((chkS L).2 ≠ 0 → e = .returned (.pointer none))
theorem begin_any (L : List Bx) (v : Value) (w : World) (h : IsBxs w v L) (hL : L.length ≤ 100000000) : Calls Try.prog 35 #[v] w (BeginPost L w) := by
  by_cases hc : (chkS L).2 = 0
  · have HC := Lib.hid hc
    clear hc
    go_enter Try.func35, Try.ntmps35
    go_wp2_with (first
      | (go_at_call 32; refine (ofs_any L v _ h (by omega)).mono ?_; rintro e w1 ⟨v1, rfl, hv1, hb1⟩; have HV1 := Lib.hid hv1; have HB1 := Lib.hid hb1; clear hv1 hb1)
      | (go_at_call 31; refine (build_any L v1 _ HV1.out hL).mono ?_; rintro e w2 ⟨hb2, hk, _⟩; obtain ⟨rfl, ht⟩ := hk HC.out; have HB2 := Lib.hid hb2; have HT := Lib.hid ht; clear hb2 ht hk))
    go_ret
    exact ⟨HB1.out.trans (HB2.out.mono HB1.out.size), fun _ => ⟨_, rfl, HT.out⟩, fun hn => absurd HC.out hn⟩
  · have hne : ((chkS L).2 != 0) = true := by simpa using hc
    have HC := Lib.hid hc
    clear hc
    go_enter Try.func35, Try.ntmps35
    go_wp2_with (first
      | (go_at_call 32; refine (ofs_any L v _ h (by omega)).mono ?_; rintro e w1 ⟨v1, rfl, hv1, hb1⟩; have HV1 := Lib.hid hv1; have HB1 := Lib.hid hb1; clear hv1 hb1)
      | (go_at_call 31; refine (build_any L v1 _ HV1.out hL).mono ?_; rintro e w2 ⟨hb2, _, hk⟩; obtain rfl := hk HC.out; have HB2 := Lib.hid hb2; clear hb2 hk))
    go_ret
    exact ⟨HB1.out.trans (HB2.out.mono HB1.out.size), fun h0 => absurd h0 HC.out, fun _ => rfl⟩
end Go.Proofs.Ytpjngnkcjccbcaa
