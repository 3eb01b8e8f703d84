/- The contract of (*shelf.List).After. -/
import Derived.Test.YtecojcdmigmnhaaNw
namespace Go.Proofs.Ytecojcdmigmnhaa
set_option linter.unusedSimpArgs false
set_option linter.unusedVariables false
open Go.RowKit
def AftPost (F : List Sh) (y : Int) (w : World) (e : Ending) (w' : World) : Prop :=
  e = .returned (.tuple (if below F y < F.length then #[.int .i64 (shAt F (below F y)).t, .bool true] else #[.int .i64 0, .bool false])) ∧ Below w.heap.size w w'
set_option maxRecDepth 20000 in
set_option maxHeartbeats 4000000 in
theorem after_any (F : List Sh) (y : Int) (base lp : Nat) (w : World) (h : ListIs w base lp F) (hs : Asc F) (hL : F.length ≤ 1000000000) (h0 : 0 < F.length) :
    Calls Try.prog 58 #[.pointer (some ⟨lp, 0, none⟩), .int .i64 y] w (AftPost F y w) := by
  obtain ⟨v, q1, q2, q3⟩ := h
  have hv := isShs_of_own q3 rfl
  have hc : w.cell? ⟨lp, 0, none⟩ = some v := by rw [cell_of_row w lp 0 _ _ (0, 0) q1]; rfl
  obtain ⟨g, cap, rfl, hcp, hg, hgl⟩ := own_form q3 h0 rfl
  have hsh := shs_of_own q3
  have hlp : lp < w.heap.size := (Array.getElem?_eq_some_iff.1 q1).1
  have HB := Lib.hid (fun w hv => bsearch_after F y (.slice (some ⟨g, 0, none⟩) F.length cap) w hv hs hL h0)
  have HV := Lib.hid hv
  have HSH := Lib.hid hsh
  have hle := above_le F y
  have hba := below_at (F := F) (y := y)
  have hfl : foundB F y = true → above F y < F.length := fun hb => by unfold foundB at hb; simp at hb; exact hb.1
  obtain ⟨k, hk⟩ : ∃ k, above F y = k := ⟨_, rfl⟩
  obtain ⟨m, hm⟩ : ∃ m, below F y = m := ⟨_, rfl⟩
  rw [hk] at hba hle HB hfl
  rw [hm] at hba
  have hmle : m ≤ F.length := by
    split at hba
    · have := hfl (by assumption)
      omega
    · omega
  unfold AftPost
  rw [hm]
  clear q1 q3 hs hk hm
  by_cases hlt : m < F.length
  · obtain ⟨c0, _, _⟩ := hsh.cells hlt
    simp only [Nat.zero_add] at c0
    rw [if_pos hlt]
    clear hv hsh
    cases hb : foundB F y with
    | true =>
      rw [hb] at hba HB
      rw [if_pos rfl] at hba
      subst hba
      have hw1 : IntKind.i64.wrap ((k : Int) + 1) = ((k + 1 : Nat) : Int) := by rw [IntKind.wrap_i64]; omega
      clear hb hfl hmle
      generalize (shAt F (k + 1)).t = st at *
      go_enter Try.func58, Try.ntmps58
      go_wp2_with fail
      refine (HB.out w HV.out).mono ?_
      rintro e w1 ⟨rfl, hb1⟩
      have hc1 := (hb1.cell (p := ⟨lp, 0, none⟩) hlp).trans hc
      have c1 := (hb1.cell (p := ⟨g, (k + 1) * 3, none⟩) hgl).trans c0
      have HB1 := Lib.hid hb1
      clear hb1 hc c0
      go_wp2_with fail
      refine bodyPost_ret (v := .tuple #[.int .i64 st, .bool true]) (by simp [results, Try.results58, go_sem]) rfl ⟨rfl, HB1.out⟩
    | false =>
      rw [hb] at hba HB
      rw [if_neg (by simp)] at hba
      subst hba
      clear hb hfl hmle hle
      generalize (shAt F m).t = st at *
      go_enter Try.func58, Try.ntmps58
      go_wp2_with fail
      refine (HB.out w HV.out).mono ?_
      rintro e w1 ⟨rfl, hb1⟩
      have hc1 := (hb1.cell (p := ⟨lp, 0, none⟩) hlp).trans hc
      have c1 := (hb1.cell (p := ⟨g, m * 3, none⟩) hgl).trans c0
      have HB1 := Lib.hid hb1
      clear hb1 hc c0
      go_wp2_with fail
      refine bodyPost_ret (v := .tuple #[.int .i64 st, .bool true]) (by simp [results, Try.results58, go_sem]) rfl ⟨rfl, HB1.out⟩
  · have hme : F.length = m := by omega
    rw [if_neg hlt]
    clear hv hsh hlt hmle
    generalize F.length = n at *
    subst hme
    cases hb : foundB F y with
    | true =>
      rw [hb] at hba HB
      rw [if_pos rfl] at hba
      have hw1 : IntKind.i64.wrap ((k : Int) + 1) = (n : Int) := by rw [IntKind.wrap_i64]; omega
      clear hb hfl hba
      go_enter Try.func58, Try.ntmps58
      go_wp2_with fail
      refine (HB.out w HV.out).mono ?_
      rintro e w1 ⟨rfl, hb1⟩
      have hc1 := (hb1.cell (p := ⟨lp, 0, none⟩) hlp).trans hc
      have HB1 := Lib.hid hb1
      clear hb1 hc
      go_wp2_with fail
      refine bodyPost_ret (v := .tuple #[.int .i64 0, .bool false]) (by simp [results, Try.results58, go_sem]) rfl ⟨rfl, HB1.out⟩
    | false =>
      rw [hb] at hba HB
      rw [if_neg (by simp)] at hba
      subst hba
      clear hb hfl hle
      go_enter Try.func58, Try.ntmps58
      go_wp2_with fail
      refine (HB.out w HV.out).mono ?_
      rintro e w1 ⟨rfl, hb1⟩
      have hc1 := (hb1.cell (p := ⟨lp, 0, none⟩) hlp).trans hc
      have HB1 := Lib.hid hb1
      clear hb1 hc
      go_wp2_with fail
      refine bodyPost_ret (v := .tuple #[.int .i64 0, .bool false]) (by simp [results, Try.results58, go_sem]) rfl ⟨rfl, HB1.out⟩
end Go.Proofs.Ytecojcdmigmnhaa
