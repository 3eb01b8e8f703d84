/- The document's answer for spaces: Last, Cleared, Bottom, Clear. -/
import Derived.Test.YtnkbbobdhcloeaaSpr
namespace Go.Proofs.Ytnkbbobdhcloeaa
set_option linter.unusedSimpArgs false
set_option linter.unusedVariables false
open Go.RowKit
theorem last_take (L : List Fo) (i : Nat) (hi : i < L.length) : lastS (L.take (i + 1)) = rch (lastS (L.take i)) (foAt L i).y0 := by
  rw [List.take_succ_eq_append_getElem hi, lastS_snoc, foAt_eq L i hi]
theorem bot_take (c : Int) (L : List Fo) (i : Nat) (hi : i < L.length) : botS c (L.take (i + 1)) = bt1 c (foAt L i) (botS c (L.take i)) := by
  rw [List.take_succ_eq_append_getElem hi, botS_snoc, foAt_eq L i hi]
set_option maxRecDepth 20000 in
set_option maxHeartbeats 2000000 in
theorem rlast_any (L : List Fo) (v : Value) (w : World) (h : IsFos w v L) (hn : L.length ≤ maxLen) : Calls Try.prog 62 #[v] w (EdgePost (lastS L) w) := by
  obtain ⟨A, cap0, rfl, hx1, hx2⟩ := id h
  have HA := Lib.hid hx2
  unfold maxLen at hn
  clear hx1 hx2 h
  unfold EdgePost
  obtain ⟨⟨q1, q2⟩, hq⟩ : ∃ q, lastS L = q := ⟨_, rfl⟩
  have hsm := (lastS_some L).1
  rw [hq] at hsm ⊢
  have HQ := Lib.hid hq
  have HSM := Lib.hid hsm
  clear hq hsm
  go_enter Try.func62, Try.ntmps62
  go_wp2_with fail
  go_loop [4, 5] (fun n x => ∃ (i : Nat), i ≤ L.length ∧ x = .int .i64 i ∧ n = .int .i64 (lastS (L.take i)).1) (fun _ x => L.length - (intOf x).toNat)
  case atStart => exact ⟨0, by omega, rfl, rfl⟩
  case round =>
    obtain ⟨i, hi, rfl, rfl⟩ := hrel
    by_cases hlt : i < L.length
    · obtain ⟨g, o, rfl, hg, hs⟩ := HA.out (by omega)
      obtain ⟨u0, u1, u2, u3, u4⟩ := fo_cells (hs i hlt)
      have hst := last_take L i hlt
      have hsm := (lastS_some (L.take i)).1
      have hci : (((i : Int) == 0) = true ∧ (lastS (L.take i)).2 = false) ∨ (((i : Int) == 0) = false ∧ (lastS (L.take i)).2 = true) := by
        rw [hsm, List.length_take]
        by_cases h0 : i = 0
        · left; subst h0; exact ⟨rfl, by simp⟩
        · right; exact ⟨by rw [beq_eq_false_iff_ne]; omega, decide_eq_true (by omega)⟩
      generalize lastS (L.take i) = st at *
      obtain ⟨sn, stt⟩ := st
      have hrc := rch_cases sn (foAt L i).y0 stt
      have hst1 := congrArg Prod.fst hst
      have HST := Lib.hid hst1
      clear hs hst hst1 hsm
      generalize (foAt L i).s = fs at *
      generalize (foAt L i).x0 = f0 at *
      generalize (foAt L i).y0 = f1 at *
      generalize (foAt L i).x1 = f2 at *
      generalize (foAt L i).y1 = f3 at *
      simp only at hci
      rcases hci with ⟨d0, rfl⟩ | ⟨d0, rfl⟩
      · have hr : (rch (sn, false) f1).1 = f1 := by unfold rch; simp
        rw [hr] at HST
        clear hrc hr
        go_wp2_with fail
        go_round
        case rel => exact ⟨i + 1, by omega, by go_num, by rw [HST.out]⟩
        case measure => simp [intOf]; omega
      · rcases hrc with ⟨k, _⟩ | ⟨_, d1, e⟩ | ⟨_, d1, e⟩
        · simp at k
        · rw [e] at HST
          clear e
          go_wp2_with fail
          go_round
          case rel => exact ⟨i + 1, by omega, by go_num, by rw [HST.out]⟩
          case measure => simp [intOf]; omega
        · rw [e] at HST
          clear e
          go_wp2_with fail
          go_round
          case rel => exact ⟨i + 1, by omega, by go_num, by rw [HST.out]⟩
          case measure => simp [intOf]; omega
    · have hil : i = L.length := by omega
      subst hil
      rw [List.take_length, HQ.out]
      have hsm := HSM.out
      simp only at hsm ⊢
      clear HSM
      by_cases h0 : 0 < L.length
      · rw [decide_eq_true h0] at hsm
        subst hsm
        go_wp2_with fail
        go_ret2
        exact ⟨rfl, Below.refl _ _⟩
      · rw [decide_eq_false h0] at hsm
        subst hsm
        have hl0 : L.length = 0 := by omega
        go_wp2_with fail
        go_ret2
        exact ⟨by simp, Below.refl _ _⟩
def clearedB (c s : Int) : Bool := decide (c = 3 ∨ (c ≠ 0 ∧ c = s))
theorem cleared_any (c s : Int) (w : World) : Calls Try.prog 86 #[.int .i64 c, .int .i64 s] w fun e w' => e = .returned (.bool (clearedB c s)) ∧ w = w' := by
  have hd : ((c == 3) = true ∧ clearedB c s = true) ∨ ((c == 3) = false ∧ (c != 0) = false ∧ clearedB c s = false) ∨ ((c == 3) = false ∧ (c != 0) = true ∧ (c == s) = true ∧ clearedB c s = true) ∨ ((c == 3) = false ∧ (c != 0) = true ∧ (c == s) = false ∧ clearedB c s = false) := by
    unfold clearedB
    by_cases h1 : c = 3
    · left; exact ⟨by simp [h1], decide_eq_true (.inl h1)⟩
    · right
      by_cases h2 : c = 0
      · left; exact ⟨by simp [h1], by simp [h2], decide_eq_false (by omega)⟩
      · right
        by_cases h3 : c = s
        · left; exact ⟨by simp [h1], by simp [h2], by simp [h3], decide_eq_true (by omega)⟩
        · right; exact ⟨by simp [h1], by simp [h2], by simp [h3], decide_eq_false (by omega)⟩
  rcases hd with ⟨d1, k⟩ | ⟨d1, d2, k⟩ | ⟨d1, d2, d3, k⟩ | ⟨d1, d2, d3, k⟩
  all_goals
    rw [k]
    clear k
    go_enter Try.func86, Try.ntmps86
    go_wp2
    go_ret
    exact ⟨rfl, rfl⟩
theorem bt1_cleared {c : Int} {f : Fo} (h : f.s = 1 ∨ f.s = 2) (e : Int × Bool) : bt1 c f e = if clearedB c f.s = true then rch e f.y1 else e := by
  unfold bt1 clearedB
  by_cases k : c = f.s ∨ c = 3
  · rw [if_pos k, if_pos (decide_eq_true (by omega))]
  · rw [if_neg k, decide_eq_false (by omega)]
    rfl
set_option maxRecDepth 20000 in
set_option maxHeartbeats 2000000 in
theorem rbottom_any (L : List Fo) (v : Value) (c : Int) (w : World) (h : IsFos w v L) (hn : L.length ≤ maxLen) (hsd : ∀ f ∈ L, f.s = 1 ∨ f.s = 2) : Calls Try.prog 76 #[v, .int .i64 c] w (EdgePost (botS c L) w) := by
  obtain ⟨A, cap0, rfl, hx1, hx2⟩ := id h
  have HA := Lib.hid hx2
  have HSD := Lib.hid hsd
  unfold maxLen at hn
  clear hx1 hx2 h hsd
  unfold EdgePost
  obtain ⟨⟨q1, q2⟩, hq⟩ : ∃ q, botS c L = q := ⟨_, rfl⟩
  rw [hq]
  have HQ := Lib.hid hq
  clear hq
  go_enter Try.func76, Try.ntmps76
  go_wp2_with fail
  go_loop [6, 7, 8] (fun n b x => ∃ (i : Nat), i ≤ L.length ∧ x = .int .i64 i ∧ n = .int .i64 (botS c (L.take i)).1 ∧ b = .bool (botS c (L.take i)).2) (fun _ _ x => L.length - (intOf x).toNat)
  case atStart => exact ⟨0, by omega, rfl, rfl, rfl⟩
  case round =>
    obtain ⟨i, hi, rfl, rfl, rfl⟩ := hrel
    by_cases hlt : i < L.length
    · obtain ⟨g, o, rfl, hg, hs⟩ := HA.out (by omega)
      obtain ⟨u0, u1, u2, u3, u4⟩ := fo_cells (hs i hlt)
      have hst := bot_take c L i hlt
      rw [bt1_cleared (by rw [foAt_eq L i hlt]; exact HSD.out _ (List.getElem_mem hlt))] at hst
      have hcl := fun w => cleared_any c (foAt L i).s w
      generalize botS c (L.take i) = st at *
      obtain ⟨sn, stt⟩ := st
      have hrc := rch_cases sn (foAt L i).y1 stt
      have HST := Lib.hid hst
      clear hs hst
      generalize clearedB c (foAt L i).s = cc at *
      generalize (foAt L i).s = fs at *
      generalize (foAt L i).x0 = f0 at *
      generalize (foAt L i).y0 = f1 at *
      generalize (foAt L i).x1 = f2 at *
      generalize (foAt L i).y1 = f3 at *
      have HCL := Lib.hid hcl
      clear hcl
      cases cc with
      | false =>
        rw [if_neg (by simp)] at HST
        clear hrc
        go_wp2_with (go_at_call 86; refine (HCL.out _).mono ?_; rintro e w' ⟨rfl, rfl⟩)
        go_round
        case rel => exact ⟨i + 1, by omega, by go_num, by rw [HST.out], by rw [HST.out]⟩
        case measure => simp [intOf]; omega
      | true =>
        rw [if_pos rfl] at HST
        rcases hrc with ⟨rfl, e⟩ | ⟨rfl, d1, e⟩ | ⟨rfl, d1, e⟩
        all_goals
          rw [e] at HST
          clear e
          go_wp2_with (go_at_call 86; refine (HCL.out _).mono ?_; rintro e w' ⟨rfl, rfl⟩)
          go_round
          case rel => exact ⟨i + 1, by omega, by go_num, by rw [HST.out], by rw [HST.out]⟩
          case measure => simp [intOf]; omega
    · have hil : i = L.length := by omega
      subst hil
      rw [List.take_length, HQ.out]
      go_wp2_with fail
      go_ret2
      exact ⟨rfl, Below.refl _ _⟩
set_option maxRecDepth 20000 in
theorem rclear_any (L : List Fo) (v : Value) (c y : Int) (w : World) (h : IsFos w v L) (hn : L.length ≤ maxLen) (hsd : ∀ f ∈ L, f.s = 1 ∨ f.s = 2) : Calls Try.prog 61 #[v, .int .i64 c, .int .i64 y] w (IntPost (clrS c L y) w) := by
  have hb := fun w h => rbottom_any L v c w h hn hsd
  unfold clrS
  unfold EdgePost at hb
  unfold IntPost
  generalize botS c L = q at *
  obtain ⟨a, t⟩ := q
  have HBT := Lib.hid hb
  have HH := Lib.hid h
  clear hb h hsd hn
  cases t with
  | false =>
    rw [if_neg (by simp)]
    go_enter Try.func61, Try.ntmps61
    go_wp2_with (go_at_call 76; refine (HBT.out _ HH.out).mono ?_; rintro e w1 ⟨rfl, hb1⟩; have HB1 := Lib.hid hb1; clear hb1)
    go_ret
    exact ⟨rfl, HB1.out⟩
  | true =>
    rw [if_pos rfl]
    by_cases hy : y < a
    · have hd : decide (y < a) = true := decide_eq_true hy
      rw [show max y a = a by omega]
      clear hy
      go_enter Try.func61, Try.ntmps61
      go_wp2_with (go_at_call 76; refine (HBT.out _ HH.out).mono ?_; rintro e w1 ⟨rfl, hb1⟩; have HB1 := Lib.hid hb1; clear hb1)
      go_ret
      exact ⟨rfl, HB1.out⟩
    · have hd : decide (y < a) = false := decide_eq_false hy
      rw [show max y a = y by omega]
      clear hy
      go_enter Try.func61, Try.ntmps61
      go_wp2_with (go_at_call 76; refine (HBT.out _ HH.out).mono ?_; rintro e w1 ⟨rfl, hb1⟩; have HB1 := Lib.hid hb1; clear hb1)
      go_ret
      exact ⟨rfl, HB1.out⟩
end Go.Proofs.Ytnkbbobdhcloeaa
