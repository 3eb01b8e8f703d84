/- The contract of the reference's Check of layer 6. -/
import Derived.Test.YtpjngnkcjccbcaaTp
import Derived.Test.YtpjngnkcjccbcaaRec
namespace Go.Proofs.Ytpjngnkcjccbcaa
set_option linter.unusedSimpArgs false
set_option linter.unusedVariables false
open Go.RowKit
attribute [local go_sem] run_eq4
theorem ret_two {a b c d : Int} (h : a = c) (k : b = d) : Ending.returned (.tuple #[.int .i64 a, .int .i64 b]) = .returned (.tuple #[.int .i64 c, .int .i64 d]) := by rw [h, k]
theorem run_neq4 (a0 a1 a2 a3 b0 b1 b2 b3 : Int) (w : World) :
    (binOp .neq 22 (.agg #[.int .i64 a0, .int .i64 a1, .int .i64 a2, .int .i64 a3]) (.agg #[.int .i64 b0, .int .i64 b1, .int .i64 b2, .int .i64 b3])).run Try.prog w = .ok (.bool (!(a0 == b0 && (a1 == b1 && (a2 == b2 && a3 == b3))))) w := by
  simp only [binOp]
  simp [Op.equal, Op.maxDepth, run_eq4]
attribute [local go_sem] run_neq4
theorem good_succ {L : List Bx} {q : Nat} (h : Good L q) (hb : badS L q = 0) : Good L (q + 1) := fun j hj => by
  by_cases e : j = q
  · rw [e]; exact hb
  · exact h j (by omega)
set_option maxRecDepth 100000 in
set_option maxHeartbeats 4000000 in
theorem check06 (L : List Bx) (B off cap : Nat) (A : Option Addr) (w : World) (hA : 0 < L.length → A = some ⟨B, off, none⟩) (hb : Bxs w B off L) (hL : L.length ≤ 1000000000000) :
    Calls Try.prog 33 #[.slice A L.length cap] w fun e w' => e = .returned (.tuple #[.int .i64 (chkS L).1, .int .i64 (chkS L).2]) ∧ Below w.heap.size w w' := by
  by_cases hz : L.length = 0
  · have hc : Hid (chkS L = (-1, 15)) := by show chkS L = _; unfold chkS; rw [if_pos hz]
    have hn : ((L.length : Int) == 0) = true := by simp [hz]
    clear hz hA hb hL
    go_enter Try.func33, Try.ntmps33
    go_wp2
    go_ret2
    exact ⟨ret_two (by rw [hc.out]) (by rw [hc.out]), Below.refl _ _⟩
  · have hc : Hid (chkS L = chkUp L 0) := by show chkS L = _; unfold chkS; rw [if_neg hz]
    have hn : ((L.length : Int) == 0) = false := by simp [hz]
    have hBlt := hb.lt (by omega)
    have HB := Lib.hid hb
    obtain rfl := hA (by omega)
    clear hA hb hz
    go_enter Try.func33, Try.ntmps33
    go_wp2
    go_loopw [4] (fun v wr => ∃ q : Nat, q ≤ L.length ∧ v = .int .i64 q ∧ Hid (Good L q) ∧ Hid (chkS L = chkUp L q) ∧ Hid (Below w.heap.size w wr)) (fun v _ => L.length - (intOf v).toNat)
    case atStart => exact ⟨0, by omega, rfl, fun j hj => absurd hj (by omega), hc, Below.refl _ _⟩
    case round =>
      clear hc hn
      obtain ⟨q, hq, rfl, hg, hp, hW⟩ := hrel
      have hx := chkUp_eq L q
      by_cases hlt : q < L.length
      · rw [if_pos hlt] at hx
        have hw := HB.out.below hW.out hBlt
        have hsz := hW.out.size
        obtain ⟨⟨a0, a1, a2, a3⟩, ⟨a4, a5⟩, ⟨a6, a7, a8, a9⟩, ⟨a10, a11, a12, a13⟩⟩ := hw q hlt
        have HW := Lib.hid hw
        clear hw
        by_cases e65 : q = 65536
        · have h65 : ((q : Int) == 65536) = true := by simp [e65]
          have hb3 : badS L q = 3 := by unfold badS; rw [if_pos e65]
          rw [if_pos (by rw [hb3]; decide), hb3] at hx
          have HX := Lib.hid hx
          clear e65 hb3 hx
          go_wp2
          go_ret2
          exact ⟨ret_two (by rw [hp.out, HX.out]) (by rw [hp.out, HX.out]), hW.out.alloc hsz _⟩
        · have h65 : ((q : Int) == 65536) = false := by simp; omega
          by_cases hr : rchk (at_ L q) = 0
          · have hck := fun w => rchk_any (at_ L q) w
            rw [hr] at hck
            have HCK := Lib.hid hck
            by_cases h0 : q = 0
            · subst h0
              simp only [Nat.zero_mul, Nat.add_zero] at a0 a1 a2 a3 a4 a5 a6 a7 a8 a9 a10 a11 a12 a13
              have hbq : badS L 0 = if rootBad (at_ L 0) = true then 12 else 0 := by
                unfold badS
                rw [if_neg e65, if_neg (by simpa using hr), if_pos rfl]
              have HX := Lib.hid hx
              have HBQ := Lib.hid hbq
              clear hx hbq hck hr e65
              go_wp2_with (go_at_call 16; refine (HCK.out _).mono ?_; rintro e w2 ⟨rfl, hb2⟩; have HB2 := Lib.hid hb2; have hsz2 := hb2.size; have hc0 := fun o => hb2.cell (p := ⟨wr.heap.size, o, none⟩) (by simp; done); clear hb2)
              all_goals (try simp only [Bool.not_eq_true', beq_eq_false_iff_ne, ne_eq] at *)
              all_goals (try simp only [Bool.not_eq_true', Bool.not_eq_false', beq_iff_eq, beq_eq_false_iff_ne, ne_eq] at *)
              all_goals by_cases hrb : rootBad (at_ L 0) = true
              all_goals have hrc := hrb
              all_goals simp only [rootBad, decide_eq_true_eq] at hrc
              all_goals first | (exfalso; clear HB2 hsz2 hc0; omega) | skip
              any_goals
                go_ret2
                have hb12 : badS L 0 = 12 := by rw [HBQ.out, if_pos hrb]
                exact ⟨ret_two (by rw [hp.out, HX.out, if_pos (by rw [hb12]; decide)]; rfl) (by rw [hp.out, HX.out, if_pos (by rw [hb12]; decide), hb12]), (hW.out.alloc hsz _).trans (HB2.out.mono (by simp; omega))⟩
              have hb0 : badS L 0 = 0 := by rw [HBQ.out, if_neg hrb]
              go_roundw
              case rel => exact ⟨1, by omega, rfl, good_succ hg.out hb0, hp.out.trans (by rw [HX.out, if_neg (by rw [hb0]; decide)]), (hW.out.alloc hsz _).trans (HB2.out.mono (by simp; omega))⟩
              case measure => simp [intOf]; omega
            · obtain ⟨m, rfl⟩ : ∃ m, q = m + 1 := ⟨q - 1, by omega⟩
              have h0' : (((m + 1 : Nat) : Int) == 0) = false := by simp; omega
              have hd : 0 ≤ (at_ L (m + 1)).d ∧ (at_ L (m + 1)).d ≤ 256 := rchk_dep hr
              have hd1 : 0 ≤ (at_ L m).d ∧ (at_ L m).d ≤ 256 := good_dep hg.out (show m < m + 1 by omega)
              have hbq : badS L (m + 1) = if dep L (m + 1) = 0 ∨ dep L m + 1 < dep L (m + 1) then 12 else if fitsB (knd L (parentS L (m + 1)).toNat) (knd L (m + 1)) = true then 0 else 12 := by
                unfold badS
                rw [if_neg e65, if_neg (by simpa using hr), if_neg h0]
                rfl
              have hq1 : m < L.length := by omega
              have p0 : wr.cell? ⟨B, off + m * 14, none⟩ = some (.int .i64 (at_ L m).d) := (HW.out m hq1).1.1
              have hne : (wr.heap.size == B) = false := by simp; omega
              have hm0 : (0 : Int) ≤ (m : Int) := by omega
              have hm9 : (m : Int) < (L.length : Int) := by omega
              have hwr : IntKind.i64.wrap (m : Int) = (m : Int) := IntWalk.i64_in _ (by omega)
              by_cases hbad : (at_ L (m + 1)).d = 0
              · have hb0 : ((at_ L (m + 1)).d == 0) = true := by simp [hbad]
                rw [if_pos (.inl hbad)] at hbq
                rw [if_pos (by rw [hbq]; decide), hbq] at hx
                have HX := Lib.hid hx
                clear hx hbq hck hr e65 hbad
                go_wp2_with (go_at_call 16; refine (HCK.out _).mono ?_; rintro e w2 ⟨rfl, hb2⟩; have HB2 := Lib.hid hb2; have hsz2 := hb2.size; have hc0 := fun o => hb2.cell (p := ⟨wr.heap.size, o, none⟩) (by simp; done); have hc1 := fun o => (hb2.cell (p := ⟨B, o, none⟩) (by simp; omega)).trans (World.cell?_alloc_lt wr _ ⟨B, o, none⟩ (by show B < _; omega)); clear hb2)
                go_quiet (fail)
                go_wp2_with fail
                go_ret2
                exact ⟨ret_two (by rw [hp.out, HX.out]; rfl) (by rw [hp.out, HX.out]), below_drewN ((hW.out.alloc hsz _).trans (HB2.out.mono (by simp; omega))) _⟩
              · have hb0 : ((at_ L (m + 1)).d == 0) = false := by simp [hbad]
                by_cases hbig : (at_ L m).d + 1 < (at_ L (m + 1)).d
                · have hb1 : decide ((at_ L m).d + 1 < (at_ L (m + 1)).d) = true := by simpa using hbig
                  rw [if_pos (.inr hbig)] at hbq
                  rw [if_pos (by rw [hbq]; decide), hbq] at hx
                  have HX := Lib.hid hx
                  clear hx hbq hck hr e65 hbad
                  go_wp2_with (go_at_call 16; refine (HCK.out _).mono ?_; rintro e w2 ⟨rfl, hb2⟩; have HB2 := Lib.hid hb2; have hsz2 := hb2.size; have hc0 := fun o => hb2.cell (p := ⟨wr.heap.size, o, none⟩) (by simp; done); have hc1 := fun o => (hb2.cell (p := ⟨B, o, none⟩) (by simp; omega)).trans (World.cell?_alloc_lt wr _ ⟨B, o, none⟩ (by show B < _; omega)); clear hb2)
                  go_quiet (fail)
                  go_wp2_with fail
                  go_ret2
                  exact ⟨ret_two (by rw [hp.out, HX.out]; rfl) (by rw [hp.out, HX.out]), below_drewN ((hW.out.alloc hsz _).trans (HB2.out.mono (by simp; omega))) _⟩
                · have hb1 : decide ((at_ L m).d + 1 < (at_ L (m + 1)).d) = false := by simpa using hbig
                  rw [if_neg (by intro h; rcases h with h | h; exact hbad h; exact hbig h)] at hbq
                  have hpf := parent_found hg.out (Nat.succ_pos m) (show 1 ≤ (at_ L (m + 1)).d by omega) (show (at_ L (m + 1)).d ≤ (at_ L m).d + 1 by omega)
                  have hpl := parentS_lt L (m + 1)
                  obtain ⟨r, hr1⟩ := Int.eq_ofNat_of_zero_le hpf
                  have hr2 : r < L.length := by omega
                  have hr3 : r ≤ m := by omega
                  rw [hr1] at hbq
                  have hpar := fun w h => parent_any L B off cap (m + 1) w h hlt hL (show -1000 ≤ (at_ L (m + 1)).d ∧ (at_ L (m + 1)).d ≤ 1000 by omega)
                  rw [hr1] at hpar
                  have HPAR := Lib.hid hpar
                  have k0 : wr.cell? ⟨B, off + r * 14 + 1, none⟩ = some (.int .i64 (at_ L r).k) := (HW.out r hr2).1.2.1
                  have hr0 : (0 : Int) ≤ (r : Int) := by omega
                  have hr9 : (r : Int) < (L.length : Int) := by omega
                  simp only [Int.toNat_natCast] at hbq
                  have hpar2 : ∀ W, Below w.heap.size w W → Calls Try.prog 41 #[.slice (some ⟨B, off, none⟩) L.length cap, .int .i64 ((m : Int) + 1)] W fun e w' => e = .returned (.int .i64 r) ∧ Below W.heap.size W w' := fun W hb => HPAR.out W (HB.out.below hb hBlt)
                  have HP2 := Lib.hid hpar2
                  have hfit := fun W => rfits_any (at_ L r).k (at_ L (m + 1)).k W
                  have hbq2 : badS L (m + 1) = if fitsB (at_ L r).k (at_ L (m + 1)).k = true then 0 else 12 := hbq
                  have hpar2 : ∀ W, Below w.heap.size w W → Calls Try.prog 41 #[.slice (some ⟨B, off, none⟩) L.length cap, .int .i64 ((m : Int) + 1)] W fun e w' => e = .returned (.int .i64 r) ∧ Below W.heap.size W w' := fun W hb => HPAR.out W (HB.out.below hb hBlt)
                  have HP2 := Lib.hid hpar2
                  by_cases hfb : fitsB (at_ L r).k (at_ L (m + 1)).k = true
                  · rw [if_pos hfb] at hbq2
                    rw [hfb] at hfit
                    have HF := Lib.hid hfit
                    have HX := Lib.hid hx
                    have HBQ := Lib.hid hbq2
                    clear hfit hx hbq hbq2 hfb hck hr e65 hbad hbig hpar hpar2 hr1 hpf hpl
                    go_wp2_with (go_at_call 16; refine (HCK.out _).mono ?_; rintro e w2 ⟨rfl, hb2⟩; have HB2 := Lib.hid hb2; have hsz2 := hb2.size; have hc0 := fun o => hb2.cell (p := ⟨wr.heap.size, o, none⟩) (by simp; done); have hc1 := fun o => (hb2.cell (p := ⟨B, o, none⟩) (by simp; omega)).trans (World.cell?_alloc_lt wr _ ⟨B, o, none⟩ (by show B < _; omega)); clear hb2)
                    go_quiet (fail)
                    have hb3 := below_drewN ((hW.out.alloc hsz _).trans (HB2.out.mono (by simp; omega))) nq
                    have HB3 := Lib.hid hb3
                    clear hb3
                    have hz1 : wr.heap.size < w2.heap.size := by simp at hsz2; omega
                    have hz2 : B < w2.heap.size := by omega
                    clear hsz2
                    go_wp2_with fail
                    (refine wp_region_grow (by kernel_rfl) (by kernel_rfl) ?_; (repeat (first | (refine wpQuiet_no (by rfl) ?_; go_simp) | (refine wpQuiet_val (by rfl) _ (by intro wq hq; have hcq := (bcell hq).1; have hc0 := fun o => hcq (wr.heap.size) o (by first | omega | (simp; done) | (simp; omega)); (try have hz0 : wr.heap.size < wq.heap.size := (by omega)); have hc1 := fun o => hcq (B) o (by first | omega | (simp; done) | (simp; omega)); (try have hz1 : B < wq.heap.size := (by omega)); go_simp; rfl) ?_; go_simp) | (refine wpQuiet_call (by rfl) _ _ (by intro wq hq; have hcq := (bcell hq).1; have hc0 := fun o => hcq (wr.heap.size) o (by first | omega | (simp; done) | (simp; omega)); (try have hz0 : wr.heap.size < wq.heap.size := (by omega)); have hc1 := fun o => hcq (B) o (by first | omega | (simp; done) | (simp; omega)); (try have hz1 : B < wq.heap.size := (by omega)); go_simp; exact ⟨rfl, rfl⟩) _ (by intro wq hq; first | (go_at_call 41; exact Calls.grow hq (HP2.out _ (Below.on (Lies.below hq) HB3.out HB3.out.size))) | (go_at_call 28; exact Calls.grow hq (HF.out _))) ?_; go_simp))); refine wpQuiet_nil ?_; intro wy hbx; have hzx := hbx.size; obtain ⟨hcx, hfx⟩ := bcell hbx; have hbx' := Lies.below hbx; (try simp [Nat.add_one_le_iff] at hzx); have hc0 := fun o => hcx (wr.heap.size) o (by first | omega | (simp; done) | (simp; omega)); (try have hz0 : wr.heap.size < wy.heap.size := (by omega)); have hc1 := fun o => hcx (B) o (by first | omega | (simp; done) | (simp; omega)); (try have hz1 : B < wy.heap.size := (by omega)))
                    go_wp2_with fail
                    go_roundw
                    case rel => exact ⟨m + 2, by omega, by go_num, good_succ hg.out HBQ.out, hp.out.trans (by rw [HX.out, if_neg (by rw [HBQ.out]; decide)]), Below.on hbx' HB3.out HB3.out.size⟩
                    case measure => simp [intOf]; omega
                  · rw [if_neg hfb] at hbq2
                    rw [show fitsB (at_ L r).k (at_ L (m + 1)).k = false from by simpa using hfb] at hfit
                    have HF := Lib.hid hfit
                    have HX := Lib.hid hx
                    have HBQ := Lib.hid hbq2
                    clear hfit hx hbq hbq2 hfb hck hr e65 hbad hbig hpar hpar2 hr1 hpf hpl
                    go_wp2_with (go_at_call 16; refine (HCK.out _).mono ?_; rintro e w2 ⟨rfl, hb2⟩; have HB2 := Lib.hid hb2; have hsz2 := hb2.size; have hc0 := fun o => hb2.cell (p := ⟨wr.heap.size, o, none⟩) (by simp; done); have hc1 := fun o => (hb2.cell (p := ⟨B, o, none⟩) (by simp; omega)).trans (World.cell?_alloc_lt wr _ ⟨B, o, none⟩ (by show B < _; omega)); clear hb2)
                    go_quiet (fail)
                    have hb3 := below_drewN ((hW.out.alloc hsz _).trans (HB2.out.mono (by simp; omega))) nq
                    have HB3 := Lib.hid hb3
                    clear hb3
                    have hz1 : wr.heap.size < w2.heap.size := by simp at hsz2; omega
                    have hz2 : B < w2.heap.size := by omega
                    clear hsz2
                    go_wp2_with fail
                    (refine wp_region_grow (by kernel_rfl) (by kernel_rfl) ?_; (repeat (first | (refine wpQuiet_no (by rfl) ?_; go_simp) | (refine wpQuiet_val (by rfl) _ (by intro wq hq; have hcq := (bcell hq).1; have hc0 := fun o => hcq (wr.heap.size) o (by first | omega | (simp; done) | (simp; omega)); (try have hz0 : wr.heap.size < wq.heap.size := (by omega)); have hc1 := fun o => hcq (B) o (by first | omega | (simp; done) | (simp; omega)); (try have hz1 : B < wq.heap.size := (by omega)); go_simp; rfl) ?_; go_simp) | (refine wpQuiet_call (by rfl) _ _ (by intro wq hq; have hcq := (bcell hq).1; have hc0 := fun o => hcq (wr.heap.size) o (by first | omega | (simp; done) | (simp; omega)); (try have hz0 : wr.heap.size < wq.heap.size := (by omega)); have hc1 := fun o => hcq (B) o (by first | omega | (simp; done) | (simp; omega)); (try have hz1 : B < wq.heap.size := (by omega)); go_simp; exact ⟨rfl, rfl⟩) _ (by intro wq hq; first | (go_at_call 41; exact Calls.grow hq (HP2.out _ (Below.on (Lies.below hq) HB3.out HB3.out.size))) | (go_at_call 28; exact Calls.grow hq (HF.out _))) ?_; go_simp))); refine wpQuiet_nil ?_; intro wy hbx; have hzx := hbx.size; obtain ⟨hcx, hfx⟩ := bcell hbx; have hbx' := Lies.below hbx; (try simp [Nat.add_one_le_iff] at hzx); have hc0 := fun o => hcx (wr.heap.size) o (by first | omega | (simp; done) | (simp; omega)); (try have hz0 : wr.heap.size < wy.heap.size := (by omega)); have hc1 := fun o => hcx (B) o (by first | omega | (simp; done) | (simp; omega)); (try have hz1 : B < wy.heap.size := (by omega)))
                    go_wp2_with fail
                    go_ret2
                    exact ⟨ret_two (by rw [hp.out, HX.out, if_pos (by rw [HBQ.out]; decide)]; rfl) (by rw [hp.out, HX.out, if_pos (by rw [HBQ.out]; decide), HBQ.out]), Below.on hbx' HB3.out HB3.out.size⟩
          · have hne : (rchk (at_ L q) != 0) = true := by simpa using hr
            have hbq : badS L q = rchk (at_ L q) := by unfold badS; rw [if_neg e65, if_pos hr]
            rw [if_pos (by rw [hbq]; exact hr), hbq] at hx
            have HX := Lib.hid hx
            clear hx hbq hr e65
            go_wp2_with (go_at_call 16; refine (rchk_any (at_ L q) _).mono ?_; rintro e w2 ⟨rfl, hb2⟩; have HB2 := Lib.hid hb2; clear hb2)
            go_ret2
            exact ⟨ret_two (by rw [hp.out, HX.out]) (by rw [hp.out, HX.out]), (hW.out.alloc hsz _).trans (HB2.out.mono (by simp; omega))⟩
      · rw [if_neg hlt] at hx
        have HX := Lib.hid hx
        clear hx
        go_wp2
        go_ret2
        exact ⟨ret_two (by rw [hp.out, HX.out]) (by rw [hp.out, HX.out]), hW.out⟩
end Go.Proofs.Ytpjngnkcjccbcaa
