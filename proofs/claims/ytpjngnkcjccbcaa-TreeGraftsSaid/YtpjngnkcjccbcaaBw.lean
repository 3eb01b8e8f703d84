/- The contract of tree.Build. -/
import Derived.Test.YtpjngnkcjccbcaaBu
import Derived.Deep.RegionHeld3
namespace Go.Proofs.Ytpjngnkcjccbcaa
set_option linter.unusedSimpArgs false
set_option linter.unusedVariables false
open Go.RowKit
set_option maxRecDepth 100000 in
set_option maxHeartbeats 4000000 in
theorem build_walk (L : List Bx) (A : Option Addr) (B off cap : Nat) (w : World) (hA : 0 < L.length → A = some ⟨B, off, none⟩) (hb : Bxs w B off L) (hL : L.length ≤ 100000000) (hpos : 0 < L.length) :
    Calls Try.prog 31 #[.slice A L.length cap] w (BuildPost L w) := by
  obtain rfl := hA hpos
  have hBlt := hb.lt hpos
  have HB := Lib.hid hb
  have hn : ((L.length : Int) == 0) = false := beq_eq_false_iff_ne.2 (by omega)
  have hc : Hid (chkS L = chkUp L 0) := by show chkS L = _; unfold chkS; rw [if_neg (by omega)]
  have h00 : BInv L w 0 (.slice none 0 0) (w.alloc (.cells #[.slice none 0 0] 77)) := BInv.zero L w
  have H00 := Lib.hid h00
  clear hb hA h00
  go_enter Try.func31, Try.ntmps31
  go_wp2
  go_loopw [6, 20] (fun pv v wr => ∃ k : Nat, k ≤ L.length ∧ v = .int .i64 k ∧ Hid (BInv L w k pv wr) ∧ Hid (Good L k) ∧ Hid (chkS L = chkUp L k) ∧ Hid (Below w.heap.size w wr)) (fun _ v _ => L.length - (intOf v).toNat)
  case atStart => exact ⟨0, by omega, rfl, H00.out, fun j hj => absurd hj (by omega), hc, (Below.refl _ _).alloc (Nat.le_refl _) _⟩
  case round =>
    clear hc hn
    obtain ⟨k, hk, rfl, hI, hg, hp, hW⟩ := hrel
    have hx := chkUp_eq L k
    by_cases hlt : k < L.length
    · rw [if_pos hlt] at hx
      have hsz := hW.out.size
      obtain ⟨nv, ns, htw, hns⟩ := hI.out
      have hlen : ns.length = k := by have := congrArg List.length hns; simpa [NS_len] using this
      have hbox : wr.rangeAt B (off + k * 14) [.int .i64 (at_ L k).d, .int .i64 (at_ L k).k, .int .i64 (at_ L k).s, .int .i64 (at_ L k).c, .int .i64 (at_ L k).w, .int .i64 (at_ L k).h, .int .i64 (at_ L k).m0, .int .i64 (at_ L k).m1, .int .i64 (at_ L k).m2, .int .i64 (at_ L k).m3, .int .i64 (at_ L k).e0, .int .i64 (at_ L k).e1, .int .i64 (at_ L k).e2, .int .i64 (at_ L k).e3] := (HB.out.below hW.out hBlt).range hlt
      have HBOX := Lib.hid hbox
      have hck : ∀ W, Below wr.heap.size wr W → Calls Try.prog 56 #[.pointer (some ⟨w.heap.size, 0, none⟩), .agg #[.int .i64 (at_ L k).d, .int .i64 (at_ L k).k, .int .i64 (at_ L k).s, .int .i64 (at_ L k).c, .int .i64 (at_ L k).w, .int .i64 (at_ L k).h, .int .i64 (at_ L k).m0, .int .i64 (at_ L k).m1, .int .i64 (at_ L k).m2, .int .i64 (at_ L k).m3, .int .i64 (at_ L k).e0, .int .i64 (at_ L k).e1, .int .i64 (at_ L k).e2, .int .i64 (at_ L k).e3], .int .i64 (parV L k)] W fun e w' => e = .returned (.int .i64 (badS L k)) ∧ Below W.heap.size W w' :=
        fun W hW' => check_bad L k w.heap.size w.heap.size nv ns W (htw.below hW').tb hns hg.out hlt hL
      -- the path
      obtain ⟨Ap, capp, hpv, hcapp, hpA⟩ := htw.pth.reads
      have hpl : (ints (pathK L k)).length = (pathK L k).length := by simp [ints]
      have hplk : (pathK L k).length ≤ 300 := by
        obtain ⟨i1, i2⟩ := pathK_facts k hg.out k (Nat.le_refl _)
        rcases Nat.eq_zero_or_pos k with h0 | h0
        · subst h0; simp [pathK]
        · have := i1 h0
          have := good_dep hg.out (show k - 1 < k by omega)
          omega
      rw [hpl] at hpv hcapp hpA
      have HTW := Lib.hid htw
      have HNS := Lib.hid hns
      have HI := Lib.hid hI
      clear hI
      by_cases hin : 1 ≤ dep L k ∧ dep L k ≤ ((pathK L k).length : Int)
      · have hpar : parV L k = parentS L k := by unfold parV; rw [if_pos hin]
        obtain ⟨m, hm⟩ : ∃ m : Nat, (at_ L k).d = (m : Int) + 1 := ⟨(dep L k - 1).toNat, by show dep L k = _; omega⟩
        have hmp : m + 1 ≤ (pathK L k).length := by have := hin.2; have : dep L k = (m : Int) + 1 := hm; omega
        obtain ⟨g0, o0, rfl, hg0, hcell0⟩ := hpA (by omega)
        obtain ⟨r, hr⟩ : ∃ r, (pathK L k)[m]'(by omega) = r := ⟨_, rfl⟩
        have hrk : r < k := by
          obtain ⟨_, i2⟩ := pathK_facts k hg.out k (Nat.le_refl _)
          have := (i2 m (by omega)).1
          omega
        have hrp : parentS L k = (r : Int) := by
          have h := pathK_parent hg.out (Nat.le_refl k) hin.1 hin.2
          rw [← h, show (dep L k).toNat - 1 = m by have : dep L k = (m : Int) + 1 := hm; omega]
          simp [List.getD_eq_getElem?_getD, List.getElem?_eq_getElem (show m < (pathK L k).length by omega), hr]
        have hcm : wr.cell? ⟨g0, o0 + m, none⟩ = some (.int .i64 (r : Int)) := by
          rw [hcell0 m (by omega)]
          simp [ints, List.getD_eq_getElem?_getD, List.getElem?_map, List.getElem?_eq_getElem (show m < (pathK L k).length by omega), hr]
        rw [hpar, hrp, hm] at hck
        rw [hm] at hbox
        have HBOX := Lib.hid hbox
        have hi1 : (1 : Int) ≤ (m : Int) + 1 := by omega
        have hi2 : (m : Int) + 1 ≤ ((pathK L k).length : Int) := by omega
        have hi3 : decide ((m : Int) + 1 ≤ ((pathK L k).length : Int)) = true := by simpa using hi2
        have hi4 : (m : Int) < ((pathK L k).length : Int) := by omega
        have hi5 : (m : Int) + 1 ≤ (capp : Int) := by omega
        by_cases hbad : badS L k = 0
        · rw [if_neg (by simpa using hbad)] at hx
          rw [hbad] at hck
          have HCK := Lib.hid hck
          have HX := Lib.hid hx
          have HBAD := Lib.hid hbad
          have HRP := Lib.hid hrp
          have HM := Lib.hid hm
          have HPL := Lib.hid hpl
          subst hpv
          clear hck hx hbad hpar hpA hns htw hbox hlen hin hm hrp hcell0 hr hpl
          go_wp2_with (first
            | ((with_reducible refine load_mid (dst := some 24) 28 (.tmp 23) B (off + k * 14) _ _ ?_ HBOX.out Try.underlying28 ?_ ?_ ?_); rfl; rfl; exact boxInfo; simp only [Act.put, List.setIfInBounds_toArray, List.set_cons_zero, List.set_cons_succ])
            | ((with_reducible refine store_new (dst := none) 28 (.tmp 8) (.tmp 24) wr _ _ 28 rfl ?_ ?_ ?_ ?_ ?_ ?_); rfl; rfl; exact boxInfo; rfl; (simp [Value.oneCell']))
            | (go_at_call 56; refine (HCK.out _ ((Below.refl _ _).alloc (Nat.le_refl _) _)).mono ?_; rintro e w2 ⟨rfl, hb2⟩; have HB2 := Lib.hid hb2; have hg2 := (hb2.block wr.heap.size (by simp; done)).trans (heap_alloc_new wr _); have HG2 := Lib.hid hg2; have hs2 := hb2.size; have hc2 := fun o => hb2.cell (p := ⟨wr.heap.size, o, none⟩) (by simp; done); have HT2 := Lib.hid ((HTW.out.below ((Below.refl _ _).alloc (Nat.le_refl _) _)).below hb2); clear hb2 hg2)
            | (at_builtin; refine app1 _ (by rfl) (.tmp 52) (.tmp 54) (by rfl) w.heap.size (cutV (.slice (some ⟨g0, o0, none⟩) (pathK L k).length capp) (m + 1)) ((ints (pathK L k)).take (m + 1)) (by rfl) (by exact (HT2.out.pth.cut (by rw [HPL.out]; omega)).alloc _) _ 1 (by rfl) k (by exact cell_new rfl rfl) (by simp; omega) (by simp at hs2 ⊢; omega) ?_; intro v3 w3 hI3 hg3 ha3; have HI3 := Lib.hid hI3; have HG3 := Lib.hid hg3; have HA3 := Lib.hid ha3; clear hI3 hg3 ha3))
          have htw2 := HT2.out.below ((Below.refl w2.heap.size w2).alloc (Nat.le_refl _) (.cells #[.int .i64 (k : Int)] 3))
          have hT3 := htw2.path_app (by rw [HPL.out]; omega) HI3.out HG3.out HA3.out
          have hblk3 : w3.heap[wr.heap.size]? = some (.cells #[.int .i64 ((m : Int) + 1), .int .i64 (at_ L k).k, .int .i64 (at_ L k).s, .int .i64 (at_ L k).c, .int .i64 (at_ L k).w, .int .i64 (at_ L k).h, .int .i64 (at_ L k).m0, .int .i64 (at_ L k).m1, .int .i64 (at_ L k).m2, .int .i64 (at_ L k).m3, .int .i64 (at_ L k).e0, .int .i64 (at_ L k).e1, .int .i64 (at_ L k).e2, .int .i64 (at_ L k).e3] 28 (0, 0)) :=
            (HG3.out.block wr.heap.size (by simp at hs2 ⊢; omega) (fun e => by
              rw [cut_own] at e
              injection e with e
              omega)).trans ((Below.heap_alloc w2 _ wr.heap.size (by simp at hs2; omega)).trans HG2.out)
          have hnb : nv.ownBlock ≠ some w.heap.size := fun e => by
            obtain ⟨cs, hh⟩ := own_type hT3.tb.own e
            exact type_ne hh hT3.tb.blk (by decide)
          have hnx : nv.ownBlock ≠ some wr.heap.size := fun e => by
            obtain ⟨cs, hh⟩ := own_type hT3.tb.own e
            exact type_ne hh hblk3 (by decide)
          have hB3 : Below w.heap.size w w3 := (((hW.out.alloc hsz _).trans (HB2.out.mono (by simp; omega))).alloc (by simp at hs2; omega) _).grown HG3.out (by simp at hs2 ⊢; omega) (fun g hg => (htw2.pth.lt (by rw [cutV_own] at hg; exact hg)).1)
          have hs3 : wr.heap.size < w3.heap.size := (Array.getElem?_eq_some_iff.1 hblk3).1
          have hns := HNS.out
          have hlen : ns.length = k := by have := congrArg List.length hns; simpa [NS_len] using this
          have hwi : ∀ W, Below w3.heap.size w3 W → Calls Try.prog 57 #[.pointer (some ⟨w.heap.size, 0, none⟩), .int .i64 r] W fun e w' => e = .returned (.int .i64 (ctxS L k)) ∧ W = w' :=
            fun W hW' => within_ctx L k r w.heap.size w.heap.size nv ns W (hT3.below hW').tb hns HRP.out (by omega) (by omega)
          have HWI := Lib.hid hwi
          have hown3 := fun W (hW' : Below w3.heap.size w3 W) => own_below hT3.tb.own hW'
          have HO3 := Lib.hid hown3
          have HT3 := Lib.hid hT3
          have HB3 := Lib.hid hB3
          have hc3 : w3.cell? ⟨w.heap.size, 0, none⟩ = some nv := hT3.tb.cell0
          have hb3_0 : w3.cell? ⟨wr.heap.size, 0, none⟩ = some (.int .i64 ((m : Int) + 1)) := by rw [cell_of_row _ _ 0 _ _ _ hblk3]; rfl
          have hb3_1 : w3.cell? ⟨wr.heap.size, 1, none⟩ = some (.int .i64 ((at_ L k).k)) := by rw [cell_of_row _ _ 1 _ _ _ hblk3]; rfl
          have hb3_2 : w3.cell? ⟨wr.heap.size, 2, none⟩ = some (.int .i64 ((at_ L k).s)) := by rw [cell_of_row _ _ 2 _ _ _ hblk3]; rfl
          have hb3_3 : w3.cell? ⟨wr.heap.size, 3, none⟩ = some (.int .i64 ((at_ L k).c)) := by rw [cell_of_row _ _ 3 _ _ _ hblk3]; rfl
          have hb3_4 : w3.cell? ⟨wr.heap.size, 4, none⟩ = some (.int .i64 ((at_ L k).w)) := by rw [cell_of_row _ _ 4 _ _ _ hblk3]; rfl
          have hb3_5 : w3.cell? ⟨wr.heap.size, 5, none⟩ = some (.int .i64 ((at_ L k).h)) := by rw [cell_of_row _ _ 5 _ _ _ hblk3]; rfl
          have hb3_6 : w3.cell? ⟨wr.heap.size, 6, none⟩ = some (.int .i64 ((at_ L k).m0)) := by rw [cell_of_row _ _ 6 _ _ _ hblk3]; rfl
          have hb3_7 : w3.cell? ⟨wr.heap.size, 7, none⟩ = some (.int .i64 ((at_ L k).m1)) := by rw [cell_of_row _ _ 7 _ _ _ hblk3]; rfl
          have hb3_8 : w3.cell? ⟨wr.heap.size, 8, none⟩ = some (.int .i64 ((at_ L k).m2)) := by rw [cell_of_row _ _ 8 _ _ _ hblk3]; rfl
          have hb3_9 : w3.cell? ⟨wr.heap.size, 9, none⟩ = some (.int .i64 ((at_ L k).m3)) := by rw [cell_of_row _ _ 9 _ _ _ hblk3]; rfl
          have hb3_10 : w3.cell? ⟨wr.heap.size, 10, none⟩ = some (.int .i64 ((at_ L k).e0)) := by rw [cell_of_row _ _ 10 _ _ _ hblk3]; rfl
          have hb3_11 : w3.cell? ⟨wr.heap.size, 11, none⟩ = some (.int .i64 ((at_ L k).e1)) := by rw [cell_of_row _ _ 11 _ _ _ hblk3]; rfl
          have hb3_12 : w3.cell? ⟨wr.heap.size, 12, none⟩ = some (.int .i64 ((at_ L k).e2)) := by rw [cell_of_row _ _ 12 _ _ _ hblk3]; rfl
          have hb3_13 : w3.cell? ⟨wr.heap.size, 13, none⟩ = some (.int .i64 ((at_ L k).e3)) := by rw [cell_of_row _ _ 13 _ _ _ hblk3]; rfl
          have hf3 : w3.frozen? ⟨w.heap.size, 0, none⟩ = false := frozen_of_row _ _ 0 _ _ hT3.tb.blk
          have hbt3 : w.heap.size < w3.heap.size := by omega
          have hnd : ndP (newK L k, Value.slice none 0 0) = [.int .i64 ((m : Int) + 1), .int .i64 (at_ L k).k, .int .i64 (at_ L k).s, .int .i64 (at_ L k).c, .int .i64 (at_ L k).w, .int .i64 (at_ L k).h, .int .i64 (at_ L k).m0, .int .i64 (at_ L k).m1, .int .i64 (at_ L k).m2, .int .i64 (at_ L k).m3, .int .i64 (at_ L k).e0, .int .i64 (at_ L k).e1, .int .i64 (at_ L k).e2, .int .i64 (at_ L k).e3, .int .i64 r, .int .i64 0, .int .i64 (ctxS L k), .slice none 0 0] := by simp [ndP, ndL, newK, HM.out, HRP.out]
          have HND := Lib.hid hnd
          clear hnd
          have H15 : S15 w.heap.size wr.heap.size nv ((m : Int) + 1) (at_ L k) w3 := ⟨hf3, hc3, hb3_0, hb3_1, hb3_2, hb3_3, hb3_4, hb3_5, hb3_6, hb3_7, hb3_8, hb3_9, hb3_10, hb3_11, hb3_12, hb3_13⟩
          obtain ⟨i0, hi0, hz0, hz1, hz2⟩ := info_parts nodeInfo2
          have HI0 := Lib.hid hi0
          have HZ0 := Lib.hid hz0
          have HZ1 := Lib.hid hz1
          have HZ2 := Lib.hid hz2
          have HLEN := Lib.hid hlen
          clear htw2 hT3 hB3 hwi hown3 hns hi0 hz0 hz1 hz2 hblk3 hcm hc2 hs2 hlen
          go_cut [] (fun wc => ∃ nv', TW wc w.heap.size w.heap.size nv' (ns ++ [(newK L k, Value.slice none 0 0)]) v3 (List.take (m + 1) (ints (pathK L k)) ++ [(k : Int)]) ∧ Below w.heap.size w wc)
          case first =>
            go_region_law (first
                | (refine step_call (P := Try.prog) rfl 57 #[.pointer (some ⟨w.heap.size, 0, none⟩), .int .i64 r] (.int .i64 (ctxS L k)) (by first | rfl | go_simp) (HWI.out _ (by first | exact Below.refl _ _ | exact (Below.refl _ _).drew)) ?_)
                | (refine step_append_lies _ rfl (.tmp 60) (.tmp 67) 75 rfl w.heap.size 80 i0 _ 18 160 Try.underlying75 HI0.out HZ0.out HZ1.out HZ2.out rfl (by omega) nv ns.length (flat ndP ns) (by rfl) (HO3.out _ (by (repeat (first | exact Below.refl _ _ | (refine Below.alloc ?_ (by first | omega | (simp; done) | (simp; omega)) _) | (refine Below.on (by assumption) ?_ (by first | omega | (simp; done) | (simp; omega))) | (refine Below.grown ?_ (by assumption) (by first | omega | (simp; done) | (simp; omega)) (by intro k hk; cases hk)) | refine Below.drew ?_)))) ⟨w3.heap.size, 0, none⟩ 1 1 [.int .i64 ((m : Int) + 1), .int .i64 (at_ L k).k, .int .i64 (at_ L k).s, .int .i64 (at_ L k).c, .int .i64 (at_ L k).w, .int .i64 (at_ L k).h, .int .i64 (at_ L k).m0, .int .i64 (at_ L k).m1, .int .i64 (at_ L k).m2, .int .i64 (at_ L k).m3, .int .i64 (at_ L k).e0, .int .i64 (at_ L k).e1, .int .i64 (at_ L k).e2, .int .i64 (at_ L k).e3, .int .i64 r, .int .i64 0, .int .i64 (ctxS L k), .slice none 0 0] (by rfl) (by rfl) (World.news_of_block (cs := #[.int .i64 ((m : Int) + 1), .int .i64 (at_ L k).k, .int .i64 (at_ L k).s, .int .i64 (at_ L k).c, .int .i64 (at_ L k).w, .int .i64 (at_ L k).h, .int .i64 (at_ L k).m0, .int .i64 (at_ L k).m1, .int .i64 (at_ L k).m2, .int .i64 (at_ L k).m3, .int .i64 (at_ L k).e0, .int .i64 (at_ L k).e1, .int .i64 (at_ L k).e2, .int .i64 (at_ L k).e3, .int .i64 r, .int .i64 0, .int .i64 (ctxS L k), .slice none 0 0]) (t := 80) (fr := (0, 0)) (heap_alloc_new w3 _)) (by simp [Value.oneCell']) (by omega) (by unfold maxLen; have := HLEN.out; omega) (by have := HLEN.out; omega) (by simp; omega) (w3.heap.size + 1) (by simp) ?_; intro g4 cap4 w4 hown4 hgrow4 hat4 hlt4; have h154 : S15 w.heap.size wr.heap.size nv ((m : Int) + 1) (at_ L k) w4 := (by first | exact S15.gr (H15.al hbt3 hs3 _).dr hgrow4 (by simp; omega) (by simp; omega) hnb hnx | exact S15.gr (H15.al hbt3 hs3 _) hgrow4 (by simp; omega) (by simp; omega) hnb hnx); have hf4 := h154.1; have hc4 := h154.2.1; clear h154))
            all_goals (go_wp2_with fail; go_meet)
            all_goals
              case rel =>
                have hown5 : w4.ownsRow w.heap.size 80 18 (.slice (some ⟨g4, 0, none⟩) (ns.length + 1) cap4) (ns ++ [(newK L k, Value.slice none 0 0)]).length (flat ndP (ns ++ [(newK L k, Value.slice none 0 0)])) := by
                  rw [flat_snoc, HND.out, List.length_append, List.length_singleton]
                  exact hown4
                have hpre : ∀ W, Below w3.heap.size w3 W → W.grownBy w4 nv.ownBlock → TW (w4.setCell ⟨w.heap.size, 0, none⟩ (.slice (some ⟨g4, 0, none⟩) (ns.length + 1) cap4)) w.heap.size w.heap.size (.slice (some ⟨g4, 0, none⟩) (ns.length + 1) cap4) (ns ++ [(newK L k, Value.slice none 0 0)]) v3 (List.take (m + 1) (ints (pathK L k)) ++ [(k : Int)]) ∧
                    Below w.heap.size w (w4.setCell ⟨w.heap.size, 0, none⟩ (.slice (some ⟨g4, 0, none⟩) (ns.length + 1) cap4)) := fun W hW hgr => by
                  obtain ⟨q1, q2⟩ := (HT3.out.below hW).node_app (nd := newK L k) rfl hown5 hgr (by have := hW.size; omega)
                  exact ⟨q1, (HB3.out.trans (hW.mono (by omega))).trans q2⟩
                exact ⟨_, hpre _ (by (repeat (first | exact Below.refl _ _ | (refine Below.alloc ?_ (by first | omega | (simp; done) | (simp; omega)) _) | (refine Below.on (by assumption) ?_ (by first | omega | (simp; done) | (simp; omega))) | (refine Below.grown ?_ (by assumption) (by first | omega | (simp; done) | (simp; omega)) (by intro k hk; cases hk)) | refine Below.drew ?_))) hgrow4⟩
          obtain ⟨nv', hT5, hB5⟩ := hcut
          -- the parent's list of children
          have hlen5 : (ns ++ [(newK L k, Value.slice none 0 0)]).length = k + 1 := by rw [List.length_append, HLEN.out]; rfl
          obtain ⟨A5, cap5, hnv5, hA5⟩ := hT5.tb.form
          obtain ⟨g5, rfl⟩ := hA5 (by omega)
          rw [hlen5] at hnv5
          subst hnv5
          generalize hns5 : ns ++ [(newK L k, Value.slice none 0 0)] = ns5 at *
          have hr5 : r < ns5.length := by omega
          have hc5 : wc.cell? ⟨w.heap.size, 0, none⟩ = some (.slice (some ⟨g5, 0, none⟩) (k + 1) cap5) := hT5.tb.cell0
          have hT5' := hT5
          rw [← hlen5] at hT5'
          have hck5 : wc.cell? ⟨g5, r * 18 + 17, none⟩ = some (ns5[r]).2 := by rw [hT5'.tb.at_ r 17 hr5 (by omega)]; rfl
          have hkid := hT5.kid r hr5
          have hapk := hT5.ap
          have hpak := hT5.pa
          have hs5 := hB5.size
          obtain ⟨cs5, hh5⟩ := own_type hT5'.tb.own rfl
          have hf5 : wc.frozen? ⟨g5, r * 18 + 17, none⟩ = false := frozen_of_row _ _ _ _ _ hh5
          have hbg : ¬ (w.heap.size = g5) := fun e => by
            subst e
            exact type_ne hT5.tb.blk hh5 (by decide)
          have hg5 : g5 < wc.heap.size := (Array.getElem?_eq_some_iff.1 hh5).1
          have hnk : (ns5[r]).2.ownBlock ≠ some g5 := fun e => by
            obtain ⟨cs, hh⟩ := ints_type hkid e
            exact type_ne hh5 hh (by decide)
          have HT5 := Lib.hid hT5'
          have HB5 := Lib.hid hB5
          have HNS5 := Lib.hid hns5
          have HK5 := Lib.hid hkid
          have HLEN5 := Lib.hid hlen5
          have hkl : (ns5[r]).1.ch.length ≤ k := by
            have h1 : (ns5[r]).1 = (ns[r]'(by have := HLEN.out; omega)).1 := by
              subst hns5
              rw [List.getElem_append_left]
            rw [h1, node_of HNS.out (by have := HLEN.out; omega) hrk]
            have := kidsTo_len L r (min (endS L r) k)
            show (kidsTo L r (min (endS L r) k)).length ≤ k
            omega
          have hr0 : (0 : Int) ≤ (r : Int) := by omega
          have hr9 : (r : Int) < ((k + 1 : Nat) : Int) := by omega
          have hr10 : (r : Int) < (k : Int) + 1 := by omega
          have hnt : (ns5[r]).2.ownBlock ≠ some w.heap.size := fun e => by
            obtain ⟨cs, hh⟩ := ints_type hkid e
            exact type_ne hT5.tb.blk hh (by decide)
          have hbt5 : w.heap.size < wc.heap.size := hT5.tb.lt
          generalize hcv : (ns5[r]).2 = cvr at *
          have HCV := Lib.hid hcv
          generalize hchr : (ns5[r]).1.ch = chr at *
          have HCHR := Lib.hid hchr
          clear hns5 hlen5 hT5 hT5' hB5 hkid hapk hpak hA5 hh5 hchr hcv
          obtain ⟨i3, hi3, hz3, hz31, hz32⟩ := info_parts intInfo'
          have HI3' := Lib.hid hi3
          have HZ3 := Lib.hid hz3
          have HZ31 := Lib.hid hz31
          have HZ32 := Lib.hid hz32
          clear hi3 hz3 hz31 hz32
          go_wp2_with fail
          go_cut [] (fun wd => ∃ v', TW wd w.heap.size w.heap.size (.slice (some ⟨g5, 0, none⟩) ns5.length cap5) (ns5.set r ({ (ns5[r]).1 with ch := (ns5[r]).1.ch ++ [(k : Int)] }, v')) v3 (List.take (m + 1) (ints (pathK L k)) ++ [(k : Int)]) ∧ Below w.heap.size w wd)
          case first =>
            refine wp_region_held_drew (S := fun w' => w'.cell? ⟨w.heap.size, 0, none⟩ = some (.slice (some ⟨g5, 0, none⟩) (k + 1) cap5)) (by kernel_rfl) hc5 (fun hHeld => ?_)
            refine wpAnyH_take (i := 0) (v := ?_) rfl (by kernel_rfl) (by kernel_rfl) (by kernel_rfl) (fun _ _ _ h => h) (Or.inl ⟨by rfl, ?_⟩) (by assumption) ?_
            rotate_left
            focus ((intro wS hSw; (try dsimp only at hSw); go_simp); (try (with_reducible rfl)))
            simp only [Act.put, List.getElem_toArray, List.getElem_cons_zero, List.getElem_cons_succ, List.setIfInBounds_toArray, List.set_cons_zero, List.set_cons_succ]
            refine wpAnyH_take (i := 1) (v := ?_) rfl (by kernel_rfl) (by kernel_rfl) (by kernel_rfl) (fun _ _ _ h => h) (Or.inl ⟨by rfl, ?_⟩) (by assumption) ?_
            rotate_left
            focus ((intro wS hSw; (try dsimp only at hSw); go_simp); (try (with_reducible rfl)))
            simp only [Act.put, List.getElem_toArray, List.getElem_cons_zero, List.getElem_cons_succ, List.setIfInBounds_toArray, List.set_cons_zero, List.set_cons_succ]
            refine wpAnyH_take (i := 2) (v := ?_) rfl (by kernel_rfl) (by kernel_rfl) (by kernel_rfl) (fun _ _ _ h => h) (Or.inl ⟨by rfl, ?_⟩) (by assumption) ?_
            rotate_left
            focus ((intro wS hSw; (try dsimp only at hSw); go_simp); (try (with_reducible rfl)))
            simp only [Act.put, List.getElem_toArray, List.getElem_cons_zero, List.getElem_cons_succ, List.setIfInBounds_toArray, List.set_cons_zero, List.set_cons_succ]
            refine wpAnyH_take (i := 4) (v := ?_) rfl (by kernel_rfl) (by kernel_rfl) (by kernel_rfl) (fun _ _ _ h => h) (Or.inl ⟨by rfl, ?_⟩) (by assumption) ?_
            rotate_left
            focus ((intro wS hSw; (try dsimp only at hSw); go_simp); (try (with_reducible rfl)))
            simp only [Act.put, List.getElem_toArray, List.getElem_cons_zero, List.getElem_cons_succ, List.setIfInBounds_toArray, List.set_cons_zero, List.set_cons_succ]
            refine wpAnyH_take (i := 5) (v := ?_) rfl (by kernel_rfl) (by kernel_rfl) (by kernel_rfl) (fun _ _ _ h => h) (Or.inl ⟨by rfl, ?_⟩) (by assumption) ?_
            rotate_left
            focus ((intro wS hSw; (try dsimp only at hSw); go_simp); (try (with_reducible rfl)))
            simp only [Act.put, List.getElem_toArray, List.getElem_cons_zero, List.getElem_cons_succ, List.setIfInBounds_toArray, List.set_cons_zero, List.set_cons_succ]
            refine wpAnyH_take (i := 6) (v := ?_) rfl (by kernel_rfl) (by kernel_rfl) (by kernel_rfl) (fun _ _ _ h => h) (Or.inl ⟨by rfl, ?_⟩) (by assumption) ?_
            rotate_left
            focus ((intro wS hSw; (try dsimp only at hSw); go_simp); (try (with_reducible rfl)))
            simp only [Act.put, List.getElem_toArray, List.getElem_cons_zero, List.getElem_cons_succ, List.setIfInBounds_toArray, List.set_cons_zero, List.set_cons_succ]
            refine wpAnyH_take (i := 7) (v := ?_) rfl (by kernel_rfl) (by kernel_rfl) (by kernel_rfl) (fun _ _ _ h => h) (Or.inl ⟨by rfl, ?_⟩) (by assumption) ?_
            rotate_left
            focus ((intro wS hSw; (try dsimp only at hSw); go_simp); (try (with_reducible rfl)))
            simp only [Act.put, List.getElem_toArray, List.getElem_cons_zero, List.getElem_cons_succ, List.setIfInBounds_toArray, List.set_cons_zero, List.set_cons_succ]
            refine wpAnyH_take (i := 9) (v := ?_) rfl (by kernel_rfl) (by kernel_rfl) (by kernel_rfl) (fun _ _ _ h => h) (Or.inl ⟨by rfl, ?_⟩) (by assumption) ?_
            rotate_left
            focus ((intro wS hSw; (try dsimp only at hSw); go_simp); (try (with_reducible rfl)))
            simp only [Act.put, List.getElem_toArray, List.getElem_cons_zero, List.getElem_cons_succ, List.setIfInBounds_toArray, List.set_cons_zero, List.set_cons_succ]
            refine wpAnyH_take (i := 13) (v := ?_) rfl (by kernel_rfl) (by kernel_rfl) (by kernel_rfl) (fun _ _ _ h => h) (Or.inl ⟨by rfl, ?_⟩) (by assumption) ?_
            rotate_left
            focus ((intro wS hSw; (try dsimp only at hSw); go_simp); (try (with_reducible rfl)))
            simp only [Act.put, List.getElem_toArray, List.getElem_cons_zero, List.getElem_cons_succ, List.setIfInBounds_toArray, List.set_cons_zero, List.set_cons_succ]
            refine wpAnyH_take (i := 3) (v := ?_) rfl (by kernel_rfl) (by kernel_rfl) (by kernel_rfl) (fun _ _ _ h => h) (Or.inl ⟨by rfl, ?_⟩) (by assumption) ?_
            rotate_left
            focus ((intro wS hSw; (try dsimp only at hSw); go_simp); (try (with_reducible rfl)))
            simp only [Act.put, List.getElem_toArray, List.getElem_cons_zero, List.getElem_cons_succ, List.setIfInBounds_toArray, List.set_cons_zero, List.set_cons_succ]
            refine wpAnyH_take (i := 8) (v := ?_) rfl (by kernel_rfl) (by kernel_rfl) (by kernel_rfl) (fun _ _ _ h => h) (Or.inl ⟨by rfl, ?_⟩) (by assumption) ?_
            rotate_left
            focus ((intro wS hSw; (try dsimp only at hSw); go_simp); (try (with_reducible rfl)))
            simp only [Act.put, List.getElem_toArray, List.getElem_cons_zero, List.getElem_cons_succ, List.setIfInBounds_toArray, List.set_cons_zero, List.set_cons_succ]
            refine wpAnyH_take (i := 10) (v := ?_) rfl (by kernel_rfl) (by kernel_rfl) (by kernel_rfl) (fun _ _ _ h => h) (Or.inl ⟨by rfl, ?_⟩) (by assumption) ?_
            rotate_left
            focus ((intro wS hSw; (try dsimp only at hSw); go_simp); (try (with_reducible rfl)))
            simp only [Act.put, List.getElem_toArray, List.getElem_cons_zero, List.getElem_cons_succ, List.setIfInBounds_toArray, List.set_cons_zero, List.set_cons_succ]
            refine wpAnyH_take (i := 11) (v := ?_) rfl (by kernel_rfl) (by kernel_rfl) (by kernel_rfl) (fun _ _ _ h => h) (Or.inl ⟨by rfl, ?_⟩) (by assumption) ?_
            rotate_left
            focus ((intro wS hSw; (try dsimp only at hSw); go_simp); (try (with_reducible rfl)))
            simp only [Act.put, List.getElem_toArray, List.getElem_cons_zero, List.getElem_cons_succ, List.setIfInBounds_toArray, List.set_cons_zero, List.set_cons_succ]
            refine wpAnyH_ready (rs := [12, 14]) (by kernel_rfl) (by simp) ?_
            refine AllReadyH.cons rfl (fun K hK => ?_) ?_
            · go_simp
              refine hK.out _ _ (by first | exact hc5) (fun hHeld => ?_)
              clear hK K
              (try simp only [Act.put, List.getElem_toArray, List.getElem_cons_zero, List.getElem_cons_succ, List.setIfInBounds_toArray, List.set_cons_zero, List.set_cons_succ])
              refine wpAnyH_ready (rs := [14]) (by kernel_rfl) (by simp) ?_
              refine AllReadyH.cons rfl (fun K hK => ?_) AllReadyH.nil
              go_simp
              refine hK.out _ _ (by first | exact (World.cell?_alloc_lt wc _ ⟨w.heap.size, 0, none⟩ hbt5).trans hc5) (fun hHeld => ?_)
              clear hK K
              (try simp only [Act.put, List.getElem_toArray, List.getElem_cons_zero, List.getElem_cons_succ, List.setIfInBounds_toArray, List.set_cons_zero, List.set_cons_succ])
              refine wpAnyH_ready (rs := [15]) (by kernel_rfl) (by simp) ?_
              refine AllReadyH.cons rfl (fun K hK => ?_) AllReadyH.nil
              refine step_append_lies _ rfl (.tmp 85) (.tmp 87) 52 rfl w.heap.size 3 i3 (.int .i64 0) 1 8 Try.underlying52 HI3'.out HZ3.out HZ31.out HZ32.out rfl (by omega) cvr chr.length (chr.map (Value.int .i64)) (by rfl) (own_below HK5.out (by (repeat (first | exact Below.refl _ _ | (refine Below.alloc ?_ (by first | omega | (simp; done) | (simp; omega)) _) | (refine Below.on (by assumption) ?_ (by first | omega | (simp; done) | (simp; omega))) | (refine Below.grown ?_ (by assumption) (by first | omega | (simp; done) | (simp; omega)) (by intro k hk; cases hk)) | refine Below.drew ?_)))) ⟨wc.heap.size, 0, none⟩ 1 1 [.int .i64 (k : Int)] (by rfl) (by rfl) (World.news_of_block (cs := #[.int .i64 (k : Int)]) (t := 3) (fr := (0, 0)) (heap_alloc_new wc _)) (by simp [Value.oneCell']) (by omega) (by unfold maxLen; omega) (by omega) (by simp; omega) (wc.heap.size + 1) (by simp) ?_; intro g6 cap6 w6 hown6 hgrow6 hat6 hlt6; have hc6 := (far2_cell (w := wc) (b := w.heap.size) (o := 0) (by (repeat (first | exact Below.refl _ _ | (refine Below.alloc ?_ (by first | omega | (simp; done) | (simp; omega)) _) | (refine Below.on (by assumption) ?_ (by first | omega | (simp; done) | (simp; omega))) | (refine Below.grown ?_ (by assumption) (by first | omega | (simp; done) | (simp; omega)) (by intro k hk; cases hk)) | refine Below.drew ?_))) hgrow6 hbt5 hnt).trans hc5; have hc7 := (far2_cell (w := wc) (b := g5) (o := r * 18 + 17) (by (repeat (first | exact Below.refl _ _ | (refine Below.alloc ?_ (by first | omega | (simp; done) | (simp; omega)) _) | (refine Below.on (by assumption) ?_ (by first | omega | (simp; done) | (simp; omega))) | (refine Below.grown ?_ (by assumption) (by first | omega | (simp; done) | (simp; omega)) (by intro k hk; cases hk)) | refine Below.drew ?_))) hgrow6 hg5 hnk).trans hck5; have hf7 := (far2_frozen (w := wc) (b := g5) (o := r * 18 + 17) (by (repeat (first | exact Below.refl _ _ | (refine Below.alloc ?_ (by first | omega | (simp; done) | (simp; omega)) _) | (refine Below.on (by assumption) ?_ (by first | omega | (simp; done) | (simp; omega))) | (refine Below.grown ?_ (by assumption) (by first | omega | (simp; done) | (simp; omega)) (by intro k hk; cases hk)) | refine Below.drew ?_))) hgrow6 hg5 hnk).trans hf5
              refine hK.out _ _ (by first | exact hc6) (fun hHeld => ?_)
              clear hK K
              (try simp only [Act.put, List.getElem_toArray, List.getElem_cons_zero, List.getElem_cons_succ, List.setIfInBounds_toArray, List.set_cons_zero, List.set_cons_succ])
              refine wpAnyH_take (i := 16) (v := ?_) rfl (by kernel_rfl) (by kernel_rfl) (by kernel_rfl) (fun _ _ _ h => h) (Or.inl ⟨by rfl, ?_⟩) (by assumption) ?_
              rotate_left
              focus ((intro wS hSw; (try dsimp only at hSw); go_simp); (try (with_reducible rfl)))
              simp only [Act.put, List.getElem_toArray, List.getElem_cons_zero, List.getElem_cons_succ, List.setIfInBounds_toArray, List.set_cons_zero, List.set_cons_succ]
              refine wpAnyH_take (i := 17) (v := ?_) rfl (by kernel_rfl) (by kernel_rfl) (by kernel_rfl) (fun _ _ _ h => h) (Or.inl ⟨by rfl, ?_⟩) (by assumption) ?_
              rotate_left
              focus ((intro wS hSw; (try dsimp only at hSw); go_simp); (try (with_reducible rfl)))
              simp only [Act.put, List.getElem_toArray, List.getElem_cons_zero, List.getElem_cons_succ, List.setIfInBounds_toArray, List.set_cons_zero, List.set_cons_succ]
              refine wpAnyH_ready (rs := [18]) (by kernel_rfl) (by simp) ?_
              refine AllReadyH.cons rfl (fun K hK => ?_) AllReadyH.nil
              go_simp
              refine hK.out _ _ (by first | exact (World.cell?_setCell_other w6 _ ⟨w.heap.size, 0, none⟩ _ (fun e => hbg (congrArg Addr.block e).symm)).trans hc6 | exact (World.cell?_setCell_other w6 _ ⟨w.heap.size, 0, none⟩ _ (fun e => hbg (congrArg Addr.block e))).trans hc6) (fun hHeld => ?_)
              clear hK K
              (try simp only [Act.put, List.getElem_toArray, List.getElem_cons_zero, List.getElem_cons_succ, List.setIfInBounds_toArray, List.set_cons_zero, List.set_cons_succ])
              refine wpAnyH_done (by kernel_rfl) ?_ _
              go_wp2_with fail
              go_meet
              case rel =>
                have hown7 : Ints w6 w.heap.size (.slice (some ⟨g6, 0, none⟩) (chr.length + 1) cap6) (chr ++ [(k : Int)]) := by
                  unfold Ints
                  simpa using hown6
                have hpre : ∀ W, Below wc.heap.size wc W → W.grownBy w6 cvr.ownBlock → (cvr.ownBlock = some g6 ∨ g6 = W.heap.size) → TW (w6.setCell ⟨g5, r * 18 + 17, none⟩ (.slice (some ⟨g6, 0, none⟩) (chr.length + 1) cap6)) w.heap.size w.heap.size (.slice (some ⟨g5, 0, none⟩) ns5.length cap5) (ns5.set r ({ (ns5[r]).1 with ch := (ns5[r]).1.ch ++ [(k : Int)] }, .slice (some ⟨g6, 0, none⟩) (chr.length + 1) cap6)) v3 (List.take (m + 1) (ints (pathK L k)) ++ [(k : Int)]) ∧ Below w.heap.size w (w6.setCell ⟨g5, r * 18 + 17, none⟩ (.slice (some ⟨g6, 0, none⟩) (chr.length + 1) cap6)) := fun W hW hgr hat => by
                  obtain ⟨q1, q2⟩ := (HT5.out.below hW).kid_app hr5 (by rw [HCHR.out]; exact hown7) (by rw [HCV.out]; exact hgr) (by rw [HCV.out]; rcases hat with h | h; exact .inl h.symm; exact .inr (by rw [h]; rfl)) (by have := hW.size; omega)
                  exact ⟨q1, (HB5.out.trans (hW.mono (by omega))).trans q2⟩
                exact ⟨_, hpre _ (by (repeat (first | exact Below.refl _ _ | (refine Below.alloc ?_ (by first | omega | (simp; done) | (simp; omega)) _) | (refine Below.on (by assumption) ?_ (by first | omega | (simp; done) | (simp; omega))) | (refine Below.grown ?_ (by assumption) (by first | omega | (simp; done) | (simp; omega)) (by intro k hk; cases hk)) | refine Below.drew ?_))) hgrow6 (by rcases hat6 with h | h; exact .inl h; exact .inr (by rw [h]; simp))⟩
            · refine AllReadyH.cons rfl (fun K hK => ?_) AllReadyH.nil
              go_simp
              refine hK.out _ _ (by first | exact (World.cell?_alloc_lt wc _ ⟨w.heap.size, 0, none⟩ hbt5).trans hc5) (fun hHeld => ?_)
              clear hK K
              (try simp only [Act.put, List.getElem_toArray, List.getElem_cons_zero, List.getElem_cons_succ, List.setIfInBounds_toArray, List.set_cons_zero, List.set_cons_succ])
              refine wpAnyH_ready (rs := [12]) (by kernel_rfl) (by simp) ?_
              refine AllReadyH.cons rfl (fun K hK => ?_) AllReadyH.nil
              go_simp
              refine hK.out _ _ (by first | exact (World.cell?_alloc_lt wc _ ⟨w.heap.size, 0, none⟩ hbt5).trans hc5) (fun hHeld => ?_)
              clear hK K
              (try simp only [Act.put, List.getElem_toArray, List.getElem_cons_zero, List.getElem_cons_succ, List.setIfInBounds_toArray, List.set_cons_zero, List.set_cons_succ])
              refine wpAnyH_ready (rs := [15]) (by kernel_rfl) (by simp) ?_
              refine AllReadyH.cons rfl (fun K hK => ?_) AllReadyH.nil
              refine step_append_lies _ rfl (.tmp 85) (.tmp 87) 52 rfl w.heap.size 3 i3 (.int .i64 0) 1 8 Try.underlying52 HI3'.out HZ3.out HZ31.out HZ32.out rfl (by omega) cvr chr.length (chr.map (Value.int .i64)) (by rfl) (own_below HK5.out (by (repeat (first | exact Below.refl _ _ | (refine Below.alloc ?_ (by first | omega | (simp; done) | (simp; omega)) _) | (refine Below.on (by assumption) ?_ (by first | omega | (simp; done) | (simp; omega))) | (refine Below.grown ?_ (by assumption) (by first | omega | (simp; done) | (simp; omega)) (by intro k hk; cases hk)) | refine Below.drew ?_)))) ⟨wc.heap.size, 0, none⟩ 1 1 [.int .i64 (k : Int)] (by rfl) (by rfl) (World.news_of_block (cs := #[.int .i64 (k : Int)]) (t := 3) (fr := (0, 0)) (heap_alloc_new wc _)) (by simp [Value.oneCell']) (by omega) (by unfold maxLen; omega) (by omega) (by simp; omega) (wc.heap.size + 1) (by simp) ?_; intro g6 cap6 w6 hown6 hgrow6 hat6 hlt6; have hc6 := (far2_cell (w := wc) (b := w.heap.size) (o := 0) (by (repeat (first | exact Below.refl _ _ | (refine Below.alloc ?_ (by first | omega | (simp; done) | (simp; omega)) _) | (refine Below.on (by assumption) ?_ (by first | omega | (simp; done) | (simp; omega))) | (refine Below.grown ?_ (by assumption) (by first | omega | (simp; done) | (simp; omega)) (by intro k hk; cases hk)) | refine Below.drew ?_))) hgrow6 hbt5 hnt).trans hc5; have hc7 := (far2_cell (w := wc) (b := g5) (o := r * 18 + 17) (by (repeat (first | exact Below.refl _ _ | (refine Below.alloc ?_ (by first | omega | (simp; done) | (simp; omega)) _) | (refine Below.on (by assumption) ?_ (by first | omega | (simp; done) | (simp; omega))) | (refine Below.grown ?_ (by assumption) (by first | omega | (simp; done) | (simp; omega)) (by intro k hk; cases hk)) | refine Below.drew ?_))) hgrow6 hg5 hnk).trans hck5; have hf7 := (far2_frozen (w := wc) (b := g5) (o := r * 18 + 17) (by (repeat (first | exact Below.refl _ _ | (refine Below.alloc ?_ (by first | omega | (simp; done) | (simp; omega)) _) | (refine Below.on (by assumption) ?_ (by first | omega | (simp; done) | (simp; omega))) | (refine Below.grown ?_ (by assumption) (by first | omega | (simp; done) | (simp; omega)) (by intro k hk; cases hk)) | refine Below.drew ?_))) hgrow6 hg5 hnk).trans hf5
              refine hK.out _ _ (by first | exact hc6) (fun hHeld => ?_)
              clear hK K
              (try simp only [Act.put, List.getElem_toArray, List.getElem_cons_zero, List.getElem_cons_succ, List.setIfInBounds_toArray, List.set_cons_zero, List.set_cons_succ])
              refine wpAnyH_take (i := 16) (v := ?_) rfl (by kernel_rfl) (by kernel_rfl) (by kernel_rfl) (fun _ _ _ h => h) (Or.inl ⟨by rfl, ?_⟩) (by assumption) ?_
              rotate_left
              focus ((intro wS hSw; (try dsimp only at hSw); go_simp); (try (with_reducible rfl)))
              simp only [Act.put, List.getElem_toArray, List.getElem_cons_zero, List.getElem_cons_succ, List.setIfInBounds_toArray, List.set_cons_zero, List.set_cons_succ]
              refine wpAnyH_take (i := 17) (v := ?_) rfl (by kernel_rfl) (by kernel_rfl) (by kernel_rfl) (fun _ _ _ h => h) (Or.inl ⟨by rfl, ?_⟩) (by assumption) ?_
              rotate_left
              focus ((intro wS hSw; (try dsimp only at hSw); go_simp); (try (with_reducible rfl)))
              simp only [Act.put, List.getElem_toArray, List.getElem_cons_zero, List.getElem_cons_succ, List.setIfInBounds_toArray, List.set_cons_zero, List.set_cons_succ]
              refine wpAnyH_ready (rs := [18]) (by kernel_rfl) (by simp) ?_
              refine AllReadyH.cons rfl (fun K hK => ?_) AllReadyH.nil
              go_simp
              refine hK.out _ _ (by first | exact (World.cell?_setCell_other w6 _ ⟨w.heap.size, 0, none⟩ _ (fun e => hbg (congrArg Addr.block e).symm)).trans hc6 | exact (World.cell?_setCell_other w6 _ ⟨w.heap.size, 0, none⟩ _ (fun e => hbg (congrArg Addr.block e))).trans hc6) (fun hHeld => ?_)
              clear hK K
              (try simp only [Act.put, List.getElem_toArray, List.getElem_cons_zero, List.getElem_cons_succ, List.setIfInBounds_toArray, List.set_cons_zero, List.set_cons_succ])
              refine wpAnyH_done (by kernel_rfl) ?_ _
              go_wp2_with fail
              go_meet
              case rel =>
                have hown7 : Ints w6 w.heap.size (.slice (some ⟨g6, 0, none⟩) (chr.length + 1) cap6) (chr ++ [(k : Int)]) := by
                  unfold Ints
                  simpa using hown6
                have hpre : ∀ W, Below wc.heap.size wc W → W.grownBy w6 cvr.ownBlock → (cvr.ownBlock = some g6 ∨ g6 = W.heap.size) → TW (w6.setCell ⟨g5, r * 18 + 17, none⟩ (.slice (some ⟨g6, 0, none⟩) (chr.length + 1) cap6)) w.heap.size w.heap.size (.slice (some ⟨g5, 0, none⟩) ns5.length cap5) (ns5.set r ({ (ns5[r]).1 with ch := (ns5[r]).1.ch ++ [(k : Int)] }, .slice (some ⟨g6, 0, none⟩) (chr.length + 1) cap6)) v3 (List.take (m + 1) (ints (pathK L k)) ++ [(k : Int)]) ∧ Below w.heap.size w (w6.setCell ⟨g5, r * 18 + 17, none⟩ (.slice (some ⟨g6, 0, none⟩) (chr.length + 1) cap6)) := fun W hW hgr hat => by
                  obtain ⟨q1, q2⟩ := (HT5.out.below hW).kid_app hr5 (by rw [HCHR.out]; exact hown7) (by rw [HCV.out]; exact hgr) (by rw [HCV.out]; rcases hat with h | h; exact .inl h.symm; exact .inr (by rw [h]; rfl)) (by have := hW.size; omega)
                  exact ⟨q1, (HB5.out.trans (hW.mono (by omega))).trans q2⟩
                exact ⟨_, hpre _ (by (repeat (first | exact Below.refl _ _ | (refine Below.alloc ?_ (by first | omega | (simp; done) | (simp; omega)) _) | (refine Below.on (by assumption) ?_ (by first | omega | (simp; done) | (simp; omega))) | (refine Below.grown ?_ (by assumption) (by first | omega | (simp; done) | (simp; omega)) (by intro k hk; cases hk)) | refine Below.drew ?_))) hgrow6 (by rcases hat6 with h | h; exact .inl h; exact .inr (by rw [h]; simp))⟩
          obtain ⟨v7, hT7, hB7⟩ := hcut
          -- the ends
          generalize hns7 : ns5.set r ({ (ns5[r]).1 with ch := (ns5[r]).1.ch ++ [(k : Int)] }, v7) = ns7 at *
          have hlen7 : ns7.length = k + 1 := by rw [← hns7, List.length_set]; exact HLEN5.out
          have hfst7 : ns7.map Prod.fst = addKid (NS L k ++ [newK L k]) (parentS L k) k := by
            have hrn : r < ns5.length := by have := HLEN5.out; omega
            have h5 : ns5.map Prod.fst = NS L k ++ [newK L k] := by rw [← HNS5.out, List.map_append, HNS.out]; rfl
            rw [← hns7, List.map_set, h5, HRP.out]
            unfold addKid
            rw [if_neg (by omega)]
            have hr7 : r < (NS L k ++ [newK L k]).length := by rw [List.length_append, NS_len]; simp; omega
            have hg7 : (NS L k ++ [newK L k])[r] = (ns5[r]).1 := by
              have h : (ns5.map Prod.fst)[r]? = (NS L k ++ [newK L k])[r]? := by rw [h5]
              simp only [List.getElem?_map, List.getElem?_eq_getElem hrn, Option.map_some] at h
              rw [List.getElem?_eq_getElem hr7] at h
              exact (Option.some.inj h).symm
            simp only [Int.toNat_natCast]
            rw [modify_set _ _ hr7, hg7]
          have hpth7 : List.take (m + 1) (ints (pathK L k)) ++ [(k : Int)] = ints (pathK L (k + 1)) := by
            have hd : (dep L k).toNat = m + 1 := by have : dep L k = (m : Int) + 1 := HM.out; omega
            simp [ints, pathK, hd, List.map_take]
          rw [hpth7] at hT7
          have hgk : Good L (k + 1) := good_succ' hg.out HBAD.out
          have hpl7 : (pathK L (k + 1)).length = m + 2 := by
            have hd : (dep L k).toNat = m + 1 := by have : dep L k = (m : Int) + 1 := HM.out; omega
            simp [pathK, hd]; omega
          obtain ⟨A7, c7, hv7, hc7, hA7⟩ := hT7.pth.reads
          have hil : (ints (pathK L (k + 1))).length = m + 2 := by simp [ints, hpl7]
          rw [hil] at hv7 hc7 hA7
          obtain ⟨g7, o7, rfl, hg7, hcell7⟩ := hA7 (by omega)
          subst hv7
          rw [show ns5.length = ns7.length by rw [hlen7]; exact HLEN5.out] at hT7
          have HT7 := Lib.hid hT7
          have HF7 := Lib.hid hfst7
          have HL7 := Lib.hid hlen7
          have HB7 := Lib.hid hB7
          have HGK := Lib.hid hgk
          have HP7 := Lib.hid hpl7
          clear hns7 hlen7 hfst7 hpth7 hpl7 hA7 hT7 hB7 hgk hcell7 hil
          go_wp2_with fail
          obtain ⟨wo, rfl⟩ : ∃ wo : World, wo = wc := ⟨_, rfl⟩
          go_loopw [93] (fun v wd => ∃ j : Nat, j ≤ m + 2 ∧ v = .int .i64 j ∧ Hid (∃ ns', TW wd w.heap.size w.heap.size (.slice (some ⟨g5, 0, none⟩) ns'.length cap5) ns' (.slice (some ⟨g7, o7, none⟩) (m + 2) c7) (ints (pathK L (k + 1))) ∧ ns'.map Prod.fst = setEn (addKid (NS L k ++ [newK L k]) (parentS L k) k) ((k : Int) + 1) ((pathK L (k + 1)).take j)) ∧ Hid (Below w.heap.size w wd)) (fun v _ => m + 2 - (intOf v).toNat)
          case atStart => exact ⟨0, by omega, rfl, ⟨ns7, HT7.out, by rw [List.take_zero]; exact HF7.out⟩, HB7.out⟩
          case round =>
            obtain ⟨j, hj, rfl, hI8, hB8⟩ := hrel
            obtain ⟨ns8, hT8, hns8⟩ := hI8.out
            have hlen8 : ns8.length = k + 1 := by
              have h := congrArg List.length hns8
              rw [List.length_map, setEn_len, addKid_len, List.length_append, NS_len] at h
              simpa using h
            by_cases hjl : j < m + 2
            · obtain ⟨p, hp8⟩ : ∃ p, (pathK L (k + 1))[j]'(by rw [HP7.out]; exact hjl) = p := ⟨_, rfl⟩
              have hpk : p < k + 1 := by
                obtain ⟨_, i2⟩ := pathK_facts (k + 1) HGK.out (k + 1) (Nat.le_refl _)
                have := (i2 j (by rw [HP7.out]; exact hjl)).1
                omega
              have hpn : p < ns8.length := by omega
              have hc8 : wr.cell? ⟨g7, o7 + j, none⟩ = some (.int .i64 (p : Int)) := by
                obtain ⟨A8, c8, e8, _, h8⟩ := hT8.pth.reads
                obtain ⟨g8, o8, rfl, _, hcc⟩ := h8 (by simp [ints, HP7.out])
                injection e8 with e1 e2 e3
                injection e1 with e1
                injection e1 with e1 e4
                subst e1
                subst e4
                rw [hcc j (by simp [ints, HP7.out]; omega)]
                simp [ints, List.getD_eq_getElem?_getD, List.getElem?_map, List.getElem?_eq_getElem (show j < (pathK L (k + 1)).length by rw [HP7.out]; exact hjl), hp8]
              have hh8 : wr.cell? ⟨w.heap.size, 0, none⟩ = some (.slice (some ⟨g5, 0, none⟩) (k + 1) cap5) := by rw [hT8.tb.cell0, hlen8]
              have he8 : wr.cell? ⟨g5, p * 18 + 15, none⟩ = some (.int .i64 (ns8[p]).1.en) := by rw [hT8.tb.at_ p 15 hpn (by omega)]; rfl
              obtain ⟨cs8, hrow8⟩ := own_type hT8.tb.own rfl
              have hf8 : wr.frozen? ⟨g5, p * 18 + 15, none⟩ = false := frozen_of_row _ _ _ _ _ hrow8
              obtain ⟨q1, q2⟩ := hT8.set_end (v := (k : Int) + 1) hpn
              have hset : (ns8.set p ({ (ns8[p]).1 with en := (k : Int) + 1 }, (ns8[p]).2)).map Prod.fst = setEn (addKid (NS L k ++ [newK L k]) (parentS L k) k) ((k : Int) + 1) ((pathK L (k + 1)).take (j + 1)) := by
                rw [List.take_succ_eq_append_getElem (by rw [HP7.out]; exact hjl), hp8, setEn_snoc, ← hns8, List.map_set, modify_set _ _ (by rw [List.length_map]; exact hpn)]
                simp
              have HSET := Lib.hid hset
              have HQ1 := Lib.hid q1
              have HQ2 := Lib.hid q2
              have hp0 : (0 : Int) ≤ (p : Int) := by omega
              have hp9 : (p : Int) < (k : Int) + 1 := by omega
              have HL8 := Lib.hid hlen8
              clear hset q1 q2 hT8 hns8 hrow8 hp8 hI8 hlen8
              go_wp2_with fail
              go_roundw
              case rel => exact ⟨j + 1, by omega, by go_num, ⟨_, by rw [List.length_set]; exact HQ1.out, HSET.out⟩, hB8.out.trans HQ2.out⟩
              case measure => simp [intOf]; omega
            · have hjm : j = m + 2 := by omega
              have hdone : BInv L w (k + 1) (.slice (some ⟨g7, o7, none⟩) (m + 2) c7) wr := by
                refine ⟨_, ns8, hT8, ?_⟩
                rw [hns8, hjm, List.take_of_length_le (by rw [HP7.out]; exact Nat.le_refl _)]
                exact NS_step HGK.out hlt
              have HD := Lib.hid hdone
              clear hdone hT8 hns8 hjm hI8 hlen8
              go_wp2_with fail
              go_roundw
              case rel => exact ⟨k + 1, by omega, by go_num, HD.out, HGK.out, hp.out.trans HX.out, hB8.out⟩
              case measure => simp [intOf]; omega
        · rw [if_pos hbad] at hx
          have HCK := Lib.hid hck
          have HX := Lib.hid hx
          have hne : (badS L k != 0) = true := by simpa using hbad
          have HBAD := Lib.hid hbad
          subst hpv
          clear hck hx hbad hpar hpA hns htw hbox hlen hin hm hrp hcell0 hr
          go_wp2_with (first
            | ((with_reducible refine load_mid (dst := some 24) 28 (.tmp 23) B (off + k * 14) _ _ ?_ HBOX.out Try.underlying28 ?_ ?_ ?_); rfl; rfl; exact boxInfo; simp only [Act.put, List.setIfInBounds_toArray, List.set_cons_zero, List.set_cons_succ])
            | ((with_reducible refine store_new (dst := none) 28 (.tmp 8) (.tmp 24) wr _ _ 28 rfl ?_ ?_ ?_ ?_ ?_ ?_); rfl; rfl; exact boxInfo; rfl; (simp [Value.oneCell']))
            | (go_at_call 56; refine (HCK.out _ ((Below.refl _ _).alloc (Nat.le_refl _) _)).mono ?_; rintro e w2 ⟨rfl, hb2⟩; have HB2 := Lib.hid hb2; have hg2 := (hb2.block wr.heap.size (by simp; done)).trans (heap_alloc_new wr _); have HG2 := Lib.hid hg2; have hs2 := hb2.size; have hc2 := fun o => hb2.cell (p := ⟨wr.heap.size, o, none⟩) (by simp; done); have HT2 := Lib.hid ((HTW.out.below ((Below.refl _ _).alloc (Nat.le_refl _) _)).below hb2); clear hb2 hg2))
          go_ret3
          exact post_bad ((hW.out.alloc hsz _).trans (HB2.out.mono (by simp; omega))) (hp.out.trans HX.out) HBAD.out
      · have hpar : parV L k = -1 := by unfold parV; rw [if_neg hin]
        rw [hpar] at hck
        have hdd : decide ((1 : Int) ≤ (at_ L k).d) = false ∨ (decide ((1 : Int) ≤ (at_ L k).d) = true ∧ decide ((at_ L k).d ≤ ((pathK L k).length : Int)) = false) := by
          have h : ¬ (1 ≤ (at_ L k).d ∧ (at_ L k).d ≤ ((pathK L k).length : Int)) := hin
          by_cases h1 : (1 : Int) ≤ (at_ L k).d
          · exact .inr ⟨by simpa using h1, by simp; omega⟩
          · exact .inl (by simpa using h1)
        by_cases hbad : badS L k = 0
        · have hk0 : k = 0 := by
            rcases Nat.eq_zero_or_pos k with h | h
            · exact h
            · exfalso
              have h1 := bad_step h hbad
              have h2 : 0 ≤ dep L k ∧ dep L k ≤ 256 := rchk_dep (bad_rchk hbad)
              have h3 := (pathK_facts k hg.out k (Nat.le_refl _)).1 h
              have h4 := good_dep hg.out (show k - 1 < k by omega)
              exact hin ⟨by omega, by omega⟩
          subst hk0
          have hm : (at_ L 0).d = 0 := bad_root hbad
          rw [if_neg (by simpa using hbad)] at hx
          rw [hbad, hm] at hck
          rw [hm] at hbox
          simp only [Nat.zero_mul, Nat.add_zero] at hbox
          have hbox0 : wr.rangeAt B off [.int .i64 0, .int .i64 (at_ L 0).k, .int .i64 (at_ L 0).s, .int .i64 (at_ L 0).c, .int .i64 (at_ L 0).w, .int .i64 (at_ L 0).h, .int .i64 (at_ L 0).m0, .int .i64 (at_ L 0).m1, .int .i64 (at_ L 0).m2, .int .i64 (at_ L 0).m3, .int .i64 (at_ L 0).e0, .int .i64 (at_ L 0).e1, .int .i64 (at_ L 0).e2, .int .i64 (at_ L 0).e3] := hbox
          have HBOX := Lib.hid hbox0
          have HCK := Lib.hid hck
          have HX := Lib.hid hx
          have HBAD := Lib.hid hbad
          have HM := Lib.hid hm
          have hp0 : (pathK L 0).length = 0 := rfl
          rw [hp0] at hpv hcapp
          have hc0 : (0 : Int) ≤ (capp : Int) := by omega
          subst hpv
          clear hck hx hbad hpar hpA hns htw hbox hbox0 hlen hin hm hdd hpl hplk hp0
          go_wp2_with (first
            | ((with_reducible refine load_mid (dst := some 24) 28 (.tmp 23) B off _ _ ?_ HBOX.out Try.underlying28 ?_ ?_ ?_); rfl; rfl; exact boxInfo; simp only [Act.put, List.setIfInBounds_toArray, List.set_cons_zero, List.set_cons_succ])
            | ((with_reducible refine store_new (dst := none) 28 (.tmp 8) (.tmp 24) wr _ _ 28 rfl ?_ ?_ ?_ ?_ ?_ ?_); rfl; rfl; exact boxInfo; rfl; (simp [Value.oneCell']))
            | (go_at_call 56; refine (HCK.out _ ((Below.refl _ _).alloc (Nat.le_refl _) _)).mono ?_; rintro e w2 ⟨rfl, hb2⟩; have HB2 := Lib.hid hb2; have hg2 := (hb2.block wr.heap.size (by simp; done)).trans (heap_alloc_new wr _); have HG2 := Lib.hid hg2; have hs2 := hb2.size; have hc2 := fun o => hb2.cell (p := ⟨wr.heap.size, o, none⟩) (by simp; done); have HT2 := Lib.hid ((HTW.out.below ((Below.refl _ _).alloc (Nat.le_refl _) _)).below hb2); clear hb2 hg2)
            | (at_builtin; refine app1 _ (by rfl) (.tmp 52) (.tmp 54) (by rfl) w.heap.size (cutV (.slice Ap 0 capp) 0) [] (by rfl) (by exact (HT2.out.pth.cut (d := 0) (Nat.zero_le _)).alloc _) _ 1 (by rfl) 0 (by exact cell_new rfl rfl) (by simp) (by simp at hs2 ⊢; omega) ?_; intro v3 w3 hI3 hg3 ha3; have HI3 := Lib.hid hI3; have HG3 := Lib.hid hg3; have HA3 := Lib.hid ha3; clear hI3 hg3 ha3))
          have htw2 := HT2.out.below ((Below.refl w2.heap.size w2).alloc (Nat.le_refl _) (.cells #[.int .i64 (0 : Int)] 3))
          have hT3 : TW w3 w.heap.size w.heap.size nv ns v3 [(0 : Int)] := htw2.path_app (d := 0) (Nat.zero_le _) HI3.out HG3.out HA3.out
          have hblk3 : w3.heap[wr.heap.size]? = some (.cells #[.int .i64 0, .int .i64 (at_ L 0).k, .int .i64 (at_ L 0).s, .int .i64 (at_ L 0).c, .int .i64 (at_ L 0).w, .int .i64 (at_ L 0).h, .int .i64 (at_ L 0).m0, .int .i64 (at_ L 0).m1, .int .i64 (at_ L 0).m2, .int .i64 (at_ L 0).m3, .int .i64 (at_ L 0).e0, .int .i64 (at_ L 0).e1, .int .i64 (at_ L 0).e2, .int .i64 (at_ L 0).e3] 28 (0, 0)) :=
            (HG3.out.block wr.heap.size (by simp at hs2 ⊢; omega) (fun e => by
              rw [cutV_own] at e
              have h1 := (HTW.out.pth.lt e.symm).2
              omega)).trans ((Below.heap_alloc w2 _ wr.heap.size (by simp at hs2; omega)).trans HG2.out)
          have hnb : nv.ownBlock ≠ some w.heap.size := fun e => by
            obtain ⟨cs, hh⟩ := own_type hT3.tb.own e
            exact type_ne hh hT3.tb.blk (by decide)
          have hnx : nv.ownBlock ≠ some wr.heap.size := fun e => by
            obtain ⟨cs, hh⟩ := own_type hT3.tb.own e
            exact type_ne hh hblk3 (by decide)
          have hB3 : Below w.heap.size w w3 := (((hW.out.alloc hsz _).trans (HB2.out.mono (by simp; omega))).alloc (by simp at hs2; omega) _).grown HG3.out (by simp at hs2 ⊢; omega) (fun g hg => (htw2.pth.lt (by rw [cutV_own] at hg; exact hg)).1)
          have hs3 : wr.heap.size < w3.heap.size := (Array.getElem?_eq_some_iff.1 hblk3).1
          have hns := HNS.out
          have hlen : ns.length = 0 := by have := congrArg List.length hns; simpa [NS_len] using this
          have hwi : ∀ W, Below w3.heap.size w3 W → Calls Try.prog 57 #[.pointer (some ⟨w.heap.size, 0, none⟩), .int .i64 (-1)] W fun e w' => e = .returned (.int .i64 (ctxS L 0)) ∧ W = w' :=
            fun W _ => by
              have h := within_none w.heap.size (-1) W (by omega)
              rwa [← ctx_none (L := L) (k := 0) (by have := parentS_lt L 0; omega)] at h
          have HWI := Lib.hid hwi
          have hown3 := fun W (hW' : Below w3.heap.size w3 W) => own_below hT3.tb.own hW'
          have HO3 := Lib.hid hown3
          have HT3 := Lib.hid hT3
          have HB3 := Lib.hid hB3
          have hc3 : w3.cell? ⟨w.heap.size, 0, none⟩ = some nv := hT3.tb.cell0
          have hb3_0 : w3.cell? ⟨wr.heap.size, 0, none⟩ = some (.int .i64 0) := by rw [cell_of_row _ _ 0 _ _ _ hblk3]; rfl
          have hb3_1 : w3.cell? ⟨wr.heap.size, 1, none⟩ = some (.int .i64 ((at_ L 0).k)) := by rw [cell_of_row _ _ 1 _ _ _ hblk3]; rfl
          have hb3_2 : w3.cell? ⟨wr.heap.size, 2, none⟩ = some (.int .i64 ((at_ L 0).s)) := by rw [cell_of_row _ _ 2 _ _ _ hblk3]; rfl
          have hb3_3 : w3.cell? ⟨wr.heap.size, 3, none⟩ = some (.int .i64 ((at_ L 0).c)) := by rw [cell_of_row _ _ 3 _ _ _ hblk3]; rfl
          have hb3_4 : w3.cell? ⟨wr.heap.size, 4, none⟩ = some (.int .i64 ((at_ L 0).w)) := by rw [cell_of_row _ _ 4 _ _ _ hblk3]; rfl
          have hb3_5 : w3.cell? ⟨wr.heap.size, 5, none⟩ = some (.int .i64 ((at_ L 0).h)) := by rw [cell_of_row _ _ 5 _ _ _ hblk3]; rfl
          have hb3_6 : w3.cell? ⟨wr.heap.size, 6, none⟩ = some (.int .i64 ((at_ L 0).m0)) := by rw [cell_of_row _ _ 6 _ _ _ hblk3]; rfl
          have hb3_7 : w3.cell? ⟨wr.heap.size, 7, none⟩ = some (.int .i64 ((at_ L 0).m1)) := by rw [cell_of_row _ _ 7 _ _ _ hblk3]; rfl
          have hb3_8 : w3.cell? ⟨wr.heap.size, 8, none⟩ = some (.int .i64 ((at_ L 0).m2)) := by rw [cell_of_row _ _ 8 _ _ _ hblk3]; rfl
          have hb3_9 : w3.cell? ⟨wr.heap.size, 9, none⟩ = some (.int .i64 ((at_ L 0).m3)) := by rw [cell_of_row _ _ 9 _ _ _ hblk3]; rfl
          have hb3_10 : w3.cell? ⟨wr.heap.size, 10, none⟩ = some (.int .i64 ((at_ L 0).e0)) := by rw [cell_of_row _ _ 10 _ _ _ hblk3]; rfl
          have hb3_11 : w3.cell? ⟨wr.heap.size, 11, none⟩ = some (.int .i64 ((at_ L 0).e1)) := by rw [cell_of_row _ _ 11 _ _ _ hblk3]; rfl
          have hb3_12 : w3.cell? ⟨wr.heap.size, 12, none⟩ = some (.int .i64 ((at_ L 0).e2)) := by rw [cell_of_row _ _ 12 _ _ _ hblk3]; rfl
          have hb3_13 : w3.cell? ⟨wr.heap.size, 13, none⟩ = some (.int .i64 ((at_ L 0).e3)) := by rw [cell_of_row _ _ 13 _ _ _ hblk3]; rfl
          have hf3 : w3.frozen? ⟨w.heap.size, 0, none⟩ = false := frozen_of_row _ _ 0 _ _ hT3.tb.blk
          have hbt3 : w.heap.size < w3.heap.size := by omega
          have hnd : ndP (newK L 0, Value.slice none 0 0) = [.int .i64 0, .int .i64 (at_ L 0).k, .int .i64 (at_ L 0).s, .int .i64 (at_ L 0).c, .int .i64 (at_ L 0).w, .int .i64 (at_ L 0).h, .int .i64 (at_ L 0).m0, .int .i64 (at_ L 0).m1, .int .i64 (at_ L 0).m2, .int .i64 (at_ L 0).m3, .int .i64 (at_ L 0).e0, .int .i64 (at_ L 0).e1, .int .i64 (at_ L 0).e2, .int .i64 (at_ L 0).e3, .int .i64 (-1), .int .i64 0, .int .i64 (ctxS L 0), .slice none 0 0] := by simp [ndP, ndL, newK, HM.out, show parentS L 0 = -1 by have := parentS_lt L 0; omega]
          have HND := Lib.hid hnd
          clear hnd
          have H15 : S15 w.heap.size wr.heap.size nv 0 (at_ L 0) w3 := ⟨hf3, hc3, hb3_0, hb3_1, hb3_2, hb3_3, hb3_4, hb3_5, hb3_6, hb3_7, hb3_8, hb3_9, hb3_10, hb3_11, hb3_12, hb3_13⟩
          obtain ⟨i0, hi0, hz0, hz1, hz2⟩ := info_parts nodeInfo2
          have HI0 := Lib.hid hi0
          have HZ0 := Lib.hid hz0
          have HZ1 := Lib.hid hz1
          have HZ2 := Lib.hid hz2
          have HLEN := Lib.hid hlen
          clear htw2 hT3 hB3 hwi hown3 hns hi0 hz0 hz1 hz2 hblk3 hc2 hs2 hlen
          go_cut [] (fun wc => ∃ nv', TW wc w.heap.size w.heap.size nv' (ns ++ [(newK L 0, Value.slice none 0 0)]) v3 ([(0 : Int)]) ∧ Below w.heap.size w wc)
          case first =>
            go_region_law (first
                | (refine step_call (P := Try.prog) rfl 57 #[.pointer (some ⟨w.heap.size, 0, none⟩), .int .i64 (-1)] (.int .i64 (ctxS L 0)) (by first | rfl | go_simp) (HWI.out _ (by first | exact Below.refl _ _ | exact (Below.refl _ _).drew)) ?_)
                | (refine step_append_lies _ rfl (.tmp 60) (.tmp 67) 75 rfl w.heap.size 80 i0 _ 18 160 Try.underlying75 HI0.out HZ0.out HZ1.out HZ2.out rfl (by omega) nv ns.length (flat ndP ns) (by rfl) (HO3.out _ (by (repeat (first | exact Below.refl _ _ | (refine Below.alloc ?_ (by first | omega | (simp; done) | (simp; omega)) _) | (refine Below.on (by assumption) ?_ (by first | omega | (simp; done) | (simp; omega))) | (refine Below.grown ?_ (by assumption) (by first | omega | (simp; done) | (simp; omega)) (by intro k hk; cases hk)) | refine Below.drew ?_)))) ⟨w3.heap.size, 0, none⟩ 1 1 [.int .i64 0, .int .i64 (at_ L 0).k, .int .i64 (at_ L 0).s, .int .i64 (at_ L 0).c, .int .i64 (at_ L 0).w, .int .i64 (at_ L 0).h, .int .i64 (at_ L 0).m0, .int .i64 (at_ L 0).m1, .int .i64 (at_ L 0).m2, .int .i64 (at_ L 0).m3, .int .i64 (at_ L 0).e0, .int .i64 (at_ L 0).e1, .int .i64 (at_ L 0).e2, .int .i64 (at_ L 0).e3, .int .i64 (-1), .int .i64 0, .int .i64 (ctxS L 0), .slice none 0 0] (by rfl) (by rfl) (World.news_of_block (cs := #[.int .i64 0, .int .i64 (at_ L 0).k, .int .i64 (at_ L 0).s, .int .i64 (at_ L 0).c, .int .i64 (at_ L 0).w, .int .i64 (at_ L 0).h, .int .i64 (at_ L 0).m0, .int .i64 (at_ L 0).m1, .int .i64 (at_ L 0).m2, .int .i64 (at_ L 0).m3, .int .i64 (at_ L 0).e0, .int .i64 (at_ L 0).e1, .int .i64 (at_ L 0).e2, .int .i64 (at_ L 0).e3, .int .i64 (-1), .int .i64 0, .int .i64 (ctxS L 0), .slice none 0 0]) (t := 80) (fr := (0, 0)) (heap_alloc_new w3 _)) (by simp [Value.oneCell']) (by omega) (by unfold maxLen; have := HLEN.out; omega) (by have := HLEN.out; omega) (by simp; omega) (w3.heap.size + 1) (by simp) ?_; intro g4 cap4 w4 hown4 hgrow4 hat4 hlt4; have h154 : S15 w.heap.size wr.heap.size nv 0 (at_ L 0) w4 := (by first | exact S15.gr (H15.al hbt3 hs3 _).dr hgrow4 (by simp; omega) (by simp; omega) hnb hnx | exact S15.gr (H15.al hbt3 hs3 _) hgrow4 (by simp; omega) (by simp; omega) hnb hnx); have hf4 := h154.1; have hc4 := h154.2.1; clear h154))
            all_goals (go_wp2_with fail; go_meet)
            all_goals
              case rel =>
                have hown5 : w4.ownsRow w.heap.size 80 18 (.slice (some ⟨g4, 0, none⟩) (ns.length + 1) cap4) (ns ++ [(newK L 0, Value.slice none 0 0)]).length (flat ndP (ns ++ [(newK L 0, Value.slice none 0 0)])) := by
                  rw [flat_snoc, HND.out, List.length_append, List.length_singleton]
                  exact hown4
                have hpre : ∀ W, Below w3.heap.size w3 W → W.grownBy w4 nv.ownBlock → TW (w4.setCell ⟨w.heap.size, 0, none⟩ (.slice (some ⟨g4, 0, none⟩) (ns.length + 1) cap4)) w.heap.size w.heap.size (.slice (some ⟨g4, 0, none⟩) (ns.length + 1) cap4) (ns ++ [(newK L 0, Value.slice none 0 0)]) v3 ([(0 : Int)]) ∧
                    Below w.heap.size w (w4.setCell ⟨w.heap.size, 0, none⟩ (.slice (some ⟨g4, 0, none⟩) (ns.length + 1) cap4)) := fun W hW hgr => by
                  obtain ⟨q1, q2⟩ := (HT3.out.below hW).node_app (nd := newK L 0) rfl hown5 hgr (by have := hW.size; omega)
                  exact ⟨q1, (HB3.out.trans (hW.mono (by omega))).trans q2⟩
                exact ⟨_, hpre _ (by (repeat (first | exact Below.refl _ _ | (refine Below.alloc ?_ (by first | omega | (simp; done) | (simp; omega)) _) | (refine Below.on (by assumption) ?_ (by first | omega | (simp; done) | (simp; omega))) | (refine Below.grown ?_ (by assumption) (by first | omega | (simp; done) | (simp; omega)) (by intro k hk; cases hk)) | refine Below.drew ?_))) hgrow4⟩
          obtain ⟨nv', hT5, hB5⟩ := hcut
          have hns0 := HNS.out
          have hnil : ns = [] := List.eq_nil_of_length_eq_zero HLEN.out
          subst hnil
          simp only [List.nil_append] at hT5
          obtain ⟨A5, cap5, hnv5, hA5⟩ := hT5.tb.form
          obtain ⟨g5, rfl⟩ := hA5 (by simp)
          subst hnv5
          have hpth7 : [(0 : Int)] = ints (pathK L 1) := by simp [ints, pathK]
          rw [hpth7] at hT5
          have hgk : Good L 1 := good_succ' hg.out HBAD.out
          have hpl7 : (pathK L 1).length = 1 := by simp [pathK]
          obtain ⟨A7, c7, hv7, hc7, hA7⟩ := hT5.pth.reads
          have hil : (ints (pathK L 1)).length = 1 := by simp [ints, hpl7]
          rw [hil] at hv7 hc7 hA7
          obtain ⟨g7, o7, rfl, hg7, hcell7⟩ := hA7 (by omega)
          subst hv7
          have hfst7 : [(newK L 0, Value.slice none 0 0)].map Prod.fst = addKid (NS L 0 ++ [newK L 0]) (parentS L 0) 0 := by
            have hp := parentS_lt L 0
            unfold addKid
            rw [if_pos (by omega)]
            rfl
          have HT7 := Lib.hid hT5
          have HF7 := Lib.hid hfst7
          have HB7 := Lib.hid hB5
          have HGK := Lib.hid hgk
          have HP7 := Lib.hid hpl7
          clear hfst7 hpth7 hpl7 hA7 hT5 hB5 hgk hcell7 hil hA5 hns0
          go_wp2_with fail
          obtain ⟨wo, rfl⟩ : ∃ wo : World, wo = wc := ⟨_, rfl⟩
          go_loopw [93] (fun v wd => ∃ j : Nat, j ≤ 1 ∧ v = .int .i64 j ∧ Hid (∃ ns', TW wd w.heap.size w.heap.size (.slice (some ⟨g5, 0, none⟩) ns'.length cap5) ns' (.slice (some ⟨g7, o7, none⟩) (1) c7) (ints (pathK L 1)) ∧ ns'.map Prod.fst = setEn (addKid (NS L 0 ++ [newK L 0]) (parentS L 0) 0) (1 : Int) ((pathK L 1).take j)) ∧ Hid (Below w.heap.size w wd)) (fun v _ => 1 - (intOf v).toNat)
          case atStart => exact ⟨0, by omega, rfl, ⟨[(newK L 0, Value.slice none 0 0)], HT7.out, by rw [List.take_zero]; exact HF7.out⟩, HB7.out⟩
          case round =>
            obtain ⟨j, hj, rfl, hI8, hB8⟩ := hrel
            obtain ⟨ns8, hT8, hns8⟩ := hI8.out
            have hlen8 : ns8.length = 1 := by
              have h := congrArg List.length hns8
              rw [List.length_map, setEn_len, addKid_len, List.length_append, NS_len] at h
              simpa using h
            by_cases hjl : j < 1
            · obtain ⟨p, hp8⟩ : ∃ p, (pathK L 1)[j]'(by rw [HP7.out]; exact hjl) = p := ⟨_, rfl⟩
              have hpk : p < 1 := by
                obtain ⟨_, i2⟩ := pathK_facts 1 HGK.out 1 (Nat.le_refl _)
                have := (i2 j (by rw [HP7.out]; exact hjl)).1
                omega
              have hpn : p < ns8.length := by omega
              have hc8 : wr.cell? ⟨g7, o7 + j, none⟩ = some (.int .i64 (p : Int)) := by
                obtain ⟨A8, c8, e8, _, h8⟩ := hT8.pth.reads
                obtain ⟨g8, o8, rfl, _, hcc⟩ := h8 (by simp [ints, HP7.out])
                injection e8 with e1 e2 e3
                injection e1 with e1
                injection e1 with e1 e4
                subst e1
                subst e4
                rw [hcc j (by simp [ints, HP7.out]; omega)]
                simp [ints, List.getD_eq_getElem?_getD, List.getElem?_map, List.getElem?_eq_getElem (show j < (pathK L 1).length by rw [HP7.out]; exact hjl), hp8]
              have hh8 : wr.cell? ⟨w.heap.size, 0, none⟩ = some (.slice (some ⟨g5, 0, none⟩) 1 cap5) := by rw [hT8.tb.cell0, hlen8]
              have he8 : wr.cell? ⟨g5, p * 18 + 15, none⟩ = some (.int .i64 (ns8[p]).1.en) := by rw [hT8.tb.at_ p 15 hpn (by omega)]; rfl
              obtain ⟨cs8, hrow8⟩ := own_type hT8.tb.own rfl
              have hf8 : wr.frozen? ⟨g5, p * 18 + 15, none⟩ = false := frozen_of_row _ _ _ _ _ hrow8
              obtain ⟨q1, q2⟩ := hT8.set_end (v := (1 : Int)) hpn
              have hset : (ns8.set p ({ (ns8[p]).1 with en := (1 : Int) }, (ns8[p]).2)).map Prod.fst = setEn (addKid (NS L 0 ++ [newK L 0]) (parentS L 0) 0) (1 : Int) ((pathK L 1).take (j + 1)) := by
                rw [List.take_succ_eq_append_getElem (by rw [HP7.out]; exact hjl), hp8, setEn_snoc, ← hns8, List.map_set, modify_set _ _ (by rw [List.length_map]; exact hpn)]
                simp
              have HSET := Lib.hid hset
              have HQ1 := Lib.hid q1
              have HQ2 := Lib.hid q2
              have hp0 : (0 : Int) ≤ (p : Int) := by omega
              have hp9 : (p : Int) < (1 : Int) := by omega
              have HL8 := Lib.hid hlen8
              clear hset q1 q2 hT8 hns8 hrow8 hp8 hI8 hlen8
              go_wp2_with fail
              go_roundw
              case rel => exact ⟨j + 1, by omega, by go_num, ⟨_, by rw [List.length_set]; exact HQ1.out, HSET.out⟩, hB8.out.trans HQ2.out⟩
              case measure => simp [intOf]; omega
            · have hjm : j = 1 := by omega
              have hdone : BInv L w 1 (.slice (some ⟨g7, o7, none⟩) (1) c7) wr := by
                refine ⟨_, ns8, hT8, ?_⟩
                rw [hns8, hjm, List.take_of_length_le (by rw [HP7.out]; exact Nat.le_refl _)]
                exact NS_step (k := 0) HGK.out hlt
              have HD := Lib.hid hdone
              clear hdone hT8 hns8 hjm hI8 hlen8
              go_wp2_with fail
              go_roundw
              case rel => exact ⟨1, by omega, by go_num, HD.out, HGK.out, hp.out.trans HX.out, hB8.out⟩
              case measure => simp [intOf]; omega
        · rw [if_pos hbad] at hx
          have HCK := Lib.hid hck
          have HX := Lib.hid hx
          have hne : (badS L k != 0) = true := by simpa using hbad
          have HBAD := Lib.hid hbad
          subst hpv
          clear hck hx hbad hpar hpA hns htw hbox hlen hpl hin
          rcases hdd with h1 | ⟨h1, h2⟩
          all_goals
            go_wp2_with (first
              | ((with_reducible refine load_mid (dst := some 24) 28 (.tmp 23) B (off + k * 14) _ _ ?_ HBOX.out Try.underlying28 ?_ ?_ ?_); rfl; rfl; exact boxInfo; simp only [Act.put, List.setIfInBounds_toArray, List.set_cons_zero, List.set_cons_succ])
              | ((with_reducible refine store_new (dst := none) 28 (.tmp 8) (.tmp 24) wr _ _ 28 rfl ?_ ?_ ?_ ?_ ?_ ?_); rfl; rfl; exact boxInfo; rfl; (simp [Value.oneCell']))
              | (go_at_call 56; refine (HCK.out _ ((Below.refl _ _).alloc (Nat.le_refl _) _)).mono ?_; rintro e w2 ⟨rfl, hb2⟩; have HB2 := Lib.hid hb2; have hg2 := (hb2.block wr.heap.size (by simp; done)).trans (heap_alloc_new wr _); have HG2 := Lib.hid hg2; have hs2 := hb2.size; clear hb2 hg2))
            go_ret3
            exact post_bad ((hW.out.alloc hsz _).trans (HB2.out.mono (by simp; omega))) (hp.out.trans HX.out) HBAD.out
    · rw [if_neg hlt] at hx
      have HX := Lib.hid hx
      clear hx
      go_wp2_with fail
      go_ret3
      have hkl : k = L.length := by omega
      exact post_ok hW.out (hp.out.trans HX.out) ((hkl ▸ hI.out : BInv L w L.length _ _).done hpos hL)
end Go.Proofs.Ytpjngnkcjccbcaa
