/- The law ShelfRows. -/
import Derived.Test.YthinaifeifnefaaSp9
import Derived.Deep.RegionLaw
import Derived.Deep.RegionHeld3
namespace Go.Proofs.Ythinaifeifnefaa
set_option linter.unusedSimpArgs false
set_option linter.unusedVariables false
open Go.RowKit
theorem fbB_is {l : List Fo} {S : List Sh} (h : IsShelves l S) (a b : Int) (ha : -far ≤ a) : IsBand (bnd l) a b (fbB (full S) a b) := by
  unfold fbB
  by_cases hb : b ≤ a
  · rw [if_pos hb]
    exact IsBand.empty _ hb
  · rw [if_neg hb, prog_band h a b ha (by omega)]
    exact band_is l a b
theorem fbB_step {l : List Fo} {S : List Sh} (h : IsShelves l S) (y : Int) (k : Nat) (ha : -far ≤ y) : fbB (full S) y (y + k + 1) = clipP (fbB (full S) y (y + k)) (fbB (full S) (y + k) (y + k + 1)) :=
  IsBand.unique (fbB_is h y (y + k + 1) ha) (IsBand.clip (fbB_is h y (y + k) ha) (fbB_is h (y + k) (y + k + 1) (by omega)) (by omega) (by omega))
theorem fbB_none (F : List Sh) (y : Int) : fbB F y (y + (0 : Nat)) = (-far, far) := by
  unfold fbB
  rw [if_pos (by omega)]
/-- What stands in ShelfRows' loop. -/
def RInv (F : List Sh) (base lp bw : Nat) (y : Int) (w : World) (k : Nat) (wr : World) : Prop :=
  ListIs wr base lp F ∧ Below w.heap.size w wr ∧ wr.heap[bw]? = some (.cells #[.int .i64 (fbB F y (y + k)).1, .int .i64 (fbB F y (y + k)).2] 38 (0, 0)) ∧ w.heap.size ≤ bw ∧ bw < wr.heap.size
/-- A list stays while a block of spans is written. -/
theorem ListIs.kept {w w' : World} {base lp b : Nat} {F : List Sh} {C : Array Value} {t : TypeId} {f : Nat × Nat} (h : ListIs w base lp F) (hg : w.grownBy w' (some b)) (hb : w.heap[b]? = some (.cells C t f)) (t1 : t ≠ 89) (t2 : t ≠ 32) : ListIs w' base lp F := by
  obtain ⟨v, q1, q2, q3⟩ := h
  refine ⟨v, ?_, q2, q3.kept hg ?_⟩
  · refine (hg.block lp (Array.getElem?_eq_some_iff.1 q1).1 fun e => ?_).trans q1
    injection e with e
    subst e
    have := hb.symm.trans q1
    injection this with this
    injection this with _ h2
    exact t1 h2
  · rcases q3.2 with ⟨rfl, _⟩ | ⟨g, cap, cur, rfl, _, hh, _⟩
    · exact .inl rfl
    · right
      intro e
      have e' : g = b := by simpa [Value.ownBlock] using e
      subst e'
      have := hb.symm.trans hh
      injection this with this
      injection this with _ h2
      exact t2 h2
theorem RInv.step {F : List Sh} {base lp bw k : Nat} {y : Int} {w wr w6 : World} {q r : Int × Int} (h : RInv F base lp bw y w k wr) (hb : Below wr.heap.size wr w6) (hq : wr.heap[bw]? = some (.cells #[.int .i64 q.1, .int .i64 q.2] 38 (0, 0))) (hc : fbB F y (y + k + 1) = clipP q r) :
    RInv F base lp bw y w (k + 1) ((w6.setCell ⟨bw, 0, none⟩ (.int .i64 (max q.1 r.1))).setCell ⟨bw, 1, none⟩ (.int .i64 (min q.2 r.2))) := by
  obtain ⟨p1, p2, p3, p4, p5⟩ := h
  have hq6 := (hb.block bw p5).trans hq
  have hz := hb.size
  have h1 := heap_setCell_same w6 bw 0 _ _ (.int .i64 (max q.1 r.1)) hq6
  have h2 := heap_setCell_same (w6.setCell ⟨bw, 0, none⟩ (.int .i64 (max q.1 r.1))) bw 1 _ _ (.int .i64 (min q.2 r.2)) h1
  have hg : w6.grownBy ((w6.setCell ⟨bw, 0, none⟩ (.int .i64 (max q.1 r.1))).setCell ⟨bw, 1, none⟩ (.int .i64 (min q.2 r.2))) (some bw) :=
    ⟨rfl, rfl, rfl, by simp, fun j _ hj => by
      rw [heap_setCell_other _ ⟨bw, 1, none⟩ j _ (fun e => hj (by rw [e])), heap_setCell_other _ ⟨bw, 0, none⟩ j _ (fun e => hj (by rw [e]))]⟩
  refine ⟨(p1.below hb (Nat.le_refl _)).kept hg hq6 (by decide) (by decide), (Below.onto hb p2).grown hg (by have := p2.size; omega) (fun j hj => by simp at hj; omega), ?_, p4, ?_⟩
  · rw [h2, show (y + ((k + 1 : Nat) : Int)) = y + k + 1 by omega, hc]
    rfl
  · have := hg.size
    omega
set_option maxRecDepth 20000 in
set_option maxHeartbeats 8000000 in
theorem shelfRows_any (L : List Fo) (v : Value) (y m : Int) (w : World) (h : IsFos w v L) (hn : L.length ≤ maxLen) (hy1 : -32768 ≤ y) (hy2 : y ≤ 32767) (hm1 : 0 ≤ m) (hm2 : m ≤ 255) : Calls Try.prog 5 #[v, .int .i16 y, .int .u8 m] w fun e w' => e = .returned (.bool true) ∧ Below w.heap.size w w' := by
  obtain ⟨A, cap0, rfl, hx1, hx2⟩ := id h
  clear hx1 hx2
  have hfw := fun w h => few_any (.slice A L.length cap0) L 30 w h hn
  cases hq : fewB L 30 with
  | false =>
    rw [hq] at hfw
    have HFW := Lib.hid hfw
    have HH := Lib.hid h
    clear hfw h hn hq hy1 hy2 hm1 hm2
    go_enter Try.func5, Try.ntmps5
    go_wp2_with fail
    refine (speaks_any _).mono ?_
    rintro e w1 ⟨rfl, hb1⟩
    have HB1 := Lib.hid hb1
    clear hb1
    go_wp2_with fail
    refine (HFW.out _ (HH.out.below HB1.out (Nat.le_refl _))).mono ?_
    rintro e w2 ⟨rfl, hb2⟩
    have HB2 := Lib.hid (Below.onto hb2 HB1.out)
    clear hb2
    go_wp2_with fail
    refine (speaks_any _).mono ?_
    rintro e w3 ⟨rfl, hb3⟩
    have HB3 := Lib.hid (Below.onto hb3 HB2.out)
    clear hb3
    go_wp2_with fail
    go_ret
    exact ⟨rfl, HB3.out⟩
  | true =>
    rw [hq] at hfw
    obtain ⟨hsm, hl40⟩ := few_small hq
    have hbg := fun w h => begin_any (.slice A L.length cap0) L w h (by omega) hsm
    have hok := shape_ok hsm
    have hstep := fun k => fbB_step (shelves_is L (small_low hsm)) y k (by unfold far; omega)
    rw [show shelves L = shelves L from rfl] at hstep
    unfold BegPost at hbg
    obtain ⟨F, hF⟩ : ∃ F, full (shelves L) = F := ⟨_, rfl⟩
    rw [hF] at hbg hok hstep
    have h0 := hok.pos
    have hFl : F.length ≤ 2 * L.length + 1 := hok.len
    have hbd := fun a b base lp w h ma mb => band_any F a b base lp w h hok.asc (by omega) h0 ma mb
    unfold BandPost at hbd
    obtain ⟨n, hn2⟩ : ∃ n : Nat, m.tmod 60 = n := ⟨(m.tmod 60).toNat, by have := Int.tmod_nonneg 60 hm1; omega⟩
    have hn60 : n < 60 := by have := Int.tmod_lt_of_pos m (show (0 : Int) < 60 by omega); omega
    have HFW := Lib.hid hfw
    have HH := Lib.hid h
    have HBG := Lib.hid hbg
    have HBD := Lib.hid hbd
    have HST := Lib.hid hstep
    clear hfw h hn hq hsm hbg hbd hok hF hstep
    go_enter Try.func5, Try.ntmps5
    go_wp2_with fail
    refine (speaks_any _).mono ?_
    rintro e w1 ⟨rfl, hb1⟩
    have HH1 := Lib.hid (HH.out.below hb1 (Nat.le_refl _))
    have HB1 := Lib.hid hb1
    clear hb1
    go_wp2_with fail
    refine (HFW.out _ HH1.out).mono ?_
    rintro e w2 ⟨rfl, hb2⟩
    have HH2 := Lib.hid (HH1.out.below hb2 (Nat.le_refl _))
    have HB2 := Lib.hid (Below.onto hb2 HB1.out)
    clear hb2
    go_wp2_with fail
    refine (HBG.out _ HH2.out).mono ?_
    rintro e w3 ⟨lp, rfl, hl3, hb3⟩
    have HL3 := Lib.hid hl3
    have HB3 := Lib.hid (Below.onto hb3 HB2.out)
    clear hb3 hl3
    have hw0 : IntKind.i64.wrap y = y := by rw [IntKind.wrap_i64]; omega
    have hw1 : IntKind.i64.wrap m = m := by rw [IntKind.wrap_i64]; omega
    have hw2 : IntKind.i64.wrap (n : Int) = (n : Int) := by rw [IntKind.wrap_i64]; omega
    obtain ⟨bw, hbw⟩ : ∃ b, w3.heap.size = b := ⟨_, rfl⟩
    have hI0 : RInv F w2.heap.size lp bw y w 0 (w3.alloc (.cells #[.int .i64 (-4503599627370496), .int .i64 4503599627370496] 38)) := by
      refine ⟨HL3.out.below ((Below.refl _ _).alloc (Nat.le_refl _) _) (Nat.le_refl _), HB3.out.alloc HB3.out.size _, ?_, by rw [← hbw]; exact HB3.out.size, by simp [← hbw]⟩
      rw [fbB_none, ← hbw]
      exact heap_alloc_new _ _
    have HI0 := Lib.hid hI0
    clear hI0
    go_wp2_with fail
    clear hw0 hw1 hw2 hn2
    go_loopw [29] (fun x wr => ∃ k : Nat, k ≤ n ∧ x = .int .i64 k ∧ Hid (RInv F w2.heap.size lp bw y w k wr)) (fun x _ => n - (intOf x).toNat)
    case atStart => exact ⟨0, by omega, rfl, HI0⟩
    case round =>
      obtain ⟨k, hk, rfl, hI⟩ := hrel
      by_cases hlt : k < n
      · obtain ⟨p1, p2, p3, p4, p5⟩ := hI.out
        have hw1 : IntKind.i64.wrap (y + (k : Int)) = y + (k : Int) := by rw [IntKind.wrap_i64]; omega
        have hw2 : IntKind.i64.wrap (y + (k : Int) + 1) = y + (k : Int) + 1 := by rw [IntKind.wrap_i64]; omega
        have hst := HST.out k
        have hbd1 := fun w h => HBD.out y (y + k) w2.heap.size lp w h (by unfold Mid; omega) (by unfold Mid; omega)
        have hbd2 := fun w h => HBD.out (y + k) (y + k + 1) w2.heap.size lp w h (by unfold Mid; omega) (by unfold Mid; omega)
        obtain ⟨q, hq⟩ : ∃ q, fbB F y (y + k) = q := ⟨_, rfl⟩
        obtain ⟨r, hr⟩ : ∃ r, fbB F (y + k) (y + k + 1) = r := ⟨_, rfl⟩
        rw [hq, hr] at hst
        rw [hq] at hbd1 p3
        rw [hr] at hbd2
        have hcl := fun w => clip_any q.1 q.2 r.1 r.2 w
        have HBD1 := Lib.hid hbd1
        have HBD2 := Lib.hid hbd2
        have HCL := Lib.hid hcl
        have HQ := Lib.hid hst
        have HL := Lib.hid p1
        have HK : Hid (∀ w', Below wr.heap.size wr w' → (Below wr.heap.size wr w' ∧ w'.cell? ⟨bw, 0, none⟩ = some (.int .i64 q.1) ∧ w'.cell? ⟨bw, 1, none⟩ = some (.int .i64 q.2))) := Lib.hid fun w' hB => by
          have hb := (hB.block bw p5).trans p3
          exact ⟨hB, cell_of_row w' bw 0 _ _ (0, 0) hb, cell_of_row w' bw 1 _ _ (0, 0) hb⟩
        have P3 := Lib.hid p3
        clear hst hbd1 hbd2 hcl hq hr p1 p3
        go_wp2_with fail
        go_region_held3 (fun w' => Below wr.heap.size wr w' ∧ w'.cell? ⟨bw, 0, none⟩ = some (.int .i64 q.1) ∧ w'.cell? ⟨bw, 1, none⟩ = some (.int .i64 q.2)) (first | exact HK.out _ (Below.refl _ _) | exact HK.out _ ((Below.refl _ _).drew) | exact HK.out _ (Below.onto HBx.out (And.left (by assumption)))) (first
          | ((with_reducible refine (HBD1.out _ (HL.out.below (And.left (by assumption)) (Nat.le_refl _))).mono ?_); rintro e wx ⟨rfl, hbx⟩; have HBx := Lib.hid hbx; clear hbx))
        rename_i hH
        have HW := Lib.hid hH.1
        clear hH
        go_wp2_with fail
        have HK2 : Hid (∀ w', Below wx.heap.size wx w' → (Below wr.heap.size wr w' ∧ w'.cell? ⟨bw, 0, none⟩ = some (.int .i64 q.1) ∧ w'.cell? ⟨bw, 1, none⟩ = some (.int .i64 q.2) ∧ w'.frozen? ⟨bw, 0, none⟩ = false ∧ w'.frozen? ⟨bw, 1, none⟩ = false)) := Lib.hid fun w' hB => by
          have hB' := Below.onto hB HW.out
          have hb := (hB'.block bw p5).trans P3.out
          exact ⟨hB', cell_of_row w' bw 0 _ _ (0, 0) hb, cell_of_row w' bw 1 _ _ (0, 0) hb, frozen_of_row w' bw 0 _ _ hb, frozen_of_row w' bw 1 _ _ hb⟩
        obtain ⟨_, c0, c1, d0, d1⟩ := HK2.out wx (Below.refl _ _)
        go_region_law (first
          | (refine step_call_post (P := Try.prog) rfl 21 #[.pointer (some ⟨lp, 0, none⟩), .agg #[.int .i64 (y + (k : Int)), .int .i64 (y + (k : Int) + 1)]] (by first | rfl | go_simp) _ (HBD2.out _ (HL.out.below (HK2.out _ (by (repeat (first | exact Below.refl _ _ | (refine Below.alloc ?_ (by first | omega | (simp; done) | (simp; omega)) _) | (refine Below.on (by assumption) ?_ (by first | omega | (simp; done) | (simp; omega))) | (refine Below.grown ?_ (by assumption) (by first | omega | (simp; done) | (simp; omega)) (by intro k hk; cases hk)) | refine Below.drew ?_)))).1 (Nat.le_refl _))) ?_; rintro e w5 ⟨rfl, hb5⟩; have HB5 := Lib.hid (Below.on hb5 (n := wx.heap.size) (W0 := wx) (by (repeat (first | exact Below.refl _ _ | (refine Below.alloc ?_ (by first | omega | (simp; done) | (simp; omega)) _) | (refine Below.on (by assumption) ?_ (by first | omega | (simp; done) | (simp; omega))) | (refine Below.grown ?_ (by assumption) (by first | omega | (simp; done) | (simp; omega)) (by intro k hk; cases hk)) | refine Below.drew ?_))) (Nat.le_refl _)); obtain ⟨_, x0, x1, y0, y1⟩ := HK2.out w5 HB5.out; clear hb5; refine ⟨_, rfl, ?_⟩)
          | (refine step_call_post (P := Try.prog) rfl 22 #[.agg #[.int .i64 q.1, .int .i64 q.2], .agg #[.int .i64 r.1, .int .i64 r.2]] (by first | rfl | go_simp) _ (HCL.out _) ?_; rintro e w6 ⟨rfl, hb6⟩; have HB6 := Lib.hid (HB5.out.trans (hb6.mono HB5.out.size)); obtain ⟨_, x0, x1, y0, y1⟩ := HK2.out w6 HB6.out; clear hb6; refine ⟨_, rfl, ?_⟩))
        all_goals
          have hn := Lib.hid (RInv.step (q := q) (r := r) hI.out (Below.onto HB6.out HW.out) P3.out HQ.out)
          clear c0 c1 d0 d1 x0 x1 y0 y1
          go_wp2_with fail
          go_roundw
          case rel => exact ⟨k + 1, by omega, by go_num, hn⟩
          case measure => simp [intOf]; omega
      · have hkn : k = n := by omega
        subst hkn
        have HB := Lib.hid hI.out.2.1
        clear hI hlt hk
        go_wp2_with fail
        go_ret
        exact ⟨rfl, HB.out⟩
end Go.Proofs.Ythinaifeifnefaa
