/- The law PlaceApart. (Printed by wip/gen_ppa.py.) -/
import Derived.Test.YtecojcdmigmnhaaP7
import Derived.Test.YtecojcdmigmnhaaPap
import Derived.Test.YtecojcdmigmnhaaAv6
import Derived.Test.YtecojcdmigmnhaaFw
namespace Go.Proofs.Ytecojcdmigmnhaa
set_option linter.unusedSimpArgs false
set_option linter.unusedVariables false
open Go.RowKit
def bxL (f : Fo) : List Value := [.int .i64 f.x0, .int .i64 f.y0, .int .i64 f.x1, .int .i64 f.y1]
theorem want11InfoA : (Try.prog.info? 84).map (·.size) = some 7 := by kernel_rfl
theorem rectInfoA3 : (Try.prog.info? 52).map (fun i => (i.zero, i.size, i.bytes)) = some (some (.agg #[.int .i64 0, .int .i64 0, .int .i64 0, .int .i64 0]), 4, 32) := by kernel_rfl
theorem own_touch {w w' : World} {base0 base base' sp n : Nat} {L : List Fo} {v : Value} {xs : List Value} (h : w.ownsRow base0 52 4 v n xs) (ht : SpTouch w w' base sp) (hs : SpaceIs w base' sp L) : w'.ownsRow base0 52 4 v n xs :=
  own_same h fun g C f _ hh => (SpTouch.keepT ht hs hh (by decide) (by decide) (by decide) (by decide)).trans hh.symm
theorem space_append {w w2 : World} {base0 base sp n : Nat} {L : List Fo} {v : Value} {xs : List Value} (hs : SpaceIs w base sp L) (ho : w.ownsRow base0 52 4 v n xs) (hg : w.grownBy w2 v.ownBlock) : SpaceIs w2 base sp L := by
  rcases ho.2 with ⟨rfl, _⟩ | ⟨g, cap, cur, rfl, _, hh, _⟩
  · exact hs.below (show Below w.heap.size w w2 from ⟨hg.os, hg.tape, hg.output, hg.size, fun k hk => hg.block k hk (by simp [Value.ownBlock])⟩) (Nat.le_refl _)
  · exact hs.offP (k := g) hg hh (by decide) (by decide) (by decide) (by decide)
theorem own_fromA {w : World} {base n k : Nat} {e : TypeId} {v : Value} {xs : List Value} (h : w.ownsRow base e 4 v n xs) (hk : v.ownBlock = some k) : base ≤ k := by
  rcases h.2 with ⟨rfl, _⟩ | ⟨g, cap, cur, rfl, hg, _⟩
  · simp [Value.ownBlock] at hk
  · simp [Value.ownBlock] at hk
    omega
theorem own_sliceA {w : World} {base n : Nat} {e : TypeId} {v : Value} {xs : List Value} (h : w.ownsRow base e 4 v n xs) : ∃ ad cv, v = Value.slice ad n cv := by
  rcases h.2 with ⟨rfl, h0⟩ | ⟨g, cap, cur, rfl, _⟩
  · exact ⟨none, 0, by rw [h0]⟩
  · exact ⟨_, cap, rfl⟩
theorem bxL_len : ∀ f, (bxL f).length = 4 := fun _ => rfl
theorem rect_own {w : World} {base n : Nat} {v : Value} {L : List Fo} (h : w.ownsRow base 52 4 v n (flat bxL L)) (hn : n = L.length) (h0 : 0 < n) : ∃ g cap, v = .slice (some ⟨g, 0, none⟩) n cap ∧ g < w.heap.size ∧ ∀ j, j < n → w.rangeAt g (0 + j * 4) (bxL (foAt L j)) := by
  subst hn
  obtain ⟨g, cap, rfl, hc, hg, hgl⟩ := own_form h h0 rfl
  refine ⟨g, cap, rfl, hgl, fun k hk j v hv => ?_⟩
  have hj : j < 4 := (List.getElem?_eq_some_iff.1 hv).1
  rw [Nat.zero_add, h.cellAt _ (by omega), flat_get bxL_len L k j hk hj, ← foAt_eq L k hk]
  exact hv
theorem bx_cells {w : World} {g o : Nat} {f : Fo} (h : w.rangeAt g o (bxL f)) : w.cell? ⟨g, o, none⟩ = some (.int .i64 f.x0) ∧ w.cell? ⟨g, o + 1, none⟩ = some (.int .i64 f.y0) ∧ w.cell? ⟨g, o + 2, none⟩ = some (.int .i64 f.x1) ∧ w.cell? ⟨g, o + 3, none⟩ = some (.int .i64 f.y1) :=
  ⟨h 0 _ rfl, h 1 _ rfl, h 2 _ rfl, h 3 _ rfl⟩
theorem wp_cells {w : World} {g o : Nat} {q : Wp} (h : w.rangeAt g o (wpL q)) : w.cell? ⟨g, o, none⟩ = some (.int .i64 q.s) ∧ w.cell? ⟨g, o + 1, none⟩ = some (.int .i64 q.c) ∧ w.cell? ⟨g, o + 2, none⟩ = some (.int .i64 q.a) ∧ w.cell? ⟨g, o + 3, none⟩ = some (.int .i64 q.b) ∧ w.cell? ⟨g, o + 4, none⟩ = some (.int .i64 q.wd) ∧ w.cell? ⟨g, o + 5, none⟩ = some (.int .i64 q.h) ∧ w.cell? ⟨g, o + 6, none⟩ = some (.int .i64 q.y) :=
  ⟨h 0 _ rfl, h 1 _ rfl, h 2 _ rfl, h 3 _ rfl, h 4 _ rfl, h 5 _ rfl, h 6 _ rfl⟩
/-- What stands at the loop's head. -/
def PaI (w0 : World) (sp i : Nat) (top : Int) (v : Value) (wr : World) : Prop :=
  ∃ L : List Fo, L.length = i ∧ SpaceIs wr w0.heap.size sp L ∧ nearB L = true ∧ yB L (1099511627776 * ((i : Int) + 1)) ∧ wr.ownsRow w0.heap.size 52 4 v i (flat bxL L) ∧ Below w0.heap.size w0 wr ∧ (0 < i → (lastS L).2 = true ∧ top ≤ (lastS L).1)
set_option maxRecDepth 20000 in
set_option maxHeartbeats 8000000 in
theorem placeApart_any (Q : List Wp) (v : Value) (w0 : World) (h : IsWps w0 v Q) (hn : Q.length ≤ maxLen) : Calls Try.prog 9 #[v] w0 fun e w' => e = .returned (.bool true) ∧ Below w0.heap.size w0 w' := by
  obtain ⟨A, cap0, rfl, _, hx⟩ := id h
  have HX := Lib.hid hx
  clear hx h
  by_cases hlen : 30 < (Q.length : Int)
  · have hdl := decide_eq_true hlen
    clear hlen
    go_enter Try.func9, Try.ntmps9
    go_wp2_with fail
    refine (spnew_any w0).mono ?_
    rintro e w1 ⟨sp, rfl, hs1, hb1⟩
    have HB1 := Lib.hid hb1
    clear hb1 hs1
    go_wp2_with fail
    refine (speaks11_any _).mono ?_
    rintro e w2 ⟨rfl, hb2⟩
    have HB2 := Lib.hid (Below.onto hb2 HB1.out)
    clear hb2
    go_wp2_with fail
    refine (speaks11_any _).mono ?_
    rintro e w3 ⟨rfl, hb3⟩
    have HB3 := Lib.hid (Below.onto hb3 HB2.out)
    clear hb3
    go_wp2_with fail
    go_ret
    exact ⟨rfl, HB3.out⟩
  · have hdl := decide_eq_false hlen
    have hln : Q.length ≤ 30 := by omega
    clear hlen
    obtain ⟨zi, hi0, hz0, hz1, hz2⟩ := info_parts rectInfoA3
    go_enter Try.func9, Try.ntmps9
    go_wp2_with fail
    refine (spnew_any w0).mono ?_
    rintro e w1 ⟨sp, rfl, hs1, hb1⟩
    have HS1 := Lib.hid hs1
    have HB1 := Lib.hid hb1
    clear hb1 hs1
    go_wp2_with fail
    refine (speaks11_any _).mono ?_
    rintro e w2 ⟨rfl, hb2⟩
    have HS2 := Lib.hid (HS1.out.below hb2 (Nat.le_refl _))
    have HB2 := Lib.hid (Below.onto hb2 HB1.out)
    clear hb2
    go_wp2_with fail
    go_loopw [4, 5, 28] (fun v t x wr => ∃ (i : Nat) (top : Int), i ≤ Q.length ∧ x = .int .i64 i ∧ t = .int .i64 top ∧ Hid (PaI w0 sp i top v wr)) (fun _ _ x _ => Q.length - (intOf x).toNat)
    case atStart => exact ⟨0, 0, by omega, rfl, rfl, Lib.hid ⟨[], rfl, HS2.out, rfl, fun f hf => by simp at hf, ⟨rfl, .inl ⟨rfl, rfl⟩⟩, HB2.out, fun h => by omega⟩⟩
    case round =>
      obtain ⟨i, top, hi, rfl, rfl, hI⟩ := hrel
      obtain ⟨L, hL, hsp, hnb, hyb, hown, hbw, hlast⟩ := id hI.out
      obtain ⟨ad, cv, rfl⟩ := own_sliceA hown
      by_cases hlt : i < Q.length
      · obtain ⟨g, o, rfl, hg, hsx⟩ := HX.out (by omega)
        obtain ⟨q, hq0⟩ : ∃ q, wpAt Q i = q := ⟨_, rfl⟩
        have hcell := wp_cells (w := wr) (fun j v hv => (hbw.cell (p := ⟨g, o + i * 7 + j, none⟩) hg).trans (hsx i hlt j v hv))
        rw [hq0] at hcell
        have hgl : g < wr.heap.size := by have := hbw.size; omega
        have hri := fun w => right11_any q w
        have hof := fun w => of11_any q w
        have hL30 : L.length ≤ 30 := by omega
        obtain ⟨W7, hW7⟩ : ∃ W, wr.alloc (.cells #[.int .i64 q.s, .int .i64 q.c, .int .i64 q.a, .int .i64 q.b, .int .i64 q.wd, .int .i64 q.h, .int .i64 q.y] 84) = W := ⟨_, rfl⟩
        obtain ⟨bW, hbW⟩ : ∃ b, wr.heap.size = b := ⟨_, rfl⟩
        have hv7 : W7.heap[bW]? = some (.cells #[.int .i64 q.s, .int .i64 q.c, .int .i64 q.a, .int .i64 q.b, .int .i64 q.wd, .int .i64 q.h, .int .i64 q.y] 84 (0, 0)) := by rw [← hW7, ← hbW]; exact heap_alloc_new wr _
        have hb7 : Below wr.heap.size wr W7 := by rw [← hW7]; exact (Below.refl _ _).alloc (Nat.le_refl _) _
        have HBW0 := Lib.hid hbw
        have HS7 := Lib.hid (hsp.below hb7 (Nat.le_refl _))
        have HO7 := Lib.hid (own_below hown hb7)
        have HB7 := Lib.hid (Below.onto hb7 hbw)
        have HV7 := Lib.hid hv7
        have HW7 := Lib.hid hW7
        have HBN := Lib.hid hbW
        have HOF := Lib.hid hof
        have HNB := Lib.hid hnb
        have HYB := Lib.hid hyb
        have HLA := Lib.hid hlast
        clear hsx hv7 hb7 hW7 hbW hof hI hsp hnb hyb hown hlast hbw
        obtain ⟨c0, c1, c2, c3, c4, c5, c6⟩ := hcell
        cases hq : okWp q with
        | false =>
          rw [hq] at hri
          have HRI := Lib.hid hri
          clear hri hq
          obtain ⟨qs, qc, qa, qb, qw, qh, qy⟩ := q
          simp only at *
          go_wp2_with (first
            | ((with_reducible refine store_new (dst := none) 84 (.tmp 7) (.tmp 32) wr _ #[.int .i64 qs, .int .i64 qc, .int .i64 qa, .int .i64 qb, .int .i64 qw, .int .i64 qh, .int .i64 qy] 84 rfl ?_ ?_ ?_ ?_ ?_ ?_); rfl; rfl; exact want11InfoA; rfl; (simp [Value.oneCell'])))
          rw [HW7.out, HBN.out]
          refine (HRI.out W7).mono ?_
          rintro e w8 ⟨rfl, hb8⟩
          have HB8 := Lib.hid (Below.on hb8 HB7.out HB7.out.size)
          clear hb8 c0 c1 c2 c3 c4 c5 c6
          go_wp2_with fail
          go_ret
          exact ⟨rfl, HB8.out⟩
        | true =>
          rw [hq] at hri
          have HRI := Lib.hid hri
          have HQ := Lib.hid hq
          clear hri hq
          have hpa : (decide (1099511627776 < q.y) = true) ∨ (decide (1099511627776 < q.y) = false ∧ decide (1099511627776 < q.h) = true) ∨ (decide (1099511627776 < q.y) = false ∧ decide (1099511627776 < q.h) = false ∧ decide (q.h < 0) = true) ∨ (decide (1099511627776 < q.y) = false ∧ decide (1099511627776 < q.h) = false ∧ decide (q.h < 0) = false ∧ decide (q.y < -1099511627776) = true) ∨
              (decide (1099511627776 < q.y) = false ∧ decide (1099511627776 < q.h) = false ∧ decide (q.h < 0) = false ∧ decide (q.y < -1099511627776) = false ∧ okPa q = true) := by
            unfold okPa
            simp only [decide_eq_true_eq, decide_eq_false_iff_not]
            omega
          rcases hpa with d1 | ⟨d1, d2⟩ | ⟨d1, d2, d3⟩ | ⟨d1, d2, d3, d4⟩ | ⟨d1, d2, d3, d4, hpa⟩
          iterate 4
            · go_wp2_with (first
                | ((with_reducible refine store_new (dst := none) 84 (.tmp 7) (.tmp 32) wr _ #[.int .i64 q.s, .int .i64 q.c, .int .i64 q.a, .int .i64 q.b, .int .i64 q.wd, .int .i64 q.h, .int .i64 q.y] 84 rfl ?_ ?_ ?_ ?_ ?_ ?_); rfl; rfl; exact want11InfoA; rfl; (simp [Value.oneCell'])))
              rw [HW7.out, HBN.out]
              refine (HRI.out W7).mono ?_
              rintro e w8 ⟨rfl, hb8⟩
              have HB8 := Lib.hid (Below.on hb8 HB7.out HB7.out.size)
              have HS8 := Lib.hid (HS7.out.below hb8 (Nat.le_refl _))
              have HO8 := Lib.hid (own_below HO7.out hb8)
              have HV8 := Lib.hid (keepB HV7.out hb8)
              clear hb8 c0 c1 c2 c3 c4 c5 c6
              obtain ⟨c0, c1, c2, c3, c4, c5, c6⟩ := boxP HV8.out
              go_wp2_with fail
              go_ret
              exact ⟨rfl, HB8.out⟩
          · have hnr := put_near HNB.out HYB.out (by omega) HQ.out hpa
            have hak := put_asks HNB.out HQ.out
            have hap := fun f (hf : f ∈ L) => apartP HQ.out (topP_first HNB.out HQ.out).2.1 hf (nearF_at (nearB_at HNB.out f hf)).2.2.2.2
            have hpu := fun w h hb => put_any11 L q w0.heap.size sp w h HNB.out (by omega) HQ.out hb
            have hbo := fun w h => bottom_any L q.c w0.heap.size sp w h (fun f hf => (nearF_at (nearB_at HNB.out f hf)).2.2.2.2)
            have hss := (okWp_at HQ.out).2.1
            unfold PPutPost at hpu
            unfold EdgePost at hbo
            have hpx : putP L q = ⟨q.s, (putP L q).x0, (putP L q).y0, (putP L q).x1, (putP L q).y1⟩ := rfl
            have e1 : leftP L q (topP L q) = (putP L q).x0 := rfl
            have e2 : topP L q = (putP L q).y0 := rfl
            have e3 : (putP L q).x0 + q.wd = (putP L q).x1 := rfl
            have e4 : (putP L q).y0 + q.h = (putP L q).y1 := rfl
            rw [e1, e2, e3] at hak
            have hap : ∀ f ∈ L, fullB (max f.x0 (putP L q).x0) (max f.y0 (putP L q).y0) (min f.x1 (putP L q).x1) (min f.y1 (putP L q).y1) = false := hap
            have hpn := nearF_at (nearB_at hnr.1 (putP L q) (by simp))
            generalize putP L q = F at *
            obtain ⟨Fs, x0, y0, x1, y1⟩ := F
            simp only at hpu hak hap hnr hpn hpx
            obtain ⟨⟨lt, lo⟩, hlo⟩ : ∃ e, lastS L = e := ⟨_, rfl⟩
            obtain ⟨⟨bt, bo⟩, hbo2⟩ : ∃ e, botS q.c L = e := ⟨_, rfl⟩
            rw [hlo] at hak
            rw [hbo2] at hak hbo
            simp only at hak hbo
            obtain ⟨k1, k2, k3, k4, k5⟩ := hak
            have hmt : ∀ f ∈ L, ∀ w, Calls Try.prog 46 #[.agg #[.int .i64 f.x0, .int .i64 f.y0, .int .i64 f.x1, .int .i64 f.y1], .agg #[.int .i64 x0, .int .i64 y0, .int .i64 x1, .int .i64 y1]] w fun e w' => e = .returned (.bool false) ∧ Below w.heap.size w w' := by
              intro f hf w
              obtain ⟨n0, n1, n2, n3, n4⟩ := nearF_at (nearB_at HNB.out f hf)
              obtain ⟨p0, p1, p2, p3, p4⟩ := hpn
              have hm := meet_any f.x0 f.y0 f.x1 f.y1 x0 y0 x1 y1 w (by unfold Mid; omega) (by unfold Mid; omega) (by unfold Mid; omega) (by unfold Mid; omega)
              rw [hap f hf] at hm
              exact hm
            have hfin : ∀ v2 w2, SpaceIs w2 w0.heap.size sp (L ++ [⟨Fs, x0, y0, x1, y1⟩]) → w2.ownsRow w0.heap.size 52 4 v2 (i + 1) (flat bxL L ++ [.int .i64 x0, .int .i64 y0, .int .i64 x1, .int .i64 y1]) → Below w0.heap.size w0 w2 → PaI w0 sp (i + 1) y0 v2 w2 := by
              intro v2 w2 h1 h2 h3
              refine ⟨L ++ [⟨Fs, x0, y0, x1, y1⟩], by simp [hL], h1, hnr.1, ?_, ?_, h3, fun _ => ?_⟩
              · have h := hnr.2
                have e : 1099511627776 * ((i : Int) + 1) + 1099511627776 = 1099511627776 * (((i + 1 : Nat) : Int) + 1) := by omega
                rw [e] at h
                exact h
              · rw [flat_snoc]
                exact h2
              · rw [lastS_snoc]
                exact ⟨rch_true _ _, rch_ge _ _⟩
            have hrect : 0 < i → ∃ gg cap, ad = some ⟨gg, 0, none⟩ ∧ cv = cap ∧ ∀ j, j < i → ∀ w', Below W7.heap.size W7 w' → True := fun h => by
              obtain ⟨gg, cap, e, _⟩ := rect_own HO7.out hL.symm h
              injection e with e5 e6 e7
              exact ⟨gg, cap, e5, e7, fun _ _ _ _ => trivial⟩
            clear hrect
            have hdl0 : 0 < i → decide (y0 < top) = false := fun h => decide_eq_false (by
              obtain ⟨q1, q2⟩ := HLA.out h
              rw [hlo] at q1 q2
              have := k2 q1
              simp only at q2
              omega)
            have hdy := decide_eq_false (show ¬ y0 < q.y by omega)
            have hdb : bo = true → decide (y0 < bt) = false := fun h => decide_eq_false (by have := k3 h; omega)
            have HPU := Lib.hid hpu
            have HBO := Lib.hid hbo
            have HMT := Lib.hid hmt
            have HFI := Lib.hid hfin
            have HDL := Lib.hid hdl0
            have HDB := Lib.hid hdb
            have HDY := Lib.hid hdy
            have HSD : Hid (((q.s == 1) = true ∧ (q.s == 2) = false ∧ decide (x0 < q.a) = false) ∨ ((q.s == 1) = false ∧ (q.s == 2) = true ∧ decide (q.b < x1) = false)) := by
              rcases hss with h | h
              · left; exact ⟨by simp [h], by simp [h], decide_eq_false (by have := k4 h; omega)⟩
              · right; exact ⟨by simp [h], by simp [h], decide_eq_false (by have := k5 h; omega)⟩
            clear hpu hbo hmt hfin hdl0 hdb hdy hss k1 k2 k3 k4 k5 hap hnr hpx hpa e1 e2 e3 e4
            go_wp2_with (first
              | ((with_reducible refine store_new (dst := none) 84 (.tmp 7) (.tmp 32) wr _ #[.int .i64 q.s, .int .i64 q.c, .int .i64 q.a, .int .i64 q.b, .int .i64 q.wd, .int .i64 q.h, .int .i64 q.y] 84 rfl ?_ ?_ ?_ ?_ ?_ ?_); rfl; rfl; exact want11InfoA; rfl; (simp [Value.oneCell'])))
            rw [HW7.out, HBN.out]
            refine (HRI.out W7).mono ?_
            rintro e w8 ⟨rfl, hb8⟩
            have HB8 := Lib.hid (Below.on hb8 HB7.out HB7.out.size)
            have HS8 := Lib.hid (HS7.out.below hb8 (Nat.le_refl _))
            have HO8 := Lib.hid (own_below HO7.out hb8)
            have HV8 := Lib.hid (keepB HV7.out hb8)
            clear hb8 c0 c1 c2 c3 c4 c5 c6
            obtain ⟨c0, c1, c2, c3, c4, c5, c6⟩ := boxP HV8.out
            go_wp2_with fail
            refine (HBO.out w8 HS8.out).mono ?_
            rintro e w9 ⟨rfl, hb9⟩
            have HB9 := Lib.hid (Below.on hb9 HB8.out HB8.out.size)
            have HS9 := Lib.hid (HS8.out.below hb9 (Nat.le_refl _))
            have HO9 := Lib.hid (own_below HO8.out hb9)
            have HV9 := Lib.hid (keepB HV8.out hb9)
            clear hb9 c0 c1 c2 c3 c4 c5 c6
            obtain ⟨c0, c1, c2, c3, c4, c5, c6⟩ := boxP HV9.out
            go_wp2_with fail
            refine (HOF.out w9).mono ?_
            rintro e w10 ⟨rfl, hb10⟩
            have HB10 := Lib.hid (Below.on hb10 HB9.out HB9.out.size)
            have HS10 := Lib.hid (HS9.out.below hb10 (Nat.le_refl _))
            have HO10 := Lib.hid (own_below HO9.out hb10)
            have HV10 := Lib.hid (keepB HV9.out hb10)
            clear hb10 c0 c1 c2 c3 c4 c5 c6
            go_wp2_with fail
            refine (HPU.out w10 HS10.out HB10.out.size).mono ?_
            rintro e w11 ⟨rfl, hs11, ht11⟩
            have HB11 := Lib.hid (HB10.out.trans (ht11.below HB10.out.size))
            have HS11 := Lib.hid hs11
            have HO11 := Lib.hid (own_touch HO10.out ht11 HS10.out)
            have HV11 := Lib.hid (SpTouch.keepT ht11 HS10.out HV10.out (by decide) (by decide) (by decide) (by decide))
            clear hs11 ht11
            obtain ⟨W12, hW12⟩ : ∃ W, w11.alloc (.cells #[.int .i64 x0, .int .i64 y0, .int .i64 x1, .int .i64 y1] 52) = W := ⟨_, rfl⟩
            obtain ⟨bR, hbR⟩ : ∃ b, w11.heap.size = b := ⟨_, rfl⟩
            have hv12 : W12.heap[bR]? = some (.cells #[.int .i64 x0, .int .i64 y0, .int .i64 x1, .int .i64 y1] 52 (0, 0)) := by rw [← hW12, ← hbR]; exact heap_alloc_new w11 _
            have hb12 : Below w11.heap.size w11 W12 := by rw [← hW12]; exact (Below.refl _ _).alloc (Nat.le_refl _) _
            have HS12 := Lib.hid (HS11.out.below hb12 (Nat.le_refl _))
            have HO12 := Lib.hid (own_below HO11.out hb12)
            have HB12 := Lib.hid (Below.on hb12 HB11.out HB11.out.size)
            have HV12 := Lib.hid hv12
            have HW12 := Lib.hid hW12
            have HBR := Lib.hid hbR
            have hWl : bW < w11.heap.size := (Array.getElem?_eq_some_iff.1 HV11.out).1
            obtain ⟨c0, c1, c2, c3, c4, c5, c6⟩ := boxP HV11.out
            clear hv12 hb12 hW12 hbR HS7 HO7 HB7 HV7 HS8 HO8 HB8 HV8 HS9 HO9 HB9 HV9 HS10 HO10 HB10 HV10 HS11 HO11 HB11 HV11 HRI HBO HPU HOF
            have hdy := HDY.out
            have hdi : ((0 < i ∧ decide ((0 : Int) < (i : Int)) = true ∧ decide (y0 < top) = false) ∨ (¬ 0 < i ∧ decide ((0 : Int) < (i : Int)) = false ∧ decide (0 < i) = false)) := by
              rcases Nat.eq_zero_or_pos i with h | h
              · right; exact ⟨by omega, decide_eq_false (by omega), decide_eq_false (by omega)⟩
              · left; exact ⟨h, decide_eq_true (by omega), HDL.out h⟩
            have hdo : (bo = true ∧ decide (y0 < bt) = false) ∨ bo = false := by
              cases bo with
              | true => left; exact ⟨rfl, HDB.out rfl⟩
              | false => right; rfl
            rcases hdi with ⟨di0, di1, di2⟩ | ⟨di0, di1, di2⟩
            all_goals
              rcases hdo with ⟨rfl, do1⟩ | rfl
              all_goals
                rcases HSD.out with ⟨ds1, ds2, ds3⟩ | ⟨ds1, ds2, ds3⟩
                all_goals
                  go_wp2_with (first
                    | ((with_reducible refine store_new (dst := none) 52 (.tmp 10) (.tmp 66) w11 _ #[.int .i64 x0, .int .i64 y0, .int .i64 x1, .int .i64 y1] 52 rfl ?_ ?_ ?_ ?_ ?_ ?_); rfl; rfl; exact rectInfo; rfl; (simp [Value.oneCell'])))
                  rw [HW12.out, HBR.out]
                  clear c0 c1 c2 c3 c4 c5 c6 ds1 ds2 ds3
                  go_loopw [117] (fun x wx => ∃ j : Nat, j ≤ i ∧ x = .int .i64 j ∧ Hid (Below W12.heap.size W12 wx)) (fun x _ => i - (intOf x).toNat)
                  case atStart => exact ⟨0, by omega, rfl, Lib.hid (Below.refl _ _)⟩
                  case round =>
                    obtain ⟨j, hj, rfl, hJ⟩ := hrel
                    have hvR := keepB HV12.out hJ.out
                    have hRl : bR < wr.heap.size := (Array.getElem?_eq_some_iff.1 hvR).1
                    obtain ⟨u0, u1, u2, u3⟩ := box4v hvR
                    clear hvR
                    by_cases hjl : j < i
                    · obtain ⟨gg, cap, heq, hgg, hrr⟩ := rect_own HO12.out hL.symm (by omega)
                      injection heq with he1 he2 he3
                      subst he1
                      subst he3
                      have hfm : foAt L j ∈ L := by rw [foAt_eq L j (by omega)]; exact List.getElem_mem (by omega)
                      have hM := HMT.out (foAt L j) hfm
                      have hcc := bx_cells (w := wr) (fun jj v hv => (hJ.out.cell (p := ⟨gg, 0 + j * 4 + jj, none⟩) hgg).trans (hrr j hjl jj v hv))
                      rw [Nat.zero_add] at hcc
                      obtain ⟨r0, r1, r2, r3⟩ := hcc
                      have hggl : gg < wr.heap.size := by have := hJ.out.size; omega
                      have HM := Lib.hid hM
                      have HJ := Lib.hid hJ.out
                      clear hM hrr hJ hfm hgg
                      generalize (foAt L j).x0 = f0 at *
                      generalize (foAt L j).y0 = f1 at *
                      generalize (foAt L j).x1 = f2 at *
                      generalize (foAt L j).y1 = f3 at *
                      obtain ⟨W13, hW13⟩ : ∃ W, wr.alloc (.cells #[.int .i64 f0, .int .i64 f1, .int .i64 f2, .int .i64 f3] 52) = W := ⟨_, rfl⟩
                      have hb13 : Below wr.heap.size wr W13 := by rw [← hW13]; exact (Below.refl _ _).alloc (Nat.le_refl _) _
                      have HB13 := Lib.hid (Below.onto hb13 HJ.out)
                      have HW13 := Lib.hid hW13
                      clear hW13 hb13
                      go_wp2_with (first
                        | ((with_reducible refine store_new (dst := none) 52 (.tmp 12) (.tmp 120) wr _ #[.int .i64 f0, .int .i64 f1, .int .i64 f2, .int .i64 f3] 52 rfl ?_ ?_ ?_ ?_ ?_ ?_); rfl; rfl; exact rectInfo; rfl; (simp [Value.oneCell'])))
                      rw [HW13.out]
                      clear r0 r1 r2 r3 u0 u1 u2 u3
                      refine (HM.out W13).mono ?_
                      rintro e w14 ⟨rfl, hb14⟩
                      have HB14 := Lib.hid (Below.onto hb14 HB13.out)
                      clear hb14
                      go_wp2_with fail
                      go_roundw
                      case rel => exact ⟨j + 1, by omega, by go_num, HB14⟩
                      case measure => simp [intOf]; omega
                    · have hji : j = i := by omega
                      subst hji
                      have hwa := (Below.refl wr.heap.size wr).alloc (Nat.le_refl _) (.cells #[.int .i64 x0, .int .i64 y0, .int .i64 x1, .int .i64 y1] 52)
                      have hown := own_below (own_below HO12.out hJ.out) hwa
                      have hnews := range_new wr [.int .i64 x0, .int .i64 y0, .int .i64 x1, .int .i64 y1] 52
                      have HOWN := Lib.hid hown
                      have HWA := Lib.hid (Below.on hwa (Below.on hJ.out HB12.out HB12.out.size) (Nat.le_trans HB12.out.size hJ.out.size))
                      have HSA := Lib.hid ((HS12.out.below hJ.out (Nat.le_refl _)).below hwa (Nat.le_refl _))
                      have HNEW := Lib.hid hnews
                      have hzw : w0.heap.size ≤ wr.heap.size := Nat.le_trans HB12.out.size hJ.out.size
                      clear hwa hown hnews hJ
                      go_wp2_with (first
                        | (at_builtin; refine wpList_append_own_at _ rfl (.tmp 125) (.tmp 127) 82 (by rfl) w0.heap.size 52 zi (.agg #[.int .i64 0, .int .i64 0, .int .i64 0, .int .i64 0]) 4 32 Try.underlying82 hi0 hz0 hz1 hz2 rfl (by decide) _ j (flat bxL L) (by rfl) HOWN.out ⟨wr.heap.size, 0, none⟩ 1 1 [.int .i64 x0, .int .i64 y0, .int .i64 x1, .int .i64 y1] (by rfl) rfl (fun j u hu => by have h := HNEW.out j u hu; simpa [Addr.add_mid] using h) (by simp [Value.oneCell']) (by unfold maxLen; omega) (by omega) (by simp; omega) ?_; intro v2 w2 hI2 hg2 hn2 ha2; have HI2 := Lib.hid hI2; have HG2 := Lib.hid hg2; clear hI2 hg2 ha2 hn2))
                      have HU := Lib.hid (HFI.out v2 w2 (space_append HSA.out HOWN.out HG2.out) HI2.out (HWA.out.grown HG2.out (by simp; omega) (fun k hk => own_fromA HOWN.out hk)))
                      go_wp2_with fail
                      go_roundw
                      case rel => exact ⟨j + 1, y0, by omega, by go_num, rfl, HU⟩
                      case measure => simp [intOf]; omega
      · have hir : i = Q.length := by omega
        have hll : L.length = Q.length := by omega
        have hfl := floats_any L w0.heap.size sp wr hsp (by omega)
        unfold FloatsPost at hfl
        have HFL := Lib.hid hfl
        have HBWR := Lib.hid hbw
        clear hsp hnb hyb hown hlast hI hlt hbw hfl hL
        subst hir
        go_wp2_with fail
        refine HFL.out.mono ?_
        rintro e w5 ⟨v5, rfl, ho5, hb5⟩
        obtain ⟨A8, cap8, rfl, _, _⟩ := isFos_of_own ho5 rfl
        have HB5 := Lib.hid (Below.on hb5 HBWR.out HBWR.out.size)
        clear ho5 hb5
        rw [hll]
        go_wp2_with fail
        go_ret
        exact ⟨rfl, HB5.out⟩
end Go.Proofs.Ytecojcdmigmnhaa
