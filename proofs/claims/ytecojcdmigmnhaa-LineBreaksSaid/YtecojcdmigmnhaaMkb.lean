/- The document's maker of lines: Add. Plain: the document's maker and the program's builder make the same lines. The document's maker of lines: All. A line of the program as the document's. Law LineBreaks: its walk. (Begun by wip/gen_line.py.) -/
import Derived.Test.YtecojcdmigmnhaaMka
import Derived.Test.YtecojcdmigmnhaaNz
import Derived.Test.YtecojcdmigmnhaaLq5
import Derived.Test.YtecojcdmigmnhaaLr
namespace Go.Proofs.Ytecojcdmigmnhaa
set_option linter.unusedSimpArgs false
set_option linter.unusedVariables false
open Go.RowKit
/- Mk2 -/
theorem rszElem : Elem Try.prog 55 67 2 16 := ⟨Try.underlying55, by kernel_rfl, by decide, by decide⟩
def addM (L : List Fo) (m : Mkr) (z : Int × Int) : Mkr × Bool :=
  if m.As = [] then (⟨m.a, m.b, m.y, topQ L m.a m.b m.y z.1 z.2, [z]⟩, true)
  else if wideL (m.As ++ [z]) ≤ (freeS L m.a m.b m.t (highL (m.As ++ [z]))).2 - (freeS L m.a m.b m.t (highL (m.As ++ [z]))).1 then (⟨m.a, m.b, m.y, m.t, m.As ++ [z]⟩, true) else (m, false)
def RAddPost (L : List Fo) (vL : Value) (m : Mkr) (z : Int × Int) (w : World) (e : Ending) (w' : World) : Prop :=
  ∃ vA, e = .returned (.tuple #[.agg (mkC vL vA (addM L m z).1).toArray, .bool (addM L m z).2]) ∧ IsSl szC 2 w' vA (addM L m z).1.As ∧ Below w.heap.size w w' ∧ ((addM L m z).2 = true → ∃ n0, w.heap.size ≤ n0 ∧ OwnSl szC 2 67 w' n0 vA (addM L m z).1.As)
/-- The loop's state: where the line would begin. -/
structure AddS (w wr : World) (b2 n0 : Nat) (vL vA v3 : Value) (m : Mkr) (z1 z2 tp : Int) (L2 : List (Int × Int)) : Prop where
  m2 : wr.heap[b2]? = some (.cells #[vL, .int .i64 m.a, .int .i64 m.b, .int .i64 m.y, .int .i64 m.t, vA] 99 (0, 0))
  z3 : wr.heap[b2 + 1]? = some (.cells #[.int .i64 z1, .int .i64 z2] 67 (0, 0))
  r4 : wr.heap[b2 + 1 + 1]? = some (.cells #[.slice none 0 0, .int .i64 0, .int .i64 0, .int .i64 0, .int .i64 0, .slice none 0 0] 99 (0, 0))
  n6 : wr.heap[b2 + 1 + 1 + 1]? = some (.cells #[vL, .int .i64 m.a, .int .i64 m.b, .int .i64 m.y, .int .i64 tp, v3] 99 (0, 0))
  own : OwnSl szC 2 67 wr n0 v3 L2
  below : Below w.heap.size w wr
  b : w.heap.size = b2
  n : b2 + 4 ≤ n0
theorem AddS.below' {w wr w' : World} {b2 n0 : Nat} {vL vA v3 : Value} {m : Mkr} {z1 z2 tp : Int} {L2 : List (Int × Int)} (h : AddS w wr b2 n0 vL vA v3 m z1 z2 tp L2) (hb : Below wr.heap.size wr w') : AddS w w' b2 n0 vL vA v3 m z1 z2 tp L2 :=
  ⟨blk_keep h.m2 hb, blk_keep h.z3 hb, blk_keep h.r4 hb, blk_keep h.n6 hb, h.own.below hb, h.below.trans (hb.mono h.below.size), h.b, h.n⟩
theorem AddS.top {w wr : World} {b2 n0 : Nat} {vL vA v3 : Value} {m : Mkr} {z1 z2 tp : Int} {L2 : List (Int × Int)} (h : AddS w wr b2 n0 vL vA v3 m z1 z2 tp L2) (y : Int) : AddS w (wr.setCell ⟨b2 + 1 + 1 + 1, 4, none⟩ (.int .i64 y)) b2 n0 vL vA v3 m z1 z2 y L2 := by
  have hg : wr.grownBy (wr.setCell ⟨b2 + 1 + 1 + 1, 4, none⟩ (.int .i64 y)) (some (b2 + 1 + 1 + 1)) := grown_setCells (b2 + 1 + 1 + 1) [.int .i64 y] 4 wr
  have hn := h.n
  have hb := h.b
  have gk : ∀ k o, wr.heap[k]? = some o → k ≠ b2 + 1 + 1 + 1 → (wr.setCell ⟨b2 + 1 + 1 + 1, 4, none⟩ (.int .i64 y)).heap[k]? = some o := fun k o h hne => (hg.block k (lt_of h) (by intro e; injection e with e; exact hne e)).trans h
  exact ⟨gk _ _ h.m2 (by omega), gk _ _ h.z3 (by omega), gk _ _ h.r4 (by omega), heap_setCell_same wr _ 4 _ _ _ h.n6, h.own.kept hg (.inr (fun e => by have := h.own.from_ e; omega)), h.below.setCell (by show w.heap.size ≤ b2 + 1 + 1 + 1; omega) _, h.b, h.n⟩
def topOf (wr : World) (b : Nat) : Int := intOf ((wr.cell? ⟨b, 4, none⟩).getD undef)
set_option maxRecDepth 20000 in
set_option maxHeartbeats 4000000 in
theorem radd_any (L : List Fo) (vL vA : Value) (m : Mkr) (z : Int × Int) (w : World) (hf : IsFos w vL L) (hn : L.length ≤ maxLen) (hsm : ∀ f ∈ L, smallF f = true) (hA : IsSl szC 2 w vA m.As) (hm : MkOk m) (hz : szOk z) (hl : m.As.length ≤ 900) (hy : -4503599627370496 ≤ m.y ∧ m.y ≤ 2251799813685248) (hlo : Lowish L) (hyf : -far < m.y) (hab : -far ≤ m.a ∧ m.b ≤ far) :
    Calls Try.prog 78 #[.agg #[vL, .int .i64 m.a, .int .i64 m.b, .int .i64 m.y, .int .i64 m.t, vA], .agg #[.int .i64 z.1, .int .i64 z.2]] w (RAddPost L vL m z w) := by
  obtain ⟨z1, z2⟩ := z
  obtain ⟨b2, hb2⟩ : ∃ b, w.heap.size = b := ⟨_, rfl⟩
  obtain ⟨W, hW⟩ : ∃ W, (((w.alloc (.cells #[vL, .int .i64 m.a, .int .i64 m.b, .int .i64 m.y, .int .i64 m.t, vA] 99)).alloc (.cells #[.int .i64 z1, .int .i64 z2] 67)).alloc (.cells #[.slice none 0 0, .int .i64 0, .int .i64 0, .int .i64 0, .int .i64 0, .slice none 0 0] 99)).alloc (.cells #[vL, .int .i64 m.a, .int .i64 m.b, .int .i64 m.y, .int .i64 m.t, vA] 99) = W := ⟨_, rfl⟩
  have hB : Below w.heap.size w W := by rw [← hW]; exact ((((Below.refl _ _).alloc (Nat.le_refl _) _).alloc (by simp) _).alloc (by simp; omega) _).alloc (by simp; omega) _
  have hzW : W.heap.size = b2 + 4 := by rw [← hW, ← hb2]; simp
  have g2 : W.heap[b2]? = some (.cells #[vL, .int .i64 m.a, .int .i64 m.b, .int .i64 m.y, .int .i64 m.t, vA] 99 (0, 0)) := by rw [← hW, ← hb2, heap_alloc_old _ _ (by simp; omega), heap_alloc_old _ _ (by simp; omega), heap_alloc_old _ _ (by simp), heap_alloc_new]
  have g3 : W.heap[b2 + 1]? = some (.cells #[.int .i64 z1, .int .i64 z2] 67 (0, 0)) := by rw [← hW, ← hb2, heap_alloc_old _ _ (by simp), heap_alloc_old _ _ (by simp)]; exact heap_alloc2_new w _ _
  have g4 : W.heap[b2 + 1 + 1]? = some (.cells #[.slice none 0 0, .int .i64 0, .int .i64 0, .int .i64 0, .int .i64 0, .slice none 0 0] 99 (0, 0)) := by
    have h := heap_alloc_new ((w.alloc (.cells #[vL, .int .i64 m.a, .int .i64 m.b, .int .i64 m.y, .int .i64 m.t, vA] 99)).alloc (.cells #[.int .i64 z1, .int .i64 z2] 67)) (.cells #[.slice none 0 0, .int .i64 0, .int .i64 0, .int .i64 0, .int .i64 0, .slice none 0 0] 99)
    rw [show ((w.alloc (.cells #[vL, .int .i64 m.a, .int .i64 m.b, .int .i64 m.y, .int .i64 m.t, vA] 99)).alloc (.cells #[.int .i64 z1, .int .i64 z2] 67)).heap.size = b2 + 1 + 1 by rw [← hb2]; simp] at h
    rw [← hW, heap_alloc_old _ _ (by rw [← hb2]; simp)]
    exact h
  have g6 : W.heap[b2 + 1 + 1 + 1]? = some (.cells #[vL, .int .i64 m.a, .int .i64 m.b, .int .i64 m.y, .int .i64 m.t, vA] 99 (0, 0)) := by
    have h := heap_alloc_new (((w.alloc (.cells #[vL, .int .i64 m.a, .int .i64 m.b, .int .i64 m.y, .int .i64 m.t, vA] 99)).alloc (.cells #[.int .i64 z1, .int .i64 z2] 67)).alloc (.cells #[.slice none 0 0, .int .i64 0, .int .i64 0, .int .i64 0, .int .i64 0, .slice none 0 0] 99)) (.cells #[vL, .int .i64 m.a, .int .i64 m.b, .int .i64 m.y, .int .i64 m.t, vA] 99)
    rw [hW, show (((w.alloc (.cells #[vL, .int .i64 m.a, .int .i64 m.b, .int .i64 m.y, .int .i64 m.t, vA] 99)).alloc (.cells #[.int .i64 z1, .int .i64 z2] 67)).alloc (.cells #[.slice none 0 0, .int .i64 0, .int .i64 0, .int .i64 0, .int .i64 0, .slice none 0 0] 99)).heap.size = b2 + 1 + 1 + 1 by rw [← hb2]; simp] at h
    exact h
  obtain ⟨A2, cap2, rfl, hcap2, hAA2⟩ := id hf
  obtain ⟨A, cap, rfl, hcap, hAA⟩ := id hA
  have HF0 := Lib.hid hf
  have HA0 := Lib.hid hA
  have HF := Lib.hid (fun w' (e : Below W.heap.size W w') => hf.below (hB.trans (e.mono hB.size)) (Nat.le_refl _))
  have HA := Lib.hid (fun w' (e : Below W.heap.size W w') => hA.below (hB.trans (e.mono hB.size)) (Nat.le_refl _))
  have HK : Hid (∀ w', Below W.heap.size W w' → w'.cell? ⟨b2, 5, none⟩ = some (.slice A m.As.length cap) ∧ w'.cell? ⟨b2 + 1, 0, none⟩ = some (.int .i64 z1) ∧ w'.cell? ⟨b2 + 1, 1, none⟩ = some (.int .i64 z2)) := Lib.hid fun w' e =>
    ⟨(cells6 (blk_keep g2 e)).2.2.2.2.2, cell_of_row w' (b2 + 1) 0 _ _ (0, 0) (blk_keep g3 e), cell_of_row w' (b2 + 1) 1 _ _ (0, 0) (blk_keep g3 e)⟩
  have HW := Lib.hid hW
  have HB0 := Lib.hid hb2
  have HB := Lib.hid hB
  have G2 := Lib.hid g2
  have G4 := Lib.hid g4
  have G3 := Lib.hid g3
  have G6 := Lib.hid g6
  have HZW := Lib.hid hzW
  have HM := Lib.hid hm
  have HZ := Lib.hid hz
  clear hf hA hb2 hW hB g2 g3 g4 g6 hcap hAA hcap2 hAA2 hzW hm hz
  obtain ⟨ma, mb, my, mt, As⟩ := m
  simp only at *
  go_enter Try.func78, Try.ntmps78
  go_wp2_with (first
    | ((with_reducible refine store_new (dst := none) 99 (.tmp 6) (.tmp 10) _ _ #[.slice A2 L.length cap2, .int .i64 ma, .int .i64 mb, .int .i64 my, .int .i64 mt, .slice A As.length cap] 99 rfl ?_ ?_ ?_ ?_ ?_ ?_); rfl; rfl; exact mkInfo; rfl; (simp [Value.oneCell'])))
  rw [HW.out, HB0.out]
  (try simp only [Act.put, List.setIfInBounds_toArray, List.set_cons_zero, List.set_cons_succ])
  (refine wp_region_app (by kernel_rfl) ⟨0, 3, 5, 6, 11, 14, 16, 17, 13⟩ rszElem szC_len szC_one 8 (by kernel_rfl) (by kernel_rfl) ?_; (repeat (first | (refine wpLex_laid (by rfl) ?_) | (refine wpLex_no (by rfl) (by rfl) ?_; go_simp) | (refine wpLex_val (by rfl) (by rfl) _ (by intro wq hq; have hSw := HK.out wq hq; (try dsimp only at hSw); go_simp; rfl) ?_; go_simp))); refine wpLex_zero ?_)
  refine ⟨As, (z1, z2), ⟨_, rfl, fun w => by go_simp; simp [go_sem, sl1]⟩, ⟨_, rfl, fun w => by go_simp; simp [go_sem, sl1, szC]⟩, fun w e => HA.out w e, by omega, fun w5 v0 v1 v2 v3 hb5 ho5 => ?_⟩
  obtain ⟨ad, c5, rfl, hc5⟩ := ho5.form
  obtain ⟨L2, hL2⟩ : ∃ l, As ++ [(z1, z2)] = l := ⟨_, rfl⟩
  rw [hL2] at ho5 hc5 ⊢
  have hz5 := hb5.size
  have hzW := HZW.out
  have g65 := blk_keep G6.out hb5
  have f65 := frozen_of_row _ (b2 + 1 + 1 + 1) 5 _ _ g65
  obtain ⟨x0, x1, x2, x3, x4, x5⟩ := cells6 g65
  have hst := heap_setCell_same w5 (b2 + 1 + 1 + 1) 5 _ _ (.slice ad L2.length c5) g65
  have hgr : w5.grownBy (w5.setCell ⟨b2 + 1 + 1 + 1, 5, none⟩ (.slice ad L2.length c5)) (some (b2 + 1 + 1 + 1)) := grown_setCells (b2 + 1 + 1 + 1) [.slice ad L2.length c5] 5 w5
  have hown6 := ho5.kept hgr (.inr (fun e => by have := ho5.from_ e; omega))
  have gk : ∀ k o, W.heap[k]? = some o → k ≠ b2 + 1 + 1 + 1 → (w5.setCell ⟨b2 + 1 + 1 + 1, 5, none⟩ (.slice ad L2.length c5)).heap[k]? = some o := fun k o h hne => (hgr.block k (by have := lt_of h; omega) (by intro e; injection e with e; exact hne e)).trans (blk_keep h hb5)
  have h62 := gk _ _ G2.out (by omega)
  have h64 := gk _ _ G4.out (by omega)
  have hbw : Below w.heap.size w (w5.setCell ⟨b2 + 1 + 1 + 1, 5, none⟩ (.slice ad L2.length c5)) := (HB.out.trans (hb5.mono HB.out.size)).setCell (by show w.heap.size ≤ b2 + 1 + 1 + 1; have := HB0.out; omega) _
  have hz6 : (w5.setCell ⟨b2 + 1 + 1 + 1, 5, none⟩ (.slice ad L2.length c5)).heap.size = w5.heap.size := by simp [World.setCell]
  obtain ⟨w6, hw6⟩ : ∃ w6, w5.setCell ⟨b2 + 1 + 1 + 1, 5, none⟩ (.slice ad L2.length c5) = w6 := ⟨_, rfl⟩
  rw [hw6] at hst hgr hown6 h62 h64 hbw hz6
  have HS6 := Lib.hid (hown6.is szC_len (by decide))
  have HO6 := Lib.hid hown6
  have G62 := Lib.hid h62
  have G64 := Lib.hid h64
  have G66 : Hid (w6.heap[b2 + 1 + 1 + 1]? = some (.cells #[.slice A2 L.length cap2, .int .i64 ma, .int .i64 mb, .int .i64 my, .int .i64 mt, .slice ad L2.length c5] 99 (0, 0))) := Lib.hid hst
  have HBW := Lib.hid hbw
  have HW6 := Lib.hid hw6
  have HL2 := Lib.hid hL2
  have HF6 := Lib.hid (HF0.out.below hbw (Nat.le_refl _))
  have q6 : w6.cell? ⟨b2, 5, none⟩ = some (.slice A As.length cap) := (cells6 h62).2.2.2.2.2
  simp only [Act.put, List.setIfInBounds_toArray, List.set_cons_zero, List.set_cons_succ]
  obtain ⟨⟨za, zb⟩, zc, zd⟩ := HZ.out
  simp only at za zb zc zd
  by_cases hAs : As = []
  · subst hAs
    simp only [List.length_nil, List.nil_append] at *
    have hL2e := HL2.out
    subst hL2e
    have hfst := soLn_first (L := L) (a := ma) (b := mb) (wd := z1) (h := z2) hlo (show -far ≤ my by omega) hab.1 hab.2
    have hedge := stop_edge L (soLn L ma mb z1 z2) my hyf hfst
    obtain ⟨T, hT⟩ : ∃ T, topQ L ma mb my z1 z2 = T := ⟨_, rfl⟩
    have hadd : addM L ⟨ma, mb, my, mt, []⟩ (z1, z2) = (⟨ma, mb, my, T, [(z1, z2)]⟩, true) := by
      unfold addM
      rw [if_pos rfl]
      simp only [hT]
    have hT2 : firstL (soLn L ma mb z1 z2) my (rest (full (shelves L)) my) = T := hT
    rw [hT] at hfst
    rw [hT2] at hedge
    have hti : -4503599627370496 ≤ T ∧ T ≤ 2251799813685248 := by rw [← hT]; exact topQ_in hsm hy
    have hS6 : AddS w w6 b2 W.heap.size (.slice A2 L.length cap2) (.slice A 0 cap) (.slice ad 1 c5) ⟨ma, mb, my, mt, []⟩ z1 z2 mt [(z1, z2)] := ⟨h62, (hgr.block (b2 + 1) (by omega) (by intro e; injection e with e; omega)).trans (blk_keep G3.out hb5), h64, hst, hown6, hbw, HB0.out, by omega⟩
    have HS6' := Lib.hid (hS6.top my)
    have hbg := fun (y : Int) w' (e : Below w.heap.size w w') hy => rbegins_any L (.slice A2 L.length cap2) (.slice A 0 cap) ⟨ma, mb, my, mt, []⟩ z1 z2 y w' (HF0.out.below e (Nat.le_refl _)) hn hsm HM.out HZ.out hy
    have hnx := fun (y : Int) w' (e : Below w.heap.size w w') => next_any L (.slice A2 L.length cap2) y w' (HF0.out.below e (Nat.le_refl _)) hn
    have hnst := fun (y : Int) h1 h2 hs => next_step (y := y) hfst hedge h1 h2 hs (nxs_is L y)
    unfold NxPost at hnx
    simp only at hbg
    have hmt := hfst.1
    have HBG := Lib.hid hbg
    have HNX := Lib.hid hnx
    have HST := Lib.hid hnst
    have HADD := Lib.hid hadd
    have HFST := Lib.hid hfst
    have c3 : w6.cell? ⟨b2, 3, none⟩ = some (.int .i64 my) := (cells6 h62).2.2.2.1
    have c64 := (cells6 hst).2.2.2.2.1
    have f64 := frozen_of_row _ (b2 + 1 + 1 + 1) 4 _ _ hst
    have hw6n : w5.setCell ⟨b2 + 1 + 1 + 1, 5, none⟩ (.slice ad 1 c5) = w6 := HW6.out
    have HW6n := Lib.hid hw6n
    clear hfst hedge hT hT2 hadd hS6 h62 h64 hst hbg hnx hnst hsm hgr hown6 gk hbw hz6 ho5 hc5 hlo x0 x1 x2 x3 x4 hw6 hz5 hzW g65
    rw [← hw6n] at q6 c3 c64 f64
    clear hw6n
    go_wp2_with fail
    rw [HW6n.out]
    go_loopw [] (fun wr => ∃ tp : Int, my ≤ tp ∧ tp ≤ T ∧ Hid (AddS w wr b2 W.heap.size (.slice A2 L.length cap2) (.slice A 0 cap) (.slice ad 1 c5) ⟨ma, mb, my, mt, []⟩ z1 z2 tp [(z1, z2)])) (fun wr => (T - topOf wr (b2 + 1 + 1 + 1)).toNat)
    case atStart => exact ⟨my, Int.le_refl _, hmt, HS6'⟩
    case round =>
      obtain ⟨tp, ht1, ht2, HS⟩ := hrel
      obtain ⟨x0, x1, x2, x3, x4, x5⟩ := cells6 HS.out.m2
      have z0 := cell_of_row _ (b2 + 1) 0 _ _ (0, 0) HS.out.z3
      have z1' := cell_of_row _ (b2 + 1) 1 _ _ (0, 0) HS.out.z3
      obtain ⟨_, _, _, _, n4, _⟩ := cells6 HS.out.n6
      by_cases hso : soLn L ma mb z1 z2 tp = true
      · have hyt : tp = T := by have := HFST.out.2.2 tp ht1 hso; omega
        subst hyt
        have HC := Lib.hid (HBG.out tp wr HS.out.below (by omega))
        rw [hso] at HC
        clear hso HST HFST
        go_wp2_with fail
        refine HC.out.mono ?_
        rintro e w7 ⟨rfl, hb7⟩
        have HS7 := Lib.hid (HS.out.below' hb7)
        clear x0 x1 x2 x3 x4 x5 z0 z1' n4 hb7
        obtain ⟨x0, x1, x2, x3, x4, x5⟩ := cells6 HS7.out.n6
        go_wp2_with (first
          | ((with_reducible refine store_row (dst := none) 99 (.tmp 4) (.tmp 44) (b2 + 1 + 1) _ #[.slice A2 L.length cap2, .int .i64 ma, .int .i64 mb, .int .i64 my, .int .i64 tp, .slice ad 1 c5] 99 HS7.out.r4 ?_ ?_ ?_ ?_ ?_ ?_); rfl; rfl; exact mkInfo; rfl; (simp [Value.oneCell']); intro wr6 hw6 hg6 hz7; have HW6 := Lib.hid hw6; have HG6 := Lib.hid hg6; clear hw6 hg6))
        obtain ⟨d0, d1, d2, d3, d4, d5⟩ := cells6 HW6.out
        have hbw := HS7.out.b
        have hbn := HS7.out.n
        have hbe := HS7.out.below.grown HG6.out (by have := HS7.out.below.size; have := lt_of HS7.out.n6; omega) (fun k hk => by injection hk with hk; omega)
        have how := HS7.out.own.kept HG6.out (.inr (fun e => by have := HS7.out.own.from_ e; omega))
        have hsl : IsSl szC 2 wr6 (.slice ad 1 c5) [(z1, z2)] := how.is szC_len (by decide)
        have hnn : w.heap.size ≤ W.heap.size := by omega
        have had := HADD.out
        refine bodyPost_ret (v := .tuple #[.agg #[.slice A2 L.length cap2, .int .i64 ma, .int .i64 mb, .int .i64 my, .int .i64 tp, .slice ad 1 c5], .bool true]) (by simp [results, Try.results78, go_sem, d0, d1, d2, d3, d4, d5]) rfl ⟨.slice ad 1 c5, by rw [had]; rfl, by rw [had]; exact hsl, hbe, fun _ => ⟨_, hnn, by rw [had]; exact how⟩⟩
      · have hso' : soLn L ma mb z1 z2 tp = false := by simpa using hso
        obtain ⟨hm1, hm2, hm3⟩ := HST.out tp ht1 ht2 hso'
        have HC := Lib.hid (HBG.out tp wr HS.out.below (by omega))
        rw [hso'] at HC
        have HN := Lib.hid (HNX.out tp)
        rw [hm1] at HN
        generalize (nxs L tp).1 = ny at *
        clear hso hso' hm1
        go_wp2_with fail
        refine HC.out.mono ?_
        rintro e w7 ⟨rfl, hb7⟩
        have HS7 := Lib.hid (HS.out.below' hb7)
        clear x0 x1 x2 x3 x4 x5 z0 z1' n4 hb7
        obtain ⟨x0, x1, x2, x3, x4, x5⟩ := cells6 HS7.out.m2
        obtain ⟨_, _, _, _, n4, _⟩ := cells6 HS7.out.n6
        go_wp2_with fail
        refine (HN.out w7 HS7.out.below).mono ?_
        rintro e w8 ⟨rfl, hb8⟩
        have HS8 := Lib.hid (HS7.out.below' hb8)
        have HT8 := Lib.hid (HS8.out.top ny)
        clear x0 x1 x2 x3 x4 x5 n4 hb8
        obtain ⟨_, _, _, _, n4, _⟩ := cells6 HS8.out.n6
        have f4 := frozen_of_row _ (b2 + 1 + 1 + 1) 4 _ _ HS8.out.n6
        go_wp2_with fail
        go_roundw
        case rel => exact ⟨ny, by omega, hm3, HT8⟩
        case measure =>
          obtain ⟨_, _, _, _, e1, _⟩ := cells6 HS.out.n6
          obtain ⟨_, _, _, _, e2, _⟩ := cells6 HT8.out.n6
          simp [topOf, intOf, e1, e2]; omega
  · have hk0 : ¬ (As.length : Int) = 0 := by have := List.length_pos_iff.2 hAs; omega
    have hL2z : ∀ x ∈ L2, szOk x := fun x hx => by
      rw [← HL2.out] at hx
      rcases List.mem_append.1 hx with hx | hx
      · exact HM.out.hA x hx
      · rw [List.mem_singleton.1 hx]; exact HZ.out
    have hL2l : L2.length ≤ 1000 := by rw [← HL2.out]; simp; omega
    have hmk : MkOk ⟨ma, mb, my, mt, L2⟩ := ⟨HM.out.ha, HM.out.hb, HM.out.ht, hL2z, hL2l⟩
    have hbx := fun w' h1 h2 => rbox13_any L (.slice A2 L.length cap2) (.slice ad L2.length c5) ⟨ma, mb, my, mt, L2⟩ w' h1 hn h2 hmk
    have hH := highL_in hL2z
    have hD := wideL_in hL2z
    have hed := bnds_edge hsm mt (highL L2)
    have hadd : addM L ⟨ma, mb, my, mt, As⟩ (z1, z2) = if wideL L2 ≤ (freeS L ma mb mt (highL L2)).2 - (freeS L ma mb mt (highL L2)).1 then (⟨ma, mb, my, mt, L2⟩, true) else (⟨ma, mb, my, mt, As⟩, false) := by
      unfold addM
      rw [if_neg hAs]
      simp only [HL2.out]
    unfold boxM at hbx
    obtain ⟨⟨p1, p2⟩, hp⟩ : ∃ p, freeS L ma mb mt (highL L2) = p := ⟨_, rfl⟩
    simp only at hbx
    rw [hp] at hbx hadd
    simp only at hbx hadd
    have hp12 : -4503599627370496 ≤ p1 ∧ p1 ≤ 4503599627370496 ∧ -4503599627370496 ≤ p2 ∧ p2 ≤ 4503599627370496 := by
      have h1 := HM.out.ha
      have h2 := HM.out.hb
      simp only at h1 h2
      unfold freeS at hp
      injection hp with h3 h4
      unfold far at hed
      omega
    have hwd := fun w' h => wide13_any (.slice ad L2.length c5) L2 w' h hL2z (by omega)
    obtain ⟨H, hHH⟩ : ∃ H, highL L2 = H := ⟨_, rfl⟩
    obtain ⟨D, hDD⟩ : ∃ D, wideL L2 = D := ⟨_, rfl⟩
    rw [hHH] at hbx
    rw [hDD] at hwd hadd
    have hsub : IntKind.i64.wrap (p2 - p1) = p2 - p1 := by rw [IntKind.wrap_i64]; omega
    have HADD := Lib.hid hadd
    have HBX := Lib.hid (fun w' (e : Below w6.heap.size w6 w') => hbx w' (HF6.out.below e (Nat.le_refl _)) (HS6.out.below e (Nat.le_refl _)))
    have HWD := Lib.hid (fun w' (e : Below w6.heap.size w6 w') => (hwd w' (HS6.out.below e (Nat.le_refl _))).mono (R' := fun e w2 => e = .returned (.int .i64 D) ∧ Below w'.heap.size w' w2) (fun e w2 ⟨h1, h2⟩ => ⟨h1, by subst h2; exact Below.refl _ _⟩))
    have q60 := cells6 G66.out
    obtain ⟨y0, y1, y2, y3, y4, y5⟩ := q60
    have q6' : (w5.setCell ⟨b2 + 1 + 1 + 1, 5, none⟩ (.slice ad L2.length c5)).cell? ⟨b2, 5, none⟩ = some (.slice A As.length cap) := by rw [HW6.out]; exact q6
    clear hbx hwd hed hp hHH hDD hadd hmk hL2z hH hD hst hgr hown6 gk h62 h64 hbw hz6 hw6 ho5 hc5 hL2 q6 hAs hsm hlo
    rw [← HW6.out] at y0 y1 y2 y3 y4 y5
    go_wp2_with fail
    rw [HW6.out]
    refine (HBX.out w6 (Below.refl _ _)).mono ?_
    rintro e w7 ⟨rfl, hb7⟩
    have HB7 := Lib.hid (show Below w6.heap.size w6 w7 from hb7)
    clear hb7 y0 y1 y2 y3 y4 y5 q6'
    go_wp2_with (first
      | ((with_reducible refine store_new (dst := none) 47 (.tmp 9) (.tmp 46) w7 _ #[.int .i64 p1, .int .i64 mt, .int .i64 p2, .int .i64 (mt + H)] 47 rfl ?_ ?_ ?_ ?_ ?_ ?_); rfl; rfl; exact rectInfo47; rfl; (simp [Value.oneCell'])))
    have hb8 := (Below.refl w7.heap.size w7).alloc (Nat.le_refl _) (.cells #[.int .i64 p1, .int .i64 mt, .int .i64 p2, .int .i64 (mt + H)] 47)
    have g8 := heap_alloc_new w7 (.cells #[.int .i64 p1, .int .i64 mt, .int .i64 p2, .int .i64 (mt + H)] 47)
    obtain ⟨w8, hw8⟩ : ∃ w8, w7.alloc (.cells #[.int .i64 p1, .int .i64 mt, .int .i64 p2, .int .i64 (mt + H)] 47) = w8 := ⟨_, rfl⟩
    obtain ⟨k9, hk9⟩ : ∃ k, w7.heap.size = k := ⟨_, rfl⟩
    rw [hw8] at hb8 g8 ⊢
    rw [hk9] at g8 ⊢
    have HB8 := Lib.hid (below_onto HB7.out hb8)
    have HK8 : Hid (∀ w', Below w8.heap.size w8 w' → w'.cell? ⟨b2 + 1 + 1 + 1, 5, none⟩ = some (.slice ad L2.length c5) ∧ w'.cell? ⟨k9, 0, none⟩ = some (.int .i64 p1) ∧ w'.cell? ⟨k9, 2, none⟩ = some (.int .i64 p2)) := Lib.hid fun w' e =>
      ⟨(cells6 (blk_keep G66.out (below_onto HB8.out e))).2.2.2.2.2, cell_of_row w' k9 0 _ _ (0, 0) (blk_keep g8 e), cell_of_row w' k9 2 _ _ (0, 0) (blk_keep g8 e)⟩
    clear hb8 g8 hw8 hk9
    (refine wp_region_laid_l (by kernel_rfl) [] 9 (by kernel_rfl) (by kernel_rfl) ?_; (repeat (first | (refine wpLex_laid (by rfl) ?_) | (refine wpLex_no (by rfl) (by rfl) ?_; go_simp) | (refine wpLex_val (by rfl) (by rfl) _ (by intro wq hq; have hSw := HK8.out wq hq; (try dsimp only at hSw); go_simp; rfl) ?_; go_simp) | (refine wpLex_call (by rfl) (by rfl) _ _ (by intro wq hq; have hSw := HK8.out wq hq; (try dsimp only at hSw); go_simp; exact ⟨rfl, rfl⟩) _ (by intro wq hq; have hSw := HK8.out wq hq; (try dsimp only at hSw); first | (go_at_call 50; exact (HWD.out wq (below_onto HB8.out hq)))) ?_; go_simp))); refine wpLex_zero ?_)
    refine lend_none fun w9 hb9 => ?_
    have HB9 := Lib.hid (below_onto HB8.out hb9)
    have HG4 := Lib.hid (blk_keep G64.out HB9.out)
    have HBE := Lib.hid (HBW.out.trans (HB9.out.mono HBW.out.size))
    have hb0 := HB0.out
    have hz9 := HB9.out.size
    have hzb := HBW.out.size
    clear hb9 HK8
    by_cases hfit : D ≤ p2 - p1
    · have hk1 : ¬ p2 - p1 < D := by omega
      have had := HADD.out
      rw [if_pos hfit] at had
      obtain ⟨x0, x1, x2, x3, x4, x5⟩ := cells6 (blk_keep G66.out HB9.out)
      go_wp2_with (first
        | ((with_reducible refine store_row (dst := none) 99 (.tmp 4) (.tmp 57) (b2 + 1 + 1) _ #[.slice A2 L.length cap2, .int .i64 ma, .int .i64 mb, .int .i64 my, .int .i64 mt, .slice ad L2.length c5] 99 HG4.out ?_ ?_ ?_ ?_ ?_ ?_); rfl; rfl; exact mkInfo; rfl; (simp [Value.oneCell']); intro wr6 hw6 hg6 hz7; have HW6 := Lib.hid hw6; have HG6 := Lib.hid hg6; clear hw6 hg6))
      obtain ⟨d0, d1, d2, d3, d4, d5⟩ := cells6 HW6.out
      have hbe := HBE.out.grown HG6.out (by omega) (fun k hk => by injection hk with hk; omega)
      have how := (HO6.out.below HB9.out).kept HG6.out (.inr (fun e => by have := HO6.out.from_ e; omega))
      have hsl : IsSl szC 2 wr6 (.slice ad L2.length c5) L2 := how.is szC_len (by decide)
      have hnn : w.heap.size ≤ W.heap.size := by omega
      refine bodyPost_ret (v := .tuple #[.agg #[.slice A2 L.length cap2, .int .i64 ma, .int .i64 mb, .int .i64 my, .int .i64 mt, .slice ad L2.length c5], .bool true]) (by simp [results, Try.results78, go_sem, d0, d1, d2, d3, d4, d5]) rfl ⟨.slice ad L2.length c5, by rw [had]; rfl, by rw [had]; exact hsl, hbe, fun _ => ⟨_, hnn, by rw [had]; exact how⟩⟩
    · have hk1 : p2 - p1 < D := by omega
      have had := HADD.out
      rw [if_neg hfit] at had
      obtain ⟨x0, x1, x2, x3, x4, x5⟩ := cells6 (blk_keep G62.out HB9.out)
      go_wp2_with (first
        | ((with_reducible refine store_row (dst := none) 99 (.tmp 4) (.tmp 56) (b2 + 1 + 1) _ #[.slice A2 L.length cap2, .int .i64 ma, .int .i64 mb, .int .i64 my, .int .i64 mt, .slice A As.length cap] 99 HG4.out ?_ ?_ ?_ ?_ ?_ ?_); rfl; rfl; exact mkInfo; rfl; (simp [Value.oneCell']); intro wr6 hw6 hg6 hz7; have HW6 := Lib.hid hw6; have HG6 := Lib.hid hg6; clear hw6 hg6))
      obtain ⟨d0, d1, d2, d3, d4, d5⟩ := cells6 HW6.out
      have hbe := HBE.out.grown HG6.out (by omega) (fun k hk => by injection hk with hk; omega)
      refine bodyPost_ret (v := .tuple #[.agg #[.slice A2 L.length cap2, .int .i64 ma, .int .i64 mb, .int .i64 my, .int .i64 mt, .slice A As.length cap], .bool false]) (by simp [results, Try.results78, go_sem, d0, d1, d2, d3, d4, d5]) rfl ⟨.slice A As.length cap, by rw [had]; rfl, by rw [had]; exact HA0.out.below hbe (Nat.le_refl _), hbe, fun h => by rw [had] at h; cases h⟩
/- Mp -/
def allStep (L : List Fo) (s : Mkr × List Lnq) (z : Int × Int) : Mkr × List Lnq :=
  if (addM L s.1 z).2 = true then ((addM L s.1 z).1, s.2) else ((addM L (endM s.1) z).1, s.2 ++ [lineM L s.1])
def allEnd (L : List Fo) (s : Mkr × List Lnq) : List Lnq := if s.1.As = [] then s.2 else s.2 ++ [lineM L s.1]
def allM (L : List Fo) (m : Mkr) (l : List (Int × Int)) : List Lnq := allEnd L (l.foldl (allStep L) (m, []))
/-- The same state, as the program has it. -/
structure RlM (a b : Int) (L : List Fo) (s : Mkr × List Lnq) (t : LnS) : Prop where
  e1 : s.1.a = a
  e2 : s.1.b = b
  o : t.out = s.2
  n : s.1.As = [] → t.now = none ∧ t.y = s.1.y
  q : s.1.As ≠ [] → t.now = some (lineM L s.1)
theorem addM_nil {L : List Fo} {m : Mkr} {z : Int × Int} (h : m.As = []) : addM L m z = (⟨m.a, m.b, m.y, topQ L m.a m.b m.y z.1 z.2, [z]⟩, true) := by unfold addM; rw [if_pos h]
theorem endM_some {m : Mkr} (h : m.As ≠ []) : endM m = ⟨m.a, m.b, m.t + highL m.As, m.t, []⟩ := by unfold endM; rw [if_neg h]
theorem lineM_some {L : List Fo} {m : Mkr} (h : m.As ≠ []) : lineM L m = ⟨(boxM L m).1, m.t, (boxM L m).2, m.t + highL m.As, m.As.length, wideL m.As⟩ := by unfold lineM; rw [if_neg h]
theorem lineM_begin (L : List Fo) (a b y t0 : Int) (z : Int × Int) (hz : 0 ≤ z.2) : lineM L ⟨a, b, y, topQ L a b y z.1 z.2, [z]⟩ = begQ L a b y z.1 z.2 := by
  have hh : highL [z] = z.2 := by simp [highL]; omega
  rw [lineM_some (by simp)]
  simp only [boxM, hh, begQ, List.length_singleton]
  congr 1
  simp [wideL]
theorem addM_some {L : List Fo} {m : Mkr} {z : Int × Int} (h : m.As ≠ []) : addM L m z = if fitsQ L m.a m.b (lineM L m) z.1 z.2 = true then (⟨m.a, m.b, m.y, m.t, m.As ++ [z]⟩, true) else (m, false) := by
  unfold addM
  rw [if_neg h, lineM_some h]
  have hh : max (m.t + highL m.As - m.t) z.2 = highL (m.As ++ [z]) := by rw [highL_snoc]; congr 1; omega
  simp only [fitsQ, highQ, hh, decide_eq_true_eq, wideL_snoc]
theorem RlM.step {a b : Int} {L : List Fo} {s : Mkr × List Lnq} {t : LnS} (h : RlM a b L s t) (z : Int × Int) (hz : 0 ≤ z.2) : RlM a b L (allStep L s z) (lnAdd L a b t z) := by
  obtain ⟨⟨ma, mb, my, mt, As⟩, out⟩ := s
  obtain ⟨ty, now, tout⟩ := t
  obtain ⟨e1, e2, ho, hn, hq⟩ := h
  simp only at e1 e2 ho hn hq
  subst e1 e2 ho
  by_cases hAs : As = []
  · subst hAs
    obtain ⟨h1, h2⟩ := hn rfl
    subst h1 h2
    unfold allStep
    rw [addM_nil rfl]
    simp only [if_true, lnAdd]
    exact ⟨rfl, rfl, rfl, fun h => by simp at h, fun _ => by rw [← lineM_begin L ma mb ty 0 z hz]⟩
  · have h1 := hq hAs
    subst h1
    unfold allStep
    simp only [lnAdd]
    rw [addM_some (m := ⟨ma, mb, my, mt, As⟩) hAs]
    by_cases hf : fitsQ L ma mb (lineM L ⟨ma, mb, my, mt, As⟩) z.1 z.2 = true
    · simp only [hf, if_true]
      refine ⟨rfl, rfl, rfl, fun h => by simp at h, fun _ => ?_⟩
      rw [lineM_some (m := ⟨ma, mb, my, mt, As⟩) hAs, lineM_some (by simp)]
      have hh : max (mt + highL As - mt) z.2 = highL (As ++ [z]) := by rw [highL_snoc]; congr 1; omega
      simp only [nextQ, highQ, hh, boxM, wideL_snoc, List.length_append, List.length_singleton]
      congr 1
    · simp only [hf, if_false, Bool.false_eq_true]
      rw [endM_some (m := ⟨ma, mb, my, mt, As⟩) hAs, addM_nil rfl]
      have hb : (lineM L ⟨ma, mb, my, mt, As⟩).b = mt + highL As := by rw [lineM_some (m := ⟨ma, mb, my, mt, As⟩) hAs]
      refine ⟨rfl, rfl, rfl, fun h => by simp at h, fun _ => ?_⟩
      rw [hb, ← lineM_begin L ma mb (mt + highL As) 0 z hz]
theorem RlM.fold {a b : Int} {L : List Fo} (l : List (Int × Int)) : ∀ {s : Mkr × List Lnq} {t : LnS}, RlM a b L s t → (∀ z ∈ l, 0 ≤ z.2) → RlM a b L (l.foldl (allStep L) s) (l.foldl (lnAdd L a b) t) := by
  induction l with
  | nil => intro s t h _; exact h
  | cons z l ih => intro s t h hz; exact ih (h.step z (hz z (List.mem_cons_self ..))) (fun x hx => hz x (List.mem_cons_of_mem _ hx))
/-- The document's lines are the program's. -/
theorem allM_eq (L : List Fo) (a b y t : Int) (l : List (Int × Int)) (hz : ∀ z ∈ l, 0 ≤ z.2) : allM L ⟨a, b, y, t, []⟩ l = lnAll L a b y l := by
  have h : RlM a b L (⟨a, b, y, t, []⟩, []) ⟨y, none, []⟩ := ⟨rfl, rfl, rfl, fun _ => ⟨rfl, rfl⟩, fun h => absurd rfl h⟩
  have h2 := h.fold l hz
  unfold allM lnAll
  generalize l.foldl (allStep L) (⟨a, b, y, t, []⟩, []) = s at *
  generalize l.foldl (lnAdd L a b) ⟨y, none, []⟩ = r at *
  obtain ⟨ry, now, out⟩ := r
  obtain ⟨_, _, ho, hn, hq⟩ := h2
  simp only at ho hn hq
  unfold allEnd
  by_cases hAs : s.1.As = []
  · obtain ⟨h1, _⟩ := hn hAs
    subst h1
    rw [if_pos hAs]
    simp only [lnEnd]
    exact ho.symm
  · have h1 := hq hAs
    subst h1
    rw [if_neg hAs]
    simp only [lnEnd, ho]
/-- Bounds of the state after k atoms. -/
structure MI (a b M : Int) (k : Nat) (s : Mkr × List Lnq) : Prop where
  e1 : s.1.a = a
  e2 : s.1.b = b
  y1 : -1125899906842624 ≤ s.1.y ∧ s.1.y ≤ M + k * 2147483648
  t1 : -1125899906842624 ≤ s.1.t ∧ s.1.t ≤ M + k * 2147483648
  t2 : s.1.As ≠ [] → s.1.t + 2147483648 ≤ M + k * 2147483648
  z1 : ∀ z ∈ s.1.As, szOk z
  l1 : s.1.As.length ≤ k
  l2 : s.2.length ≤ k
theorem MI.ok {a b M : Int} {k : Nat} {s : Mkr × List Lnq} (h : MI a b M k s) (ha : -1125899906842624 ≤ a ∧ a ≤ 1125899906842624) (hb : -1125899906842624 ≤ b ∧ b ≤ 1125899906842624) (hk : M + k * 2147483648 ≤ 2251799813685248) (hl : k ≤ 1000) : MkOk s.1 :=
  ⟨by rw [h.e1]; exact ha, by rw [h.e2]; exact hb, by have := h.t1; omega, h.z1, by have := h.l1; omega⟩
theorem MI.ends {a b M : Int} {k : Nat} {s : Mkr × List Lnq} (h : MI a b M k s) (hne : s.1.As ≠ []) (q : Lnq) : MI a b M k (endM s.1, s.2) := by
  have hH := highL_in h.z1
  have h1 := h.t1
  have h2 := h.t2 hne
  rw [endM_some hne]
  exact ⟨h.e1, h.e2, ⟨by show _ ≤ s.1.t + _; omega, by show s.1.t + _ ≤ _; omega⟩, h.t1, fun e => absurd rfl e, fun z hz => (by cases hz), Nat.zero_le _, h.l2⟩
theorem MI.begins {L : List Fo} {a b M : Int} {k : Nat} {m : Mkr} {out out2 : List Lnq} {z : Int × Int} (h : MI a b M k (m, out)) (hM : ∀ s ∈ full (shelves L), s.t ≤ M) (hz : szOk z) (hge : m.y ≤ topQ L a b m.y z.1 z.2) (ho : out2.length ≤ k + 1) : MI a b M (k + 1) (⟨m.a, m.b, m.y, topQ L m.a m.b m.y z.1 z.2, [z]⟩, out2) := by
  have h1 := topQ_le (L := L) (a := a) (b := b) (y := m.y) (wd := z.1) (h := z.2) hM
  have h2 := h.y1
  have e1 := h.e1
  have e2 := h.e2
  simp only at e1 e2 h2
  subst e1 e2
  exact ⟨rfl, rfl, ⟨h2.1, by show m.y ≤ _; omega⟩, ⟨by show _ ≤ topQ ..; omega, by show topQ .. ≤ _; omega⟩, fun _ => by show topQ .. + _ ≤ _; omega, fun x hx => by rw [List.mem_singleton.1 hx]; exact hz, by simp, ho⟩
theorem MI.step {L : List Fo} {a b M : Int} {k : Nat} {s : Mkr × List Lnq} {z : Int × Int} (h : MI a b M k s) (hM : ∀ s ∈ full (shelves L), s.t ≤ M) (hz : szOk z) (hge : ∀ y, -1125899906842624 ≤ y → y ≤ topQ L a b y z.1 z.2) : MI a b M (k + 1) (allStep L s z) := by
  have e1 := h.e1
  have e2 := h.e2
  by_cases hAs : s.1.As = []
  · unfold allStep
    rw [addM_nil hAs]
    simp only [if_true]
    exact MI.begins (m := s.1) (out := s.2) h hM hz (hge _ h.y1.1) (by have := h.l2; omega)
  · unfold allStep
    rw [addM_some hAs]
    by_cases hf : fitsQ L s.1.a s.1.b (lineM L s.1) z.1 z.2 = true
    · simp only [hf, if_true]
      refine ⟨e1, e2, ⟨h.y1.1, by have := h.y1.2; show s.1.y ≤ _; omega⟩, ⟨h.t1.1, by have := h.t1.2; show s.1.t ≤ _; omega⟩, fun _ => by have := h.t2 hAs; show s.1.t + _ ≤ _; omega, fun x hx => ?_, by have := h.l1; simp; omega, by have := h.l2; show s.2.length ≤ _; omega⟩
      rcases List.mem_append.1 hx with hx | hx
      · exact h.z1 x hx
      · rw [List.mem_singleton.1 hx]; exact hz
    · simp only [hf, if_false, Bool.false_eq_true]
      have he := h.ends hAs ln0
      have hn : (endM s.1).As = [] := by rw [endM_some hAs]
      rw [addM_nil hn]
      exact MI.begins (m := endM s.1) (out := s.2) he hM hz (hge _ he.y1.1) (by have := h.l2; simp; omega)
theorem MI.fold {L : List Fo} {a b M : Int} (hM : ∀ s ∈ full (shelves L), s.t ≤ M) (hge : ∀ y wd h, -1125899906842624 ≤ y → y ≤ topQ L a b y wd h) (l : List (Int × Int)) : ∀ {k : Nat} {s : Mkr × List Lnq}, MI a b M k s → (∀ z ∈ l, szOk z) → MI a b M (k + l.length) (l.foldl (allStep L) s) := by
  induction l with
  | nil => intro k s h _; exact h
  | cons z l ih =>
    intro k s h hz
    have := ih (h.step hM (hz z (List.mem_cons_self ..)) (fun y hy => hge y _ _ hy)) (fun x hx => hz x (List.mem_cons_of_mem _ hx))
    rw [List.length_cons, show k + (l.length + 1) = k + 1 + l.length by omega]
    exact this
/- Mk3 -/
theorem rlnElem : Elem Try.prog 96 101 6 48 := ⟨Try.underlying96, by kernel_rfl, by decide, by decide⟩
/-- The loop's state: the maker in its block, the lines in a slice of the call's own. -/
structure AlI (w wr : World) (b0 : Nat) (vL vA vo : Value) (s : Mkr × List Lnq) : Prop where
  g : wr.heap[b0]? = some (.cells (mkC vL vA s.1).toArray 99 (0, 0))
  oA : OwnSl szC 2 67 wr (b0 + 1) vA s.1.As
  oo : OwnSl lnqC 6 101 wr (b0 + 1) vo s.2
  ne : vA.ownBlock = none ∨ vA.ownBlock ≠ vo.ownBlock
  be : Below w.heap.size w wr
  hb : w.heap.size = b0
theorem AlI.lt {w wr : World} {b0 : Nat} {vL vA vo : Value} {s : Mkr × List Lnq} (h : AlI w wr b0 vL vA vo s) : b0 + 1 ≤ wr.heap.size := lt_of h.g
theorem AlI.below' {w wr w' : World} {b0 : Nat} {vL vA vo : Value} {s : Mkr × List Lnq} (h : AlI w wr b0 vL vA vo s) (hb : Below wr.heap.size wr w') : AlI w w' b0 vL vA vo s :=
  ⟨blk_keep h.g hb, h.oA.below hb, h.oo.below hb, h.ne, h.be.trans (hb.mono h.be.size), h.hb⟩
theorem own_lower {α : Type} {C : α → List Value} {n : Nat} {e : TypeId} {w : World} {b1 b2 : Nat} {v : Value} {L : List α} (h : OwnSl C n e w b1 v L) (hb : b2 ≤ b1) : OwnSl C n e w b2 v L := by
  refine ⟨h.1, ?_⟩
  rcases h.2 with h | ⟨g, cap, cur, h1, h2, h3⟩
  · exact .inl h
  · exact .inr ⟨g, cap, cur, h1, by omega, h3⟩
theorem AlI.put {w wd w10 : World} {b0 n1 : Nat} {vL vA vo : Value} {m : Mkr} {out : List Lnq} (g : w10.heap[b0]? = some (.cells (mkC vL vA m).toArray 99 (0, 0))) (hg : wd.grownBy w10 (some b0)) (oA : OwnSl szC 2 67 wd n1 vA m.As) (hn : b0 + 1 ≤ n1) (oo : OwnSl lnqC 6 101 wd (b0 + 1) vo out) (hne : ∀ k, vo.ownBlock = some k → k < n1)
    (be : Below w.heap.size w wd) (hb : w.heap.size = b0) : AlI w w10 b0 vL vA vo (m, out) := by
  refine ⟨g, own_lower (oA.kept hg (.inr (fun e => by have := oA.from_ e; omega))) hn, oo.kept hg (.inr (fun e => by have := oo.from_ e; omega)), ?_, be.grown hg be.size (fun k hk => by injection hk with hk; omega), hb⟩
  cases h : vA.ownBlock with
  | none => exact .inl rfl
  | some k => exact .inr (fun e => by have h1 := oA.from_ h; have h2 := hne k e.symm; omega)
theorem al_keep {W wq : World} {K : Prop} (h : Below W.heap.size W wq ∧ K) (o : Obj) : Below W.heap.size W (wq.alloc o) := h.1.alloc h.1.size _
theorem step_store_row {P : Program} {ops : Array Oper} {o : Oper} {a : Act} {w : World} {K : Act → World → Prop} {Q : Exit → Act → World → Prop} {E : Prop} (hgd : o.guard = none) (ty : TypeId) (x y : Operand) (ho : o.op = .store ty x y) (g : Nat) (c c' : Array Value) (t : TypeId)
    (hg : w.heap[g]? = some (.cells c t (0, 0))) (hx : a.eval x = .pointer (some ⟨g, 0, none⟩)) (hy : a.eval y = .agg c')
    (hi : (P.info? ty).map (·.size) = some c'.size) (hs : c.size = c'.size) (h1 : c'.all (·.oneCell') = true)
    (h : ∀ w2 : World, w2.heap[g]? = some (.cells c' t (0, 0)) → w.grownBy w2 (some g) → w2.heap.size = w.heap.size → K (a.put o.dst undef) w2) : if Region.wanted o (yielded ops a.tmps) = true then Oper.wp P o a w K Q else E := by
  have hw : Region.wanted o (yielded ops a.tmps) = true := by simp [Region.wanted, hgd]
  rw [if_pos hw]
  unfold Oper.wp execOp
  simp only [ho, hx, hy, Instr.storeAt, Instr.sureAddr, Sem.run_bind, Sem.run_pure, Result.andThen_ok]
  rw [run_storeVar_row _ _ t ty c c' hg hi hs h1]
  exact h _ (setRow_heap w g c c' t _ hg) ⟨rfl, rfl, rfl, by simp, fun k _ hk => setRow_other w g k _ (fun e => hk (by rw [e]))⟩ (by simp)
set_option maxRecDepth 20000 in
set_option maxHeartbeats 4000000 in
theorem rall_any13 (L : List Fo) (vL v : Value) (a b y M : Int) (zs : List (Int × Int)) (w : World) (hf : IsFos w vL L) (hn : L.length ≤ maxLen) (hsm : ∀ f ∈ L, smallF f = true) (hlo : Lowish L) (hM : ∀ s ∈ full (shelves L), s.t ≤ M) (hM0 : 0 ≤ M ∧ M ≤ 1125899906842624) (hv : IsSl szC 2 w v zs) (hz : ∀ z ∈ zs, szOk z) (hl : zs.length ≤ 800)
    (ha : -1125899906842624 ≤ a ∧ a ≤ 1125899906842624) (hb : -1125899906842624 ≤ b ∧ b ≤ 1125899906842624) (hy : -1125899906842624 ≤ y ∧ y ≤ M) :
    Calls Try.prog 48 #[.agg #[vL, .int .i64 a, .int .i64 b, .int .i64 y, .int .i64 0, .slice none 0 0], v] w fun e w' => ∃ v', e = .returned v' ∧ IsSl lnqC 6 w' v' (allM L ⟨a, b, y, 0, []⟩ zs) ∧ Below w.heap.size w w' := by
  have hge : ∀ y wd h, -1125899906842624 ≤ y → y ≤ topQ L a b y wd h := fun y wd h h1 => (soLn_first (L := L) (a := a) (b := b) (wd := wd) (h := h) hlo (by unfold far; omega) (by unfold far; omega) (by unfold far; omega)).1
  have hadd := fun (m : Mkr) (z : Int × Int) (vA : Value) (w' : World) (e : Below w.heap.size w w') (hA : IsSl szC 2 w' vA m.As) (hm : MkOk m) (hz : szOk z) (h1 : m.As.length ≤ 900) (h2 : -1125899906842624 ≤ m.y ∧ m.y ≤ 2251799813685248) (e1 : m.a = a) (e2 : m.b = b) => radd_any L vL vA m z w' (hf.below e (Nat.le_refl _)) hn hsm hA hm hz h1 (by omega) hlo (by unfold far; omega) (by unfold far; omega)
  have hnow := fun (m : Mkr) (vA : Value) (w' : World) (e : Below w.heap.size w w') (hA : IsSl szC 2 w' vA m.As) (hm : MkOk m) => rnow_any L vL vA m w' (hf.below e (Nat.le_refl _)) hn hA hm
  have hend := fun (m : Mkr) (vA : Value) (w' : World) (e : Below w.heap.size w w') (hA : IsSl szC 2 w' vA m.As) (hm : MkOk m) (hne : m.As ≠ []) => rend13_some L vL vA m w' (hf.below e (Nat.le_refl _)) hn hA hm hne
  obtain ⟨A2, cap2, rfl, hcap2, hAA2⟩ := id hf
  obtain ⟨A, cap, rfl, hcap, HA⟩ := hv
  obtain ⟨b0, hb0⟩ : ∃ b, w.heap.size = b := ⟨_, rfl⟩
  obtain ⟨W, hW⟩ : ∃ W, (w.alloc (.cells #[.slice A2 L.length cap2, .int .i64 a, .int .i64 b, .int .i64 y, .int .i64 0, .slice none 0 0] 99)).alloc (.cells #[] 101) = W := ⟨_, rfl⟩
  have hB : Below w.heap.size w W := by rw [← hW]; exact ((Below.refl _ _).alloc (Nat.le_refl _) _).alloc (by simp) _
  have hI : AlI w W b0 (.slice A2 L.length cap2) (.slice none 0 0) (.slice (some ⟨b0 + 1, 0, none⟩) 0 0) (⟨a, b, y, 0, []⟩, []) := by
    refine ⟨?_, OwnSl.nil (.inl (by decide)) _ _ _, ?_, .inl rfl, hB, hb0⟩
    · rw [← hW, ← hb0, heap_alloc_old _ _ (by simp), heap_alloc_new]
      rfl
    · have := sl_own_new (C := lnqC) (n := 6) (e := 101) lnqC_len (w.alloc (.cells #[.slice A2 L.length cap2, .int .i64 a, .int .i64 b, .int .i64 y, .int .i64 0, .slice none 0 0] 99)) (b0 + 1) (by rw [← hb0]; simp) [] #[] rfl (by simp) 0 rfl
      rw [hW, show (w.alloc (.cells #[.slice A2 L.length cap2, .int .i64 a, .int .i64 b, .int .i64 y, .int .i64 0, .slice none 0 0] 99)).heap.size = b0 + 1 by rw [← hb0]; simp] at this
      exact this
  have hmi : MI a b M 0 (⟨a, b, y, 0, []⟩, []) := ⟨rfl, rfl, ⟨hy.1, by show y ≤ _; omega⟩, ⟨by show (-1125899906842624 : Int) ≤ 0; omega, by show (0 : Int) ≤ _; omega⟩, fun h => absurd rfl h, fun z hz => (by cases hz), Nat.le_refl _, Nat.le_refl _⟩
  have HADD := Lib.hid hadd
  have HNOW := Lib.hid hnow
  have HEND := Lib.hid hend
  have HGE := Lib.hid hge
  have HMM := Lib.hid hM
  have HZ := Lib.hid hz
  have HW := Lib.hid hW
  have HB0 := Lib.hid hb0
  have HI := Lib.hid hI
  have HMI := Lib.hid hmi
  clear hadd hnow hend hge hM hz hW hb0 hI hmi hB hcap2 hAA2 hcap hf hlo hsm
  go_enter Try.func48, Try.ntmps48
  go_wp2_with fail
  rw [HW.out, HB0.out]
  go_loopw [5, 6] (fun vo x wr => ∃ i : Nat, i ≤ zs.length ∧ x = .int .i64 i ∧ Hid (∃ vA, AlI w wr b0 (.slice A2 L.length cap2) vA vo ((zs.take i).foldl (allStep L) (⟨a, b, y, 0, []⟩, []))) ∧ Hid (MI a b M i ((zs.take i).foldl (allStep L) (⟨a, b, y, 0, []⟩, [])))) (fun _ x _ => zs.length - (intOf x).toNat)
  case atStart => exact ⟨0, by omega, rfl, Lib.hid ⟨_, HI.out⟩, HMI⟩
  case round =>
    obtain ⟨i, hi, rfl, hI, hmi⟩ := hrel
    obtain ⟨vA, hI⟩ := hI.out
    have hst1 : ∀ h : i < zs.length, (zs.take (i + 1)).foldl (allStep L) (⟨a, b, y, 0, []⟩, []) = allStep L ((zs.take i).foldl (allStep L) (⟨a, b, y, 0, []⟩, [])) zs[i] := fun h => by rw [List.take_succ_eq_append_getElem h, List.foldl_append]; rfl
    obtain ⟨s, hs⟩ : ∃ s, (zs.take i).foldl (allStep L) (⟨a, b, y, 0, []⟩, []) = s := ⟨_, rfl⟩
    rw [hs] at hI hmi
    by_cases hlt : i < zs.length
    · have hst := hst1 hlt
      rw [hs] at hst
      have hmi1 := hmi.out.step HMM.out (HZ.out zs[i] (List.getElem_mem hlt)) (fun y h => HGE.out y _ _ h)
      rw [← hst] at hmi1
      have HMI1 := Lib.hid hmi1
      have hok := hmi.out.ok ha hb (by omega) (by omega)
      have hzi := HZ.out zs[i] (List.getElem_mem hlt)
      obtain ⟨g, o, rfl, hg, hsl⟩ := HA.out (by omega)
      have hcs : wr.rangeAt g (o + i * 2) (szC zs[i]) := fun j v hv => (hI.be.cell (p := ⟨g, o + i * 2 + j, none⟩) hg).trans (hsl i hlt j v hv)
      have hcw : ∀ w', Below w.heap.size w w' → w'.rangeAt g (o + i * 2) (szC zs[i]) := fun w' e j v hv => (e.cell (p := ⟨g, o + i * 2 + j, none⟩) hg).trans (hsl i hlt j v hv)
      obtain ⟨⟨z1, z2⟩, hzz⟩ : ∃ z, zs[i] = z := ⟨_, rfl⟩
      rw [hzz] at hst hcs hzi hcw
      have HCW := Lib.hid hcw
      have hgl : g < wr.heap.size := by have := hI.be.size; omega
      have hisA : IsSl szC 2 wr vA s.1.As := hI.oA.is szC_len (by decide)
      obtain ⟨⟨ma, mb, my, mt, As⟩, out⟩ := s
      have hAD := fun w' (e : Below wr.heap.size wr w') => HADD.out ⟨ma, mb, my, mt, As⟩ (z1, z2) vA w' (hI.be.trans (e.mono hI.be.size)) (hisA.below e (Nat.le_refl _)) hok hzi (by have := hmi.out.l1; simp only at this; show As.length ≤ 900; omega) (by have := hmi.out.y1; simp only at this; show -1125899906842624 ≤ my ∧ my ≤ 2251799813685248; omega) hmi.out.e1 hmi.out.e2
      unfold RAddPost at hAD
      obtain ⟨⟨⟨na, nb, ny, nt, nAs⟩, ok⟩, had⟩ : ∃ r, addM L ⟨ma, mb, my, mt, As⟩ (z1, z2) = r := ⟨_, rfl⟩
      rw [had] at hAD
      simp only [mkC] at hAD
      have HAD := Lib.hid hAD
      have HA2 := Lib.hid had
      clear had
      have HI2 := Lib.hid hI
      have hol : out.length ≤ i := hmi.out.l2
      have HST := Lib.hid hst
      have HOK := Lib.hid hok
      have HZI := Lib.hid hzi
      have HS := Lib.hid hs
      have HK : Hid (∀ w', Below wr.heap.size wr w' → Below wr.heap.size wr w' ∧ w'.cell? ⟨b0, 0, none⟩ = some (.slice A2 L.length cap2) ∧ w'.cell? ⟨b0, 1, none⟩ = some (.int .i64 ma) ∧ w'.cell? ⟨b0, 2, none⟩ = some (.int .i64 mb) ∧ w'.cell? ⟨b0, 3, none⟩ = some (.int .i64 my) ∧ w'.cell? ⟨b0, 4, none⟩ = some (.int .i64 mt) ∧ w'.cell? ⟨b0, 5, none⟩ = some vA ∧ w'.cell? ⟨g, o + i * 2, none⟩ = some (.int .i64 z1) ∧ w'.cell? ⟨g, o + i * 2 + 1, none⟩ = some (.int .i64 z2)) := Lib.hid fun w' e => by
        obtain ⟨x0, x1, x2, x3, x4, x5⟩ := cells6 (blk_keep hI.g e)
        exact ⟨e, x0, x1, x2, x3, x4, x5, (e.cell (p := ⟨g, o + i * 2, none⟩) hgl).trans (hcs 0 _ rfl), (e.cell (p := ⟨g, o + i * 2 + 1, none⟩) hgl).trans (hcs 1 _ rfl)⟩
      clear hI hst1 hst hmi1 hok hzi hs hcs hsl hisA hAD HA HI HMI HW HMM hcw
      go_wp2_with fail
      go_cut [7, 8] (fun p7 p8 wd => ∃ (k : Nat) (vA2 : Value), p7 = .pointer (some ⟨k, 0, none⟩) ∧ p8 = .bool ok ∧ wd.heap[k]? = some (.cells #[.slice A2 L.length cap2, .int .i64 na, .int .i64 nb, .int .i64 ny, .int .i64 nt, vA2] 99 (0, 0)) ∧ Below wr.heap.size wr wd ∧ wr.heap.size ≤ k ∧ (ok = true → ∃ n1, wr.heap.size ≤ n1 ∧ OwnSl szC 2 67 wd n1 vA2 nAs))
      case first =>
        refine wp_region_held_drew (S := (fun w' => Below wr.heap.size wr w' ∧ w'.cell? ⟨b0, 0, none⟩ = some (.slice A2 L.length cap2) ∧ w'.cell? ⟨b0, 1, none⟩ = some (.int .i64 ma) ∧ w'.cell? ⟨b0, 2, none⟩ = some (.int .i64 mb) ∧ w'.cell? ⟨b0, 3, none⟩ = some (.int .i64 my) ∧ w'.cell? ⟨b0, 4, none⟩ = some (.int .i64 mt) ∧ w'.cell? ⟨b0, 5, none⟩ = some vA ∧ w'.cell? ⟨g, o + i * 2, none⟩ = some (.int .i64 z1) ∧ w'.cell? ⟨g, o + i * 2 + 1, none⟩ = some (.int .i64 z2))) (by kernel_rfl) (HK.out _ ((Below.refl _ _).drew)) (fun hHeld => ?_)
        refine wpAnyH_take (i := 0) (v := ?_) rfl (by kernel_rfl) (by kernel_rfl) (by kernel_rfl) (fun _ _ _ h => h) (Or.inl ⟨by rfl, ?_⟩) (by assumption) ?_
        rotate_left
        focus ((intro wS hSw; (try dsimp only at hSw); go_simp); (try (with_reducible rfl)))
        simp only [Act.put, List.getElem_toArray, List.getElem_cons_zero, List.getElem_cons_succ, List.setIfInBounds_toArray, List.set_cons_zero, List.set_cons_succ]
        refine wpAnyH_take (i := 1) (v := ?_) rfl (by kernel_rfl) (by kernel_rfl) (by kernel_rfl) (fun _ _ _ h => h) (Or.inl ⟨by rfl, ?_⟩) (by assumption) ?_
        rotate_left
        focus ((intro wS hSw; (try dsimp only at hSw); go_simp); (try (with_reducible rfl)))
        simp only [Act.put, List.getElem_toArray, List.getElem_cons_zero, List.getElem_cons_succ, List.setIfInBounds_toArray, List.set_cons_zero, List.set_cons_succ]
        refine wpAnyH_take (i := 2) (v := ?_) rfl (by kernel_rfl) (by kernel_rfl) (by kernel_rfl) (fun _ _ _ h => h) (Or.inl ⟨by rfl, ?_⟩) (by assumption) ?_
        rotate_left
        focus ((intro wS hSw; (try dsimp only at hSw); go_simp); (try (with_reducible rfl)))
        simp only [Act.put, List.getElem_toArray, List.getElem_cons_zero, List.getElem_cons_succ, List.setIfInBounds_toArray, List.set_cons_zero, List.set_cons_succ]
        refine wpAnyH_take (i := 3) (v := ?_) rfl (by kernel_rfl) (by kernel_rfl) (by kernel_rfl) (fun _ _ _ h => h) (Or.inl ⟨by rfl, ?_⟩) (by assumption) ?_
        rotate_left
        focus ((intro wS hSw; (try dsimp only at hSw); go_simp); (try (with_reducible rfl)))
        simp only [Act.put, List.getElem_toArray, List.getElem_cons_zero, List.getElem_cons_succ, List.setIfInBounds_toArray, List.set_cons_zero, List.set_cons_succ]
        refine wpAnyH_take (i := 4) (v := ?_) rfl (by kernel_rfl) (by kernel_rfl) (by kernel_rfl) (fun _ _ _ h => h) (Or.inl ⟨by rfl, ?_⟩) (by assumption) ?_
        rotate_left
        focus ((intro wS hSw; (try dsimp only at hSw); go_simp); (try (with_reducible rfl)))
        simp only [Act.put, List.getElem_toArray, List.getElem_cons_zero, List.getElem_cons_succ, List.setIfInBounds_toArray, List.set_cons_zero, List.set_cons_succ]
        have hd0 : wr.drew.heap.size = wr.heap.size := rfl
        refine wpAnyH_ready (rs := [5, 9]) (by kernel_rfl) (by simp) ?_
        refine AllReadyH.cons rfl (fun K hK => ?_) ?_
        · skip
          refine step_call_post (P := Try.prog) rfl 78 #[.agg #[.slice A2 L.length cap2, .int .i64 ma, .int .i64 mb, .int .i64 my, .int .i64 mt, vA], .agg #[.int .i64 z1, .int .i64 z2]] (by first | rfl | go_simp) _ (HAD.out _ hHeld.1) ?_
          rintro e wx ⟨vA2, rfl, hsx, hbx, hox⟩
          obtain ⟨Ax, capx, rfl, hcx, hax⟩ := hsx
          (try simp only at hox)
          clear hax hcx
          refine ⟨_, rfl, ?_⟩
          have HE1 := Lib.hid (below_onto hHeld.1 hbx)
          refine hK.out _ _ (HK.out _ HE1.out) (fun hHeld => ?_)
          clear hK K
          simp only [Act.put, List.getElem_toArray, List.getElem_cons_zero, List.getElem_cons_succ, List.setIfInBounds_toArray, List.set_cons_zero, List.set_cons_succ]
          refine wpAnyH_take (i := 6) (v := ?_) rfl (by kernel_rfl) (by kernel_rfl) (by kernel_rfl) (fun _ _ _ h => h) (Or.inl ⟨by rfl, ?_⟩) (by assumption) ?_
          rotate_left
          focus ((intro wS hSw; (try dsimp only at hSw); go_simp); (try (with_reducible rfl)))
          simp only [Act.put, List.getElem_toArray, List.getElem_cons_zero, List.getElem_cons_succ, List.setIfInBounds_toArray, List.set_cons_zero, List.set_cons_succ]
          refine wpAnyH_take (i := 7) (v := ?_) rfl (by kernel_rfl) (by kernel_rfl) (by kernel_rfl) (fun _ _ _ h => h) (Or.inl ⟨by rfl, ?_⟩) (by assumption) ?_
          rotate_left
          focus ((intro wS hSw; (try dsimp only at hSw); go_simp); (try (with_reducible rfl)))
          simp only [Act.put, List.getElem_toArray, List.getElem_cons_zero, List.getElem_cons_succ, List.setIfInBounds_toArray, List.set_cons_zero, List.set_cons_succ]
          refine wpAnyH_take (i := 8) (v := ?_) rfl (by kernel_rfl) (by kernel_rfl) (by kernel_rfl) (fun _ _ _ h => h) (Or.inl ⟨by rfl, ?_⟩) (by assumption) ?_
          rotate_left
          focus ((intro wS hSw; (try dsimp only at hSw); go_simp); (try (with_reducible rfl)))
          simp only [Act.put, List.getElem_toArray, List.getElem_cons_zero, List.getElem_cons_succ, List.setIfInBounds_toArray, List.set_cons_zero, List.set_cons_succ]
          have hwx := HE1.out.size
          refine wpAnyH_ready (rs := [9]) (by kernel_rfl) (by simp) ?_
          refine AllReadyH.cons rfl (fun K hK => ?_) AllReadyH.nil
          go_simp
          refine hK.out _ _ (HK.out _ (al_keep hHeld _)) (fun hHeld => ?_)
          clear hK K
          (try simp only [Act.put, List.getElem_toArray, List.getElem_cons_zero, List.getElem_cons_succ, List.setIfInBounds_toArray, List.set_cons_zero, List.set_cons_succ])
          refine wpAnyH_ready (rs := [10]) (by kernel_rfl) (by simp) ?_
          refine AllReadyH.cons rfl (fun K hK => ?_) AllReadyH.nil
          have hn0 := heap_alloc_new wx (.cells #[.slice none 0 0, .int .i64 0, .int .i64 0, .int .i64 0, .int .i64 0, .slice none 0 0] 99)
          refine step_store_row rfl 99 (.tmp 7) (.tmp 23) rfl (wx.heap.size) #[.slice none 0 0, .int .i64 0, .int .i64 0, .int .i64 0, .int .i64 0, .slice none 0 0] #[.slice A2 L.length cap2, .int .i64 na, .int .i64 nb, .int .i64 ny, .int .i64 nt, .slice Ax nAs.length capx] 99 hn0 (by rfl) (by rfl) mkInfo rfl (by simp [Value.oneCell']) ?_
          intro w9 hw9 hg9 hz9
          have hbe9 := hHeld.1.grown hg9 (by have := hHeld.1.size; omega) (fun k hk => by injection hk with hk; omega)
          refine hK.out _ _ (HK.out _ hbe9) (fun hHeld => ?_)
          clear hK K
          (try simp only [Act.put, List.getElem_toArray, List.getElem_cons_zero, List.getElem_cons_succ, List.setIfInBounds_toArray, List.set_cons_zero, List.set_cons_succ])
          refine wpAnyH_take (i := 11) (v := ?_) rfl (by kernel_rfl) (by kernel_rfl) (by kernel_rfl) (fun _ _ _ h => h) (Or.inl ⟨by rfl, ?_⟩) (by assumption) ?_
          rotate_left
          focus ((intro wS hSw; (try dsimp only at hSw); go_simp); (try (with_reducible rfl)))
          simp only [Act.put, List.getElem_toArray, List.getElem_cons_zero, List.getElem_cons_succ, List.setIfInBounds_toArray, List.set_cons_zero, List.set_cons_succ]
          refine wpAnyH_done (by kernel_rfl) ?_ _
          have hhe := hHeld.1
          clear hHeld HK HAD hn0
          go_wp2_with fail
          go_meet
          case rel =>
            refine ⟨_, _, rfl, rfl, hw9, hhe, hwx, fun e => ?_⟩
            obtain ⟨n1, h1, h2⟩ := hox e
            exact ⟨n1, h1, (h2.below ((Below.refl _ _).alloc (Nat.le_refl _) _)).kept hg9 (.inr (fun e => by have := h2.lt e; omega))⟩
        · refine AllReadyH.cons rfl (fun K hK => ?_) AllReadyH.nil
          go_simp
          refine hK.out _ _ (HK.out _ (al_keep hHeld _)) (fun hHeld => ?_)
          clear hK K
          (try simp only [Act.put, List.getElem_toArray, List.getElem_cons_zero, List.getElem_cons_succ, List.setIfInBounds_toArray, List.set_cons_zero, List.set_cons_succ])
          have hn0 := heap_alloc_new wr.drew (.cells #[.slice none 0 0, .int .i64 0, .int .i64 0, .int .i64 0, .int .i64 0, .slice none 0 0] 99)
          refine wpAnyH_ready (rs := [5]) (by kernel_rfl) (by simp) ?_
          refine AllReadyH.cons rfl (fun K hK => ?_) AllReadyH.nil
          refine step_call_post (P := Try.prog) rfl 78 #[.agg #[.slice A2 L.length cap2, .int .i64 ma, .int .i64 mb, .int .i64 my, .int .i64 mt, vA], .agg #[.int .i64 z1, .int .i64 z2]] (by first | rfl | go_simp) _ (HAD.out _ hHeld.1) ?_
          rintro e wx ⟨vA2, rfl, hsx, hbx, hox⟩
          obtain ⟨Ax, capx, rfl, hcx, hax⟩ := hsx
          (try simp only at hox)
          clear hax hcx
          refine ⟨_, rfl, ?_⟩
          have HE1 := Lib.hid (below_onto hHeld.1 hbx)
          refine hK.out _ _ (HK.out _ HE1.out) (fun hHeld => ?_)
          clear hK K
          simp only [Act.put, List.getElem_toArray, List.getElem_cons_zero, List.getElem_cons_succ, List.setIfInBounds_toArray, List.set_cons_zero, List.set_cons_succ]
          refine wpAnyH_take (i := 6) (v := ?_) rfl (by kernel_rfl) (by kernel_rfl) (by kernel_rfl) (fun _ _ _ h => h) (Or.inl ⟨by rfl, ?_⟩) (by assumption) ?_
          rotate_left
          focus ((intro wS hSw; (try dsimp only at hSw); go_simp); (try (with_reducible rfl)))
          simp only [Act.put, List.getElem_toArray, List.getElem_cons_zero, List.getElem_cons_succ, List.setIfInBounds_toArray, List.set_cons_zero, List.set_cons_succ]
          refine wpAnyH_take (i := 7) (v := ?_) rfl (by kernel_rfl) (by kernel_rfl) (by kernel_rfl) (fun _ _ _ h => h) (Or.inl ⟨by rfl, ?_⟩) (by assumption) ?_
          rotate_left
          focus ((intro wS hSw; (try dsimp only at hSw); go_simp); (try (with_reducible rfl)))
          simp only [Act.put, List.getElem_toArray, List.getElem_cons_zero, List.getElem_cons_succ, List.setIfInBounds_toArray, List.set_cons_zero, List.set_cons_succ]
          refine wpAnyH_take (i := 8) (v := ?_) rfl (by kernel_rfl) (by kernel_rfl) (by kernel_rfl) (fun _ _ _ h => h) (Or.inl ⟨by rfl, ?_⟩) (by assumption) ?_
          rotate_left
          focus ((intro wS hSw; (try dsimp only at hSw); go_simp); (try (with_reducible rfl)))
          simp only [Act.put, List.getElem_toArray, List.getElem_cons_zero, List.getElem_cons_succ, List.setIfInBounds_toArray, List.set_cons_zero, List.set_cons_succ]
          have hn1 := blk_keep hn0 hbx
          have hwx := HE1.out.size
          refine wpAnyH_ready (rs := [10]) (by kernel_rfl) (by simp) ?_
          refine AllReadyH.cons rfl (fun K hK => ?_) AllReadyH.nil
          refine step_store_row rfl 99 (.tmp 7) (.tmp 23) rfl (wr.heap.size) #[.slice none 0 0, .int .i64 0, .int .i64 0, .int .i64 0, .int .i64 0, .slice none 0 0] #[.slice A2 L.length cap2, .int .i64 na, .int .i64 nb, .int .i64 ny, .int .i64 nt, .slice Ax nAs.length capx] 99 hn1 (by rfl) (by rfl) mkInfo rfl (by simp [Value.oneCell']) ?_
          intro w9 hw9 hg9 hz9
          have hbe9 := hHeld.1.grown hg9 (by have := hHeld.1.size; omega) (fun k hk => by injection hk with hk; omega)
          refine hK.out _ _ (HK.out _ hbe9) (fun hHeld => ?_)
          clear hK K
          (try simp only [Act.put, List.getElem_toArray, List.getElem_cons_zero, List.getElem_cons_succ, List.setIfInBounds_toArray, List.set_cons_zero, List.set_cons_succ])
          refine wpAnyH_take (i := 11) (v := ?_) rfl (by kernel_rfl) (by kernel_rfl) (by kernel_rfl) (fun _ _ _ h => h) (Or.inl ⟨by rfl, ?_⟩) (by assumption) ?_
          rotate_left
          focus ((intro wS hSw; (try dsimp only at hSw); go_simp); (try (with_reducible rfl)))
          simp only [Act.put, List.getElem_toArray, List.getElem_cons_zero, List.getElem_cons_succ, List.setIfInBounds_toArray, List.set_cons_zero, List.set_cons_succ]
          refine wpAnyH_done (by kernel_rfl) ?_ _
          have hhe := hHeld.1
          clear hHeld HK HAD hn0 hn1
          go_wp2_with fail
          go_meet
          case rel =>
            refine ⟨_, _, rfl, rfl, hw9, hhe, Nat.le_refl _, fun e => ?_⟩
            obtain ⟨n1, h1, h2⟩ := hox e
            have h3 : wr.heap.size + 1 ≤ n1 := by simpa using h1
            exact ⟨n1, by omega, h2.kept hg9 (.inr (fun e => by have := h2.from_ e; omega))⟩
      obtain ⟨k, vA2, rfl, rfl, hk, hbd, hkl, hown⟩ := hcut
      have HK7 := Lib.hid hk
      have HBD := Lib.hid hbd
      have HOWN := Lib.hid hown
      have HIc := Lib.hid (HI2.out.below' hbd)
      have HKL := Lib.hid hkl
      clear hk hbd hown hkl HK HAD
      cases ok with
      | true =>
        obtain ⟨n1, hn1, ho1⟩ := HOWN.out rfl
        obtain ⟨Ax, capx, rfl, _⟩ := ho1.form
        have hb0w := HI2.out.lt
        have hst : (zs.take (i + 1)).foldl (allStep L) (⟨a, b, y, 0, []⟩, []) = (⟨na, nb, ny, nt, nAs⟩, out) := by rw [HST.out]; unfold allStep; simp only [HA2.out, if_true]
        have HST2 := Lib.hid hst
        have HO1 := Lib.hid ho1
        obtain ⟨x0, x1, x2, x3, x4, x5⟩ := cells6 HK7.out
        clear hst ho1
        go_wp2_with (first
          | ((with_reducible refine store_row (dst := none) 99 (.tmp 2) (.tmp 42) b0 _ #[.slice A2 L.length cap2, .int .i64 na, .int .i64 nb, .int .i64 ny, .int .i64 nt, .slice Ax nAs.length capx] 99 HIc.out.g ?_ ?_ ?_ ?_ ?_ ?_); rfl; rfl; exact mkInfo; rfl; (simp [Value.oneCell']); intro w10 hw10 hg10 hz10; have HW10 := Lib.hid hw10; have HG10 := Lib.hid hg10; clear hw10 hg10))
        have hai := AlI.put (m := ⟨na, nb, ny, nt, nAs⟩) HW10.out HG10.out HO1.out (by omega) HIc.out.oo (fun k e => by have := HI2.out.oo.lt e; omega) HIc.out.be HI2.out.hb
        have HAI := Lib.hid (show ∃ vA, AlI w w10 b0 (.slice A2 L.length cap2) vA _ ((zs.take (i + 1)).foldl (allStep L) (⟨a, b, y, 0, []⟩, [])) from ⟨_, by rw [HST2.out]; exact hai⟩)
        clear hai x0 x1 x2 x3 x4 x5
        go_wp2_with fail
        go_roundw
        case rel => exact ⟨i + 1, by omega, by go_num, HAI, HMI1⟩
        case measure => simp [intOf]; omega
      | false =>
        have hne : As ≠ [] := fun h => by have := HA2.out; rw [addM_nil h] at this; injection this with _ h2; cases h2
        have hme := hmi.out.ends hne ln0
        rw [endM_some hne] at hme
        have HNE := Lib.hid hne
        have hb0w := HI2.out.lt
        obtain ⟨ad, cA, rfl, _⟩ := HI2.out.oA.form
        obtain ⟨ao, cO, rfl, _⟩ := HI2.out.oo.form
        simp only at hme ⊢
        obtain ⟨⟨ql, qt, qr, qb, qn, qd⟩, hq⟩ : ∃ q, lineM L ⟨ma, mb, my, mt, As⟩ = q := ⟨_, rfl⟩
        obtain ⟨y2, hy2⟩ : ∃ y2, mt + highL As = y2 := ⟨_, rfl⟩
        obtain ⟨tq, htq⟩ : ∃ tq, topQ L ma mb y2 z1 z2 = tq := ⟨_, rfl⟩
        have hnw := HNOW.out ⟨ma, mb, my, mt, As⟩ (.slice ad As.length cA) wc HIc.out.be (HIc.out.oA.is szC_len (by decide)) HOK.out
        rw [hq] at hnw
        simp only [lnqC] at hnw
        rw [hy2] at hme
        have hst : (zs.take (i + 1)).foldl (allStep L) (⟨a, b, y, 0, []⟩, []) = (⟨ma, mb, y2, tq, [(z1, z2)]⟩, out ++ [⟨ql, qt, qr, qb, qn, qd⟩]) := by
          rw [HST.out]; unfold allStep; simp only [HA2.out, Bool.false_eq_true, if_false]; rw [endM_some hne, addM_nil rfl, hq]; simp only [hy2, htq]
        have hen := fun w' e hA => HEND.out ⟨ma, mb, my, mt, As⟩ (.slice ad As.length cA) w' e hA HOK.out hne
        simp only [hy2] at hen
        have had := fun w' (e : Below w.heap.size w w') => HADD.out ⟨ma, mb, y2, mt, []⟩ (z1, z2) (.slice none 0 0) w' e (IsSl.nil _) (hme.ok ha hb (by omega) (by omega)) HZI.out (by show 0 ≤ 900; omega) (by have := hme.y1; simp only at this; show -1125899906842624 ≤ y2 ∧ y2 ≤ 2251799813685248; omega) hme.e1 hme.e2
        unfold RAddPost at had
        rw [addM_nil rfl] at had
        simp only [mkC, htq] at had
        have HST2 := Lib.hid hst
        have HNW := Lib.hid hnw
        have HEN := Lib.hid hen
        have HADE := Lib.hid had
        clear hst hnw hen had hme hq hy2 htq hne
        obtain ⟨x0, x1, x2, x3, x4, x5⟩ := cells6 HIc.out.g
        go_wp2_with fail
        refine HNW.out.mono ?_
        rintro e w5 ⟨rfl, hb5⟩
        have hz5 := hb5.size
        have HI5 := Lib.hid (HIc.out.below' hb5)
        have HK5 := Lib.hid (blk_keep HK7.out hb5)
        have hbn : Below w5.heap.size w5 (w5.alloc (.cells #[.int .i64 ql, .int .i64 qt, .int .i64 qr, .int .i64 qb, .int .i64 qn, .int .i64 qd] 101)) := (Below.refl _ _).alloc (Nat.le_refl _) _
        have HI6 := Lib.hid (HI5.out.below' hbn)
        have HK6 := Lib.hid (blk_keep HK5.out hbn)
        have HNEW := Lib.hid (range_new w5 (lnqC ⟨ql, qt, qr, qb, qn, qd⟩) 101)
        have hkl2 := lt_of HK5.out
        have hbc := HBD.out.size
        simp only [lnqC] at HNEW
        clear x0 x1 x2 x3 x4 x5 hb5 hbn
        go_wp2_with (first
          | (at_builtin; refine sl_append _ rlnElem lnqC_len lnqC_one rfl (.tmp 27) (.tmp 30) rfl (b0 + 1) _ out (by rfl) HI6.out.oo ⟨ql, qt, qr, qb, qn, qd⟩ _ _ (by rfl) HNEW.out (by omega) (by simp; omega) ?_; intro v6 w6 ho6 hg6 hw6; have HO6 := Lib.hid ho6; have HG6 := Lib.hid hg6; have HW6 := Lib.hid hw6; clear ho6 hg6 hw6))
        obtain ⟨a6, c6, rfl, _⟩ := HO6.out.form
        have hne1 : (Value.slice ao out.length cO).ownBlock ≠ some b0 := fun e => by have := HI2.out.oo.from_ e; omega
        have hlo1 : ∀ j, (Value.slice ao out.length cO).ownBlock = some j → j < wr.heap.size := fun j e => HI2.out.oo.lt e
        have hne2 : (Value.slice ao out.length cO).ownBlock ≠ some k := fun e => by have := hlo1 _ e; have := HKL.out; omega
        have h6g := (HG6.out.block b0 (by simp; omega) (fun e => hne1 e.symm)).trans HI6.out.g
        have h6k := (HG6.out.block k (by simp; omega) (fun e => hne2 e.symm)).trans HK6.out
        have h6A := HI6.out.oA.kept HG6.out HI6.out.ne
        have h6b := HI6.out.be.grown HG6.out HI6.out.be.size (fun j e => by have := HI2.out.oo.from_ e; have := HI2.out.hb; omega)
        have hz6 := HG6.out.size
        have hz6' : w5.heap.size + 1 ≤ w6.heap.size := by simpa using hz6
        have hkw := HKL.out
        have hwb := HI2.out.hb
        have h6o : ∀ j, (Value.slice a6 (out ++ [(⟨ql, qt, qr, qb, qn, qd⟩ : Lnq)]).length c6).ownBlock = some j → j ≠ k ∧ j < w6.heap.size := fun j e => ⟨fun q => by
            subst q
            rcases HW6.out with h | h
            · exact hne2 (h.symm.trans e)
            · rw [e] at h; injection h with h; simp at h; omega, HO6.out.lt e⟩
        have HG6g := Lib.hid h6g
        have HG6k := Lib.hid h6k
        have HG6A := Lib.hid h6A
        have HG6b := Lib.hid h6b
        have HG6o := Lib.hid h6o
        obtain ⟨L6, hL6⟩ : ∃ l, out ++ [(⟨ql, qt, qr, qb, qn, qd⟩ : Lnq)] = l := ⟨_, rfl⟩
        rw [hL6] at HO6 HST2 HG6o ⊢
        have hk6 := lt_of h6k
        have HK : Hid (∀ w', Below k w6 w' → Below k w6 w' ∧ w'.cell? ⟨b0, 0, none⟩ = some (.slice A2 L.length cap2) ∧ w'.cell? ⟨b0, 1, none⟩ = some (.int .i64 ma) ∧ w'.cell? ⟨b0, 2, none⟩ = some (.int .i64 mb) ∧ w'.cell? ⟨b0, 3, none⟩ = some (.int .i64 my) ∧ w'.cell? ⟨b0, 4, none⟩ = some (.int .i64 mt) ∧ w'.cell? ⟨b0, 5, none⟩ = some (.slice ad As.length cA) ∧ w'.cell? ⟨g, o + i * 2, none⟩ = some (.int .i64 z1) ∧ w'.cell? ⟨g, o + i * 2 + 1, none⟩ = some (.int .i64 z2)) := Lib.hid fun w' e => by
          have hw' : Below w.heap.size w w' := HG6b.out.trans (e.mono (by omega))
          have hz := HCW.out w' hw'
          obtain ⟨x0, x1, x2, x3, x4, x5⟩ := cells6 ((e.block b0 (by omega)).trans HG6g.out)
          exact ⟨e, x0, x1, x2, x3, x4, x5, hz 0 _ rfl, hz 1 _ rfl⟩
        clear h6g h6k h6A h6b h6o hz6 hL6 hlo1 hne1 hne2
        refine wp_region_held_drew (S := (fun w' => Below k w6 w' ∧ w'.cell? ⟨b0, 0, none⟩ = some (.slice A2 L.length cap2) ∧ w'.cell? ⟨b0, 1, none⟩ = some (.int .i64 ma) ∧ w'.cell? ⟨b0, 2, none⟩ = some (.int .i64 mb) ∧ w'.cell? ⟨b0, 3, none⟩ = some (.int .i64 my) ∧ w'.cell? ⟨b0, 4, none⟩ = some (.int .i64 mt) ∧ w'.cell? ⟨b0, 5, none⟩ = some (.slice ad As.length cA) ∧ w'.cell? ⟨g, o + i * 2, none⟩ = some (.int .i64 z1) ∧ w'.cell? ⟨g, o + i * 2 + 1, none⟩ = some (.int .i64 z2))) (by kernel_rfl) (HK.out _ ((Below.refl _ _).drew)) (fun hHeld => ?_)
        refine wpAnyH_take (i := 0) (v := ?_) rfl (by kernel_rfl) (by kernel_rfl) (by kernel_rfl) (fun _ _ _ h => h) (Or.inl ⟨by rfl, ?_⟩) (by assumption) ?_
        rotate_left
        focus ((intro wS hSw; (try dsimp only at hSw); go_simp); (try (with_reducible rfl)))
        simp only [Act.put, List.getElem_toArray, List.getElem_cons_zero, List.getElem_cons_succ, List.setIfInBounds_toArray, List.set_cons_zero, List.set_cons_succ]
        refine wpAnyH_take (i := 2) (v := ?_) rfl (by kernel_rfl) (by kernel_rfl) (by kernel_rfl) (fun _ _ _ h => h) (Or.inl ⟨by rfl, ?_⟩) (by assumption) ?_
        rotate_left
        focus ((intro wS hSw; (try dsimp only at hSw); go_simp); (try (with_reducible rfl)))
        simp only [Act.put, List.getElem_toArray, List.getElem_cons_zero, List.getElem_cons_succ, List.setIfInBounds_toArray, List.set_cons_zero, List.set_cons_succ]
        refine wpAnyH_take (i := 3) (v := ?_) rfl (by kernel_rfl) (by kernel_rfl) (by kernel_rfl) (fun _ _ _ h => h) (Or.inl ⟨by rfl, ?_⟩) (by assumption) ?_
        rotate_left
        focus ((intro wS hSw; (try dsimp only at hSw); go_simp); (try (with_reducible rfl)))
        simp only [Act.put, List.getElem_toArray, List.getElem_cons_zero, List.getElem_cons_succ, List.setIfInBounds_toArray, List.set_cons_zero, List.set_cons_succ]
        refine wpAnyH_take (i := 4) (v := ?_) rfl (by kernel_rfl) (by kernel_rfl) (by kernel_rfl) (fun _ _ _ h => h) (Or.inl ⟨by rfl, ?_⟩) (by assumption) ?_
        rotate_left
        focus ((intro wS hSw; (try dsimp only at hSw); go_simp); (try (with_reducible rfl)))
        simp only [Act.put, List.getElem_toArray, List.getElem_cons_zero, List.getElem_cons_succ, List.setIfInBounds_toArray, List.set_cons_zero, List.set_cons_succ]
        refine wpAnyH_take (i := 5) (v := ?_) rfl (by kernel_rfl) (by kernel_rfl) (by kernel_rfl) (fun _ _ _ h => h) (Or.inl ⟨by rfl, ?_⟩) (by assumption) ?_
        rotate_left
        focus ((intro wS hSw; (try dsimp only at hSw); go_simp); (try (with_reducible rfl)))
        simp only [Act.put, List.getElem_toArray, List.getElem_cons_zero, List.getElem_cons_succ, List.setIfInBounds_toArray, List.set_cons_zero, List.set_cons_succ]
        refine wpAnyH_ready (rs := [1]) (by kernel_rfl) (by simp) ?_
        refine AllReadyH.cons rfl (fun K hK => ?_) AllReadyH.nil
        have hd6 : w6.drew.heap.size = w6.heap.size := rfl
        refine step_call_post (P := Try.prog) rfl 80 #[.agg #[.slice A2 L.length cap2, .int .i64 ma, .int .i64 mb, .int .i64 my, .int .i64 mt, .slice ad As.length cA]] (by first | rfl | go_simp) _ (HEN.out w6.drew (HG6b.out.trans (((Below.refl w6.heap.size w6).drew).mono HG6b.out.size)) ((HG6A.out.is szC_len (by decide)).below ((Below.refl w6.heap.size w6).drew) (Nat.le_refl _))) ?_
        rintro e w7 ⟨rfl, hb7⟩
        refine ⟨_, rfl, ?_⟩
        have HE7 : Hid (Below w6.heap.size w6 w7) := Lib.hid (((Below.refl w6.heap.size w6).drew).trans hb7)
        have hz7 := HE7.out.size
        refine hK.out _ _ (HK.out _ (HE7.out.mono (by omega))) (fun hHeld => ?_)
        clear hK K hb7
        simp only [Act.put, List.getElem_toArray, List.getElem_cons_zero, List.getElem_cons_succ, List.setIfInBounds_toArray, List.set_cons_zero, List.set_cons_succ]
        refine wpAnyH_ready (rs := [6]) (by kernel_rfl) (by simp) ?_
        refine AllReadyH.cons rfl (fun K hK => ?_) AllReadyH.nil
        refine step_call_post (P := Try.prog) rfl 78 #[.agg #[.slice A2 L.length cap2, .int .i64 ma, .int .i64 mb, .int .i64 y2, .int .i64 mt, .slice none 0 0], .agg #[.int .i64 z1, .int .i64 z2]] (by first | rfl | go_simp) _ (HADE.out w7 (HG6b.out.trans (HE7.out.mono HG6b.out.size))) ?_
        rintro e w8 ⟨vA3, rfl, hs8, hb8, ho8⟩
        obtain ⟨A8, c8, rfl, _, _⟩ := hs8
        refine ⟨_, rfl, ?_⟩
        have HE8 : Hid (Below w6.heap.size w6 w8) := Lib.hid (HE7.out.trans (hb8.mono HE7.out.size))
        have hz8 := HE8.out.size
        refine hK.out _ _ (HK.out _ (HE8.out.mono (by omega))) (fun hHeld => ?_)
        clear hK K hb8
        simp only [Act.put, List.getElem_toArray, List.getElem_cons_zero, List.getElem_cons_succ, List.setIfInBounds_toArray, List.set_cons_zero, List.set_cons_succ]
        refine wpAnyH_take (i := 7) (v := ?_) rfl (by kernel_rfl) (by kernel_rfl) (by kernel_rfl) (fun _ _ _ h => h) (Or.inl ⟨by rfl, ?_⟩) (by assumption) ?_
        rotate_left
        focus ((intro wS hSw; (try dsimp only at hSw); go_simp); (try (with_reducible rfl)))
        simp only [Act.put, List.getElem_toArray, List.getElem_cons_zero, List.getElem_cons_succ, List.setIfInBounds_toArray, List.set_cons_zero, List.set_cons_succ]
        refine wpAnyH_take (i := 8) (v := ?_) rfl (by kernel_rfl) (by kernel_rfl) (by kernel_rfl) (fun _ _ _ h => h) (Or.inl ⟨by rfl, ?_⟩) (by assumption) ?_
        rotate_left
        focus ((intro wS hSw; (try dsimp only at hSw); go_simp); (try (with_reducible rfl)))
        simp only [Act.put, List.getElem_toArray, List.getElem_cons_zero, List.getElem_cons_succ, List.setIfInBounds_toArray, List.set_cons_zero, List.set_cons_succ]
        refine wpAnyH_take (i := 9) (v := ?_) rfl (by kernel_rfl) (by kernel_rfl) (by kernel_rfl) (fun _ _ _ h => h) (Or.inl ⟨by rfl, ?_⟩) (by assumption) ?_
        rotate_left
        focus ((intro wS hSw; (try dsimp only at hSw); go_simp); (try (with_reducible rfl)))
        simp only [Act.put, List.getElem_toArray, List.getElem_cons_zero, List.getElem_cons_succ, List.setIfInBounds_toArray, List.set_cons_zero, List.set_cons_succ]
        refine wpAnyH_ready (rs := [10]) (by kernel_rfl) (by simp) ?_
        refine AllReadyH.cons rfl (fun K hK => ?_) AllReadyH.nil
        refine step_store_row rfl 99 (.tmp 7) (.tmp 40) rfl k _ #[.slice A2 L.length cap2, .int .i64 ma, .int .i64 mb, .int .i64 y2, .int .i64 tq, .slice A8 1 c8] 99 (blk_keep HG6k.out HE8.out) (by rfl) (by rfl) mkInfo rfl (by simp [Value.oneCell']) ?_
        intro w9 hw9 hg9 hz9
        have hbe9 := hHeld.1.grown hg9 (by have := hHeld.1.size; omega) (fun k hk => by injection hk with hk; omega)
        refine hK.out _ _ (HK.out _ hbe9) (fun hHeld => ?_)
        clear hK K
        (try simp only [Act.put, List.getElem_toArray, List.getElem_cons_zero, List.getElem_cons_succ, List.setIfInBounds_toArray, List.set_cons_zero, List.set_cons_succ])
        refine wpAnyH_done (by kernel_rfl) ?_ _
        have hhe := hHeld.1
        obtain ⟨n1, hn1, ho1⟩ := ho8 (by first | trivial | rfl)
        have ho9 := ho1.kept hg9 (.inr (fun e => by have := ho1.from_ e; omega))
        have hO9 := (HO6.out.below HE8.out).kept hg9 (.inr (fun e => (HG6o.out _ e).1 rfl))
        have HW9 := Lib.hid hw9
        have HO9 := Lib.hid ho9
        have HOO9 := Lib.hid hO9
        have HBE9 := Lib.hid (HG6b.out.trans (hhe.mono (by omega)))
        have HGB9 := Lib.hid ((hhe.block b0 (by omega)).trans HG6g.out)
        have HN9 := Lib.hid (fun j e => Nat.lt_of_lt_of_le (HG6o.out j e).2 (Nat.le_trans hz7 hn1))
        have hn19 : b0 + 1 ≤ n1 := by omega
        obtain ⟨x0, x1, x2, x3, x4, x5⟩ := cells6 hw9
        clear hHeld HK ho8 ho1 ho9 hO9 hg9 hw9 hbe9 hhe HEN HADE hz9
        go_wp2_with (first
          | ((with_reducible refine store_row (dst := none) 99 (.tmp 2) (.tmp 42) b0 _ #[.slice A2 L.length cap2, .int .i64 ma, .int .i64 mb, .int .i64 y2, .int .i64 tq, .slice A8 1 c8] 99 HGB9.out ?_ ?_ ?_ ?_ ?_ ?_); rfl; rfl; exact mkInfo; rfl; (simp [Value.oneCell']); intro w10 hw10 hg10 hz10; have HW10 := Lib.hid hw10; have HG10 := Lib.hid hg10; clear hw10 hg10))
        have hai := AlI.put (m := ⟨ma, mb, y2, tq, [(z1, z2)]⟩) HW10.out HG10.out HO9.out hn19 HOO9.out HN9.out HBE9.out HI2.out.hb
        have HAI := Lib.hid (show ∃ vA, AlI w w10 b0 (.slice A2 L.length cap2) vA _ ((zs.take (i + 1)).foldl (allStep L) (⟨a, b, y, 0, []⟩, [])) from ⟨_, by rw [HST2.out]; exact hai⟩)
        clear hai x0 x1 x2 x3 x4 x5
        go_wp2_with fail
        go_roundw
        case rel => exact ⟨i + 1, by omega, by go_num, HAI, HMI1⟩
        case measure => simp [intOf]; omega
    · have hir : i = zs.length := by omega
      subst hir
      rw [List.take_length] at hs
      have hok := hmi.out.ok ha hb (by omega) (by omega)
      obtain ⟨⟨ma, mb, my, mt, As⟩, out⟩ := s
      have hol : out.length ≤ zs.length := hmi.out.l2
      have hlA : As.length ≤ zs.length := hmi.out.l1
      have HAM := Lib.hid (show allM L ⟨a, b, y, 0, []⟩ zs = if As = [] then out else out ++ [lineM L ⟨ma, mb, my, mt, As⟩] by unfold allM; rw [hs]; rfl)
      have HI2 := Lib.hid hI
      have HOK := Lib.hid hok
      obtain ⟨ad, cA, rfl, _⟩ := HI2.out.oA.form
      obtain ⟨ao, cO, rfl, _⟩ := HI2.out.oo.form
      obtain ⟨x0, x1, x2, x3, x4, x5⟩ := cells6 HI2.out.g
      have hb0w := HI2.out.lt
      clear hI hst1 hok hs HA HI HMI HW HMM hlt
      by_cases hAs : As = []
      · subst hAs
        go_wp2_with fail
        go_ret
        exact ⟨_, rfl, by rw [HAM.out, if_pos (by trivial)]; exact HI2.out.oo.is lnqC_len (by decide), HI2.out.be⟩
      · have hl0 : 0 < As.length := List.length_pos_iff.2 hAs
        obtain ⟨⟨ql, qt, qr, qb, qn, qd⟩, hq⟩ : ∃ q, lineM L ⟨ma, mb, my, mt, As⟩ = q := ⟨_, rfl⟩
        have ham := HAM.out
        rw [if_neg hAs, hq] at ham
        have hnw := HNOW.out ⟨ma, mb, my, mt, As⟩ (.slice ad As.length cA) wr HI2.out.be (HI2.out.oA.is szC_len (by decide)) HOK.out
        rw [hq] at hnw
        simp only [lnqC] at hnw
        have HNW := Lib.hid hnw
        have HAM2 := Lib.hid ham
        clear hnw ham hq HAM
        go_wp2_with fail
        refine HNW.out.mono ?_
        rintro e w5 ⟨rfl, hb5⟩
        have HI5 := Lib.hid (HI2.out.below' hb5)
        have hbn : Below w5.heap.size w5 (w5.alloc (.cells #[.int .i64 ql, .int .i64 qt, .int .i64 qr, .int .i64 qb, .int .i64 qn, .int .i64 qd] 101)) := (Below.refl _ _).alloc (Nat.le_refl _) _
        have HI6 := Lib.hid (HI5.out.below' hbn)
        have HNEW := Lib.hid (range_new w5 (lnqC ⟨ql, qt, qr, qb, qn, qd⟩) 101)
        simp only [lnqC] at HNEW
        have hz5 := hb5.size
        clear x0 x1 x2 x3 x4 x5 hb5 hbn
        go_wp2_with (first
          | (at_builtin; refine sl_append _ rlnElem lnqC_len lnqC_one rfl (.tmp 47) (.tmp 50) rfl (b0 + 1) _ out (by rfl) HI6.out.oo ⟨ql, qt, qr, qb, qn, qd⟩ _ _ (by rfl) HNEW.out (by omega) (by simp; omega) ?_; intro v6 w6 ho6 hg6 hw6; have HO6 := Lib.hid ho6; have HG6 := Lib.hid hg6; clear ho6 hg6 hw6))
        go_ret
        exact ⟨_, rfl, by rw [HAM2.out]; exact HO6.out.is lnqC_len (by decide), HI6.out.be.grown HG6.out HI6.out.be.size (fun j e => by have := HI2.out.oo.from_ e; have := HI2.out.hb; omega)⟩
/- To -/
set_option maxRecDepth 20000 in
theorem rto_any (a b c d : Int) (w : World) : Calls Try.prog 81 #[.agg #[.int .i64 a, .int .i64 b, .int .i64 c, .int .i64 d]] w fun e w' => e = .returned (.agg #[.int .i64 a, .int .i64 b, .int .i64 c, .int .i64 d]) ∧ Below w.heap.size w w' := by
  go_enter Try.func81, Try.ntmps81
  go_wp2
  exact bodyPost_ret (v := .agg #[.int .i64 a, .int .i64 b, .int .i64 c, .int .i64 d]) (by simp [results, Try.results81, go_sem]) rfl ⟨rfl, by (repeat (first | exact Below.refl _ _ | (refine Below.alloc ?_ (by first | omega | (simp; done) | (simp; omega)) _) | (refine Below.on (by assumption) ?_ (by first | omega | (simp; done) | (simp; omega))) | (refine Below.grown ?_ (by assumption) (by first | omega | (simp; done) | (simp; omega)) (by intro k hk; cases hk)) | refine Below.drew ?_))⟩
set_option maxRecDepth 20000 in
set_option maxHeartbeats 4000000 in
theorem to13_any (q : Lnq) (w : World) : Calls Try.prog 49 #[.agg (lnqC q).toArray] w fun e w' => e = .returned (.agg (lnqC q).toArray) ∧ Below w.heap.size w w' := by
  obtain ⟨l, t, r, b, n, d⟩ := q
  simp only [lnqC]
  obtain ⟨b0, hb0⟩ : ∃ b, w.heap.size = b := ⟨_, rfl⟩
  obtain ⟨W, hW⟩ : ∃ W, (w.alloc (.cells #[.int .i64 l, .int .i64 t, .int .i64 r, .int .i64 b, .int .i64 n, .int .i64 d] 65)).alloc (.cells #[.int .i64 0, .int .i64 0, .int .i64 0, .int .i64 0, .int .i64 0, .int .i64 0] 101) = W := ⟨_, rfl⟩
  have hB : Below w.heap.size w W := by rw [← hW]; exact ((Below.refl _ _).alloc (Nat.le_refl _) _).alloc (by simp) _
  have g0 : W.heap[b0]? = some (.cells #[.int .i64 l, .int .i64 t, .int .i64 r, .int .i64 b, .int .i64 n, .int .i64 d] 65 (0, 0)) := by rw [← hW, ← hb0, heap_alloc_old _ _ (by simp), heap_alloc_new]
  have g1 : W.heap[b0 + 1]? = some (.cells #[.int .i64 0, .int .i64 0, .int .i64 0, .int .i64 0, .int .i64 0, .int .i64 0] 101 (0, 0)) := by rw [← hW, ← hb0]; exact heap_alloc2_new w _ _
  have HK : Hid (∀ w', Below W.heap.size W w' → w'.cell? ⟨b0, 0, none⟩ = some (.int .i64 l) ∧ w'.cell? ⟨b0, 1, none⟩ = some (.int .i64 t) ∧ w'.cell? ⟨b0, 2, none⟩ = some (.int .i64 r) ∧ w'.cell? ⟨b0, 3, none⟩ = some (.int .i64 b) ∧ w'.cell? ⟨b0, 4, none⟩ = some (.int .i64 n) ∧ w'.cell? ⟨b0, 5, none⟩ = some (.int .i64 d)) := Lib.hid fun w' e => cells6 (blk_keep g0 e)
  have HW := Lib.hid hW
  have HB0 := Lib.hid hb0
  have HB := Lib.hid hB
  have G1 := Lib.hid g1
  clear hW hb0 hB g0 g1
  go_enter Try.func49, Try.ntmps49
  go_wp2_with fail
  rw [HW.out, HB0.out]
  (try simp only [Act.put, List.setIfInBounds_toArray, List.set_cons_zero, List.set_cons_succ])
  (refine wp_region_laid_l (by kernel_rfl) [] 8 (by kernel_rfl) (by kernel_rfl) ?_; (repeat (first | (refine wpLex_laid (by rfl) ?_) | (refine wpLex_no (by rfl) (by rfl) ?_; go_simp) | (refine wpLex_val (by rfl) (by rfl) _ (by intro wq hq; have hSw := HK.out wq hq; (try dsimp only at hSw); go_simp; rfl) ?_; go_simp) | (refine wpLex_call (by rfl) (by rfl) _ _ (by intro wq hq; have hSw := HK.out wq hq; (try dsimp only at hSw); go_simp; exact ⟨rfl, rfl⟩) _ (by intro wq hq; have hSw := HK.out wq hq; (try dsimp only at hSw); first | (go_at_call 81; exact (rto_any l t r b wq))) ?_; go_simp))); refine wpLex_zero ?_)
  refine lend_tail fun w1 hb1 => ?_
  have hg1 := blk_keep G1.out hb1
  have HB1 := Lib.hid (HB.out.trans (hb1.mono HB.out.size))
  have HG1 := Lib.hid hg1
  have hb0 := HB0.out
  have hs1 := HB1.out.size
  clear hg1 hb1 HK
  go_wp2_with (first
    | ((with_reducible refine store_row (dst := none) 101 (.tmp 2) (.tmp 10) (b0 + 1) _ #[.int .i64 l, .int .i64 t, .int .i64 r, .int .i64 b, .int .i64 n, .int .i64 d] 101 HG1.out ?_ ?_ ?_ ?_ ?_ ?_); rfl; rfl; exact rlnInfo; rfl; (simp [Value.oneCell']); intro w2 hw2 hg2 hz2; have HW2 := Lib.hid hw2; have HG2 := Lib.hid hg2; clear hw2 hg2))
  obtain ⟨d0, d1, d2, d3, d4, d5⟩ := cells6 HW2.out
  refine bodyPost_ret (v := .agg #[.int .i64 l, .int .i64 t, .int .i64 r, .int .i64 b, .int .i64 n, .int .i64 d]) (by simp [results, Try.results49, go_sem, d0, d1, d2, d3, d4, d5]) rfl ⟨rfl, HB1.out.grown HG2.out HB1.out.size (fun k hk => by injection hk with hk; omega)⟩
theorem run_rect_four (d : Nat) (a0 a1 a2 a3 b0 b1 b2 b3 : Int) (w : World) :
    (Op.equalIn (d + 2) 47 (.agg #[.int .i64 a0, .int .i64 a1, .int .i64 a2, .int .i64 a3]) (.agg #[.int .i64 b0, .int .i64 b1, .int .i64 b2, .int .i64 b3])).run Try.prog w = .ok (a0 == b0 && (a1 == b1 && (a2 == b2 && a3 == b3))) w := by
  have hs : (sizeOf 3).run Try.prog w = .ok 1 w := by kernel_rfl
  have hp : ∀ (l : Array Value) (i : Nat) (v : Value), l[i]? = some v → (part 3 l i).run Try.prog w = .ok v w := fun l i v h => by simp [part, go_sem, h]
  have he : ∀ a b : Int, (Op.equalIn (d + 1) 3 (.int .i64 a) (.int .i64 b)).run Try.prog w = .ok (a == b) w := fun a b => run_equalIn_int w d 3 .i64 .i64 a b Try.underlying3
  unfold Op.equalIn
  simp only [Sem.run_bind, run_underlying Try.underlying47, Result.andThen_ok, hs, Std.Legacy.Range.forIn_eq_forIn_range']
  simp only [show List.range' 0 (({ stop := 4, step_pos := by omega } : Std.Legacy.Range).size) 1 = [0, 1, 2, 3] from rfl, List.forIn_cons, List.forIn_nil, Sem.run_bind, Nat.mul_one, Result.andThen_ok]
  have pa0 := hp #[.int .i64 a0, .int .i64 a1, .int .i64 a2, .int .i64 a3] 0 (.int .i64 a0) rfl
  have pa1 := hp #[.int .i64 a0, .int .i64 a1, .int .i64 a2, .int .i64 a3] 1 (.int .i64 a1) rfl
  have pa2 := hp #[.int .i64 a0, .int .i64 a1, .int .i64 a2, .int .i64 a3] 2 (.int .i64 a2) rfl
  have pa3 := hp #[.int .i64 a0, .int .i64 a1, .int .i64 a2, .int .i64 a3] 3 (.int .i64 a3) rfl
  have pb0 := hp #[.int .i64 b0, .int .i64 b1, .int .i64 b2, .int .i64 b3] 0 (.int .i64 b0) rfl
  have pb1 := hp #[.int .i64 b0, .int .i64 b1, .int .i64 b2, .int .i64 b3] 1 (.int .i64 b1) rfl
  have pb2 := hp #[.int .i64 b0, .int .i64 b1, .int .i64 b2, .int .i64 b3] 2 (.int .i64 b2) rfl
  have pb3 := hp #[.int .i64 b0, .int .i64 b1, .int .i64 b2, .int .i64 b3] 3 (.int .i64 b3) rfl
  have q0 := he a0 b0
  have q1 := he a1 b1
  have q2 := he a2 b2
  have q3 := he a3 b3
  clear he hp hs
  generalize (a0 == b0) = e0 at q0 ⊢
  generalize (a1 == b1) = e1 at q1 ⊢
  generalize (a2 == b2) = e2 at q2 ⊢
  generalize (a3 == b3) = e3 at q3 ⊢
  cases e0 <;> cases e1 <;> cases e2 <;> cases e3 <;> simp [pa0, pa1, pa2, pa3, pb0, pb1, pb2, pb3, q0, q1, q2, q3]
theorem rect_eq (a b c d : Int) (w : World) : (Op.equalIn 9999 47 (.agg #[.int .i64 a, .int .i64 b, .int .i64 c, .int .i64 d]) (.agg #[.int .i64 a, .int .i64 b, .int .i64 c, .int .i64 d])).run Try.prog w = .ok true w := by
  rw [run_rect_four 9997]
  simp
/- Lq4 -/
attribute [local go_sem] rect_eq
set_option maxRecDepth 20000 in
set_option maxHeartbeats 4000000 in
theorem lineBreaks_any (L : List Fo) (a b y : Int) (v0 v : Value) (zs : List (Int × Int)) (w : World) (h0 : IsFos w v0 L) (hL0 : L.length ≤ maxLen) (h : IsSl szC 2 w v zs) (hL : zs.length ≤ maxLen) : Calls Try.prog 10 #[v0, .int .i64 a, .int .i64 b, .int .i64 y, v] w fun e w' => e = .returned (.bool true) ∧ Below w.heap.size w w' := by
  have h1 := h
  obtain ⟨A, cap, rfl, hc, HA⟩ := h
  have HCAP := Lib.hid hc
  have HH := Lib.hid h1
  have HF := Lib.hid h0
  clear h1 hc h0
  by_cases hnr : near13 L a b y = true ∧ (L.length : Int) ≤ 20
  · have HBG := Lib.hid (begin13_yes v0 L a b y w HF.out hnr.1 hnr.2)
    have HNO := near13_of hnr.1
    have HL20 := hnr.2
    clear hnr
    go_enter Try.func10, Try.ntmps10
    go_wp2_with fail
    refine HBG.out.mono ?_
    rintro e w1 ⟨sp, rfl, hs1, hb1⟩
    have HS1 := Lib.hid hs1
    have HB1 := Lib.hid hb1
    clear hs1 hb1
    go_wp2_with fail
    refine (speaks13_any w1).mono ?_
    rintro e w2 ⟨rfl, hb2⟩
    have HS2 := Lib.hid (HS1.out.below hb2 (Nat.le_refl _))
    have HB2 := Lib.hid (HB1.out.trans (hb2.mono HB1.out.size))
    clear hb2
    by_cases h40 : (40 : Int) < zs.length
    · go_wp2_with fail
      refine (speaks13_any w2).mono ?_
      rintro e w3 ⟨rfl, hb3⟩
      have HB3 := Lib.hid (HB2.out.trans (hb3.mono HB2.out.size))
      clear hb3
      go_wp2_with fail
      go_ret
      exact ⟨rfl, HB3.out⟩
    have HR := Lib.hid (right13_any (.slice A zs.length cap) zs w2 (HH.out.below HB2.out (Nat.le_refl _)) hL)
    cases hrt : zs.all szB with
    | false =>
      rw [hrt] at HR
      go_wp2_with fail
      refine HR.out.mono ?_
      rintro e w3 ⟨rfl, rfl⟩
      go_wp2_with fail
      refine (speaks13_any w2).mono ?_
      rintro e w3 ⟨rfl, hb3⟩
      have HB3 := Lib.hid (HB2.out.trans (hb3.mono HB2.out.size))
      clear hb3
      go_wp2_with fail
      go_ret
      exact ⟨rfl, HB3.out⟩
    | true =>
      rw [hrt] at HR
      have HZ := Lib.hid (show ∀ z ∈ zs, szOk z from fun z hz => szB_ok (List.all_eq_true.1 hrt z hz))
      clear hrt
      go_wp2_with fail
      refine HR.out.mono ?_
      rintro e w3 ⟨rfl, rfl⟩
      go_wp2_with fail
      refine (of13_any (.slice A zs.length cap) zs w2 (HH.out.below HB2.out (Nat.le_refl _)) (by omega)).mono ?_
      rintro e w3 ⟨v3, rfl, ho3, hb3⟩
      have HV3 := Lib.hid (ho3.is szC_len (by decide))
      have HS3 := Lib.hid (HS2.out.below hb3 (Nat.le_refl _))
      have HB3 := Lib.hid (HB2.out.trans (hb3.mono HB2.out.size))
      clear ho3 hb3
      go_wp2_with fail
      have hno := HNO
      have HOK := Lib.hid (hno.ok (by omega))
      have HSM := Lib.hid hno.small
      have HTP := Lib.hid hno.tops
      refine (all_any13 L 140737488355328 a b y zs v3 w.heap.size sp w3 HS3.out HV3.out HZ.out (by omega) HOK.out HSM.out HTP.out (by decide) (by have := hno.ha; omega) (by have := hno.hb; omega) (by have := hno.hy; omega)).mono ?_
      rintro e w4 ⟨v4, rfl, ho4, hb4⟩
      obtain ⟨lines, hln⟩ : ∃ l, lnAll L a b y zs = l := ⟨_, rfl⟩
      rw [hln] at ho4
      have HB4 := Lib.hid (HB3.out.trans (hb4.mono HB3.out.size))
      have HS4 := Lib.hid (HS3.out.below hb4 (Nat.le_refl _))
      have hlm := ho4.max
      obtain ⟨A4, cap4, rfl, hc4, HA4⟩ := ho4.is lnqC_len (by decide)
      have HL0 : Hid (LgI L a b zs lines w4 0 0 y w4) := Lib.hid ⟨by rw [List.drop_zero, List.drop_zero, hln], Nat.zero_le _, by have := hno.hy; omega, Below.refl _ _⟩
      clear ho4 hb4 hc4 hno
      obtain ⟨A2, cap2, rfl, hc2, hA2⟩ := id HF.out
      have hcapv := HCAP.out
      have hra := rall_any13 L (.slice A2 L.length cap2) (.slice A zs.length cap) a b y 140737488355328 zs w4 (HF.out.below HB4.out (Nat.le_refl _)) hL0 HSM.out HOK.out.1 HTP.out (by decide) (HH.out.below HB4.out (Nat.le_refl _)) HZ.out (by omega) (by have := HNO.ha; omega) (by have := HNO.hb; omega) (by have := HNO.hy; omega)
      rw [allM_eq L a b y 0 zs (fun z hz => (HZ.out z hz).2.1), hln] at hra
      have HRA := Lib.hid hra
      clear hra hc2 hA2 HL0 hln
      go_wp2_with fail
      refine HRA.out.mono ?_
      rintro e w5 ⟨v5, rfl, hs5, hb5⟩
      obtain ⟨A5, cap5, rfl, hc5, HA5⟩ := hs5
      have HB5 := Lib.hid (HB4.out.trans (hb5.mono HB4.out.size))
      have HD5 := Lib.hid (show Below w4.heap.size w4 w5 from hb5)
      have hfl := floats_any L w.heap.size sp w5 (HS4.out.below hb5 (Nat.le_refl _)) (by omega)
      unfold FloatsPost at hfl
      have HFL := Lib.hid hfl
      clear hb5 hfl hc5
      go_wp2_with fail
      refine HFL.out.mono ?_
      rintro e w6 ⟨v6, rfl, hs6, hb6⟩
      obtain ⟨A6, cap6, rfl, hc6⟩ := (show OwnSl foC 5 105 w6 _ v6 L from hs6).form
      have HB6 := Lib.hid (HB5.out.trans (hb6.mono HB5.out.size))
      have HD6 := Lib.hid (HD5.out.trans (hb6.mono HD5.out.size))
      have HE6 := Lib.hid (show Below w5.heap.size w5 w6 from hb6)
      clear hs6 hb6 hc6 HRA HFL
      go_wp2_with fail
      go_loopw [68] (fun x wr => ∃ i : Nat, i ≤ lines.length ∧ x = .int .i64 i ∧ Hid (Below w6.heap.size w6 wr)) (fun x _ => lines.length - (intOf x).toNat)
      case atStart => exact ⟨0, by omega, rfl, Lib.hid (Below.refl _ _)⟩
      case round =>
        obtain ⟨i, hi, rfl, hI⟩ := hrel
        by_cases hlt : i < lines.length
        · obtain ⟨g4, o4, rfl, hg4, hs4⟩ := HA4.out (by omega)
          obtain ⟨g5, o5, rfl, hg5, hs5⟩ := HA5.out (by omega)
          have hcq : wr.rangeAt g4 (o4 + i * 6) (lnqC lines[i]) := fun j v hv => ((HD6.out.trans (hI.out.mono HD6.out.size)).cell (p := ⟨g4, o4 + i * 6 + j, none⟩) hg4).trans (hs4 i hlt j v hv)
          have hcr : ∀ w', Below wr.heap.size wr w' → w'.rangeAt g5 (o5 + i * 6) (lnqC lines[i]) := fun w' e j v hv => ((HE6.out.trans ((hI.out.trans (e.mono hI.out.size)).mono HE6.out.size)).cell (p := ⟨g5, o5 + i * 6 + j, none⟩) hg5).trans (hs5 i hlt j v hv)
          generalize lines[i] = q at *
          obtain ⟨ql, qt, qr, qb, qn, qd⟩ := q
          obtain ⟨u0, u1, u2, u3, u4, u5⟩ := lq_cells hcq
          simp only at u0 u1 u2 u3 u4 u5
          obtain ⟨wa, hwa⟩ : ∃ wa, wr.alloc (.cells #[.int .i64 ql, .int .i64 qt, .int .i64 qr, .int .i64 qb, .int .i64 qn, .int .i64 qd] 65) = wa := ⟨_, rfl⟩
          have hba : Below wr.heap.size wr wa := by rw [← hwa]; exact (Below.refl _ _).alloc (Nat.le_refl _) _
          obtain ⟨pq, hpq⟩ : ∃ p, wr.heap.size = p := ⟨_, rfl⟩
          have hga : wa.heap[pq]? = some (.cells #[.int .i64 ql, .int .i64 qt, .int .i64 qr, .int .i64 qb, .int .i64 qn, .int .i64 qd] 65 (0, 0)) := by rw [← hwa, ← hpq]; exact heap_alloc_new wr _
          have HK : Hid (∀ w', Below wa.heap.size wa w' → w'.cell? ⟨pq, 0, none⟩ = some (.int .i64 ql) ∧ w'.cell? ⟨pq, 1, none⟩ = some (.int .i64 qt) ∧ w'.cell? ⟨pq, 2, none⟩ = some (.int .i64 qr) ∧ w'.cell? ⟨pq, 3, none⟩ = some (.int .i64 qb) ∧ w'.cell? ⟨pq, 4, none⟩ = some (.int .i64 qn) ∧ w'.cell? ⟨pq, 5, none⟩ = some (.int .i64 qd) ∧ w'.cell? ⟨g5, o5 + i * 6, none⟩ = some (.int .i64 ql) ∧ w'.cell? ⟨g5, o5 + i * 6 + 1, none⟩ = some (.int .i64 qt) ∧ w'.cell? ⟨g5, o5 + i * 6 + 2, none⟩ = some (.int .i64 qr) ∧ w'.cell? ⟨g5, o5 + i * 6 + 3, none⟩ = some (.int .i64 qb) ∧ w'.cell? ⟨g5, o5 + i * 6 + 4, none⟩ = some (.int .i64 qn) ∧ w'.cell? ⟨g5, o5 + i * 6 + 5, none⟩ = some (.int .i64 qd)) := Lib.hid fun w' e => by
            obtain ⟨x0, x1, x2, x3, x4, x5⟩ := cells6 (blk_keep hga e)
            obtain ⟨y0, y1, y2, y3, y4, y5⟩ := lq_cells (hcr w' (hba.trans (e.mono hba.size)))
            exact ⟨x0, x1, x2, x3, x4, x5, y0, y1, y2, y3, y4, y5⟩
          have HWA := Lib.hid hwa
          have HBA := Lib.hid (hI.out.trans (hba.mono hI.out.size))
          have HPQ := Lib.hid hpq
          have ht13 := fun w' => to13_any ⟨ql, qt, qr, qb, qn, qd⟩ w'
          simp only [lnqC] at ht13
          have HT13 := Lib.hid ht13
          have hg4l : g4 < wr.heap.size := by have := HD6.out.size; have := hI.out.size; omega
          clear hcq hcr hs4 hs5 hwa hba hpq hga hI ht13
          go_wp2_with (first
            | ((with_reducible refine store_new (dst := none) 65 (.tmp 15) (.tmp 72) wr _ #[.int .i64 ql, .int .i64 qt, .int .i64 qr, .int .i64 qb, .int .i64 qn, .int .i64 qd] 65 rfl ?_ ?_ ?_ ?_ ?_ ?_); rfl; rfl; exact lineInfo; rfl; (simp [Value.oneCell'])))
          rw [HWA.out]
          (try rw [HPQ.out])
          (try simp only [Act.put, List.setIfInBounds_toArray, List.set_cons_zero, List.set_cons_succ])
          (refine wp_region_laid_l (by kernel_rfl) [] 6 (by kernel_rfl) (by kernel_rfl) ?_; (repeat (first | (refine wpLex_laid (by rfl) ?_) | (refine wpLex_no (by rfl) (by rfl) ?_; go_simp) | (refine wpLex_val (by rfl) (by rfl) _ (by intro wq hq; have hSw := HK.out wq hq; (try dsimp only at hSw); go_simp; rfl) ?_; go_simp) | (refine wpLex_call (by rfl) (by rfl) _ _ (by intro wq hq; have hSw := HK.out wq hq; (try dsimp only at hSw); go_simp; exact ⟨rfl, rfl⟩) _ (by intro wq hq; have hSw := HK.out wq hq; (try dsimp only at hSw); first | (go_at_call 49; exact (HT13.out wq))) ?_; go_simp))); refine wpLex_zero ?_)
          refine lend_tail fun w7 hb7 => ?_
          have HB7 := Lib.hid (HBA.out.trans (hb7.mono HBA.out.size))
          clear hb7 HK u0 u1 u2 u3 u4 u5
          go_wp2_with fail
          go_roundw
          case rel => exact ⟨i + 1, by omega, by go_num, HB7⟩
          case measure => simp [intOf]; omega
        · have hir : i = lines.length := by omega
          subst hir
          have HX := Lib.hid (HB6.out.trans (hI.out.mono HB6.out.size))
          clear hlt hi hI
          go_wp2_with fail
          go_ret
          exact ⟨rfl, HX.out⟩
  · have HBG := Lib.hid (begin13_no v0 L a b y w HF.out hL0 hnr)
    clear hnr
    go_enter Try.func10, Try.ntmps10
    go_wp2_with fail
    refine HBG.out.mono ?_
    rintro e w1 ⟨rfl, hb1⟩
    have HB1 := Lib.hid hb1
    clear hb1
    go_wp2_with fail
    refine (speaks13_any w1).mono ?_
    rintro e w2 ⟨rfl, hb2⟩
    have HB2 := Lib.hid (HB1.out.trans (hb2.mono HB1.out.size))
    clear hb2
    go_wp2_with fail
    refine (speaks13_any w2).mono ?_
    rintro e w3 ⟨rfl, hb3⟩
    have HB3 := Lib.hid (HB2.out.trans (hb3.mono HB2.out.size))
    clear hb3
    go_wp2_with fail
    go_ret
    exact ⟨rfl, HB3.out⟩
end Go.Proofs.Ytecojcdmigmnhaa
