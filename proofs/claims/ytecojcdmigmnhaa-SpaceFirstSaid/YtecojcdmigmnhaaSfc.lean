/- The law SpaceFirst: its two closures. -/
import Derived.Test.YtecojcdmigmnhaaSfp
import Derived.Test.YtecojcdmigmnhaaIi
import Derived.Test.YtecojcdmigmnhaaSps
import Derived.Test.YtecojcdmigmnhaaSpr
import Derived.Test.YtecojcdmigmnhaaRw2
namespace Go.Proofs.Ytecojcdmigmnhaa
set_option linter.unusedSimpArgs false
set_option linter.unusedVariables false
open Go.RowKit
set_option maxRecDepth 20000 in
set_option maxHeartbeats 2000000 in
theorem sof_any (L : List Fo) (v : Value) (wd ht y : Int) (b4 b7 b6 : Nat) (T4 T7 T6 : TypeId) (w : World) (hF : IsFos w v L) (hn : L.length ≤ maxLen) (hsm : ∀ f ∈ L, smallF f = true) (hw : 0 ≤ wd ∧ wd ≤ 255) (hh : 0 ≤ ht ∧ ht ≤ 255) (hy : -4503599627370496 ≤ y ∧ y ≤ 4503599627370496)
    (g4 : w.heap[b4]? = some (.cells #[v] T4 (0, 0))) (g7 : w.heap[b7]? = some (.cells #[.int .u8 ht] T7 (0, 0))) (g6 : w.heap[b6]? = some (.cells #[.int .u8 wd] T6 (0, 0))) :
    Calls Try.prog 19 #[.int .i64 y, .pointer (some ⟨b4, 0, none⟩), .pointer (some ⟨b7, 0, none⟩), .pointer (some ⟨b6, 0, none⟩)] w fun e w' => e = .returned (.bool (soF L (wd % 20) (ht % 12) y)) ∧ Below w.heap.size w w' := by
  obtain ⟨A, cap0, rfl, hx1, hx2⟩ := id hF
  clear hx1 hx2
  have hr1 : 0 ≤ ht % 12 ∧ ht % 12 ≤ 11 := by omega
  have hr2 : 0 ≤ wd % 20 ∧ wd % 20 ≤ 19 := by omega
  have hfr := fun w h => rfree_any L (.slice A L.length cap0) 0 20 y (ht % 12) w h hn (by omega) (by omega)
  have hed := bnds_edge hsm y (ht % 12)
  unfold TupPost at hfr
  unfold soF
  obtain ⟨⟨r1, r2⟩, hr⟩ : ∃ p, freeS L 0 20 y (ht % 12) = p := ⟨_, rfl⟩
  have hb : (-4503599627370496 ≤ r1 ∧ r1 ≤ 4503599627370496) ∧ (-4503599627370496 ≤ r2 ∧ r2 ≤ 4503599627370496) := by
    unfold freeS at hr
    injection hr with e1 e2
    unfold far at hed
    omega
  rw [hr] at hfr ⊢
  simp only at hfr ⊢
  have HFR := Lib.hid hfr
  have HF := Lib.hid hF
  have G6 := Lib.hid g6
  have c4 : w.cell? ⟨b4, 0, none⟩ = some (.slice A L.length cap0) := cell_of_row w b4 0 _ _ (0, 0) g4
  have c7 : w.cell? ⟨b7, 0, none⟩ = some (.int .u8 ht) := cell_of_row w b7 0 _ _ (0, 0) g7
  clear hfr hF g4 g7 g6 hr hed hn hsm
  go_enter Try.func19, Try.ntmps19
  go_wp2_with fail
  refine (HFR.out w HF.out).mono ?_
  rintro e w1 ⟨rfl, hb1⟩
  have c6 : w1.cell? ⟨b6, 0, none⟩ = some (.int .u8 wd) := cell_of_row w1 b6 0 _ _ (0, 0) (blk_keep G6.out hb1)
  have HB1 := Lib.hid hb1
  clear hb1 c4 c7
  go_wp2_with fail
  go_ret
  exact ⟨rfl, HB1.out⟩
theorem ints_slice {w : World} {base : Nat} {v : Value} {l : List Int} (h : Ints w base v l) : ∃ ad cv, v = Value.slice ad l.length cv := by
  rcases h.2 with ⟨rfl, h0⟩ | ⟨g, cap, cur, rfl, _⟩
  · exact ⟨none, 0, by rw [h0]⟩
  · exact ⟨_, cap, rfl⟩
/-- What holds while First asks. -/
def FsI (L : List Fo) (v : Value) (b4 b6 b7 b10 b11 : Nat) (W : World) (A : List Int) (w' : World) : Prop :=
  Below b11 W w' ∧ W.heap.size ≤ w'.heap.size ∧ ∃ av, w'.heap[b11]? = some (.cells #[av] 22 (0, 0)) ∧ Ints w' W.heap.size av A
theorem cf_ask : ∀ (a : Array Value) (w : World), Sem.run Try.prog (callFunc 22 a) w = .ok (.enter 22 a) w := fun a w => by kernel_rfl
set_option maxRecDepth 20000 in
set_option maxHeartbeats 2000000 in
theorem asked_any (L : List Fo) (v : Value) (wd ht y : Int) (b4 b7 b6 b10 b11 : Nat) (T4 T7 T6 T10 : TypeId) (W : World) (A : List Int) (w : World) (hF : ∀ w', Below b11 W w' → IsFos w' v L) (hn : L.length ≤ maxLen) (hsm : ∀ f ∈ L, smallF f = true) (hw : 0 ≤ wd ∧ wd ≤ 255) (hh : 0 ≤ ht ∧ ht ≤ 255) (hy : -4503599627370496 ≤ y ∧ y ≤ 4503599627370496)
    (g4 : W.heap[b4]? = some (.cells #[v] T4 (0, 0))) (g7 : W.heap[b7]? = some (.cells #[.int .u8 ht] T7 (0, 0))) (g6 : W.heap[b6]? = some (.cells #[.int .u8 wd] T6 (0, 0))) (g10 : W.heap[b10]? = some (.cells #[.func (.func 19) #[] #[.pointer (some ⟨b4, 0, none⟩), .pointer (some ⟨b7, 0, none⟩), .pointer (some ⟨b6, 0, none⟩)]] T10 (0, 0)))
    (h4 : b4 < b11) (h7 : b7 < b11) (h6 : b6 < b11) (h10 : b10 < b11) (h11 : b11 < W.heap.size) (hA : A.length ≤ 1000000) (hI : FsI L v b4 b6 b7 b10 b11 W A w) :
    Calls Try.prog 22 #[.int .i64 y, .pointer (some ⟨b11, 0, none⟩), .pointer (some ⟨b10, 0, none⟩)] w (SoPost (soF L (wd % 20) (ht % 12)) (FsI L v b4 b6 b7 b10 b11 W) A y) := by
  obtain ⟨hb, hsz, av, hv, hi⟩ := hI
  obtain ⟨ad, cv, rfl⟩ := ints_slice hi
  have hso := fun w hF g4 g7 g6 => sof_any L v wd ht y b4 b7 b6 T4 T7 T6 w hF hn hsm hw hh hy g4 g7 g6
  unfold SoPost
  obtain ⟨so, hs0⟩ : ∃ s, soF L (wd % 20) (ht % 12) y = s := ⟨_, rfl⟩
  rw [hs0] at hso ⊢
  have c11 : w.cell? ⟨b11, 0, none⟩ = some (.slice ad A.length cv) := cell_of_row w b11 0 _ _ (0, 0) hv
  have h10' := (hb.block b10 h10).trans g10
  have hne : b10 ≠ b11 := by omega
  have HSO := Lib.hid hso
  have HFF := Lib.hid hF
  have HBB := Lib.hid hb
  have HV := Lib.hid hv
  have HI := Lib.hid hi
  have G4 := Lib.hid g4
  have G6 := Lib.hid g6
  have G7 := Lib.hid g7
  have H10 := Lib.hid h10'
  have hwl : (w.alloc (.cells #[.int .i64 y] 3)).heap.size = w.heap.size + 1 := by simp
  clear hso hF hb hv hi g4 g6 g7 g10 h10' hs0 hsm
  go_enter Try.func22, Try.ntmps22
  go_wp2_with (at_builtin; refine app1 _ rfl (.tmp 5) (.tmp 7) rfl W.heap.size (.slice ad A.length cv) A rfl (HI.out.alloc _) w.heap.size 1 rfl y (cell_new rfl rfl) (by omega) (by omega) ?_; intro av2 w2 hI2 hg2 hn2; obtain ⟨ad2, cv2, rfl⟩ := ints_slice hI2; have HI2 := Lib.hid hI2; have HG2 := Lib.hid hg2; have hk11 := (hg2.block b11 (by omega) (fun e => by have := (HI.out.lt e.symm).1; omega)).trans ((Below.heap_alloc w _ b11 (by omega)).trans HV.out); have c11' : w2.cell? ⟨b11, 0, none⟩ = some (.slice ad A.length cv) := cell_of_row w2 b11 0 _ _ (0, 0) hk11; have f11' := frozen_of_row w2 b11 0 _ _ hk11; have hk10 := (hg2.block b10 (by omega) (fun e => by have := (HI.out.lt e.symm).1; omega)).trans ((Below.heap_alloc w _ b10 (by omega)).trans H10.out); have c10' : w2.cell? ⟨b10, 0, none⟩ = some (.func (.func 19) #[] #[.pointer (some ⟨b4, 0, none⟩), .pointer (some ⟨b7, 0, none⟩), .pointer (some ⟨b6, 0, none⟩)]) := cell_of_row w2 b10 0 _ _ (0, 0) hk10; have HK11 := Lib.hid hk11; clear hI2 hg2 hn2 hk11 hk10 c11)
  have hlen : (A ++ [y]).length = A.length + 1 := by simp
  have hi2 := HI2.out
  have hwz : w.heap.size + 1 ≤ w2.heap.size := by have := HG2.out.size; omega
  have hbw2 : Below b11 W w2 := (HBB.out.trans (((Below.refl b11 w).alloc (by omega) (.cells #[.int .i64 y] 3)))).grown HG2.out (by omega) (fun k hk => by have := (HI.out.lt hk).1; omega)
  have hob : (Value.slice ad2 (A.length + 1) cv2).ownBlock ≠ some b11 := fun e => by
    have h := (hi2.lt (by rw [hlen]; exact e)).1
    omega
  obtain ⟨W3, hW3⟩ : ∃ W, w2.setCell ⟨b11, 0, none⟩ (.slice ad2 (A.length + 1) cv2) = W := ⟨_, rfl⟩
  have hb3 : Below b11 W W3 := by rw [← hW3]; exact Below.setCell hbw2 (Nat.le_refl _) _
  have hv3 : W3.heap[b11]? = some (.cells #[.slice ad2 (A.length + 1) cv2] 22 (0, 0)) := by rw [← hW3]; exact heap_setCell_same w2 b11 0 _ _ _ HK11.out
  have hs3 : W3.heap.size = w2.heap.size := by rw [← hW3]; simp
  have hg3 : w2.grownBy W3 (some b11) := by rw [← hW3]; exact grown_setCells b11 [.slice ad2 (A.length + 1) cv2] 0 w2
  have hi3 : Ints W3 W.heap.size (.slice ad2 (A.length + 1) cv2) (A ++ [y]) := by
    have h := Ints.kept hi2 hg3 (.inr (by rw [hlen]; exact hob))
    rw [hlen] at h
    exact h
  rw [hW3]
  have hcall := HSO.out W3 (HFF.out _ hb3) ((hb3.block b4 h4).trans G4.out) ((hb3.block b7 h7).trans G7.out) ((hb3.block b6 h6).trans G6.out)
  have HC := Lib.hid hcall
  have HB3 := Lib.hid hb3
  have HV3 := Lib.hid hv3
  have HI3 := Lib.hid hi3
  clear hcall hb3 hv3 hi3 hi2 hbw2 hob hg3 hW3 c11' f11' c10' HG2 HI2
  refine HC.out.mono ?_
  rintro e w4 ⟨rfl, hb4⟩
  have HF4 : Hid (FsI L v b4 b6 b7 b10 b11 W (A ++ [y]) w4) := ⟨HB3.out.trans (hb4.mono (by omega)), by have := hb4.size; omega, _, blk_keep HV3.out hb4, HI3.out.below hb4⟩
  clear hb4
  go_wp2_with fail
  go_ret
  exact ⟨rfl, HF4.out⟩
end Go.Proofs.Ytecojcdmigmnhaa
