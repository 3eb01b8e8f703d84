/- The contracts of shelf.New and (*shelf.List).Shelves. -/
import Derived.Test.YthinaifeifnefaaAd
import Derived.Maps.AppendAt
namespace Go.Proofs.Ythinaifeifnefaa
set_option linter.unusedSimpArgs false
set_option linter.unusedVariables false
open Go.RowKit
def NewPost (w : World) (e : Ending) (w' : World) : Prop := ∃ lp, e = .returned (.pointer (some ⟨lp, 0, none⟩)) ∧ ListIs w' w.heap.size lp (full []) ∧ Below w.heap.size w w'
set_option maxRecDepth 20000 in
theorem new_any (w : World) : Calls Try.prog 50 #[] w (NewPost w) := by
  go_enter Try.func50, Try.ntmps50
  go_wp2_with fail
  go_ret
  refine ⟨_, rfl, ⟨.slice (some ⟨w.heap.size, 0, none⟩) 1 1, ?_, by simp, ?_⟩, ((Below.refl _ _).alloc (Nat.le_refl _) _).alloc (by simp) _⟩
  · refine Eq.trans ?_ (heap_alloc_new (w.alloc (.cells #[.int .i64 (-4503599627370496), .int .i64 (-4503599627370496), .int .i64 4503599627370496] 32)) _)
    simp
  exact (World.ownsRow_lit w #[_, _, _] 1 (Nat.le_refl _) (by decide) rfl).alloc _
set_option maxRecDepth 20000 in
theorem shclone_any (v : Value) (F : List Sh) (w : World) (h : IsShs w v F) (hl : F.length ≤ 1000000000) (h0 : 0 < F.length) : Calls Try.prog 52 #[v] w fun e w' => ∃ v', e = .returned v' ∧ w'.ownsRow w.heap.size 32 3 v' F.length (flat shC F) ∧ Below w.heap.size w w' := by
  obtain ⟨A, cap, rfl, hc, hA⟩ := h
  obtain ⟨i0, hi, hz0, hz1, hz2⟩ := info_parts shInfo3
  obtain ⟨g, o, rfl, hg, hs⟩ := hA h0
  have hnil := fun w => Lib.run_eql_slice_nil (P := Try.prog) w 27 32 (some ⟨g, o, none⟩) F.length cap 0 0 Try.underlying27
  have hlen := flat_len shC_len F
  have hnews : ∀ j u, (flat shC F)[j]? = some u → (w.alloc (.cells #[] 32)).cell? ((⟨g, o, none⟩ : Addr).add j) = some u := by
    intro j u hu
    have hj : j < (flat shC F).length := (List.getElem?_eq_some_iff.1 hu).1
    rw [World.cell?_alloc_lt w _ _ (by rw [Addr.add_mid]; exact hg), Addr.add_mid]
    rw [hlen] at hj
    have e : j = j / 3 * 3 + j % 3 := by omega
    rw [e, flat_get shC_len F (j / 3) (j % 3) (by omega) (by omega)] at hu
    have := hs (j / 3) (by omega) (j % 3) u (by rw [shAt_eq F _ (by omega)]; exact hu)
    rw [show o + j = o + j / 3 * 3 + j % 3 by omega]
    exact this
  have h1 : ∀ u ∈ flat shC F, u.oneCell' = true := flat_one3 F
  have HN := Lib.hid hnews
  have H1 := Lib.hid h1
  clear hnews hA hs h1
  go_enter Try.func52, Try.ntmps52
  go_wp2_with (first
    | (at_builtin; refine wpList_append_own_at _ rfl (.tmp 5) (.tmp 6) 27 (by rfl) w.heap.size 32 i0 (.agg #[.int .i64 0, .int .i64 0, .int .i64 0]) 3 24 Try.underlying27 hi hz0 hz1 hz2 rfl (by decide) _ 0 [] (by rfl) (World.ownsRow_lit w #[] 0 (Nat.le_refl _) (by decide) rfl) ⟨g, o, none⟩ F.length cap (flat shC F) (by rfl) hlen HN.out H1.out (by unfold maxLen; omega) (by omega) (by simp) ?_; intro v2 w2 hI2 hg2 hn2 ha2; have HI2 := Lib.hid hI2; have HG2 := Lib.hid hg2; clear hI2 hg2 ha2 hn2))
  go_ret
  exact ⟨_, rfl, by have h := HI2.out; simpa using h, ((Below.refl w.heap.size w).alloc (Nat.le_refl _) _).grown HG2.out (by simp) (fun k hk => by simp [Value.ownBlock] at hk; omega)⟩
def ShelvesPost (F : List Sh) (w : World) (e : Ending) (w' : World) : Prop := ∃ v', e = .returned v' ∧ w'.ownsRow w.heap.size 32 3 v' F.length (flat shC F) ∧ Below w.heap.size w w'
set_option maxRecDepth 20000 in
theorem shelves_any (F : List Sh) (base lp : Nat) (w : World) (h : ListIs w base lp F) (hl : F.length ≤ 1000000000) (h0 : 0 < F.length) : Calls Try.prog 18 #[.pointer (some ⟨lp, 0, none⟩)] w (ShelvesPost F w) := by
  obtain ⟨v, q1, q2, q3⟩ := h
  have hv := isShs_of_own q3 rfl
  have hc : w.cell? ⟨lp, 0, none⟩ = some v := by rw [cell_of_row w lp 0 _ _ (0, 0) q1]; rfl
  have HV := Lib.hid hv
  obtain ⟨A, cap, rfl, _, _⟩ := hv
  clear q1 q3
  go_enter Try.func18, Try.ntmps18
  go_wp2_with fail
  refine (shclone_any _ F w HV.out hl h0).mono ?_
  rintro e w1 ⟨v1, rfl, ho, hb1⟩
  obtain ⟨g1, cap1, rfl, hc1, hg1, hl1⟩ := own_form ho h0 rfl
  have HO := Lib.hid ho
  have HB1 := Lib.hid hb1
  clear ho hb1
  go_wp2_with fail
  go_ret
  exact ⟨_, rfl, HO.out, HB1.out⟩
end Go.Proofs.Ythinaifeifnefaa
