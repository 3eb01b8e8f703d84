/- Spaces: New, Floats, Bounds, Free. -/
import Derived.Test.YtecojcdmigmnhaaSpt
namespace Go.Proofs.Ytecojcdmigmnhaa
set_option linter.unusedSimpArgs false
set_option linter.unusedVariables false
open Go.RowKit
def NewSpPost (w : World) (e : Ending) (w' : World) : Prop := ∃ sp, e = .returned (.pointer (some ⟨sp, 0, none⟩)) ∧ SpaceIs w' w.heap.size sp [] ∧ Below w.heap.size w w'
set_option maxRecDepth 20000 in
theorem spnew_any (w : World) : Calls Try.prog 24 #[] w (NewSpPost w) := by
  go_enter Try.func24, Try.ntmps24
  go_wp2_with fail
  refine (new_any w).mono ?_
  rintro e w1 ⟨lp, rfl, hl1, hb1⟩
  have HL1 := Lib.hid hl1
  have HB1 := Lib.hid hb1
  clear hl1 hb1
  go_wp2_with fail
  go_ret
  refine ⟨w1.heap.size, rfl, ⟨lp, .slice none 0 0, heap_alloc_new w1 _, HB1.out.size, HL1.out.below ((Below.refl _ _).alloc (Nat.le_refl _) _) (Nat.le_refl _), rfl, .inl ⟨rfl, rfl⟩⟩, HB1.out.alloc HB1.out.size _⟩
def FloatsPost (L : List Fo) (w : World) (e : Ending) (w' : World) : Prop := ∃ v', e = .returned v' ∧ w'.ownsRow w.heap.size 105 5 v' L.length (flat foC L) ∧ Below w.heap.size w w'
theorem flat_one5 (L : List Fo) : ∀ u ∈ flat foC L, u.oneCell' = true := fun u hu => by
  unfold flat at hu
  simp only [List.mem_flatten, List.mem_map] at hu
  obtain ⟨l, ⟨f, _, rfl⟩, hu⟩ := hu
  exact foC_one f u hu
set_option maxRecDepth 20000 in
theorem spclone_any (v : Value) (L : List Fo) (base : Nat) (w : World) (h : w.ownsRow base 105 5 v L.length (flat foC L)) (hl : L.length ≤ 1000000000) : Calls Try.prog 77 #[v] w (FloatsPost L w) := by
  obtain ⟨i0, hi, hz0, hz1, hz2⟩ := info_parts spfInfo3
  rcases h.2 with ⟨rfl, h0⟩ | ⟨g, cap, cur, rfl, hg, hh, hc, hcm, hcs, hct⟩
  · have hL : L = [] := List.eq_nil_of_length_eq_zero h0
    subst hL
    clear h h0
    have hnil := fun w => Lib.run_eql_slice_nil (P := Try.prog) w 93 105 none 0 0 0 0 Try.underlying93
    go_enter Try.func77, Try.ntmps77
    go_wp2_with fail
    go_ret
    exact ⟨_, rfl, ⟨rfl, .inl ⟨rfl, rfl⟩⟩, Below.refl _ _⟩
  · have hnil := fun w => Lib.run_eql_slice_nil (P := Try.prog) w 93 105 (some ⟨g, 0, none⟩) L.length cap 0 0 Try.underlying93
    have hlen := flat_len foC_len L
    have hgl := (Array.getElem?_eq_some_iff.1 hh).1
    have hnews : ∀ j u, (flat foC L)[j]? = some u → (w.alloc (.cells #[] 105)).cell? ((⟨g, 0, none⟩ : Addr).add j) = some u := by
      intro j u hu
      have hj : j < (flat foC L).length := (List.getElem?_eq_some_iff.1 hu).1
      rw [World.cell?_alloc_lt w _ _ (by rw [Addr.add_mid]; exact hgl), Addr.add_mid, Nat.zero_add, cell_of_row w g j _ _ (0, 0) hh]
      rw [← hct, List.getElem?_take] at hu
      rw [hlen] at hj
      rw [if_pos hj] at hu
      simpa using hu
    have HN := Lib.hid hnews
    have H1 := Lib.hid (flat_one5 L)
    have HCT := Lib.hid hct
    clear hnews h hh hct hcs
    go_enter Try.func77, Try.ntmps77
    go_wp2_with (first
      | (at_builtin; refine wpList_append_own_at _ rfl (.tmp 5) (.tmp 6) 93 (by rfl) w.heap.size 105 i0 (.agg #[.int .i64 0, .int .i64 0, .int .i64 0, .int .i64 0, .int .i64 0]) 5 40 Try.underlying93 hi hz0 hz1 hz2 rfl (by decide) _ 0 [] (by rfl) (World.ownsRow_lit w #[] 0 (Nat.le_refl _) (by decide) rfl) ⟨g, 0, none⟩ L.length cap (flat foC L) (by rfl) hlen HN.out H1.out (by unfold maxLen; omega) (by omega) (by simp) ?_; intro v2 w2 hI2 hg2 hn2 ha2; have HI2 := Lib.hid hI2; have HG2 := Lib.hid hg2; clear hI2 hg2 ha2 hn2))
    go_ret
    exact ⟨_, rfl, by have h := HI2.out; simpa using h, ((Below.refl w.heap.size w).alloc (Nat.le_refl _) _).grown HG2.out (by simp) (fun k hk => by simp [Value.ownBlock] at hk; omega)⟩
set_option maxRecDepth 20000 in
theorem floats_any (L : List Fo) (base sp : Nat) (w : World) (h : SpaceIs w base sp L) (hl : L.length ≤ 1000000000) : Calls Try.prog 47 #[.pointer (some ⟨sp, 0, none⟩)] w (FloatsPost L w) := by
  obtain ⟨lp, v, q1, q2, q3, q4⟩ := h
  have c1 : w.cell? ⟨sp, 1, none⟩ = some v := cell_of_row w sp 1 _ _ (0, 0) q1
  have Q4 := Lib.hid q4
  clear q1 q3 q4
  go_enter Try.func47, Try.ntmps47
  go_wp2_with fail
  refine (spclone_any v L base w Q4.out hl).mono ?_
  rintro e w1 ⟨v1, rfl, ho, hb1⟩
  have HO := Lib.hid ho
  have HB1 := Lib.hid hb1
  clear ho hb1
  go_wp2_with fail
  go_ret
  exact ⟨_, rfl, HO.out, HB1.out⟩
end Go.Proofs.Ytecojcdmigmnhaa
