/- Shelves in memory; looking for one. -/
import Derived.Test.YtecojcdmigmnhaaProg
import Derived.Test.YtecojcdmigmnhaaGn
import Derived.Test.YtecojcdmigmnhaaSn
import Derived.IntWalk
namespace Go.Proofs.Ytecojcdmigmnhaa
set_option linter.unusedSimpArgs false
set_option linter.unusedVariables false
open Go.RowKit
def shC (s : Sh) : List Value := [.int .i64 s.t, .int .i64 s.l, .int .i64 s.r]
theorem shC_len (s : Sh) : (shC s).length = 3 := rfl
theorem shC_one (s : Sh) : ∀ u ∈ shC s, u.oneCell' = true := by simp [shC, Value.oneCell']
theorem shInfo : (Try.prog.info? 162).map (·.size) = some 3 := by kernel_rfl
theorem shInfo3 : (Try.prog.info? 162).map (fun i => (i.zero, i.size, i.bytes)) = some (some (.agg #[.int .i64 0, .int .i64 0, .int .i64 0]), 3, 24) := by kernel_rfl
/-- Shelves lie in a block, from a cell on. -/
def Shs (w : World) (B off : Nat) (F : List Sh) : Prop := ∀ k, k < F.length → w.rangeAt B (off + k * 3) (shC (shAt F k))
theorem Shs.below {w w' : World} {B off n : Nat} {F : List Sh} (h : Shs w B off F) (hb : Below n w w') (hB : B < n) : Shs w' B off F :=
  fun k hk j v hv => (hb.cell (p := ⟨B, _, none⟩) hB).trans (h k hk j v hv)
theorem Shs.cell0 {w : World} {B off : Nat} {F : List Sh} (h : Shs w B off F) {k : Nat} (hk : k < F.length) : w.cell? ⟨B, off + k * 3, none⟩ = some (.int .i64 (shAt F k).t) := h k hk 0 _ rfl
theorem Shs.cells {w : World} {B off : Nat} {F : List Sh} (h : Shs w B off F) {k : Nat} (hk : k < F.length) :
    w.cell? ⟨B, off + k * 3, none⟩ = some (.int .i64 (shAt F k).t) ∧ w.cell? ⟨B, off + k * 3 + 1, none⟩ = some (.int .i64 (shAt F k).l) ∧ w.cell? ⟨B, off + k * 3 + 2, none⟩ = some (.int .i64 (shAt F k).r) :=
  ⟨h k hk 0 _ rfl, h k hk 1 _ rfl, h k hk 2 _ rfl⟩
/-- A slice reads as these shelves. -/
def IsShs (w : World) (v : Value) (F : List Sh) : Prop := ∃ (A : Option Addr) (cap : Nat), v = .slice A F.length cap ∧ F.length ≤ cap ∧ (0 < F.length → ∃ g o, A = some ⟨g, o, none⟩ ∧ g < w.heap.size ∧ Shs w g o F)
theorem IsShs.below {w w' : World} {v : Value} {F : List Sh} {n : Nat} (h : IsShs w v F) (hb : Below n w w') (hn : w.heap.size ≤ n) : IsShs w' v F := by
  obtain ⟨A, cap, rfl, hc, h⟩ := h
  refine ⟨A, cap, rfl, hc, fun hp => ?_⟩
  obtain ⟨g, o, rfl, hg, hB⟩ := h hp
  exact ⟨g, o, rfl, by have := hb.size; omega, hB.below hb (by omega)⟩
theorem shs_of_own {w : World} {base g cap : Nat} {e : TypeId} {F : List Sh} (h : w.ownsRow base e 3 (.slice (some ⟨g, 0, none⟩) F.length cap) F.length (flat shC F)) : Shs w g 0 F := by
  intro k hk j v hv
  have hj : j < 3 := by have := (List.getElem?_eq_some_iff.1 hv).1; simpa [shC] using this
  rw [Nat.zero_add, h.cellAt _ (by omega), flat_get shC_len F k j hk hj, ← shAt_eq F k hk]
  exact hv
theorem isShs_of_own {w : World} {base n : Nat} {e : TypeId} {v : Value} {F : List Sh} (h : w.ownsRow base e 3 v n (flat shC F)) (hn : n = F.length) : IsShs w v F := by
  subst hn
  rcases h.2 with ⟨rfl, h0⟩ | ⟨g, cap, cur, rfl, hg, hh, hc, _⟩
  · exact ⟨none, 0, by rw [h0], by omega, fun hp => by omega⟩
  · exact ⟨_, cap, rfl, hc, fun _ => ⟨g, 0, rfl, (Array.getElem?_eq_some_iff.1 hh).1, shs_of_own h⟩⟩
/-- A list of shelves behind a pointer, of the call's own. -/
def ListIs (w : World) (base lp : Nat) (F : List Sh) : Prop := ∃ v, w.heap[lp]? = some (.cells #[v] 164 (0, 0)) ∧ base ≤ lp ∧ w.ownsRow base 162 3 v F.length (flat shC F)
theorem ListIs.below {w w' : World} {base lp n : Nat} {F : List Sh} (h : ListIs w base lp F) (hb : Below n w w') (hn : w.heap.size ≤ n) : ListIs w' base lp F := by
  obtain ⟨v, h1, h2, h3⟩ := h
  exact ⟨v, (hb.block lp (by have := (Array.getElem?_eq_some_iff.1 h1).1; omega)).trans h1, h2, own_below h3 (hb.mono hn)⟩
theorem ListIs.mono {w : World} {base base' lp : Nat} {F : List Sh} (h : ListIs w base lp F) (hb : base' ≤ base) : ListIs w base' lp F := by
  obtain ⟨v, h1, h2, h3⟩ := h
  exact ⟨v, h1, by omega, own_mono h3 hb⟩
theorem ListIs.lt {w : World} {base lp : Nat} {F : List Sh} (h : ListIs w base lp F) : lp < w.heap.size := by
  obtain ⟨v, h1, h2, h3⟩ := h
  exact (Array.getElem?_eq_some_iff.1 h1).1
def cmpI (a b : Int) : Int := if a < b then -1 else if b < a then 1 else 0
theorem nan_any (a : Int) (w : World) : Calls Try.prog 113 #[.int .i64 a] w fun e w' => e = .returned (.bool false) ∧ w = w' := by
  go_enter Try.func113, Try.ntmps113
  go_wp2
  go_ret
  exact ⟨rfl, rfl⟩
theorem compare_any (a b : Int) (w : World) : Calls Try.prog 91 #[.int .i64 a, .int .i64 b] w fun e w' => e = .returned (.int .i64 (cmpI a b)) ∧ w = w' := by
  have hd : (decide (a < b) = true ∧ cmpI a b = -1) ∨ (decide (a < b) = false ∧ decide (b < a) = true ∧ cmpI a b = 1) ∨ (decide (a < b) = false ∧ decide (b < a) = false ∧ cmpI a b = 0) := by
    unfold cmpI
    by_cases h1 : a < b
    · left; simp [h1]
    · by_cases h2 : b < a
      · right; left; simp [h1, h2]
      · right; right; simp [h1, h2]
  rcases hd with ⟨h1, h2⟩ | ⟨h1, h3, h2⟩ | ⟨h1, h3, h2⟩
  all_goals
    rw [h2]
    clear h2
    go_enter Try.func91, Try.ntmps91
    go_wp2_with (go_at_call 113; refine (nan_any _ _).mono ?_; rintro e w' ⟨rfl, rfl⟩)
    go_ret
    exact ⟨rfl, rfl⟩
theorem findc_any (s : Sh) (y : Int) (w : World) : Calls Try.prog 116 #[.agg #[.int .i64 s.t, .int .i64 s.l, .int .i64 s.r], .int .i64 y] w fun e w' => e = .returned (.int .i64 (cmpI s.t y)) ∧ Below w.heap.size w w' := by
  go_enter Try.func116, Try.ntmps116
  go_wp2_with (go_at_call 91; refine (compare_any _ _ _).mono ?_; rintro e w' ⟨rfl, rfl⟩)
  go_ret
  exact ⟨rfl, (Below.refl _ _).alloc (Nat.le_refl _) _⟩
theorem afterc_any (s : Sh) (y : Int) (w : World) : Calls Try.prog 90 #[.agg #[.int .i64 s.t, .int .i64 s.l, .int .i64 s.r], .int .i64 y] w fun e w' => e = .returned (.int .i64 (cmpI s.t y)) ∧ Below w.heap.size w w' := by
  go_enter Try.func90, Try.ntmps90
  go_wp2_with (go_at_call 91; refine (compare_any _ _ _).mono ?_; rintro e w' ⟨rfl, rfl⟩)
  go_ret
  exact ⟨rfl, (Below.refl _ _).alloc (Nat.le_refl _) _⟩
/-- Looking for a row among shelves that go down. -/
def foundB (F : List Sh) (y : Int) : Bool := decide (above F y < F.length ∧ (shAt F (above F y)).t = y)
theorem cmp_above (F : List Sh) (y : Int) (hs : Asc F) (h : Nat) (hh : h < F.length) : decide (cmpI (shAt F h).t y < 0) = decide (h < above F y) := by
  have h1 := above_iff F y hs h hh
  rw [shAt_eq F h hh]
  unfold cmpI
  by_cases c : F[h].t < y
  · rw [if_pos c]
    simp [h1.2 c]
  · rw [if_neg c]
    have : ¬ h < above F y := fun hh => c (h1.1 hh)
    split <;> simp [this]
theorem cmp_eq (F : List Sh) (y : Int) (hs : Asc F) : above F y < F.length → (cmpI (shAt F (above F y)).t y == 0) = foundB F y := by
  intro hh
  have h1 := above_iff F y hs (above F y) hh
  have h2 := shAt_eq F (above F y) hh
  unfold foundB cmpI
  rw [Bool.eq_iff_iff]
  have h3 : ¬ (shAt F (above F y)).t < y := fun c => by rw [h2] at c; have := h1.2 c; omega
  rw [if_neg h3]
  split
  · simp; omega
  · simp; omega
set_option maxHeartbeats 2000000 in
theorem bsearch_find (F : List Sh) (y : Int) (v : Value) (w : World) (hv : IsShs w v F) (hs : Asc F) (hL : F.length ≤ 1000000000) (h0 : 0 < F.length) :
    Calls Try.prog 89 #[v, .int .i64 y, .func (.func 116) #[] #[]] w fun e w' => e = .returned (.tuple #[.int .i64 (above F y), .bool (foundB F y)]) ∧ Below w.heap.size w w' := by
  obtain ⟨A, cap, rfl, hc, hA⟩ := hv
  obtain ⟨g, o, rfl, hg, hS⟩ := hA h0
  have HS := Lib.hid hS
  have HA := Lib.hid hs
  have hle := above_le F y
  clear hA hS hs
  go_enter Try.func89, Try.ntmps89
  go_wp2
  go_loopw [9, 10] (fun x z wr => ∃ i j : Nat, i ≤ above F y ∧ above F y ≤ j ∧ j ≤ F.length ∧ x = .int .i64 i ∧ z = .int .i64 j ∧ Hid (Below w.heap.size w wr)) (fun x z _ => (intOf z).toNat - (intOf x).toNat)
  case atStart => exact ⟨0, F.length, by omega, hle, by omega, rfl, rfl, Below.refl _ _⟩
  case round =>
    obtain ⟨i, j, hi, hj, hjn, rfl, rfl, hW⟩ := hrel
    by_cases hlt : i < j
    · obtain ⟨h, hh⟩ : ∃ h, (i + j) / 2 = h := ⟨_, rfl⟩
      have hr := (HS.out.below hW.out hg) h (by omega)
      have HR := Lib.hid hr
      have hcm := cmp_above F y HA.out h (by omega)
      have hhi : ((i : Int) + (j : Int)) / 2 = (h : Int) := by omega
      have hi2 : i ≤ h := by omega
      have hj2 : h < j := by omega
      clear hr
      by_cases hA : h < above F y
      · rw [decide_eq_true hA] at hcm
        go_wp2_with (first
          | ((with_reducible refine load_mid (dst := some 28) 162 (.tmp 27) g (o + h * 3) (shC (shAt F h)) _ ?_ HR.out Try.underlying162 ?_ ?_ ?_); rfl; rfl; exact shInfo; simp only [Act.put, List.setIfInBounds_toArray, List.set_cons_zero, List.set_cons_succ])
          | (go_at_call 116; refine (findc_any (shAt F h) y _).mono ?_; rintro e w1 ⟨rfl, hb1⟩; have HB1 := Lib.hid (Below.onto hb1 hW.out); clear hb1))
        go_roundw
        case rel => exact ⟨h + 1, j, by omega, by omega, by omega, by go_num, rfl, HB1⟩
        case measure => simp [intOf]; omega
      · rw [decide_eq_false hA] at hcm
        go_wp2_with (first
          | ((with_reducible refine load_mid (dst := some 28) 162 (.tmp 27) g (o + h * 3) (shC (shAt F h)) _ ?_ HR.out Try.underlying162 ?_ ?_ ?_); rfl; rfl; exact shInfo; simp only [Act.put, List.setIfInBounds_toArray, List.set_cons_zero, List.set_cons_succ])
          | (go_at_call 116; refine (findc_any (shAt F h) y _).mono ?_; rintro e w1 ⟨rfl, hb1⟩; have HB1 := Lib.hid (Below.onto hb1 hW.out); clear hb1))
        go_roundw
        case rel => exact ⟨i, h, by omega, by omega, by omega, rfl, by go_num, HB1⟩
        case measure => simp [intOf]; omega
    · have e1 : i = above F y := by omega
      subst e1
      by_cases hin : above F y < F.length
      · obtain ⟨c0, c1, c2⟩ := (HS.out.below hW.out hg).cells hin
        have hcm := cmp_eq F y HA.out hin
        go_wp2_with (go_at_call 116; refine (findc_any (shAt F (above F y)) y _).mono ?_; rintro e w1 ⟨rfl, hb1⟩; have HB1 := Lib.hid (Below.onto hb1 hW.out); clear hb1)
        go_ret2
        exact ⟨rfl, HB1.out⟩
      · have hf : foundB F y = false := by unfold foundB; exact decide_eq_false (fun hh => hin hh.1)
        go_wp2_with fail
        go_ret2
        exact ⟨by rw [hf]; rfl, hW.out⟩
set_option maxHeartbeats 2000000 in
theorem bsearch_after (F : List Sh) (y : Int) (v : Value) (w : World) (hv : IsShs w v F) (hs : Asc F) (hL : F.length ≤ 1000000000) (h0 : 0 < F.length) :
    Calls Try.prog 89 #[v, .int .i64 y, .func (.func 90) #[] #[]] w fun e w' => e = .returned (.tuple #[.int .i64 (above F y), .bool (foundB F y)]) ∧ Below w.heap.size w w' := by
  obtain ⟨A, cap, rfl, hc, hA⟩ := hv
  obtain ⟨g, o, rfl, hg, hS⟩ := hA h0
  have HS := Lib.hid hS
  have HA := Lib.hid hs
  have hle := above_le F y
  clear hA hS hs
  go_enter Try.func89, Try.ntmps89
  go_wp2
  go_loopw [9, 10] (fun x z wr => ∃ i j : Nat, i ≤ above F y ∧ above F y ≤ j ∧ j ≤ F.length ∧ x = .int .i64 i ∧ z = .int .i64 j ∧ Hid (Below w.heap.size w wr)) (fun x z _ => (intOf z).toNat - (intOf x).toNat)
  case atStart => exact ⟨0, F.length, by omega, hle, by omega, rfl, rfl, Below.refl _ _⟩
  case round =>
    obtain ⟨i, j, hi, hj, hjn, rfl, rfl, hW⟩ := hrel
    by_cases hlt : i < j
    · obtain ⟨h, hh⟩ : ∃ h, (i + j) / 2 = h := ⟨_, rfl⟩
      have hr := (HS.out.below hW.out hg) h (by omega)
      have HR := Lib.hid hr
      have hcm := cmp_above F y HA.out h (by omega)
      have hhi : ((i : Int) + (j : Int)) / 2 = (h : Int) := by omega
      have hi2 : i ≤ h := by omega
      have hj2 : h < j := by omega
      clear hr
      by_cases hA : h < above F y
      · rw [decide_eq_true hA] at hcm
        go_wp2_with (first
          | ((with_reducible refine load_mid (dst := some 28) 162 (.tmp 27) g (o + h * 3) (shC (shAt F h)) _ ?_ HR.out Try.underlying162 ?_ ?_ ?_); rfl; rfl; exact shInfo; simp only [Act.put, List.setIfInBounds_toArray, List.set_cons_zero, List.set_cons_succ])
          | (go_at_call 90; refine (afterc_any (shAt F h) y _).mono ?_; rintro e w1 ⟨rfl, hb1⟩; have HB1 := Lib.hid (Below.onto hb1 hW.out); clear hb1))
        go_roundw
        case rel => exact ⟨h + 1, j, by omega, by omega, by omega, by go_num, rfl, HB1⟩
        case measure => simp [intOf]; omega
      · rw [decide_eq_false hA] at hcm
        go_wp2_with (first
          | ((with_reducible refine load_mid (dst := some 28) 162 (.tmp 27) g (o + h * 3) (shC (shAt F h)) _ ?_ HR.out Try.underlying162 ?_ ?_ ?_); rfl; rfl; exact shInfo; simp only [Act.put, List.setIfInBounds_toArray, List.set_cons_zero, List.set_cons_succ])
          | (go_at_call 90; refine (afterc_any (shAt F h) y _).mono ?_; rintro e w1 ⟨rfl, hb1⟩; have HB1 := Lib.hid (Below.onto hb1 hW.out); clear hb1))
        go_roundw
        case rel => exact ⟨i, h, by omega, by omega, by omega, rfl, by go_num, HB1⟩
        case measure => simp [intOf]; omega
    · have e1 : i = above F y := by omega
      subst e1
      by_cases hin : above F y < F.length
      · obtain ⟨c0, c1, c2⟩ := (HS.out.below hW.out hg).cells hin
        have hcm := cmp_eq F y HA.out hin
        go_wp2_with (go_at_call 90; refine (afterc_any (shAt F (above F y)) y _).mono ?_; rintro e w1 ⟨rfl, hb1⟩; have HB1 := Lib.hid (Below.onto hb1 hW.out); clear hb1)
        go_ret2
        exact ⟨rfl, HB1.out⟩
      · have hf : foundB F y = false := by unfold foundB; exact decide_eq_false (fun hh => hin hh.1)
        go_wp2_with fail
        go_ret2
        exact ⟨by rw [hf]; rfl, hW.out⟩
theorem found_at {F : List Sh} {y : Int} : findS F y = if foundB F y = true then above F y else above F y - 1 := by
  unfold findS foundB
  simp
theorem below_at {F : List Sh} {y : Int} : below F y = if foundB F y = true then above F y + 1 else above F y := by
  unfold below foundB
  simp
set_option maxRecDepth 20000 in
theorem find_any (F : List Sh) (y : Int) (lp base : Nat) (w : World) (h : ListIs w base lp F) (hs : Asc F) (hL : F.length ≤ 1000000000) (h0 : 0 < F.length) :
    Calls Try.prog 96 #[.pointer (some ⟨lp, 0, none⟩), .int .i64 y] w fun e w' => e = .returned (.int .i64 (findS F y)) ∧ Below w.heap.size w w' := by
  obtain ⟨v, h1, h2, h3⟩ := h
  have hv := isShs_of_own h3 rfl
  have hc : w.cell? ⟨lp, 0, none⟩ = some v := by rw [cell_of_row w lp 0 _ _ (0, 0) h1]; rfl
  have HV := Lib.hid hv
  have HS := Lib.hid hs
  have hle := above_le F y
  obtain ⟨A, cap, rfl, _, _⟩ := hv
  have hf := found_at (F := F) (y := y)
  clear h1 h3 hs
  cases hb : foundB F y with
  | true =>
    rw [hb, if_pos rfl] at hf
    rw [hf]
    clear hf
    go_enter Try.func96, Try.ntmps96
    go_wp2_with (go_at_call 89; refine (bsearch_find F y _ _ HV.out HS.out hL h0).mono ?_; rintro e w1 ⟨rfl, hb1⟩; have HB1 := Lib.hid hb1; clear hb1)
    go_ret
    exact ⟨by simp, HB1.out⟩
  | false =>
    rw [hb, if_neg (by simp)] at hf
    rw [hf]
    clear hf
    by_cases hz : above F y = 0
    · rw [hz]
      go_enter Try.func96, Try.ntmps96
      go_wp2_with (go_at_call 89; refine (bsearch_find F y _ _ HV.out HS.out hL h0).mono ?_; rw [hz]; rintro e w1 ⟨rfl, hb1⟩; have HB1 := Lib.hid hb1; clear hb1)
      go_ret
      exact ⟨by simp, HB1.out⟩
    · obtain ⟨k, hk⟩ : ∃ k, above F y = k + 1 := ⟨above F y - 1, by omega⟩
      rw [hk] at hle ⊢
      go_enter Try.func96, Try.ntmps96
      go_wp2_with (go_at_call 89; refine (bsearch_find F y _ _ HV.out HS.out hL h0).mono ?_; rw [hk]; rintro e w1 ⟨rfl, hb1⟩; have HB1 := Lib.hid hb1; clear hb1)
      go_ret
      trace_state
      exact ⟨by simp, HB1.out⟩
end Go.Proofs.Ytecojcdmigmnhaa
