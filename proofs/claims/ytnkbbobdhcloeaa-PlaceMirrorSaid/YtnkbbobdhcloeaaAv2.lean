/- Avoid: Near, Right, begin, the document's At. -/
import Derived.Test.YtnkbbobdhcloeaaSpl
import Derived.Test.YtnkbbobdhcloeaaSpg
import Derived.Test.YtnkbbobdhcloeaaWt9
namespace Go.Proofs.Ytnkbbobdhcloeaa
set_option linter.unusedSimpArgs false
set_option linter.unusedVariables false
open Go.RowKit
def foX (f : Fo) : Nat → Int := at4 f.x0 f.y0 f.x1 f.y1
theorem fo_nth {w : World} {g o : Nat} {f : Fo} (h : w.rangeAt g o (foC f)) (k : Nat) (hk : k < 4) : w.cell? ⟨g, o + 1 + k, none⟩ = some (.int .i64 (foX f k)) := by
  match k, hk with
  | 0, _ => exact h 1 _ rfl
  | 1, _ => exact h 2 _ rfl
  | 2, _ => exact h 3 _ rfl
  | 3, _ => exact h 4 _ rfl
theorem nr_cases (c : Int) : (decide (562949953421312 < c) = true ∧ nr49 c = false) ∨ (decide (562949953421312 < c) = false ∧ decide (c < -562949953421312) = true ∧ nr49 c = false) ∨ (decide (562949953421312 < c) = false ∧ decide (c < -562949953421312) = false ∧ nr49 c = true) := by
  unfold nr49
  by_cases h1 : 562949953421312 < c
  · left; exact ⟨decide_eq_true h1, decide_eq_false (by omega)⟩
  · right
    by_cases h2 : c < -562949953421312
    · left; exact ⟨decide_eq_false h1, decide_eq_true h2, decide_eq_false (by omega)⟩
    · right; exact ⟨decide_eq_false h1, decide_eq_false h2, decide_eq_true (by omega)⟩
theorem near_not {f : Fo} {k : Nat} (h : nr49 (foX f k) = false) : nearF f = false := by
  unfold nearF
  match k, h with
  | 0, h => simp only [foX, at4] at h; simp [h]
  | 1, h => simp only [foX, at4] at h; simp [h]
  | 2, h => simp only [foX, at4] at h; simp [h]
  | _ + 3, h => simp only [foX, at4] at h; simp [h]
theorem near_yes {f : Fo} (h : ∀ k, k < 4 → nr49 (foX f k) = true) (hs : f.s = 1 ∨ f.s = 2) : nearF f = true := by
  have h0 := h 0 (by omega)
  have h1 := h 1 (by omega)
  have h2 := h 2 (by omega)
  have h3 := h 3 (by omega)
  simp only [foX, at4] at h0 h1 h2 h3
  unfold nearF
  rw [h0, h1, h2, h3, decide_eq_true hs]
  rfl
theorem near_false {L : List Fo} {i : Nat} (hi : i < L.length) (h : nearF (foAt L i) = false) : nearB L = false := by
  unfold nearB
  rw [List.all_eq_false]
  exact ⟨L[i], List.getElem_mem hi, by rw [← foAt_eq L i hi, h]; simp⟩
theorem side_cases (s : Int) : ((s != 1) = false ∧ (s = 1 ∨ s = 2)) ∨ ((s != 1) = true ∧ (s != 2) = false ∧ (s = 1 ∨ s = 2)) ∨ ((s != 1) = true ∧ (s != 2) = true ∧ ¬ (s = 1 ∨ s = 2)) := by
  by_cases h1 : s = 1
  · left; exact ⟨by simp [h1], .inl h1⟩
  · right
    by_cases h2 : s = 2
    · left; exact ⟨by simp [h1], by simp [h2], .inr h2⟩
    · right; exact ⟨by simp [h1], by simp [h2], by omega⟩
set_option maxRecDepth 20000 in
set_option maxHeartbeats 4000000 in
theorem near_any (v : Value) (L : List Fo) (w : World) (h : IsFos w v L) (hL : L.length ≤ maxLen) : Calls Try.prog 39 #[v] w fun e w' => e = .returned (.bool (nearB L)) ∧ w = w' := by
  obtain ⟨A, cap, rfl, hc, hA⟩ := id h
  have HA := Lib.hid hA
  obtain ⟨res, hres⟩ : ∃ r, nearB L = r := ⟨_, rfl⟩
  rw [hres]
  have HR := Lib.hid hres
  unfold maxLen at hL
  clear hres hA hc h
  go_enter Try.func39, Try.ntmps39
  go_wp2_with fail
  go_loop [3] (fun x => ∃ i : Nat, i ≤ L.length ∧ x = .int .i64 i ∧ Hid (∀ j, j < i → nearF (foAt L j) = true)) (fun x => L.length - (intOf x).toNat)
  case atStart => exact ⟨0, by omega, rfl, Lib.hid (fun j hj => by omega)⟩
  case round =>
    obtain ⟨i, hi, rfl, hI⟩ := hrel
    by_cases hlt : i < L.length
    · obtain ⟨g, o, rfl, hg, hs⟩ := HA.out (by omega)
      have HS := Lib.hid (hs i hlt)
      have c0 : w.cell? ⟨g, o + i * 5, none⟩ = some (.int .i64 (foAt L i).s) := hs i hlt 0 _ rfl
      have HN := Lib.hid (fun h => near_false (L := L) hlt h)
      clear hs
      go_wp2_with fail
      go_loop [4] (fun x => ∃ k : Nat, k ≤ 4 ∧ x = .int .i64 k ∧ Hid (∀ j, j < k → nr49 (foX (foAt L i) j) = true)) (fun x => 4 - (intOf x).toNat)
      case atStart => exact ⟨0, by omega, rfl, Lib.hid (fun j hj => by omega)⟩
      case round =>
        obtain ⟨k, hk, rfl, hK⟩ := hrel
        by_cases hk4 : k < 4
        · have hb1 : (0 : Int) ≤ (k : Int) := by omega
          have hb2 : (k : Int) < 4 := by omega
          have c1 := fo_nth HS.out k hk4
          have hnc := nr_cases (foX (foAt L i) k)
          have HNK := Lib.hid (fun h => HN.out (near_not (k := k) h))
          have HST := Lib.hid (fun (h : nr49 (foX (foAt L i) k) = true) j (hj : j < k + 1) => show nr49 (foX (foAt L i) j) = true from by
            by_cases e : j = k
            · rw [e]; exact h
            · exact hK.out j (by omega))
          clear c0
          generalize foX (foAt L i) k = c at *
          rcases hnc with ⟨d1, hn⟩ | ⟨d1, d2, hn⟩ | ⟨d1, d2, hn⟩
          · have hr := HNK.out hn
            rw [HR.out] at hr
            subst hr
            clear hn HST HNK
            go_wp2_with fail
            go_ret
            exact ⟨rfl, rfl⟩
          · have hr := HNK.out hn
            rw [HR.out] at hr
            subst hr
            clear hn HST HNK
            go_wp2_with fail
            go_ret
            exact ⟨rfl, rfl⟩
          · have HK := Lib.hid (HST.out hn)
            clear hn HST HNK
            go_wp2_with fail
            go_round
            case rel => exact ⟨k + 1, by omega, by go_num, HK⟩
            case measure => simp [intOf]; omega
        · have hk4' : k = 4 := by omega
          subst hk4'
          have hsc := side_cases (foAt L i).s
          have HNS : Hid (¬ ((foAt L i).s = 1 ∨ (foAt L i).s = 2) → nearB L = false) := fun h => HN.out (by unfold nearF; rw [decide_eq_false h]; simp)
          have HYS : Hid (((foAt L i).s = 1 ∨ (foAt L i).s = 2) → ∀ j, j < i + 1 → nearF (foAt L j) = true) := fun h j hj => by
            by_cases e : j = i
            · rw [e]; exact near_yes (fun k hk => hK.out k hk) h
            · exact hI.out j (by omega)
          clear hK hI HN HS
          generalize (foAt L i).s = fs at *
          rcases hsc with ⟨d1, hn⟩ | ⟨d1, d2, hn⟩ | ⟨d1, d2, hn⟩
          · have HY := Lib.hid (HYS.out hn)
            clear hn HYS HNS
            go_wp2_with fail
            go_round
            case rel => exact ⟨i + 1, by omega, by go_num, HY⟩
            case measure => simp [intOf]; omega
          · have HY := Lib.hid (HYS.out hn)
            clear hn HYS HNS
            go_wp2_with fail
            go_round
            case rel => exact ⟨i + 1, by omega, by go_num, HY⟩
            case measure => simp [intOf]; omega
          · have hr := HNS.out hn
            rw [HR.out] at hr
            subst hr
            clear hn HYS HNS
            go_wp2_with fail
            go_ret
            exact ⟨rfl, rfl⟩
    · have hir : i = L.length := by omega
      have hr : nearB L = true := by
        unfold nearB
        rw [List.all_eq_true]
        intro f hf
        obtain ⟨j, hj, rfl⟩ := List.mem_iff_getElem.1 hf
        rw [← foAt_eq L j hj]
        exact hI.out j (by omega)
      rw [HR.out] at hr
      subst hir
      subst hr
      clear hlt hi hI HR
      go_wp2_with fail
      go_ret
      exact ⟨rfl, rfl⟩
def BegPost12 (L : List Fo) (m : Int) (w : World) (e : Ending) (w' : World) : Prop :=
  if nearB L = true ∧ (L.length : Int) ≤ m then BegSpPost L w e w' else e = .returned (.pointer none) ∧ Below w.heap.size w w'
set_option maxRecDepth 20000 in
theorem begin12_no (v : Value) (L : List Fo) (m : Int) (w : World) (h : IsFos w v L) (hL : L.length ≤ maxLen) (hn : ¬ (nearB L = true ∧ (L.length : Int) ≤ m)) : Calls Try.prog 15 #[v, .int .i64 m] w fun e w' => e = .returned (.pointer none) ∧ Below w.heap.size w w' := by
  obtain ⟨A, cap, rfl, hc, hA⟩ := id h
  have hna := fun w h => near_any (.slice A L.length cap) L w h hL
  have hcs : nearB L = false ∨ (nearB L = true ∧ decide (m < (L.length : Int)) = true) := by
    cases hq : nearB L with
    | false => exact .inl rfl
    | true => exact .inr ⟨rfl, decide_eq_true (Int.not_le.1 fun h => hn ⟨hq, h⟩)⟩
  have HH := Lib.hid h
  clear h hA hn
  rcases hcs with k | ⟨k, d⟩
  all_goals
    rw [k] at hna
    have HNA := Lib.hid hna
    clear hna k
    go_enter Try.func15, Try.ntmps15
    go_wp2_with (go_at_call 39; (with_reducible refine (HNA.out _ HH.out).mono ?_); rintro e w' ⟨rfl, rfl⟩)
    go_ret
    exact ⟨rfl, Below.refl _ _⟩
set_option maxRecDepth 20000 in
theorem begin12_yes (v : Value) (L : List Fo) (m : Int) (w : World) (h : IsFos w v L) (hL : L.length ≤ 100000) (hn : nearB L = true) (hm : (L.length : Int) ≤ m) : Calls Try.prog 15 #[v, .int .i64 m] w (BegSpPost L w) := by
  obtain ⟨A, cap, rfl, hc, hA⟩ := id h
  have hna := fun w h => near_any (.slice A L.length cap) L w h (by unfold maxLen; omega)
  have hbg := fun w h => begin10_any (.slice A L.length cap) L w h hL (fun f hf => near_small (nearB_at hn f hf)) (fun f hf => (nearF_at (nearB_at hn f hf)).2.2.2.2)
  rw [hn] at hna
  have d : decide (m < (L.length : Int)) = false := decide_eq_false (by omega)
  unfold BegSpPost at hbg ⊢
  have HNA := Lib.hid hna
  have HBG := Lib.hid hbg
  have HH := Lib.hid h
  clear hna hbg h hA hn
  go_enter Try.func15, Try.ntmps15
  go_wp2_with (first
    | (go_at_call 39; (with_reducible refine (HNA.out _ HH.out).mono ?_); rintro e w' ⟨rfl, rfl⟩)
    | (go_at_call 40; (with_reducible refine (HBG.out _ HH.out).mono ?_); rintro e w1 ⟨sp, rfl, hs1, hb1⟩; have HS1 := Lib.hid hs1; have HB1 := Lib.hid hb1; clear hs1 hb1))
  go_ret
  exact ⟨sp, rfl, HS1.out, HB1.out⟩
def at5 (a b c d e : Int) : Nat → Int
  | 0 => a
  | 1 => b
  | 2 => c
  | 3 => d
  | _ => e
theorem at5_row (a b c d e : Int) (k : Nat) (h : k < 5) : (#[Value.int .i64 a, .int .i64 b, .int .i64 c, .int .i64 d, .int .i64 e] : Array Value)[k]? = some (.int .i64 (at5 a b c d e k)) := by
  match k, h with
  | 0, _ => rfl
  | 1, _ => rfl
  | 2, _ => rfl
  | 3, _ => rfl
  | 4, _ => rfl
theorem in48_cases (n : Int) : (decide (281474976710656 < n) = true ∧ ¬ in48 n) ∨ (decide (281474976710656 < n) = false ∧ decide (n < -281474976710656) = true ∧ ¬ in48 n) ∨ (decide (281474976710656 < n) = false ∧ decide (n < -281474976710656) = false ∧ in48 n) := by
  unfold in48
  by_cases h1 : 281474976710656 < n
  · left; exact ⟨decide_eq_true h1, by omega⟩
  · right
    by_cases h2 : n < -281474976710656
    · left; exact ⟨decide_eq_false h1, decide_eq_true h2, by omega⟩
    · right; exact ⟨decide_eq_false h1, decide_eq_false h2, by omega, by omega⟩
theorem okWa_not {q : Wa} {k : Nat} (h : ¬ in48 (at5 q.a q.b q.wd q.h q.y k)) : okWa q = false := by
  unfold okWa
  refine decide_eq_false fun ⟨⟨h0, h1, h2, h3, h4⟩, _⟩ => h ?_
  match k with
  | 0 => exact h0
  | 1 => exact h1
  | 2 => exact h2
  | 3 => exact h3
  | _ + 4 => exact h4
set_option maxRecDepth 20000 in
set_option maxHeartbeats 4000000 in
theorem right12_any (q : Wa) (w : World) : Calls Try.prog 17 #[.agg #[.int .i64 q.a, .int .i64 q.b, .int .i64 q.wd, .int .i64 q.h, .int .i64 q.y]] w fun e w' => e = .returned (.bool (okWa q)) ∧ Below w.heap.size w w' := by
  obtain ⟨res, hres⟩ : ∃ r, okWa q = r := ⟨_, rfl⟩
  rw [hres]
  have HR := Lib.hid hres
  have hno : ∀ k, ¬ in48 (at5 q.a q.b q.wd q.h q.y k) → res = false := fun k h => by rw [← hres]; exact okWa_not h
  have hend : (∀ j, j < 5 → in48 (at5 q.a q.b q.wd q.h q.y j)) → res = decide (0 ≤ q.wd) := fun h => by
    rw [← hres]
    have h0 := h 0 (by omega)
    have h1 := h 1 (by omega)
    have h2 := h 2 (by omega)
    have h3 := h 3 (by omega)
    have h4 := h 4 (by omega)
    simp only [at5] at h0 h1 h2 h3 h4
    unfold okWa
    simp [h0, h1, h2, h3, h4]
  have HNO := Lib.hid hno
  have HEN := Lib.hid hend
  clear hres hno hend
  obtain ⟨qa, qb, qw, qh, qy⟩ := q
  simp only at HNO HEN ⊢
  go_enter Try.func17, Try.ntmps17
  go_wp2_with fail
  obtain ⟨W2, hW2⟩ : ∃ W, (w.alloc (.cells #[.int .i64 qa, .int .i64 qb, .int .i64 qw, .int .i64 qh, .int .i64 qy] 24)).alloc (.cells #[.int .i64 qa, .int .i64 qb, .int .i64 qw, .int .i64 qh, .int .i64 qy] 3) = W := ⟨_, rfl⟩
  obtain ⟨b0, hb0⟩ : ∃ b, w.heap.size = b := ⟨_, rfl⟩
  have r1 : W2.heap[b0]? = some (.cells #[.int .i64 qa, .int .i64 qb, .int .i64 qw, .int .i64 qh, .int .i64 qy] 24 (0, 0)) := by rw [← hW2, ← hb0, heap_alloc_old _ _ (by simp), heap_alloc_new]
  have r2 : W2.heap[b0 + 1]? = some (.cells #[.int .i64 qa, .int .i64 qb, .int .i64 qw, .int .i64 qh, .int .i64 qy] 3 (0, 0)) := by rw [← hW2, ← hb0]; exact heap_alloc2_new w _ _
  have hB2 : Below w.heap.size w W2 := by rw [← hW2]; exact ((Below.refl _ _).alloc (Nat.le_refl _) _).alloc (by simp) _
  have HB2 := Lib.hid hB2
  have R1 := Lib.hid r1
  have R2 := Lib.hid r2
  have c2 : W2.cell? ⟨b0, 2, none⟩ = some (.int .i64 qw) := cell_of_row W2 b0 2 _ _ (0, 0) r1
  rw [hW2, hb0]
  clear hW2 hb0 hB2 r1 r2
  go_loop [17] (fun x => ∃ k : Nat, k ≤ 5 ∧ x = .int .i64 k ∧ Hid (∀ j, j < k → in48 (at5 qa qb qw qh qy j))) (fun x => 5 - (intOf x).toNat)
  case atStart => exact ⟨0, by omega, rfl, Lib.hid (fun j hj => by omega)⟩
  case round =>
    obtain ⟨k, hk, rfl, hI⟩ := hrel
    by_cases hlt : k < 5
    · have c0 : W2.cell? ⟨b0 + 1, k, none⟩ = some (.int .i64 (at5 qa qb qw qh qy k)) := (cell_of_row W2 (b0 + 1) k _ _ (0, 0) R2.out).trans (at5_row qa qb qw qh qy k hlt)
      have hc := in48_cases (at5 qa qb qw qh qy k)
      have HNK := Lib.hid (HNO.out k)
      have HST := Lib.hid (fun (h : in48 (at5 qa qb qw qh qy k)) j (hj : j < k + 1) => show in48 (at5 qa qb qw qh qy j) from by
        by_cases e : j = k
        · rw [e]; exact h
        · exact hI.out j (by omega))
      clear hI
      generalize at5 qa qb qw qh qy k = c at *
      rcases hc with ⟨d1, hn⟩ | ⟨d1, d2, hn⟩ | ⟨d1, d2, hn⟩
      · have hr := HNK.out hn
        subst hr
        clear hn HST HNK
        go_wp2_with fail
        go_ret
        exact ⟨rfl, HB2.out⟩
      · have hr := HNK.out hn
        subst hr
        clear hn HST HNK
        go_wp2_with fail
        go_ret
        exact ⟨rfl, HB2.out⟩
      · have HK := Lib.hid (HST.out hn)
        clear hn HST HNK
        go_wp2_with fail
        go_round
        case rel => exact ⟨k + 1, by omega, by go_num, HK⟩
        case measure => simp [intOf]; omega
    · have hk5 : k = 5 := by omega
      subst hk5
      have hr := HEN.out hI.out
      subst hr
      clear hI HNO HEN HR hlt hk
      go_wp2_with fail
      go_ret
      exact ⟨rfl, HB2.out⟩
end Go.Proofs.Ytnkbbobdhcloeaa
