/- The document's answer's Shelves. -/
import Derived.Test.YtecojcdmigmnhaaNx
import Derived.Maps.AppendAt
namespace Go.Proofs.Ytecojcdmigmnhaa
set_option linter.unusedSimpArgs false
set_option linter.unusedVariables false
open Go.RowKit
theorem rshInfo : (Try.prog.info? 43).map (·.size) = some 3 := by kernel_rfl
theorem rshInfo3 : (Try.prog.info? 43).map (fun i => (i.zero, i.size, i.bytes)) = some (some (.agg #[.int .i64 0, .int .i64 0, .int .i64 0]), 3, 24) := by kernel_rfl
theorem lastP_at (S : List Sh) : lastP S = ((shAt (full S) S.length).l, (shAt (full S) S.length).r) := by
  unfold lastP
  rw [List.getLast?_eq_getElem?]
  cases S with
  | nil => rfl
  | cons s S =>
    rw [List.getElem?_eq_getElem (by simp)]
    have e : shAt (full (s :: S)) (s :: S).length = (s :: S)[(s :: S).length - 1] := by
      rw [shAt_eq _ _ (by simp [full])]
      simp only [full, List.length_cons, Nat.add_sub_cancel]
      rw [List.getElem_cons_succ]
    rw [e]
theorem left_le (L : List Fo) (y : Int) : left_ L y ≤ 2 * L.length := by
  unfold left_
  refine Nat.le_trans List.countP_le_length ?_
  unfold edges
  induction L with
  | nil => simp
  | cons f L ih => simp only [List.flatMap_cons, List.length_append, List.length_cons, List.length_nil] at *; omega
def lf (L : List Fo) (e : Int) (ok : Bool) : Nat := if ok = true then left_ L e + 1 else 0
structure UInv (L : List Fo) (w : World) (S : List Sh) (e : Int) (ok : Bool) (v : Value) (wr : World) : Prop where
  ref : RefInv L S e ok
  len : S.length + lf L e ok ≤ 2 * L.length + 1
  row : wr.ownsRow w.heap.size 43 3 v (full S).length (flat shC (full S))
  bel : Below w.heap.size w wr
theorem lf_next {L : List Fo} {y e : Int} {ok : Bool} (h : IsNext L y e ok) : lf L e ok ≤ left_ L y := by
  unfold lf
  cases ok with
  | false => simp
  | true =>
    have := h.1 rfl
    have := left_lt this.2.1 this.1
    rw [if_pos rfl]
    omega
def RsPost (L : List Fo) (w : World) (e : Ending) (w' : World) : Prop := ∃ v', e = .returned v' ∧ w'.ownsRow w.heap.size 43 3 v' (full (shelves L)).length (flat shC (full (shelves L))) ∧ Below w.heap.size w w'
theorem last_cases (a b c d : Int) : ((a != c) = false ∧ (b != d) = false ∧ (a, b) = (c, d)) ∨ ((a != c) = true ∧ ¬ (a, b) = (c, d)) ∨ ((a != c) = false ∧ (b != d) = true ∧ ¬ (a, b) = (c, d)) := by
  by_cases h1 : a = c
  · by_cases h2 : b = d
    · left; simp [h1, h2]
    · right; right; simp [h1, h2]
  · right; left; simp [h1]
set_option maxRecDepth 20000 in
set_option maxHeartbeats 8000000 in
theorem rshelves_any (L : List Fo) (v : Value) (w : World) (h : IsFos w v L) (hn : L.length ≤ 1000000) (hlow : Lowish L) : Calls Try.prog 23 #[v] w (RsPost L w) := by
  obtain ⟨i0, hi0, hz0, hz1, hz2⟩ := info_parts rshInfo3
  obtain ⟨A, cap0, rfl, hx1, hx2⟩ := id h
  clear hx1 hx2
  have hnx := fun y w h => next_any L (.slice A L.length cap0) y w h (by unfold maxLen; omega)
  have hbd := fun y w h => bounds_any L (.slice A L.length cap0) y w h (by unfold maxLen; omega)
  unfold NxPost at hnx
  unfold BdsPost at hbd
  have HNX := Lib.hid hnx
  have HBD := Lib.hid hbd
  have HH := Lib.hid h
  have HLOW := Lib.hid hlow
  clear hnx hbd h hlow
  go_enter Try.func23, Try.ntmps23
  go_wp2_with fail
  refine (HNX.out _ _ (HH.out.below ((Below.refl _ _).alloc (Nat.le_refl _) _) (Nat.le_refl _))).mono ?_
  rintro e w1 ⟨rfl, hb1⟩
  have hNx := nxs_is L (-far)
  have hI0 : UInv L w [] (nxs L (-far)).1 (nxs L (-far)).2 (.slice (some ⟨w.heap.size, 0, none⟩) 1 1) w1 :=
    ⟨RefInv.start hNx HLOW.out, by have := lf_next hNx; have := left_le L (-far); simp; omega, own_below (World.ownsRow_lit w #[.int .i64 (-far), .int .i64 (-far), .int .i64 far] 1 (Nat.le_refl _) (by decide) rfl) hb1, Below.onto hb1 ((Below.refl _ _).alloc (Nat.le_refl _) _)⟩
  have HI0 := Lib.hid hI0
  clear hI0 hNx hb1
  simp only [far] at HI0
  generalize nxs L (-4503599627370496) = s0 at *
  go_wp2_with fail
  go_loopw [3, 4, 5] (fun x y k wr => ∃ (S : List Sh) (e : Int) (ok : Bool), y = .int .i64 e ∧ k = .bool ok ∧ Hid (UInv L w S e ok x wr)) (fun _ y k _ => lf L (intOf y) (isB k true))
  case atStart => exact ⟨[], s0.1, s0.2, rfl, rfl, HI0⟩
  case round =>
    obtain ⟨S, e, ok, rfl, rfl, hI⟩ := hrel
    obtain ⟨g, cap, rfl, hcp, hg, hgl⟩ := own_form hI.out.row (by simp [full]) rfl
    cases ok with
    | false =>
      have hS := is_unique hI.out.ref.done (shelves_is L HLOW.out) (fun _ _ => rfl)
      have hrow := hI.out.row
      rw [hS] at hrow
      have HROW := Lib.hid hrow
      have HB := Lib.hid hI.out.bel
      have hlen : (full S).length = (full (shelves L)).length := by rw [hS]
      rw [hlen]
      clear hS hrow hI hcp hlen
      go_wp2_with fail
      go_ret
      exact ⟨_, rfl, HROW.out, HB.out⟩
    | true =>
      have hlen := hI.out.len
      have hfl : (full S).length = S.length + 1 := rfl
      have hHr := Lib.hid (HH.out.below hI.out.bel (Nat.le_refl _))
      have hbz := hI.out.bel.size
      have hrow := hI.out.row
      have hla := lastP_at S
      obtain ⟨n, hn1⟩ : ∃ n, (full S).length = n := ⟨_, rfl⟩
      rw [hn1] at hcp hfl hrow ⊢
      obtain ⟨m, hm⟩ : ∃ m, S.length = m := ⟨_, rfl⟩
      rw [hm] at hla hfl hlen
      have hw : IntKind.i64.wrap ((n : Int) - 1) = (m : Int) := by rw [IntKind.wrap_i64]; omega
      have hmn : m < n := by omega
      have HFL := Lib.hid hfl
      have hnb : n ≤ 3000000 := by omega
      have HN1 := Lib.hid hn1
      have hrd : ∀ w', Below wr.heap.size wr w' → Shs w' g 0 (full S) := fun w' hB => shs_of_own (by rw [hn1]; exact own_below hrow hB)
      have HRD := Lib.hid hrd
      have HROW := Lib.hid hrow
      have hq := HBD.out e wr hHr.out
      obtain ⟨q, hqe⟩ : ∃ q, bnd L e = q := ⟨_, rfl⟩
      rw [hqe] at hq
      have hst := fun y' ok' hn => hI.out.ref.step (y' := y') (ok' := ok') hn
      rw [hqe, hla] at hst
      have HST := Lib.hid hst
      have HQ := Lib.hid hq
      have HM := Lib.hid hm
      have hNx := nxs_is L e
      have hlf := lf_next hNx
      unfold lf at hlen
      rw [if_pos rfl] at hlen
      have HNXT := Lib.hid hNx
      have HNE := Lib.hid (fun w h => HNX.out e w h)
      have hms : isB (Value.bool true) true = true := rfl
      generalize nxs L e = s2 at *
      have HLEN := Lib.hid hlen
      have HLF := Lib.hid hlf
      have HBW := Lib.hid hI.out.bel
      clear hrow hrd hq hst hla hn1 hm hNx hqe hfl hlen hlf hI
      go_wp2_with fail
      refine HQ.out.mono ?_
      rintro e5 w5 ⟨rfl, hb5⟩
      obtain ⟨z0, z1, z2⟩ := (HRD.out w5 hb5).cells (k := m) (by rw [HN1.out]; exact hmn)
      simp only [Nat.zero_add] at z0 z1 z2
      have HB5 := Lib.hid hb5
      have hgl5 : g < w5.heap.size := by have := hb5.size; omega
      clear hb5
      generalize (shAt (full S) m).t = lt at *
      generalize (shAt (full S) m).l = ll at *
      generalize (shAt (full S) m).r = lr at *
      rcases last_cases q.1 q.2 ll lr with ⟨k1, k2, k3⟩ | k
      · have hst2 := HST.out s2.1 s2.2 HNXT.out
        rw [if_pos k3] at hst2
        have HST2 := Lib.hid hst2
        clear hst2 k3
        go_wp2_with (first
          | ((with_reducible refine store_new (dst := none) 43 (.tmp 8) (.tmp 28) w5 _ #[.int .i64 lt, .int .i64 ll, .int .i64 lr] 43 rfl ?_ ?_ ?_ ?_ ?_ ?_); rfl; rfl; exact rshInfo; rfl; (simp [Value.oneCell'])))
        have hwa := HB5.out.alloc HB5.out.size (.cells #[.int .i64 lt, .int .i64 ll, .int .i64 lr] 43)
        refine (HNE.out _ (hHr.out.below hwa (Nat.le_refl _))).mono ?_
        rintro e6 w6 ⟨rfl, hb6⟩
        have hw6 := hwa.trans (hb6.mono hwa.size)
        have hU : UInv L w S s2.1 s2.2 (.slice (some ⟨g, 0, none⟩) n cap) w6 := ⟨HST2.out, by have := HLEN.out; have := HLF.out; have := HM.out; omega, by rw [HN1.out]; exact own_below HROW.out hw6, Below.onto hw6 HBW.out⟩
        have HU := Lib.hid hU
        have hme : lf L s2.1 s2.2 < left_ L e + 1 := by have := HLF.out; omega
        clear hU hw6 hb6 hwa
        go_wp2_with fail
        go_roundw
        case rel => exact ⟨S, s2.1, s2.2, rfl, rfl, HU⟩
        case measure =>
          rw [isB_t]
          exact hme
      · have k3 : ¬ (q.1, q.2) = (ll, lr) := by rcases k with k | k; exact k.2; exact k.2.2
        have hst2 := HST.out s2.1 s2.2 HNXT.out
        rw [if_neg k3] at hst2
        have HST2 := Lib.hid hst2
        have hk : (q.1 != ll) = true ∨ ((q.1 != ll) = false ∧ (q.2 != lr) = true) := by rcases k with k | k; exact .inl k.1; exact .inr ⟨k.1, k.2.1⟩
        have hwa := HB5.out.alloc HB5.out.size (.cells #[.int .i64 lt, .int .i64 ll, .int .i64 lr] 43)
        have hwb := hwa.alloc hwa.size (.cells #[.int .i64 e, .int .i64 q.1, .int .i64 q.2] 43)
        have hown := own_below HROW.out hwb
        have hnews := range_new (w5.alloc (.cells #[.int .i64 lt, .int .i64 ll, .int .i64 lr] 43)) [.int .i64 e, .int .i64 q.1, .int .i64 q.2] 43
        have HOWN := Lib.hid hown
        have HWB := Lib.hid hwb
        have HNEW := Lib.hid hnews
        clear hst2 k3 k hwa hwb hown hnews
        rcases hk with k | ⟨k, k'⟩
        all_goals
          go_wp2_with (first
            | ((with_reducible refine store_new (dst := none) 43 (.tmp 8) (.tmp 28) w5 _ #[.int .i64 lt, .int .i64 ll, .int .i64 lr] 43 rfl ?_ ?_ ?_ ?_ ?_ ?_); rfl; rfl; exact rshInfo; rfl; (simp [Value.oneCell']))
            | (at_builtin; refine wpList_append_own_at _ rfl (.tmp 39) (.tmp 44) 40 (by rfl) w.heap.size 43 i0 (.agg #[.int .i64 0, .int .i64 0, .int .i64 0]) 3 24 Try.underlying40 hi0 hz0 hz1 hz2 rfl (by decide) _ n (flat shC (full S)) (by rfl) HOWN.out ⟨w5.heap.size + 1, 0, none⟩ 1 1 [.int .i64 e, .int .i64 q.1, .int .i64 q.2] (by rfl) rfl (fun j u hu => by have h := HNEW.out j u hu; simpa [Addr.add_mid] using h) (by simp [Value.oneCell']) (by unfold maxLen; omega) (by omega) (by have := HBW.out.size; have := HWB.out.size; simp at this; simp; omega) ?_; intro v2 w2 hI2 hg2 hn2 ha2; have HI2 := Lib.hid hI2; have HG2 := Lib.hid hg2; clear hI2 hg2 ha2 hn2))
          have hb2 : Below w.heap.size w w2 := (Below.onto HWB.out HBW.out).grown HG2.out (by have := HBW.out.size; have := HWB.out.size; simp at this; simp; omega) (fun k hk => by simp [Value.ownBlock] at hk; omega)
          refine (HNE.out _ (HH.out.below hb2 (Nat.le_refl _))).mono ?_
          rintro e6 w6 ⟨rfl, hb6⟩
          have hU : UInv L w (S ++ [⟨e, q.1, q.2⟩]) s2.1 s2.2 v2 w6 := by
            refine ⟨HST2.out, ?_, ?_, Below.onto hb6 hb2⟩
            · have := HLEN.out; have := HLF.out; have := HM.out
              simp only [List.length_append, List.length_cons, List.length_nil]
              omega
            · have h := own_below HI2.out hb6
              have e1 : (full (S ++ [⟨e, q.1, q.2⟩])).length = n + 1 := by rw [← HN1.out]; simp [full]
              have e2 : flat shC (full (S ++ [⟨e, q.1, q.2⟩])) = flat shC (full S) ++ [.int .i64 e, .int .i64 q.1, .int .i64 q.2] := by
                show flat shC (full S ++ [⟨e, q.1, q.2⟩]) = _
                rw [flat_snoc]
                rfl
              rw [e1, e2]
              exact h
          have HU := Lib.hid hU
          have hme : lf L s2.1 s2.2 < left_ L e + 1 := by have := HLF.out; omega
          clear hU hb6 hb2
          go_wp2_with fail
          go_roundw
          case rel => exact ⟨_, s2.1, s2.2, rfl, rfl, HU⟩
          case measure =>
            rw [isB_t]
            exact hme
end Go.Proofs.Ytecojcdmigmnhaa
