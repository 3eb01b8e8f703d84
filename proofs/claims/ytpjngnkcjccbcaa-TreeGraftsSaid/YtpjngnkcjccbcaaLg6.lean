/- The walk of the law TreeGrafts. -/
import Derived.Test.YtpjngnkcjccbcaaLc6
import Derived.Test.YtpjngnkcjccbcaaPg
import Derived.Test.YtpjngnkcjccbcaaOw
import Derived.StillTailTactics
namespace Go.Proofs.Ytpjngnkcjccbcaa
set_option linter.unusedSimpArgs false
set_option linter.unusedVariables false
open Go.RowKit
/-- The graft, as far as its boxes have been lifted. -/
def mixed (L : List Bx) (i m k : Nat) : List Bx := (graft L i).take k ++ (part_ L i m).drop k
theorem mixed_len (L : List Bx) (i m k : Nat) (hm : endS L i = i + m) (hk : k ≤ m) : (mixed L i m k).length = m := by
  have := graft_len L i
  unfold mixed
  rw [List.length_append, List.length_take, List.length_drop, part_len]
  omega
theorem mixed_get (L : List Bx) (i m k j : Nat) (hm : endS L i = i + m) (hk : k ≤ m) (hj : j < m) : (mixed L i m k)[j]'(by rw [mixed_len L i m k hm hk]; exact hj) = if j < k then at_ (graft L i) j else at_ L (i + j) := by
  have hgl := graft_len L i
  unfold mixed
  by_cases h : j < k
  · rw [List.getElem_append_left (by rw [List.length_take]; omega), if_pos h, List.getElem_take, at_eq _ j (by omega)]
  · rw [List.getElem_append_right (by rw [List.length_take]; omega), if_neg h, List.getElem_drop]
    have : (List.take k (graft L i)).length = k := by rw [List.length_take]; omega
    simp only [part_, List.getElem_map, List.getElem_range, this]
    congr 1
    omega
theorem mixed_zero (L : List Bx) (i m : Nat) : mixed L i m 0 = part_ L i m := by simp [mixed]
theorem mixed_one (L : List Bx) (i m : Nat) (hm : endS L i = i + m) (h0 : 0 < m) : (part_ L i m).set 0 boxR = mixed L i m 1 := by
  apply List.ext_getElem
  · rw [mixed_len L i m 1 hm (by omega), List.length_set, part_len]
  · intro j h1 h2
    rw [mixed_len L i m 1 hm (by omega)] at h2
    rw [mixed_get L i m 1 j hm (by omega) h2, List.getElem_set]
    by_cases e : j = 0
    · subst e; rw [if_pos rfl, if_pos (by omega)]; rfl
    · rw [if_neg (by omega), if_neg (by omega)]
      simp [part_]
theorem mixed_step (L : List Bx) (i m k : Nat) (hm : endS L i = i + m) (h1 : 1 ≤ k) (hk : k < m) : (mixed L i m k).set k (lift_ (at_ L (i + k)) (dep L i)) = mixed L i m (k + 1) := by
  apply List.ext_getElem
  · rw [mixed_len L i m (k + 1) hm (by omega), List.length_set, mixed_len L i m k hm (by omega)]
  · intro j h2 h3
    rw [mixed_len L i m (k + 1) hm (by omega)] at h3
    rw [mixed_get L i m (k + 1) j hm (by omega) h3, List.getElem_set]
    by_cases e : k = j
    · subst e
      rw [if_pos rfl, if_pos (by omega), graft_at L i k (by omega) (by omega)]
    · rw [if_neg e, mixed_get L i m k j hm (by omega) h3]
      by_cases e2 : j < k
      · rw [if_pos e2, if_pos (by omega)]
      · rw [if_neg e2, if_neg (by omega)]
theorem mixed_all (L : List Bx) (i m : Nat) (hm : endS L i = i + m) : mixed L i m m = graft L i := by
  have := graft_len L i
  unfold mixed
  rw [List.take_of_length_le (by omega), List.drop_eq_nil_of_le (by rw [part_len]; omega), List.append_nil]
theorem rbox3 : (Try.prog.info? 24).map (fun i => (i.zero, i.size, i.bytes)) = some (some (.agg #[.int .i64 0, .int .i64 0, .int .i64 0, .int .i64 0, .int .i64 0, .int .i64 0, .int .i64 0, .int .i64 0, .int .i64 0, .int .i64 0, .int .i64 0, .int .i64 0, .int .i64 0, .int .i64 0]), 14, 112) := by kernel_rfl
theorem own_form {w : World} {base g' n : Nat} {e : TypeId} {v : Value} {size : Nat} {xs : List Value} (h : w.ownsRow base e size v n xs) (hn : 0 < n) (_ : g' = 0) : ∃ g cap, v = .slice (some ⟨g, 0, none⟩) n cap ∧ n ≤ cap ∧ base ≤ g ∧ g < w.heap.size := by
  rcases h.2 with ⟨_, h0⟩ | ⟨g, cap, cur, e, hg, hh, hc, _⟩
  · omega
  · exact ⟨g, cap, e, hc, hg, (Array.getElem?_eq_some_iff.1 hh).1⟩
theorem own_there {w : World} {base g cap : Nat} {e : TypeId} {M : List Bx} (h : w.ownsRow base e 14 (.slice (some ⟨g, 0, none⟩) M.length cap) M.length (flat bxC M)) (k : Nat) (hk : k < M.length) : w.there g (k * 14) 14 := fun j hj => by
  have hl : (flat bxC M).length = M.length * 14 := flat_len bxC_len M
  refine ⟨?_, h.frozenAt _⟩
  rw [h.cellAt _ (by omega), List.getElem?_eq_getElem (by omega)]
  rfl
theorem own_lift {w : World} {base g cap : Nat} {e : TypeId} {L : List Bx} {i m k : Nat} (h : w.ownsRow base e 14 (.slice (some ⟨g, 0, none⟩) m cap) m (flat bxC (mixed L i m k))) (hm : endS L i = i + m) (h1 : 1 ≤ k) (hk : k < m) :
    w.cell? ⟨g, k * 14, none⟩ = some (.int .i64 (dep L (i + k))) ∧ w.frozen? ⟨g, k * 14, none⟩ = false ∧
    (w.setCell ⟨g, k * 14, none⟩ (.int .i64 (dep L (i + k) - dep L i))).ownsRow base e 14 (.slice (some ⟨g, 0, none⟩) m cap) m (flat bxC (mixed L i m (k + 1))) ∧ w.grownBy (w.setCell ⟨g, k * 14, none⟩ (.int .i64 (dep L (i + k) - dep L i))) (some g) := by
  have hl := mixed_len L i m k hm (by omega)
  have hg := mixed_get L i m k k hm (by omega) hk
  rw [if_neg (by omega)] at hg
  refine ⟨?_, h.frozenAt _, ?_⟩
  · rw [h.cellAt _ (by omega)]
    have := flat_get bxC_len (mixed L i m k) k 0 (by rw [hl]; exact hk) (by omega)
    rw [Nat.add_zero, hg] at this
    rw [this]
    rfl
  · obtain ⟨h1', h2'⟩ := h.stored (k * 14) (.int .i64 (dep L (i + k) - dep L i))
    have := flat_set bxC_len (mixed L i m k) k 0 (by rw [hl]; exact hk) (by omega) (.int .i64 (dep L (i + k) - dep L i)) (lift_ (at_ L (i + k)) (dep L i)) (by rw [hg]; rfl)
    rw [Nat.add_zero, mixed_step L i m k hm h1 hk] at this
    rw [this] at h1'
    exact ⟨h1', h2'⟩
theorem rboxSize : (Try.prog.info? 24).map (·.size) = some 14 := by kernel_rfl
set_option maxRecDepth 20000 in
set_option maxHeartbeats 2000000 in
theorem treeGrafts_any (L : List Bx) (v : Value) (c : Int) (w : World) (h : IsBxs w v L) (hc0 : 0 ≤ c) (hc1 : c ≤ 255) : Calls Try.prog 11 #[v, .int .u8 c] w fun e w' => e = .returned (.bool true) ∧ Below w.heap.size w w' := by
  obtain ⟨A, cap, rfl, hcap, hA⟩ := h
  have hv : IsBxs w (.slice A L.length cap) L := ⟨A, cap, rfl, hcap, hA⟩
  have HV := Lib.hid hv
  have HA := Lib.hid hA
  clear hv hA
  by_cases hl : 100 < L.length
  · have hl' : decide ((100 : Int) < (L.length : Int)) = true := by simp; omega
    go_enter Try.func11, Try.ntmps11
    go_wp2_with fail
    refine (speaks06 _).mono ?_
    rintro e w1 ⟨rfl, hb1⟩
    go_wp2_with fail
    refine (speaks06 _).mono ?_
    rintro e w2 ⟨rfl, hb2⟩
    go_wp2_with fail
    go_ret
    exact ⟨rfl, hb1.trans (hb2.mono hb1.size)⟩
  have hl' : decide ((100 : Int) < (L.length : Int)) = false := by simp; omega
  have hL1 : L.length ≤ 100 := by omega
  clear hl
  rcases chkS_cases L with hgd | hbd
  rotate_left
  · have hne : ((chkS L).2 != 0) = true := by simpa using hbd
    clear hbd
    go_enter Try.func11, Try.ntmps11
    go_wp2_with fail
    refine (speaks06 _).mono ?_
    rintro e w1 ⟨rfl, hb1⟩
    have HB1 := Lib.hid hb1
    clear hb1
    go_wp2_with fail
    refine (check06b L _ _ (HV.out.below HB1.out (Nat.le_refl _)) (by omega)).mono ?_
    rintro e w2 ⟨rfl, hb2⟩
    have HB2 := Lib.hid hb2
    clear hb2
    go_wp2_with fail
    go_ret
    exact ⟨rfl, HB1.out.trans (HB2.out.mono HB1.out.size)⟩
  obtain ⟨h0, hg⟩ := chkS_ok L (by rw [hgd])
  have hq0 : 0 ≤ c % (L.length : Int) := Int.emod_nonneg _ (by omega)
  have hq1 : c % (L.length : Int) < L.length := Int.emod_lt_of_pos _ (by omega)
  obtain ⟨q, hq⟩ := Int.eq_ofNat_of_zero_le hq0
  rw [hq] at hq1
  clear hq0
  have hqL : q < L.length := by omega
  obtain ⟨B, off, rfl, hB⟩ := HA.out h0
  have hBlt := hB.lt h0
  have HBX := Lib.hid hB
  have HG := Lib.hid hg
  have HGD := Lib.hid hgd
  clear hg hgd hB HA
  go_enter Try.func11, Try.ntmps11
  go_wp2_with fail
  refine (speaks06 _).mono ?_
  rintro e w1 ⟨rfl, hb1⟩
  have HB1 := Lib.hid hb1
  clear hb1
  go_wp2_with fail
  refine (check06b L _ _ (HV.out.below HB1.out (Nat.le_refl _)) (by omega)).mono ?_
  rw [HGD.out]
  rintro e w2 ⟨rfl, hb2⟩
  have HB2 := Lib.hid hb2
  clear hb2
  go_wp2_with fail
  refine (begin_good L _ _ ((HV.out.below HB1.out (Nat.le_refl _)).below HB2.out (Nat.le_refl _)) (by omega) HGD.out).mono ?_
  rintro e w3 ⟨bt, rfl, ht, hb3⟩
  have hb : Below w.heap.size w w3 := (HB1.out.trans (HB2.out.mono HB1.out.size)).trans (hb3.mono (Nat.le_trans HB1.out.size HB2.out.size))
  have hB3 := HBX.out.below hb hBlt
  have hk3 : w3.cell? ⟨B, off + q * 14 + 1, none⟩ = some (.int .i64 (knd L q)) := (hB3 q hqL).1.2.1
  have hlt3 := hB3.lt h0
  have HB3 := Lib.hid hB3
  have HB := Lib.hid hb
  have HT := Lib.hid ht
  clear hb3 hb ht HB1 HB2 hB3
  by_cases k4 : knd L q = 4
  · rw [k4] at hk3
    go_wp2_with fail
    go_ret
    exact ⟨rfl, HB.out⟩
  by_cases k5 : knd L q = 5
  · rw [k5] at hk3
    go_wp2_with fail
    go_ret
    exact ⟨rfl, HB.out⟩
  have k4' : (knd L q == 4) = false := by simpa using k4
  have k5' : (knd L q == 5) = false := by simpa using k5
  have hk13 : 1 ≤ knd L q ∧ knd L q ≤ 3 := by
    have h := bad_rchk (HG.out q hqL)
    rw [rchk_ok] at h
    have h1 := h.1
    unfold knd at *
    omega
  obtain ⟨m, hm⟩ : ∃ m, endS L q = q + m := ⟨endS L q - q, by have := endS_gt L q; omega⟩
  have hm0 : 0 < m := by have := endS_gt L q; omega
  have hml : q + m ≤ L.length := by have := endS_le L q hqL; omega
  have hen := nd_en L q hqL
  rw [hm] at hen
  have HM := Lib.hid hm
  clear hm k4 k5
  go_wp2_with fail
  refine (tend bt (NS L L.length) q _ (HT.out.below ((Below.refl w3.heap.size w3).alloc (Nat.le_refl _) _) (Nat.le_refl _))).mono ?_
  rintro e w5 ⟨rfl, hb5⟩
  rw [hen]
  obtain ⟨i0, hi, hz0, hz1, hz2⟩ := info_parts rbox3
  have hown5 := own_below (World.ownsRow_lit (base := w3.heap.size) (e := 24) (size := 14) w3 #[] 0 (Nat.le_refl _) (by decide) rfl) hb5
  have hB5 : Bxs w5 B off L := (HB3.out.below ((Below.refl w3.heap.size w3).alloc (Nat.le_refl _) _) hlt3).below hb5 (by simp; omega)
  have hnews := hB5.news q m hml
  have HN := Lib.hid hnews
  have HO5 := Lib.hid hown5
  have hz5 := hb5.size
  have hW5 : Below w3.heap.size w3 w5 := ((Below.refl w3.heap.size w3).alloc (Nat.le_refl _) _).trans (hb5.mono (by simp))
  have HW5 := Lib.hid hW5
  clear hnews hown5 hb5 hB5 hW5
  have hown6 : ∀ (g cap : Nat) (W : World), W.ownsRow w3.heap.size 24 14 (.slice (some ⟨g, 0, none⟩) m cap) m (flat bxC (part_ L q m)) → W.there g 0 14 ∧
      (W.setCells g 0 (bxC boxR)).ownsRow w3.heap.size 24 14 (.slice (some ⟨g, 0, none⟩) m cap) m (flat bxC (mixed L q m 1)) ∧ W.grownBy (W.setCells g 0 (bxC boxR)) (some g) := fun g cap W h => by
    have hI6 : W.ownsRow w3.heap.size 24 14 (.slice (some ⟨g, 0, none⟩) (part_ L q m).length cap) (part_ L q m).length (flat bxC (part_ L q m)) := by rw [part_len]; exact h
    have hth := own_there hI6 0 (by rw [part_len]; omega)
    have hst := own_set_box hI6 0 (by rw [part_len]; omega) boxR
    rw [mixed_one L q m HM.out hm0, part_len] at hst
    simp only [Nat.zero_mul] at hth hst
    exact ⟨hth, hst⟩
  have HOW := Lib.hid hown6
  clear hown6
  go_wp2_with (first
    | (at_builtin; refine wpList_append_own_at _ rfl (.tmp 51) (.tmp 57) 39 (by rfl) w3.heap.size 24 i0 _ 14 112 Try.underlying39 hi hz0 hz1 hz2 rfl (by decide) _ 0 [] (by rfl) HO5.out ⟨B, off + q * 14, none⟩ m (cap - q) (flat bxC (part_ L q m)) (congrArg (fun n => Value.slice (some ⟨B, off + q * 14, none⟩) n (cap - q)) (Nat.add_sub_cancel_left q m)) (by rw [flat_len bxC_len, part_len]) HN.out (flat_one _) (by unfold maxLen; omega) (by omega) (by simp at hz5; omega) ?_; intro v6 w6 hI6 hg6 hn6 ha6; simp only [Nat.zero_add, List.nil_append] at hI6; obtain ⟨g6, cap6, rfl, hc6, hgb6, hgl6⟩ := own_form hI6 hm0 rfl; obtain ⟨hth, hst, hgr⟩ := HOW.out g6 cap6 w6 hI6; have HTH := Lib.hid hth; have HST := Lib.hid hst; have HB6 := Lib.hid (show Below w3.heap.size w3 (w6.setCells g6 0 (bxC boxR)) from (HW5.out.grown hg6 (by simp at hz5; omega) (fun k hk => by simp [Value.ownBlock] at hk; omega)).grown hgr (by have := hg6.size; simp at hz5; omega) (fun k hk => by injection hk; omega)); have hz6 := HB6.out.size; clear hI6 hg6 hn6 ha6 hth hst hgr)
    | ((with_reducible refine op_value (o := ⟨some 60, .build 24 _, _, _, _, _⟩) rfl (.agg #[.int .i64 boxR.d, .int .i64 boxR.k, .int .i64 boxR.s, .int .i64 boxR.c, .int .i64 boxR.w, .int .i64 boxR.h, .int .i64 boxR.m0, .int .i64 boxR.m1, .int .i64 boxR.m2, .int .i64 boxR.m3, .int .i64 boxR.e0, .int .i64 boxR.e1, .int .i64 boxR.e2, .int .i64 boxR.e3]) ?_ ?_); kernel_rfl; simp only [Act.put, List.setIfInBounds_toArray, List.set_cons_zero, List.set_cons_succ])
    | ((with_reducible refine store_mid 24 (.tmp 61) (.tmp 60) g6 0 (bxC boxR) ?_ ?_ ?_ ?_ ?_ ?_); rfl; rfl; exact HTH.out; exact rboxSize; exact bxC_one _))
  clear HOW HN HO5 HW5 hz5 hi hz0 hz1 hz2 HTH
  obtain ⟨W7, hW7⟩ : ∃ W7, w6.setCells g6 0 (bxC boxR) = W7 := ⟨_, rfl⟩
  rw [hW7] at HST HB6 hz6 ⊢
  clear hW7
  go_loopw [10] (fun x wr => ∃ k : Nat, 1 ≤ k ∧ k ≤ m ∧ x = .int .i64 k ∧ Hid (wr.ownsRow w3.heap.size 24 14 (.slice (some ⟨g6, 0, none⟩) m cap6) m (flat bxC (mixed L q m k))) ∧ Hid (Below w3.heap.size w3 wr)) (fun x _ => m - (intOf x).toNat)
  case atStart => exact ⟨1, by omega, by omega, rfl, HST, HB6⟩
  case round =>
    obtain ⟨k, hk1, hk, rfl, hO, hR⟩ := hrel
    by_cases hlt : k < m
    · obtain ⟨c1, f1, ho1, hg1⟩ := own_lift hO.out HM.out hk1 hlt
      have hd1 := good_dep HG.out (show q + k < L.length by omega)
      have hd2 := good_dep HG.out hqL
      have c2 : wr.cell? ⟨B, off + q * 14, none⟩ = some (.int .i64 (dep L q)) := ((HB3.out.below hR.out hlt3) q hqL).1.1
      generalize dep L (q + k) = d1 at *
      generalize dep L q = d2 at *
      have HO1 := Lib.hid ho1
      have HG1 := Lib.hid hg1
      clear ho1 hg1
      go_wp2_with fail
      go_still_tail 13, (by kernel_rfl)
      go_wp2_with fail
      go_roundw
      case rel => exact ⟨k + 1, by omega, by omega, by go_num, HO1.out.drew, (hR.out.grown HG1.out hR.out.size (fun b hb => by injection hb; omega)).drew⟩
      case measure => simp [intOf]; omega
    · have hkm : k = m := by omega
      have hO' := hO.out
      rw [hkm, mixed_all L q m HM.out] at hO'
      have hgl : (graft L q).length = m := by have := graft_len L q; have := HM.out; omega
      have hgc := graft_chk HG.out rfl (by omega) q hqL hk13.1 hk13.2
      have hgv : IsBxs wr (.slice (some ⟨g6, 0, none⟩) m cap6) (graft L q) := by
        rw [← hgl] at hO' hc6 ⊢
        exact ⟨_, cap6, rfl, hc6, fun _ => ⟨g6, 0, rfl, Bxs.of_own hO'⟩⟩
      have HGL := Lib.hid hgl
      have HGV := Lib.hid hgv
      have HGC := Lib.hid hgc
      clear hO' hgl hgv hgc hkm hO
      go_wp2_with fail
      refine (begin_good (graft L q) _ _ HGV.out (by rw [HGL.out]; omega) HGC.out).mono ?_
      rintro e w8 ⟨bu, rfl, hu, hb8⟩
      have HB8 := Lib.hid (Below.onto hb8 hR.out)
      have HU := Lib.hid hu
      clear hb8 hu hR
      go_wp2_with fail
      refine (len_any bu _ _ HU.out).mono ?_
      rw [NS_len, HGL.out]
      rintro e w9 ⟨rfl, rfl⟩
      go_wp2_with fail
      go_loopw [12] (fun x wr => ∃ k : Nat, 1 ≤ k ∧ k ≤ m ∧ x = .int .i64 k ∧ Hid (Below w8.heap.size w8 wr)) (fun x _ => m - (intOf x).toNat)
      case atStart => exact ⟨1, by omega, by omega, rfl, Below.refl _ _⟩
      case round =>
        obtain ⟨k, hk1, hk, rfl, hR⟩ := hrel
        have HT8 := Lib.hid (HT.out.below HB8.out (Nat.le_refl _))
        by_cases hlt : k < m
        · have hkg : k < endS L q - q := by have := HM.out; omega
          obtain ⟨hp1, hp2⟩ := graft_par HG.out rfl q k hqL hk1 hkg
          have hp3 := (parentS_lt L (q + k)).2
          have he1 := graft_end L q k hqL hk1 hkg
          have hul : k < (graft L q).length := by rw [HGL.out]; exact hlt
          have a1 := nd_par (graft L q) k hul
          have a2 := nd_en (graft L q) k hul
          have a3 := nd_par L (q + k) (by omega)
          have a4 := nd_en L (q + k) (by omega)
          have hb1 := endS_le (graft L q) k hul
          rw [HGL.out] at hb1
          rw [hp1] at a1
          rw [← he1] at a4
          simp only [Int.natCast_add] at a3 a4
          generalize parentS L (q + k) = p at *
          generalize endS (graft L q) k = e at *
          have A1 := Lib.hid a1
          have A2 := Lib.hid a2
          have A3 := Lib.hid a3
          have A4 := Lib.hid a4
          clear a1 a2 a3 a4 hp1 he1
          go_wp2_with fail
          refine (tparent bu _ k _ (HU.out.below hR.out (Nat.le_refl _))).mono ?_
          rw [A1.out]
          rintro e w10 ⟨rfl, hb10⟩
          have HB10 := Lib.hid (Below.onto hb10 hR.out)
          clear hb10
          go_wp2_with fail
          refine (tparent bt _ _ _ (HT8.out.below HB10.out (Nat.le_refl _))).mono ?_
          rw [A3.out]
          rintro e w11 ⟨rfl, hb11⟩
          have HB11 := Lib.hid (Below.onto hb11 HB10.out)
          clear hb11
          go_wp2_with fail
          refine (tend bu _ k _ (HU.out.below HB11.out (Nat.le_refl _))).mono ?_
          rw [A2.out]
          rintro e w12 ⟨rfl, hb12⟩
          have HB12 := Lib.hid (Below.onto hb12 HB11.out)
          clear hb12
          go_wp2_with fail
          refine (tend bt _ _ _ (HT8.out.below HB12.out (Nat.le_refl _))).mono ?_
          rw [A4.out]
          rintro e w13 ⟨rfl, hb13⟩
          have HB13 := Lib.hid (Below.onto hb13 HB12.out)
          clear hb13
          go_wp2_with fail
          go_roundw
          case rel => exact ⟨k + 1, by omega, by omega, by go_num, HB13⟩
          case measure => simp [intOf]; omega
        · have hkl := graft_kids L q hqL
          have a1 := nd_ch (graft L q) 0 (by rw [HGL.out]; omega)
          have a2 := nd_ch L q hqL
          have hkb : (kidsS L q).length ≤ 1000 := by have := kidsTo_len L q (endS L q); have := endS_le L q hqL; unfold kidsS; omega
          have A1 := Lib.hid a1
          have A2 := Lib.hid a2
          have HKL := Lib.hid hkl
          clear a1 a2 hkl
          go_wp2_with fail
          refine (tchildren bu _ ((0 : Nat) : Int) _ (HU.out.below hR.out (Nat.le_refl _))).mono ?_
          rw [A1.out]
          rintro e w10 ⟨v10, rfl, ⟨A10, c10, rfl, _, _⟩, hb10⟩
          rw [HKL.out]
          have HB10 := Lib.hid (Below.onto hb10 hR.out)
          clear hb10
          go_wp2_with fail
          refine (tchildren bt _ q _ (HT8.out.below HB10.out (Nat.le_refl _))).mono ?_
          rw [A2.out]
          rintro e w11 ⟨v11, rfl, ⟨A11, c11, rfl, _, _⟩, hb11⟩
          have HB11 := Lib.hid (Below.onto hb11 HB10.out)
          clear hb11
          go_wp2_with fail
          go_ret
          exact ⟨by simp, HB.out.trans ((HB8.out.trans (HB11.out.mono HB8.out.size)).mono HB.out.size)⟩
end Go.Proofs.Ytpjngnkcjccbcaa
