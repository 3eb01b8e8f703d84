/- The contract of runaroundlaw05.Ofs. -/
import Derived.Test.YtpjngnkcjccbcaaFl
import Derived.Test.YtpjngnkcjccbcaaWid
namespace Go.Proofs.Ytpjngnkcjccbcaa
set_option linter.unusedSimpArgs false
set_option linter.unusedVariables false
open Go.RowKit
theorem aboxInfo : (Try.prog.info? 28).map (fun i => (i.zero, i.size, i.bytes)) = some (some (.agg #[.int .i64 0, .int .i64 0, .int .i64 0, .int .i64 0, .int .i64 0, .int .i64 0, .int .i64 0, .int .i64 0, .int .i64 0, .int .i64 0, .int .i64 0, .int .i64 0, .int .i64 0, .int .i64 0]), 14, 112) := by kernel_rfl
theorem rboxInfo : (Try.prog.info? 24).map (·.size) = some 14 := by kernel_rfl
/-- append of one box onto a slice of the call's own. -/
theorem appBx (w : World) {ops : Array Oper} {rest : List Oper} {o : Oper} {a : Act} {Q : Exit → Act → World → Prop} (hgd : o.guard = none) (s x : Operand)
    (ho : o.op = .call { callee := .builtin .append, args := #[s, x], argTypes := #[43, 43] })
    (base : Nat) (v : Value) (l : List Bx) (hs : a.eval s = v) (hown : w.ownsRow base 28 14 v l.length (flat bxC l)) (g c : Nat) (hx : a.eval x = .slice (some ⟨g, 0, none⟩) 1 c) (b : Bx) (hc : w.heap[g]? = some (.cells #[.int .i64 b.d, .int .i64 b.k, .int .i64 b.s, .int .i64 b.c, .int .i64 b.w, .int .i64 b.h, .int .i64 b.m0, .int .i64 b.m1, .int .i64 b.m2, .int .i64 b.m3, .int .i64 b.e0, .int .i64 b.e1, .int .i64 b.e2, .int .i64 b.e3] 28 (0, 0)))
    (hl : l.length ≤ 1000000000000) (hbase : base ≤ w.heap.size)
    (h : ∀ v' w', w'.ownsRow base 28 14 v' (l ++ [b]).length (flat bxC (l ++ [b])) → w.grownBy w' v.ownBlock → (v'.ownBlock = v.ownBlock ∨ v'.ownBlock = some w.heap.size) → wpList Try.prog ops Q rest (a.put o.dst v') w') :
    wpList Try.prog ops Q (o :: rest) a w := by
  obtain ⟨i0, hi, hz0, hz1, hz2⟩ := info_parts aboxInfo
  refine wpList_append_own_at w hgd s x 43 ho base 28 i0 _ 14 112 Try.underlying43 hi hz0 hz1 hz2 rfl (by decide) v l.length (flat bxC l) hs hown ⟨g, 0, none⟩ 1 c (bxC b) hx rfl ?_ (bxC_one b) (by unfold maxLen; omega) (by omega) hbase ?_
  · intro j u hu
    rw [Addr.add_mid, Nat.zero_add, cell_of_row w g j _ 28 (0, 0) hc]
    rw [← hu]
    simp only [bxC, List.getElem?_toArray]
  · intro v' w' h1 h2 h3 h4
    refine h v' w' ?_ h2 h4
    rw [flat_snoc, List.length_append, List.length_singleton]
    exact h1
set_option maxRecDepth 20000 in
set_option maxHeartbeats 1000000 in
theorem ofs_any (L : List Bx) (v : Value) (w : World) (h : IsBxs w v L) (hL : L.length ≤ 100000000000) : Calls Try.prog 32 #[v] w fun e w' => ∃ v', e = .returned v' ∧ IsBxs w' v' L ∧ Below w.heap.size w w' := by
  obtain ⟨A, cap, rfl, hc, hA⟩ := h
  have HA := Lib.hid hA
  clear hA
  go_enter Try.func32, Try.ntmps32
  go_wp2
  go_loopw [3, 8] (fun x y wr => ∃ k : Nat, k ≤ L.length ∧ y = .int .i64 k ∧ Hid (wr.ownsRow w.heap.size 28 14 x (L.take k).length (flat bxC (L.take k))) ∧ Hid (Below w.heap.size w wr)) (fun _ y _ => L.length - (intOf y).toNat)
  case atStart => exact ⟨0, by omega, rfl, by rw [List.take_zero]; exact World.ownsRow_nil w _ _ _, Below.refl _ _⟩
  case round =>
    obtain ⟨k, hk, rfl, hI, hW⟩ := hrel
    have hsz := hW.out.size
    by_cases hlt : k < L.length
    · obtain ⟨B, off, rfl, hb⟩ := HA.out (by omega)
      have hBlt := hb.lt (by omega)
      have hw := (hb.below hW.out hBlt).range hlt
      have HW := Lib.hid hw
      clear hw hb
      have hok : Hid (wr.heap.size ≤ wr.heap.size) := Nat.le_refl _
      go_wp2_with (first
        | ((with_reducible refine load_mid (dst := some 11) 24 (.tmp 10) B (off + k * 14) (bxC (at_ L k)) _ ?_ (World.rangeAt_alloc HW.out _) Try.underlying24 ?_ ?_ ?_); rfl; rfl; exact rboxInfo; simp only [Act.put, List.setIfInBounds_toArray, List.set_cons_zero, List.set_cons_succ])
        | ((with_reducible refine load_mid (dst := some 11) 24 (.tmp 10) B (off + k * 14) (bxC (at_ L k)) _ ?_ HW.out Try.underlying24 ?_ ?_ ?_); rfl; rfl; exact rboxInfo; simp only [Act.put, List.setIfInBounds_toArray, List.set_cons_zero, List.set_cons_succ])
        | ((with_reducible refine store_new (dst := none) 24 (.tmp 5) (.tmp 11) wr _ (bxC (at_ L k)).toArray 24 rfl ?_ ?_ ?_ ?_ ?_ ?_); rfl; rfl; exact rboxInfo; rfl; exact all_oneCell_toArray (bxC_one _))
        | ((with_reducible refine load_mid (dst := some 13) 24 (.tmp 5) wr.heap.size 0 (bxC (at_ L k)) _ ?_ (range_new wr _ _) Try.underlying24 ?_ ?_ ?_); rfl; rfl; exact rboxInfo; simp only [Act.put, List.setIfInBounds_toArray, List.set_cons_zero, List.set_cons_succ])
        | (go_at_call 18; refine (of_any (at_ L k) _).mono ?_; rintro e w1 ⟨rfl, hb1⟩; have HB1 := Lib.hid hb1; have hz1 := hb1.size; clear hb1)
        | (at_builtin; refine appBx _ (by rfl) _ _ (by rfl) w.heap.size u3 (L.take k) (by rfl) ((own_below (hI.out.alloc _) HB1.out).alloc _) w1.heap.size 1 (by rfl) (at_ L k) (heap_alloc_new w1 _) (by simp; omega) (by simp at hz1 ⊢; omega) ?_; intro v2 w2 hI2 hg2 ha2; have HI2 := Lib.hid hI2; have HG2 := Lib.hid hg2; clear hI2 hg2 ha2))
      have hB2 : Below w.heap.size w w2 := (((hW.out.alloc hsz _).trans (HB1.out.mono (by simp; omega))).alloc (by simp at hz1; omega) _).grown HG2.out (by simp at hz1 ⊢; omega) (fun g hg => (hI.out.lt g hg).1)
      have HB2 := Lib.hid hB2
      have ht : L.take (k + 1) = L.take k ++ [at_ L k] := by rw [at_eq L k hlt]; exact List.take_succ_eq_append_getElem hlt
      have HT := Lib.hid ht
      clear hB2 ht
      go_roundw
      case rel => exact ⟨k + 1, by omega, by go_num, by rw [HT.out]; exact HI2.out, HB2.out⟩
      case measure => simp [intOf]; omega
    · have hk' : k = L.length := by omega
      have hI3 : wr.ownsRow w.heap.size 28 14 u3 L.length (flat bxC L) := by
        have h := hI.out
        rwa [hk', List.take_length] at h
      have HI3 := Lib.hid hI3
      clear hI3 hk'
      go_wp2_with fail
      go_ret
      refine ⟨_, rfl, ?_, hW.out⟩
      rcases HI3.out.2 with ⟨rfl, h0⟩ | ⟨g, cap', cur, rfl, hg, hh, hn, _⟩
      · exact ⟨none, 0, (show Value.slice none 0 0 = .slice none L.length 0 by rw [h0]), by omega, fun hp => by omega⟩
      · exact ⟨_, cap', rfl, hn, fun _ => ⟨g, 0, rfl, Bxs.of_own HI3.out⟩⟩
end Go.Proofs.Ytpjngnkcjccbcaa
