/- The contract of tree.Build: words, and the empty list. -/
import Derived.Test.YtpjngnkcjccbcaaTw
import Derived.Test.YtpjngnkcjccbcaaTq
import Derived.Test.YtpjngnkcjccbcaaOfs
namespace Go.Proofs.Ytpjngnkcjccbcaa
set_option linter.unusedSimpArgs false
set_option linter.unusedVariables false
open Go.RowKit
def ints (l : List Nat) : List Int := l.map fun n : Nat => (n : Int)
/-- What Build leaves of boxes: a tree, or what is wrong. -/
def BuildPost (L : List Bx) (w : World) (e : Ending) (w' : World) : Prop := Below w.heap.size w w' ∧
  ((chkS L).2 = 0 → e = .returned (.tuple #[.pointer (some ⟨w.heap.size, 0, none⟩), .int .i64 (-1), .int .i64 0]) ∧ TreeIs w' w.heap.size (NS L L.length)) ∧
  ((chkS L).2 ≠ 0 → e = .returned (.tuple #[.pointer none, .int .i64 (chkS L).1, .int .i64 (chkS L).2]))
/-- A tree that has been built reads as one. -/
theorem TW.reads {w : World} {base bt k : Nat} {nv pv : Value} {ns : List (Nd × Value)} {path : List Int} {L : List Bx} (h : TW w base bt nv ns pv path) (hn : ns.map Prod.fst = NS L k) (hk : 0 < k) (hL : k ≤ 100000000000) : TreeIs w bt (NS L k) := by
  have hlen : ns.length = k := by have := congrArg List.length hn; simpa [NS_len] using this
  obtain ⟨A, cap, rfl, hA⟩ := h.tb.form
  obtain ⟨g, rfl⟩ := hA (by omega)
  have hg : g < w.heap.size := (h.tb.own.lt g rfl).2
  have hcap : ns.length ≤ cap := by
    rcases h.tb.own.2 with ⟨e, _⟩ | ⟨g', cap', cur, e, _, _, hn, _⟩
    · cases e
    · injection e with _ _ e
      subst e
      exact hn
  refine ⟨g, cap, fun i => (ns.getD i (nd0, Value.slice none 0 0)).2, by rw [NS_len]; omega, by rw [NS_len]; omega, hg, h.tb.lt, by rw [NS_len, ← hlen]; exact h.tb.cell0, fun i hi => ?_⟩
  rw [NS_len] at hi
  have hi' : i < ns.length := by omega
  have e1 : nat_ (NS L k) i = (ns[i]).1 := by
    unfold nat_
    rw [← hn]
    simp [List.getD_eq_getElem?_getD, List.getElem?_eq_getElem hi']
  have e2 : (ns.getD i (nd0, Value.slice none 0 0)).2 = (ns[i]).2 := by simp [List.getD_eq_getElem?_getD, List.getElem?_eq_getElem hi']
  simp only [e1, e2]
  refine ⟨?_, (h.kid i hi').reads, ?_⟩
  · have ha : ∀ j, j < 18 → w.cell? ⟨g, i * 18 + j, none⟩ = (ndP ns[i])[j]? := fun j hj => h.tb.at_ i j hi' hj
    exact ⟨⟨ha 0 (by omega), ha 1 (by omega), ha 2 (by omega), ha 3 (by omega), ha 4 (by omega), ha 5 (by omega)⟩, ⟨ha 6 (by omega), ha 7 (by omega), ha 8 (by omega), ha 9 (by omega)⟩, ⟨ha 10 (by omega), ha 11 (by omega), ha 12 (by omega), ha 13 (by omega)⟩, ⟨ha 14 (by omega), ha 15 (by omega), ha 16 (by omega), ha 17 (by omega)⟩⟩
  · have hx : (ns[i]).1 = nodeK L k i := by
      have h1 : (ns.map Prod.fst)[i]? = (NS L k)[i]? := by rw [hn]
      simp only [List.getElem?_map, List.getElem?_eq_getElem hi', Option.map_some] at h1
      rw [List.getElem?_eq_getElem (by rw [NS_len]; exact hi), NS_get L k i hi] at h1
      exact Option.some.inj h1
    rw [hx]
    have := kidsTo_len L i (min (endS L i) k)
    show (kidsTo L i (min (endS L i) k)).length ≤ _
    omega
/-- What stands at the head of a round of Build. -/
def BInv (L : List Bx) (w : World) (k : Nat) (pv : Value) (wr : World) : Prop :=
  ∃ nv ns, TW wr w.heap.size w.heap.size nv ns pv (ints (pathK L k)) ∧ ns.map Prod.fst = NS L k
theorem BInv.zero (L : List Bx) (w : World) : BInv L w 0 (.slice none 0 0) (w.alloc (.cells #[.slice none 0 0] 77)) :=
  ⟨.slice none 0 0, [], ⟨⟨heap_alloc_new w _, Nat.le_refl _, World.ownsRow_nil _ _ _ _⟩, Ints.nil _ _, fun i h => by simp at h, fun i h => by simp at h, fun i h => by simp at h⟩, rfl⟩
/-- Where the next box would stand: what Build finds. -/
def parV (L : List Bx) (k : Nat) : Int := if 1 ≤ dep L k ∧ dep L k ≤ ((pathK L k).length : Int) then parentS L k else -1
theorem check_bad (L : List Bx) (k bt base : Nat) (nv : Value) (ns : List (Nd × Value)) (W : World) (h : TB W base bt nv ns) (hns : ns.map Prod.fst = NS L k) (hg : Good L k) (hk : k < L.length) (hL : L.length ≤ 100000000) :
    Calls Try.prog 56 #[.pointer (some ⟨bt, 0, none⟩), .agg #[.int .i64 (at_ L k).d, .int .i64 (at_ L k).k, .int .i64 (at_ L k).s, .int .i64 (at_ L k).c, .int .i64 (at_ L k).w, .int .i64 (at_ L k).h, .int .i64 (at_ L k).m0, .int .i64 (at_ L k).m1, .int .i64 (at_ L k).m2, .int .i64 (at_ L k).m3, .int .i64 (at_ L k).e0, .int .i64 (at_ L k).e1, .int .i64 (at_ L k).e2, .int .i64 (at_ L k).e3], .int .i64 (parV L k)] W fun e w' => e = .returned (.int .i64 (badS L k)) ∧ Below W.heap.size W w' := by
  have hlen : ns.length = k := by have := congrArg List.length hns; simpa [NS_len] using this
  obtain ⟨i1, i2⟩ := pathK_facts k hg k (Nat.le_refl _)
  by_cases e65 : k = 65536
  · have hb : badS L k = 3 := by unfold badS; rw [if_pos e65]
    rw [hb]
    exact check_many bt base nv ns _ _ W h (by omega)
  by_cases hr : rchk (at_ L k) = 0
  · by_cases h0 : k = 0
    · subst h0
      have hz : ns = [] := List.eq_nil_of_length_eq_zero hlen
      subst hz
      have hb : badS L 0 = if rootBad (at_ L 0) = true then 12 else 0 := by unfold badS; rw [if_neg e65, if_neg (by simpa using hr), if_pos rfl]
      rw [hb]
      exact check_root bt base nv _ _ W h hr
    · have hb : badS L k = if dep L k = 0 ∨ dep L (k - 1) + 1 < dep L k then 12 else if fitsB (knd L (parentS L k).toNat) (knd L k) = true then 0 else 12 := by
        unfold badS
        rw [if_neg e65, if_neg (by simpa using hr), if_neg h0]
      have hd : 0 ≤ dep L k ∧ dep L k ≤ 256 := rchk_dep hr
      have hd1 := good_dep hg (show k - 1 < k by omega)
      have hpl := i1 (by omega)
      by_cases hin : 1 ≤ dep L k ∧ dep L k ≤ ((pathK L k).length : Int)
      · have hpv : parV L k = parentS L k := by unfold parV; rw [if_pos hin]
        rw [if_neg (by omega)] at hb
        have hpf := parent_found hg (by omega) hin.1 (by omega)
        have hlt := parentS_lt L k
        obtain ⟨r, hr1⟩ := Int.eq_ofNat_of_zero_le hpf
        rw [hpv, hb, hr1]
        simp only [Int.toNat_natCast]
        have hrk : r < ns.length := by omega
        refine check_fit bt base nv ns (at_ L k) r (knd L r) W h (by omega) hr hrk ?_ (by omega)
        have h1 : (ns.map Prod.fst)[r]? = (NS L k)[r]? := by rw [hns]
        simp only [List.getElem?_map, List.getElem?_eq_getElem hrk, Option.map_some] at h1
        rw [List.getElem?_eq_getElem (by rw [NS_len]; omega), NS_get L k r (by omega)] at h1
        rw [Option.some.inj h1]
        rfl
      · have hpv : parV L k = -1 := by unfold parV; rw [if_neg hin]
        rw [if_pos (by omega)] at hb
        rw [hpv, hb]
        exact check_none bt base nv ns _ _ W h (by omega) (by omega) hr (by omega)
  · have hb : badS L k = rchk (at_ L k) := by unfold badS; rw [if_neg e65, if_pos hr]
    rw [hb]
    exact check_rec bt base nv ns _ _ W h (by omega) hr
theorem post_bad {L : List Bx} {w w' : World} {a c : Int} (hb : Below w.heap.size w w') (h : chkS L = (a, c)) (hc : c ≠ 0) : BuildPost L w (.returned (.tuple #[.pointer none, .int .i64 a, .int .i64 c])) w' :=
  ⟨hb, fun h0 => absurd (by rw [h] at h0; exact h0) hc, fun _ => by rw [h]⟩
theorem post_ok {L : List Bx} {w w' : World} (hb : Below w.heap.size w w') (h : chkS L = (-1, 0)) (ht : TreeIs w' w.heap.size (NS L L.length)) : BuildPost L w (.returned (.tuple #[.pointer (some ⟨w.heap.size, 0, none⟩), .int .i64 (-1), .int .i64 0])) w' :=
  ⟨hb, fun _ => ⟨rfl, ht⟩, fun h0 => absurd (by rw [h]) h0⟩
theorem BInv.done {L : List Bx} {w wr : World} {pv : Value} (h : BInv L w L.length pv wr) (hpos : 0 < L.length) (hL : L.length ≤ 100000000) : TreeIs wr w.heap.size (NS L L.length) := by
  obtain ⟨nv, ns, h1, h2⟩ := h
  exact h1.reads h2 hpos (by omega)
theorem nodeInfo2 : (Try.prog.info? 80).map (fun i => (i.zero, i.size, i.bytes)) = some (some (.agg #[.int .i64 0, .int .i64 0, .int .i64 0, .int .i64 0, .int .i64 0, .int .i64 0, .int .i64 0, .int .i64 0, .int .i64 0, .int .i64 0, .int .i64 0, .int .i64 0, .int .i64 0, .int .i64 0, .int .i64 0, .int .i64 0, .int .i64 0, .slice none 0 0]), 18, 160) := by kernel_rfl
theorem node_of {L : List Bx} {k r : Nat} {ns : List (Nd × Value)} (hns : ns.map Prod.fst = NS L k) (hr : r < ns.length) (hk : r < k) : (ns[r]).1 = nodeK L k r := by
  have h1 : (ns.map Prod.fst)[r]? = (NS L k)[r]? := by rw [hns]
  simp only [List.getElem?_map, List.getElem?_eq_getElem hr, Option.map_some] at h1
  rw [List.getElem?_eq_getElem (by rw [NS_len]; omega), NS_get L k r hk] at h1
  exact Option.some.inj h1
theorem within_ctx (L : List Bx) (k r bt base : Nat) (nv : Value) (ns : List (Nd × Value)) (W : World) (h : TB W base bt nv ns) (hns : ns.map Prod.fst = NS L k) (hr : parentS L k = (r : Int)) (hlt : r < ns.length) (hL : ns.length ≤ 100000000) :
    Calls Try.prog 57 #[.pointer (some ⟨bt, 0, none⟩), .int .i64 r] W fun e w' => e = .returned (.int .i64 (ctxS L k)) ∧ W = w' := by
  have hlen : ns.length = k := by have := congrArg List.length hns; simpa [NS_len] using this
  have h1 := within_some bt base nv ns r W h hlt (by omega)
  rw [node_of hns hlt (by omega)] at h1
  rw [ctx_step hr]
  exact h1
theorem cut_own (g o n c d : Nat) : (cutV (.slice (some ⟨g, o, none⟩) n c) d).ownBlock = some g := rfl
/-- What the statement that appends a node reads. -/
def S15 (bt xb : Nat) (nv : Value) (x : Int) (b : Bx) (w' : World) : Prop := w'.frozen? ⟨bt, 0, none⟩ = false ∧ w'.cell? ⟨bt, 0, none⟩ = some nv ∧ w'.cell? ⟨xb, 0, none⟩ = some (.int .i64 (x)) ∧ w'.cell? ⟨xb, 1, none⟩ = some (.int .i64 (b.k)) ∧ w'.cell? ⟨xb, 2, none⟩ = some (.int .i64 (b.s)) ∧ w'.cell? ⟨xb, 3, none⟩ = some (.int .i64 (b.c)) ∧ w'.cell? ⟨xb, 4, none⟩ = some (.int .i64 (b.w)) ∧ w'.cell? ⟨xb, 5, none⟩ = some (.int .i64 (b.h)) ∧ w'.cell? ⟨xb, 6, none⟩ = some (.int .i64 (b.m0)) ∧ w'.cell? ⟨xb, 7, none⟩ = some (.int .i64 (b.m1)) ∧ w'.cell? ⟨xb, 8, none⟩ = some (.int .i64 (b.m2)) ∧ w'.cell? ⟨xb, 9, none⟩ = some (.int .i64 (b.m3)) ∧ w'.cell? ⟨xb, 10, none⟩ = some (.int .i64 (b.e0)) ∧ w'.cell? ⟨xb, 11, none⟩ = some (.int .i64 (b.e1)) ∧ w'.cell? ⟨xb, 12, none⟩ = some (.int .i64 (b.e2)) ∧ w'.cell? ⟨xb, 13, none⟩ = some (.int .i64 (b.e3))
theorem S15.keep {bt xb : Nat} {nv : Value} {x : Int} {b : Bx} {w w' : World} (h : S15 bt xb nv x b w) (hf : w'.frozen? ⟨bt, 0, none⟩ = w.frozen? ⟨bt, 0, none⟩) (h1 : ∀ o, w'.cell? ⟨bt, o, none⟩ = w.cell? ⟨bt, o, none⟩) (h2 : ∀ o, w'.cell? ⟨xb, o, none⟩ = w.cell? ⟨xb, o, none⟩) : S15 bt xb nv x b w' := by
  unfold S15 at h ⊢
  simp only [hf, h1, h2]
  exact h
theorem S15.al {bt xb : Nat} {nv : Value} {x : Int} {b : Bx} {w : World} (h : S15 bt xb nv x b w) (l1 : bt < w.heap.size) (l2 : xb < w.heap.size) (ob : Obj) : S15 bt xb nv x b (w.alloc ob) :=
  h.keep (frozen_al l1 rfl ob) (fun o => World.cell?_alloc_lt w ob ⟨bt, o, none⟩ l1) (fun o => World.cell?_alloc_lt w ob ⟨xb, o, none⟩ l2)
theorem S15.dr {bt xb : Nat} {nv : Value} {x : Int} {b : Bx} {w : World} (h : S15 bt xb nv x b w) : S15 bt xb nv x b w.drew := h
theorem S15.gr {bt xb : Nat} {nv : Value} {x : Int} {b : Bx} {w w' : World} {row : Option Nat} (h : S15 bt xb nv x b w) (hg : w.grownBy w' row) (l1 : bt < w.heap.size) (l2 : xb < w.heap.size) (n1 : row ≠ some bt) (n2 : row ≠ some xb) : S15 bt xb nv x b w' :=
  h.keep (hg.frozen_far ⟨bt, 0, none⟩ l1 (Ne.symm n1)) (fun o => hg.cell_far ⟨bt, o, none⟩ l1 (Ne.symm n1)) (fun o => hg.cell_far ⟨xb, o, none⟩ l2 (Ne.symm n2))
end Go.Proofs.Ytpjngnkcjccbcaa
