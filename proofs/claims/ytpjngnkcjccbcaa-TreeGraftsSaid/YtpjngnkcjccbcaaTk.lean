/- A tree that is being built; what is asked of its next box. -/
import Derived.Test.YtpjngnkcjccbcaaTt
import Derived.Test.YtpjngnkcjccbcaaFl
import Derived.Test.YtpjngnkcjccbcaaTp
import Derived.Test.YtpjngnkcjccbcaaLaw4
namespace Go.Proofs.Ytpjngnkcjccbcaa
set_option linter.unusedSimpArgs false
set_option linter.unusedVariables false
open Go.RowKit
attribute [local go_sem] run_eq4
theorem ndL_len (p : Nd × Value) : (ndL p.1 p.2).length = 18 := rfl
def ndP (p : Nd × Value) : List Value := ndL p.1 p.2
theorem ndP_len (p : Nd × Value) : (ndP p).length = 18 := rfl
/-- A tree's nodes, of the call's own. -/
structure TB (w : World) (base bt : Nat) (nv : Value) (ns : List (Nd × Value)) : Prop where
  blk : w.heap[bt]? = some (.cells #[nv] 77 (0, 0))
  hb : base ≤ bt
  own : w.ownsRow base 80 18 nv ns.length (flat ndP ns)
theorem TB.below {w w' : World} {base bt : Nat} {nv : Value} {ns : List (Nd × Value)} (h : TB w base bt nv ns) (hb : Below w.heap.size w w') : TB w' base bt nv ns :=
  ⟨(hb.block bt (Array.getElem?_eq_some_iff.1 h.blk).1).trans h.blk, h.hb, own_below h.own hb⟩
theorem TB.form {w : World} {base bt : Nat} {nv : Value} {ns : List (Nd × Value)} (h : TB w base bt nv ns) : ∃ (A : Option Addr) (cap : Nat), nv = .slice A ns.length cap ∧ (0 < ns.length → ∃ g, A = some ⟨g, 0, none⟩) := by
  rcases h.own.2 with ⟨rfl, h0⟩ | ⟨g, cap, cur, rfl, _⟩
  · exact ⟨none, 0, by rw [h0], fun hp => by omega⟩
  · exact ⟨_, cap, rfl, fun _ => ⟨g, rfl⟩⟩
theorem TB.cell0 {w : World} {base bt : Nat} {nv : Value} {ns : List (Nd × Value)} (h : TB w base bt nv ns) : w.cell? ⟨bt, 0, none⟩ = some nv := by
  rw [cell_of_row w bt 0 _ _ _ h.blk]; rfl
theorem TB.lt {w : World} {base bt : Nat} {nv : Value} {ns : List (Nd × Value)} (h : TB w base bt nv ns) : bt < w.heap.size := (Array.getElem?_eq_some_iff.1 h.blk).1
theorem TB.at_ {w : World} {base bt g cap : Nat} {ns : List (Nd × Value)} (h : TB w base bt (.slice (some ⟨g, 0, none⟩) ns.length cap) ns) (k j : Nat) (hk : k < ns.length) (hj : j < 18) : w.cell? ⟨g, k * 18 + j, none⟩ = (ndP ns[k])[j]? := by
  have hl := flat_len ndP_len ns
  have hg := flat_get ndP_len ns k j hk hj
  rw [← hg]
  obtain ⟨u, hu⟩ : ∃ u, (flat ndP ns)[k * 18 + j]? = some u := ⟨_, List.getElem?_eq_getElem (by rw [hl]; omega)⟩
  rw [hu]
  have := h.own.cells (g := g) rfl _ u hu
  rwa [Addr.add_mid, Nat.zero_add] at this
set_option maxRecDepth 20000 in
theorem check_many (bt base : Nat) (nv : Value) (ns : List (Nd × Value)) (b : Bx) (p : Int) (w : World) (h : TB w base bt nv ns) (hn : ns.length = 65536) :
    Calls Try.prog 56 #[.pointer (some ⟨bt, 0, none⟩), .agg #[.int .i64 b.d, .int .i64 b.k, .int .i64 b.s, .int .i64 b.c, .int .i64 b.w, .int .i64 b.h, .int .i64 b.m0, .int .i64 b.m1, .int .i64 b.m2, .int .i64 b.m3, .int .i64 b.e0, .int .i64 b.e1, .int .i64 b.e2, .int .i64 b.e3], .int .i64 p] w fun e w' => e = .returned (.int .i64 3) ∧ Below w.heap.size w w' := by
  obtain ⟨A, cap, rfl, hA⟩ := h.form
  have hc := h.cell0
  have hlt := h.lt
  have hn' : ((ns.length : Int) == 65536) = true := by rw [hn]; rfl
  clear h hn
  go_enter Try.func56, Try.ntmps56
  go_wp2_with fail
  go_ret
  exact ⟨rfl, by (repeat (first | exact Below.refl _ _ | (refine Below.alloc ?_ (by first | omega | (simp; done) | (simp; omega)) _) | (refine Below.on (by assumption) ?_ (by first | omega | (simp; done) | (simp; omega))) | (refine Below.grown ?_ (by assumption) (by first | omega | (simp; done) | (simp; omega)) (by intro k hk; cases hk)) | refine Below.drew ?_))⟩

set_option maxRecDepth 20000 in
theorem check_rec (bt base : Nat) (nv : Value) (ns : List (Nd × Value)) (b : Bx) (p : Int) (w : World) (h : TB w base bt nv ns) (hn : ns.length ≠ 65536) (hr : rchk b ≠ 0) :
    Calls Try.prog 56 #[.pointer (some ⟨bt, 0, none⟩), .agg #[.int .i64 b.d, .int .i64 b.k, .int .i64 b.s, .int .i64 b.c, .int .i64 b.w, .int .i64 b.h, .int .i64 b.m0, .int .i64 b.m1, .int .i64 b.m2, .int .i64 b.m3, .int .i64 b.e0, .int .i64 b.e1, .int .i64 b.e2, .int .i64 b.e3], .int .i64 p] w fun e w' => e = .returned (.int .i64 (rchk b)) ∧ Below w.heap.size w w' := by
  obtain ⟨A, cap, rfl, hA⟩ := h.form
  have hc := h.cell0
  have hlt := h.lt
  have hn' : ((ns.length : Int) == 65536) = false := by simp; omega
  have hr' : (rchk b != 0) = true := by simpa using hr
  clear h hn hr
  go_enter Try.func56, Try.ntmps56
  go_wp2_with (first | (go_at_call 26; refine (check_any b _).mono ?_; rintro e wx ⟨rfl, hbx⟩; have hzx := hbx.size; obtain ⟨hcx, hfx⟩ := bcell hbx; (try simp [Nat.add_one_le_iff] at hzx); have hc0 := fun o => hcx (w.heap.size) o (by first | omega | (simp; done) | (simp; omega)); (try have hz0 : w.heap.size < wx.heap.size := (by omega))))
  go_ret
  exact ⟨rfl, by (repeat (first | exact Below.refl _ _ | (refine Below.alloc ?_ (by first | omega | (simp; done) | (simp; omega)) _) | (refine Below.on (by assumption) ?_ (by first | omega | (simp; done) | (simp; omega))) | (refine Below.grown ?_ (by assumption) (by first | omega | (simp; done) | (simp; omega)) (by intro k hk; cases hk)) | refine Below.drew ?_))⟩
set_option maxRecDepth 20000 in
set_option maxHeartbeats 1000000 in
theorem check_root (bt base : Nat) (nv : Value) (b : Bx) (p : Int) (w : World) (h : TB w base bt nv []) (hr : rchk b = 0) :
    Calls Try.prog 56 #[.pointer (some ⟨bt, 0, none⟩), .agg #[.int .i64 b.d, .int .i64 b.k, .int .i64 b.s, .int .i64 b.c, .int .i64 b.w, .int .i64 b.h, .int .i64 b.m0, .int .i64 b.m1, .int .i64 b.m2, .int .i64 b.m3, .int .i64 b.e0, .int .i64 b.e1, .int .i64 b.e2, .int .i64 b.e3], .int .i64 p] w fun e w' => e = .returned (.int .i64 (if rootBad b = true then 12 else 0)) ∧ Below w.heap.size w w' := by
  obtain ⟨A, cap, rfl, hA⟩ := h.form
  have hc := h.cell0
  have hlt := h.lt
  have hck := fun w => check_any b w
  rw [hr] at hck
  have HC := Lib.hid hck
  simp only [List.length_nil] at hc
  clear h hr hck hA
  go_enter Try.func56, Try.ntmps56
  go_wp2_with (first | (go_at_call 26; refine (HC.out _).mono ?_; rintro e wx ⟨rfl, hbx⟩; have hzx := hbx.size; obtain ⟨hcx, hfx⟩ := bcell hbx; (try simp [Nat.add_one_le_iff] at hzx); have hc0 := fun o => hcx (w.heap.size) o (by first | omega | (simp; done) | (simp; omega)); (try have hz0 : w.heap.size < wx.heap.size := (by omega))))
  all_goals (try simp only [Bool.not_eq_true', Bool.not_eq_false', beq_iff_eq, beq_eq_false_iff_ne, ne_eq] at *)
  all_goals go_ret
  all_goals refine ⟨ret_i ?_, by (repeat (first | exact Below.refl _ _ | (refine Below.alloc ?_ (by first | omega | (simp; done) | (simp; omega)) _) | (refine Below.on (by assumption) ?_ (by first | omega | (simp; done) | (simp; omega))) | (refine Below.grown ?_ (by assumption) (by first | omega | (simp; done) | (simp; omega)) (by intro k hk; cases hk)) | refine Below.drew ?_))⟩
  all_goals first | rfl | (exfalso; clear hbx hcx hfx hc0; simp only [rootBad, decide_eq_true_eq] at *; omega)
set_option maxRecDepth 20000 in
theorem check_none (bt base : Nat) (nv : Value) (ns : List (Nd × Value)) (b : Bx) (p : Int) (w : World) (h : TB w base bt nv ns) (hn : ns.length ≠ 65536) (h0 : 0 < ns.length) (hr : rchk b = 0) (hp : p < 0) :
    Calls Try.prog 56 #[.pointer (some ⟨bt, 0, none⟩), .agg #[.int .i64 b.d, .int .i64 b.k, .int .i64 b.s, .int .i64 b.c, .int .i64 b.w, .int .i64 b.h, .int .i64 b.m0, .int .i64 b.m1, .int .i64 b.m2, .int .i64 b.m3, .int .i64 b.e0, .int .i64 b.e1, .int .i64 b.e2, .int .i64 b.e3], .int .i64 p] w fun e w' => e = .returned (.int .i64 12) ∧ Below w.heap.size w w' := by
  obtain ⟨A, cap, rfl, hA⟩ := h.form
  have hc := h.cell0
  have hlt := h.lt
  have hn' : ((ns.length : Int) == 65536) = false := by simp; omega
  have hn0 : ((ns.length : Int) == 0) = false := beq_eq_false_iff_ne.2 (by omega)
  have hck := fun w => check_any b w
  rw [hr] at hck
  have HC := Lib.hid hck
  clear h hn hr hck h0 hA
  go_enter Try.func56, Try.ntmps56
  go_wp2_with (first | (go_at_call 26; refine (HC.out _).mono ?_; rintro e wx ⟨rfl, hbx⟩; have hzx := hbx.size; obtain ⟨hcx, hfx⟩ := bcell hbx; (try simp [Nat.add_one_le_iff] at hzx); have hc0 := fun o => hcx (w.heap.size) o (by first | omega | (simp; done) | (simp; omega)); (try have hz0 : w.heap.size < wx.heap.size := (by omega))))
  go_ret
  exact ⟨rfl, by (repeat (first | exact Below.refl _ _ | (refine Below.alloc ?_ (by first | omega | (simp; done) | (simp; omega)) _) | (refine Below.on (by assumption) ?_ (by first | omega | (simp; done) | (simp; omega))) | (refine Below.grown ?_ (by assumption) (by first | omega | (simp; done) | (simp; omega)) (by intro k hk; cases hk)) | refine Below.drew ?_))⟩
set_option maxRecDepth 20000 in
set_option maxHeartbeats 1000000 in
theorem check_fit (bt base : Nat) (nv : Value) (ns : List (Nd × Value)) (b : Bx) (p : Nat) (k : Int) (w : World) (h : TB w base bt nv ns) (hn : ns.length ≠ 65536) (hr : rchk b = 0) (hp : p < ns.length) (hk : (ns[p]).1.b.k = k) (hL : ns.length ≤ 1000000000) :
    Calls Try.prog 56 #[.pointer (some ⟨bt, 0, none⟩), .agg #[.int .i64 b.d, .int .i64 b.k, .int .i64 b.s, .int .i64 b.c, .int .i64 b.w, .int .i64 b.h, .int .i64 b.m0, .int .i64 b.m1, .int .i64 b.m2, .int .i64 b.m3, .int .i64 b.e0, .int .i64 b.e1, .int .i64 b.e2, .int .i64 b.e3], .int .i64 p] w fun e w' => e = .returned (.int .i64 (if fitsB k b.k = true then 0 else 12)) ∧ Below w.heap.size w w' := by
  obtain ⟨A, cap, rfl, hA⟩ := h.form
  have hc := h.cell0
  have hlt := h.lt
  obtain ⟨g, rfl⟩ := hA (by omega)
  have hg : w.cell? ⟨g, p * 18 + 1, none⟩ = some (.int .i64 k) := by rw [h.at_ p 1 hp (by omega), ← hk]; rfl
  have hglt : g < w.heap.size := World.block_lt_of_cell? w _ hg
  have hn' : ((ns.length : Int) == 65536) = false := by simp; omega
  have hn0 : ((ns.length : Int) == 0) = false := beq_eq_false_iff_ne.2 (by omega)
  have hp0 : (0 : Int) ≤ (p : Int) := by omega
  have hp9 : (p : Int) < (ns.length : Int) := by omega
  have hck := fun w => check_any b w
  rw [hr] at hck
  have HC := Lib.hid hck
  have hpost : ∃ r : Int, r = (if fitsB k b.k = true then 0 else 12) := ⟨_, rfl⟩
  obtain ⟨r, hr0⟩ := hpost
  rw [← hr0]
  have HR := Lib.hid hr0
  obtain ⟨fb, hfb⟩ : ∃ fb, fitsB k b.k = fb := ⟨_, rfl⟩
  have hf := fun W => fits_any k b.k W
  rw [hfb] at hf
  have HF := Lib.hid hf
  have HFB := Lib.hid hfb
  clear h hn hr hck hk hr0 hA hf hfb
  cases fb
  all_goals
    go_enter Try.func56, Try.ntmps56
    go_wp2_with (first | (go_at_call 26; refine (HC.out _).mono ?_; rintro e wx ⟨rfl, hbx⟩; have hzx := hbx.size; obtain ⟨hcx, hfx⟩ := bcell hbx; (try simp [Nat.add_one_le_iff] at hzx); have hc0 := fun o => hcx (w.heap.size) o (by first | omega | (simp; done) | (simp; omega)); (try have hz0 : w.heap.size < wx.heap.size := (by omega)); have hc1 := fun o => hcx (bt) o (by first | omega | (simp; done) | (simp; omega)); (try have hz1 : bt < wx.heap.size := (by omega)); have hc2 := fun o => hcx (g) o (by first | omega | (simp; done) | (simp; omega)); (try have hz2 : g < wx.heap.size := (by omega))))
    (refine wp_region_grow (by kernel_rfl) (by kernel_rfl) ?_; (repeat (first | (refine wpQuiet_no (by rfl) ?_; go_simp) | (refine wpQuiet_val (by rfl) _ (by intro wq hq; have hcq := (bcell hq).1; have hc0 := fun o => hcq (w.heap.size) o (by first | omega | (simp; done) | (simp; omega)); (try have hz0 : w.heap.size < wq.heap.size := (by omega)); have hc1 := fun o => hcq (bt) o (by first | omega | (simp; done) | (simp; omega)); (try have hz1 : bt < wq.heap.size := (by omega)); have hc2 := fun o => hcq (g) o (by first | omega | (simp; done) | (simp; omega)); (try have hz2 : g < wq.heap.size := (by omega)); go_simp; rfl) ?_; go_simp) | (refine wpQuiet_call (by rfl) _ _ (by intro wq hq; have hcq := (bcell hq).1; have hc0 := fun o => hcq (w.heap.size) o (by first | omega | (simp; done) | (simp; omega)); (try have hz0 : w.heap.size < wq.heap.size := (by omega)); have hc1 := fun o => hcq (bt) o (by first | omega | (simp; done) | (simp; omega)); (try have hz1 : bt < wq.heap.size := (by omega)); have hc2 := fun o => hcq (g) o (by first | omega | (simp; done) | (simp; omega)); (try have hz2 : g < wq.heap.size := (by omega)); go_simp; exact ⟨rfl, rfl⟩) _ (by intro wq hq; first | (go_at_call 27; exact Calls.grow_same hq (HF.out _))) ?_; go_simp))); refine wpQuiet_nil ?_; intro wy hbx; have hzx := hbx.size; obtain ⟨hcx, hfx⟩ := bcell hbx; have hbx' := Lies.below hbx; (try simp [Nat.add_one_le_iff] at hzx); have hc0 := fun o => hcx (w.heap.size) o (by first | omega | (simp; done) | (simp; omega)); (try have hz0 : w.heap.size < wy.heap.size := (by omega)); have hc1 := fun o => hcx (bt) o (by first | omega | (simp; done) | (simp; omega)); (try have hz1 : bt < wy.heap.size := (by omega)); have hc2 := fun o => hcx (g) o (by first | omega | (simp; done) | (simp; omega)); (try have hz2 : g < wy.heap.size := (by omega)))
    go_wp2_with fail
    go_ret
    exact ⟨ret_i (by rw [HR.out, HFB.out]; rfl), by (repeat (first | exact Below.refl _ _ | (refine Below.alloc ?_ (by first | omega | (simp; done) | (simp; omega)) _) | (refine Below.on (by assumption) ?_ (by first | omega | (simp; done) | (simp; omega))) | (refine Below.grown ?_ (by assumption) (by first | omega | (simp; done) | (simp; omega)) (by intro k hk; cases hk)) | refine Below.drew ?_))⟩
theorem within_none (bt : Nat) (p : Int) (w : World) (hp : p < 0) : Calls Try.prog 57 #[.pointer (some ⟨bt, 0, none⟩), .int .i64 p] w fun e w' => e = .returned (.int .i64 0) ∧ w = w' := by
  go_enter Try.func57, Try.ntmps57
  go_wp2_with fail
  go_ret
  exact ⟨rfl, rfl⟩
set_option maxRecDepth 20000 in
theorem within_some (bt base : Nat) (nv : Value) (ns : List (Nd × Value)) (p : Nat) (w : World) (h : TB w base bt nv ns) (hp : p < ns.length) (hL : ns.length ≤ 1000000000) :
    Calls Try.prog 57 #[.pointer (some ⟨bt, 0, none⟩), .int .i64 p] w fun e w' => e = .returned (.int .i64 (if openB (ns[p]).1.b.k = true then (p : Int) else (ns[p]).1.ctx)) ∧ w = w' := by
  obtain ⟨A, cap, rfl, hA⟩ := h.form
  have hc := h.cell0
  obtain ⟨g, rfl⟩ := hA (by omega)
  have hg : w.cell? ⟨g, p * 18 + 1, none⟩ = some (.int .i64 (ns[p]).1.b.k) := by rw [h.at_ p 1 hp (by omega)]; rfl
  have hg2 : w.cell? ⟨g, p * 18 + 16, none⟩ = some (.int .i64 (ns[p]).1.ctx) := by rw [h.at_ p 16 hp (by omega)]; rfl
  have hp0 : (0 : Int) ≤ (p : Int) := by omega
  have hp9 : (p : Int) < (ns.length : Int) := by omega
  have hd : decide ((p : Int) < 0) = false := by simp
  generalize (ns[p]).1.b.k = k at *
  generalize (ns[p]).1.ctx = c at *
  obtain ⟨r, hr0⟩ : ∃ r : Int, r = (if openB k = true then (p : Int) else c) := ⟨_, rfl⟩
  rw [← hr0]
  have HR := Lib.hid hr0
  obtain ⟨fb, hfb⟩ : ∃ fb, openB k = fb := ⟨_, rfl⟩
  have hf := fun W => open_any k W
  rw [hfb] at hf
  have HF := Lib.hid hf
  have HFB := Lib.hid hfb
  clear h hA hf hfb hr0
  cases fb
  all_goals
    go_enter Try.func57, Try.ntmps57
    go_wp2_with (go_at_call 29; refine (HF.out _).mono ?_; rintro e w' ⟨rfl, rfl⟩)
    go_ret
    exact ⟨ret_i (by rw [HR.out, HFB.out]; rfl), rfl⟩
end Go.Proofs.Ytpjngnkcjccbcaa
