/- Spaces: First. -/
import Derived.Test.YtecojcdmigmnhaaSpg
import Derived.Test.YtecojcdmigmnhaaFst
namespace Go.Proofs.Ytecojcdmigmnhaa
set_option linter.unusedSimpArgs false
set_option linter.unusedVariables false
open Go.RowKit
def SoPost (so : Int → Bool) (Inv : List Int → World → Prop) (A : List Int) (y : Int) (e : Ending) (w' : World) : Prop := e = .returned (.bool (so y)) ∧ Inv (A ++ [y]) w'
def FirstPost (so : Int → Bool) (Inv : List Int → World → Prop) (y : Int) (S : List Sh) (e : Ending) (w' : World) : Prop := e = .returned (.int .i64 (firstL so y S)) ∧ Inv (askL so y S) w'
/-- What stands in First's loop. -/
def FiInv (so : Int → Bool) (Inv : List Int → World → Prop) (F : List Sh) (res : Int) (asked : List Int) (y : Int) (wr : World) : Prop := ∃ A, Inv A wr ∧ firstL so y (rest F y) = res ∧ A ++ askL so y (rest F y) = asked
set_option maxRecDepth 20000 in
set_option maxHeartbeats 2000000 in
theorem first_any (L : List Fo) (so : Int → Bool) (n : FuncId) (c : Array Value) (base sp : Nat) (Inv : List Int → World → Prop) (Q : Int → Prop)
    (hcf : ∀ (y : Int) (w : World), Sem.run Try.prog (callFunc n (#[.int .i64 y] ++ c)) w = .ok (.enter n (#[.int .i64 y] ++ c)) w)
    (hsp : ∀ A w, Inv A w → SpaceIs w base sp L) (hbl : ∀ A w w', Inv A w → Below w.heap.size w w' → Inv A w')
    (hso : ∀ A y w, Inv A w → Q y → Calls Try.prog n (#[.int .i64 y] ++ c) w (SoPost so Inv A y)) (hk : SpOk L) (y : Int) (hy : Q y) (hq : ∀ s ∈ full (shelves L), Q s.t) (w : World) (h : Inv [] w) :
    Calls Try.prog 21 #[.pointer (some ⟨sp, 0, none⟩), .int .i64 y, .func (.func n) #[] c] w (FirstPost so Inv y (rest (full (shelves L)) y)) := by
  obtain ⟨F, hF⟩ : ∃ F, full (shelves L) = F := ⟨_, rfl⟩
  have hasc := hk.asc
  have hlen := hk.len
  have hpos := SpOk.pos L
  rw [hF] at hq hasc hlen hpos ⊢
  have haf := fun lp y w (h : ListIs w base lp F) => after_any F y base lp w h hasc (by omega) hpos
  unfold AftPost at haf
  have hrc := fun y (h : below F y < F.length) => rest_cons hasc h
  have hli : ∀ A w, Inv A w → ∃ lp, w.cell? ⟨sp, 0, none⟩ = some (.pointer (some ⟨lp, 0, none⟩)) ∧ ListIs w base lp F := by
    intro A w h
    obtain ⟨lp, v, q1, q2, q3, q4⟩ := hsp A w h
    rw [hF] at q3
    exact ⟨lp, cell_of_row w sp 0 _ _ (0, 0) q1, q3⟩
  unfold FirstPost
  obtain ⟨res, hres⟩ : ∃ r, firstL so y (rest F y) = r := ⟨_, rfl⟩
  obtain ⟨ask, hask⟩ : ∃ r, askL so y (rest F y) = r := ⟨_, rfl⟩
  rw [hres, hask]
  have hI : FiInv so Inv F res ask y w := ⟨[], h, hres, hask⟩
  have HI := Lib.hid hI
  have HAF := Lib.hid haf
  have HRC := Lib.hid hrc
  have HLI := Lib.hid hli
  have HSO := Lib.hid hso
  have HBL := Lib.hid hbl
  have HQ := Lib.hid hq
  have HQY := Lib.hid hy
  clear hI haf hrc hli hso hbl hq hy hsp hres hask hk hasc h hlen hpos hF
  go_enter Try.func21, Try.ntmps21
  go_wp2_with fail
  go_loopw [1] (fun x wr => ∃ y : Int, x = .int .i64 y ∧ Hid (Q y ∧ FiInv so Inv F res ask y wr)) (fun x _ => (rest F (intOf x)).length)
  case atStart => exact ⟨y, rfl, Lib.hid ⟨HQY.out, HI.out⟩⟩
  case round =>
    obtain ⟨y, rfl, hI⟩ := hrel
    obtain ⟨hqy, A, hinv, hre, has⟩ := hI.out
    have hcall := HSO.out A y wr hinv hqy
    unfold SoPost at hcall
    cases hso : so y with
    | true =>
      obtain ⟨e1, e2⟩ := firstL_true hso (rest F y)
      rw [e1] at hre
      rw [e2] at has
      subst hre
      rw [hso] at hcall
      have HC := Lib.hid hcall
      have HAS := Lib.hid has
      clear hcall has e1 e2 hinv hI hso
      go_wp2_with fail
      refine HC.out.mono ?_
      rintro e w1 ⟨rfl, hi1⟩
      have HI1 := Lib.hid hi1
      clear hi1
      go_wp2_with fail
      go_ret
      exact ⟨rfl, by rw [← HAS.out]; exact HI1.out⟩
    | false =>
      rw [hso] at hcall
      have HC := Lib.hid hcall
      have HAS := Lib.hid has
      have HRE := Lib.hid hre
      have HSF := Lib.hid hso
      clear hcall has hre hinv hI hso
      go_wp2_with fail
      refine HC.out.mono ?_
      rintro e w1 ⟨rfl, hi1⟩
      obtain ⟨lp, c0, hl⟩ := HLI.out _ _ hi1
      have HI1 := Lib.hid hi1
      have HL := Lib.hid hl
      clear hi1 hl
      by_cases hb : below F y < F.length
      · have hrc := HRC.out y hb
        have haf := HAF.out lp y w1 HL.out
        rw [if_pos hb] at haf
        have hmem := HQ.out (shAt F (below F y)) (by rw [shAt_eq F _ hb]; exact List.getElem_mem hb)
        have hre := HRE.out
        have has := HAS.out
        have hms : (rest F (shAt F (below F y)).t).length < (rest F y).length := by rw [hrc]; simp
        rw [hrc] at hre has
        rw [(firstL_false HSF.out _ _).1] at hre
        rw [(firstL_false HSF.out _ _).2] at has
        have HMS := Lib.hid hms
        have HAFT := Lib.hid haf
        have hn : ∀ w2, Below w1.heap.size w1 w2 → Q (shAt F (below F y)).t ∧ FiInv so Inv F res ask (shAt F (below F y)).t w2 := fun w2 hb2 => ⟨hmem, A ++ [y], HBL.out _ _ _ HI1.out hb2, hre, by rw [List.append_assoc, List.singleton_append]; exact has⟩
        have HN := Lib.hid hn
        clear hn hmem hre has hms haf hrc hb
        generalize (shAt F (below F y)).t = t at *
        go_wp2_with fail
        refine HAFT.out.mono ?_
        rintro e w2 ⟨rfl, hb2⟩
        have HN2 := Lib.hid (HN.out w2 hb2)
        clear hb2
        go_wp2_with fail
        go_roundw
        case rel => exact ⟨t, rfl, HN2⟩
        case measure => simp [intOf]; exact HMS.out
      · have haf := HAF.out lp y w1 HL.out
        rw [if_neg hb] at haf
        have hr0 := rest_nil hb
        have hre := HRE.out
        have has := HAS.out
        rw [hr0] at hre has
        have hre' : y = res := hre
        subst hre'
        have HAS' := Lib.hid has
        have HAFT := Lib.hid haf
        clear hre has haf hr0 hb HRE HAS
        go_wp2_with fail
        refine HAFT.out.mono ?_
        rintro e w2 ⟨rfl, hb2⟩
        have HN2 := Lib.hid (HBL.out _ _ _ HI1.out hb2)
        clear hb2
        go_wp2_with fail
        go_ret
        exact ⟨rfl, by rw [← HAS'.out]; exact HN2.out⟩
end Go.Proofs.Ytecojcdmigmnhaa
