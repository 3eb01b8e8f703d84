/- Rows of floats that a law makes of parts of its slice. -/
import Derived.Test.YtecojcdmigmnhaaSp9
import Derived.Maps.AppendAt
namespace Go.Proofs.Ytecojcdmigmnhaa
set_option linter.unusedSimpArgs false
set_option linter.unusedVariables false
open Go.RowKit
theorem foC_len (f : Fo) : (foC f).length = 5 := rfl
theorem foC_one (f : Fo) : ∀ u ∈ foC f, u.oneCell' = true := by simp [foC, Value.oneCell']
theorem isFos_of_own {w : World} {base n : Nat} {e : TypeId} {v : Value} {L : List Fo} (h : w.ownsRow base e 5 v n (flat foC L)) (hn : n = L.length) : IsFos w v L := by
  subst hn
  rcases Nat.eq_zero_or_pos L.length with h0 | h0
  · rcases h.2 with ⟨rfl, _⟩ | ⟨g, cap, cur, rfl, _, _, hc, _⟩
    · exact ⟨none, 0, by rw [h0], by omega, fun h => by omega⟩
    · exact ⟨_, cap, rfl, hc, fun h => by omega⟩
  · obtain ⟨g, cap, rfl, hc, hg, hgl⟩ := own_form h h0 rfl
    refine ⟨_, cap, rfl, hc, fun _ => ⟨g, 0, rfl, hgl, fun k hk j v hv => ?_⟩⟩
    have hj : j < 5 := (List.getElem?_eq_some_iff.1 hv).1
    rw [Nat.zero_add, h.cellAt _ (by omega), flat_get foC_len L k j hk hj, ← foAt_eq L k hk]
    exact hv
theorem fos_news {w : World} {g o : Nat} {L : List Fo} (hs : ∀ k, k < L.length → w.rangeAt g (o + k * 5) (foC (foAt L k))) (a b : Nat) (hb : b ≤ L.length) : ∀ j u, (flat foC ((L.take b).drop a))[j]? = some u → w.cell? ((⟨g, o + a * 5, none⟩ : Addr).add j) = some u := by
  intro j u hu
  have hl := flat_len foC_len ((L.take b).drop a)
  rw [List.length_drop, List.length_take] at hl
  have hj : j < (flat foC ((L.take b).drop a)).length := (List.getElem?_eq_some_iff.1 hu).1
  have e : j = j / 5 * 5 + j % 5 := by omega
  rw [e, flat_get foC_len _ (j / 5) (j % 5) (by rw [List.length_drop, List.length_take]; omega) (by omega)] at hu
  rw [Addr.add_mid, show o + a * 5 + j = o + (a + j / 5) * 5 + j % 5 by omega]
  refine hs (a + j / 5) (by omega) (j % 5) u ?_
  rw [foAt_eq _ _ (by omega)]
  rw [← hu]
  congr 2
  rw [List.getElem_drop, List.getElem_take]
section
variable {P : Program}
/-- 'append(s, xs...)' in a drawn region, however long xs is (nothing at all, too). -/
theorem step_append_own {ops : Array Oper} {o : Oper} {a : Act} {w : World} {K : Act → World → Prop} {Q : Exit → Act → World → Prop} {E : Prop} (hgd : o.guard = none) (s x : Operand) (t : TypeId)
    (ho : o.op = .call { callee := .builtin .append, args := #[s, x], argTypes := #[t, t] })
    (base : Nat) (e : TypeId) (i : TypeInfo) (z : Value) (size bytes : Nat) (ht : P.underlying t = some (.slice e)) (hi : P.info? e = some i) (hz : i.zero = some z)
    (hsize : i.size = size) (hby : i.bytes = bytes) (hzs : z.cells.size = size) (hsz : 0 < size)
    (v : Value) (n : Nat) (xs : List Value) (hs : a.eval s = v) (hown : w.ownsRow base e size v n xs)
    (ad : Addr) (m c : Nat) (news : List Value) (hx : a.eval x = .slice (some ad) m c) (hl : news.length = m * size) (hnews : ∀ j u, news[j]? = some u → w.cell? (ad.add j) = some u) (h1 : ∀ u ∈ news, u.oneCell' = true)
    (h63 : n + m ≤ maxLen) (hbytes : (n + m) * bytes ≤ 140737488355328) (hbase : base ≤ w.heap.size)
    (h : ∀ v' w', w'.ownsRow base e size v' (n + m) (xs ++ news) → w.grownBy w' v.ownBlock → (v'.ownBlock = v.ownBlock ∨ v'.ownBlock = some w.heap.size) → K (a.put o.dst v') w') :
    if Region.wanted o (yielded ops a.tmps) = true then Oper.wp P o a w K Q else E := by
  have hw : Region.wanted o (yielded ops a.tmps) = true := by simp [Region.wanted, hgd]
  rw [if_pos hw]
  obtain ⟨v', w', hr, h2, h3, _, h5⟩ := run_append_own_at (P := P) w base t o.type e i z size bytes ht hi hz hsize hby hzs hsz v n xs hown ad m c news hl hnews h1 h63 hbytes hbase
  unfold Oper.wp execOp
  simp only [ho, resolve, invoke, builtin, Sem.run_bind, Sem.run_pure, Result.andThen_ok, List.map_toArray, List.map_cons, List.map_nil, hs, hx, hr]
  exact h v' w' h2 h3 h5
end
end Go.Proofs.Ytecojcdmigmnhaa
