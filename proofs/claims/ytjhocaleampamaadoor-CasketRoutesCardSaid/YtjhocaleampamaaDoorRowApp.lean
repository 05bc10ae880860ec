/- append of one record to an owned row. -/
import Derived.Test.YtjhocaleampamaaDoorRow
namespace Go.Proofs.YtjhocaleampamaaDoor
open Go.RowKit
theorem run_appr {w : World} {base : Nat} {e t : TypeId} {sz : Nat} {v : Value} {rs : List (List Value)} (i : TypeInfo) (z : Value) (ht : Tryd.prog.underlying t = some (.slice e)) (hi : Tryd.prog.info? e = some i) (hz : i.zero = some z) (hsz : i.size = sz)
    (hby : i.bytes ≤ 1000) (hzs : z.cells.size = sz) (hpos : 0 < sz) (ty : TypeId) (h : RW w base e sz v rs) {gs os : Nat} {r : List Value} (hsrc : w.rangeAt gs os r) (hr : r.length = sz) (h1 : ∀ u ∈ r, u.oneCell' = true)
    (hlen : rs.length + 1 ≤ 100000000) (hb : base ≤ w.heap.size) :
    ∃ v' w', (Builtin.append_ #[t, t] ty #[v, .slice (some ⟨gs, os, none⟩) 1 1]).run Tryd.prog w = .ok v' w' ∧ RW w' base e sz v' (rs ++ [r]) ∧ w.grownBy w' v.ownBlock ∧ (v'.ownBlock = v.ownBlock ∨ v'.ownBlock = some w.heap.size) := by
  obtain ⟨v', w', hrun, ho, hg, _, hn⟩ := run_append_own_at (P := Tryd.prog) (w := w) base t ty e i z sz i.bytes ht hi hz hsz rfl hzs hpos v rs.length rs.flatten h.1 ⟨gs, os, none⟩ 1 1 r (by omega)
    (fun j u hu => by rw [Addr.add_mid]; exact hsrc j u hu) h1 (by unfold maxLen; omega) (by
      have : (rs.length + 1) * i.bytes ≤ 100000000 * 1000 := Nat.mul_le_mul hlen hby
      omega) hb
  refine ⟨v', w', hrun, ⟨?_, ?_⟩, hg, hn⟩
  · rw [List.length_append, List.flatten_append]; simpa using ho
  · intro q hq
    rcases List.mem_append.1 hq with hq | hq
    · exact h.2 q hq
    · rw [List.mem_singleton.1 hq]; exact hr
theorem step_appr {w : World} {ops : Array Oper} {o : Oper} {a : Act} {K : Act → World → Prop} {Q : Exit → Act → World → Prop} {E : Prop} (hgd : o.guard = none) (s x : Operand) (t : TypeId)
    (ho : o.op = .call { callee := .builtin .append, args := #[s, x], argTypes := #[t, t] })
    {base : Nat} {e : TypeId} {sz : Nat} {v : Value} {rs : List (List Value)} (i : TypeInfo) (z : Value) (ht : Tryd.prog.underlying t = some (.slice e)) (hi : Tryd.prog.info? e = some i) (hz : i.zero = some z) (hsz : i.size = sz)
    (hby : i.bytes ≤ 1000) (hzs : z.cells.size = sz) (hpos : 0 < sz) (h : RW w base e sz v rs) {gs os : Nat} {r : List Value} (hsrc : w.rangeAt gs os r) (hr : r.length = sz) (h1 : ∀ u ∈ r, u.oneCell' = true)
    (hlen : rs.length + 1 ≤ 100000000) (hb : base ≤ w.heap.size) (hs : a.eval s = v) (hx : a.eval x = .slice (some ⟨gs, os, none⟩) 1 1)
    (hK : ∀ v' w', RW w' base e sz v' (rs ++ [r]) → w.grownBy w' v.ownBlock → (v'.ownBlock = v.ownBlock ∨ v'.ownBlock = some w.heap.size) → K (a.put o.dst v') w') :
    if Region.wanted o (yielded ops a.tmps) = true then Oper.wp Tryd.prog o a w K Q else E := by
  have hw : Region.wanted o (yielded ops a.tmps) = true := by simp [Region.wanted, hgd]
  rw [if_pos hw]
  obtain ⟨v', w', hrun, k1, k2, k3⟩ := run_appr i z ht hi hz hsz hby hzs hpos o.type h hsrc hr h1 hlen hb
  unfold Oper.wp execOp
  simp only [ho, resolve, invoke, builtin, Sem.run_bind, Sem.run_pure, Result.andThen_ok, List.map_toArray, List.map_cons, List.map_nil, hs, hx, hrun]
  exact hK v' w' k1 k2 k3
end Go.Proofs.YtjhocaleampamaaDoor
