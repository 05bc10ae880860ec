/- append of many records to an owned row. -/
import Derived.Test.YtjhocaleampamaaDoorRowApp
namespace Go.Proofs.YtjhocaleampamaaDoor
open Go.RowKit
theorem run_apprs {w : World} {base b2 : Nat} {e t : TypeId} {sz : Nat} {v : Value} {rs ns : List (List Value)} (i : TypeInfo) (z : Value) (ht : Tryd.prog.underlying t = some (.slice e)) (hi : Tryd.prog.info? e = some i) (hz : i.zero = some z) (hsz : i.size = sz)
    (hby : i.bytes ≤ 1000) (hzs : z.cells.size = sz) (hpos : 0 < sz) (ty : TypeId) (h : RW w base e sz v rs) {gs m c : Nat} (hs : RW w b2 e sz (.slice (some ⟨gs, 0, none⟩) m c) ns) (hm : m = ns.length) (h1 : ∀ u ∈ ns.flatten, u.oneCell' = true)
    (hlen : rs.length + m ≤ 100000000) (hb : base ≤ w.heap.size) :
    ∃ v' w', (Builtin.append_ #[t, t] ty #[v, .slice (some ⟨gs, 0, none⟩) m c]).run Tryd.prog w = .ok v' w' ∧ RW w' base e sz v' (rs ++ ns) ∧ w.grownBy w' v.ownBlock ∧ (v'.ownBlock = v.ownBlock ∨ v'.ownBlock = some w.heap.size) ∧ (v' = .slice none 0 0 ↔ v = .slice none 0 0 ∧ m = 0) := by
  have o2 := hs.1
  rw [← hm] at o2
  have hfl : ns.flatten.length = m * sz := by rw [hs.2.flat, hm]
  obtain ⟨v', w', hrun, ho, hg, hz0, hn⟩ := run_append_own_at (P := Tryd.prog) (w := w) base t ty e i z sz i.bytes ht hi hz hsz rfl hzs hpos v rs.length rs.flatten h.1 ⟨gs, 0, none⟩ m c ns.flatten hfl
    (fun j u hu => by
      have hj : j < m * sz := by have := (List.getElem?_eq_some_iff.1 hu).1; omega
      rw [Addr.add_mid, Nat.zero_add, World.ownsRow.cellAt o2 j hj]; exact hu) h1 (by unfold maxLen; omega) (by
      have : (rs.length + m) * i.bytes ≤ 100000000 * 1000 := Nat.mul_le_mul hlen hby
      omega) hb
  refine ⟨v', w', hrun, ⟨?_, ?_⟩, hg, hn, hz0⟩
  · rw [List.length_append, List.flatten_append, ← hm]; exact ho
  · intro q hq
    rcases List.mem_append.1 hq with hq | hq
    · exact h.2 q hq
    · exact hs.2 q hq
theorem step_apprs {w : World} {ops : Array Oper} {o : Oper} {a : Act} {K : Act → World → Prop} {Q : Exit → Act → World → Prop} {E : Prop} (hgd : o.guard = none) (s x : Operand) (t : TypeId)
    (ho : o.op = .call { callee := .builtin .append, args := #[s, x], argTypes := #[t, t] })
    {base b2 : Nat} {e : TypeId} {sz : Nat} {v : Value} {rs ns : List (List Value)} (i : TypeInfo) (z : Value) (ht : Tryd.prog.underlying t = some (.slice e)) (hi : Tryd.prog.info? e = some i) (hz : i.zero = some z) (hsz : i.size = sz)
    (hby : i.bytes ≤ 1000) (hzs : z.cells.size = sz) (hpos : 0 < sz) (h : RW w base e sz v rs) {gs m c : Nat} (hs : RW w b2 e sz (.slice (some ⟨gs, 0, none⟩) m c) ns) (hm : m = ns.length) (h1 : ∀ u ∈ ns.flatten, u.oneCell' = true)
    (hlen : rs.length + m ≤ 100000000) (hb : base ≤ w.heap.size) (hes : a.eval s = v) (hx : a.eval x = .slice (some ⟨gs, 0, none⟩) m c)
    (hK : ∀ v' w', RW w' base e sz v' (rs ++ ns) → w.grownBy w' v.ownBlock → (v'.ownBlock = v.ownBlock ∨ v'.ownBlock = some w.heap.size) → (v' = .slice none 0 0 ↔ v = .slice none 0 0 ∧ m = 0) → K (a.put o.dst v') w') :
    if Region.wanted o (yielded ops a.tmps) = true then Oper.wp Tryd.prog o a w K Q else E := by
  have hw : Region.wanted o (yielded ops a.tmps) = true := by simp [Region.wanted, hgd]
  rw [if_pos hw]
  obtain ⟨v', w', hrun, k1, k2, k3, k4⟩ := run_apprs i z ht hi hz hsz hby hzs hpos o.type h hs hm h1 hlen hb
  unfold Oper.wp execOp
  simp only [ho, resolve, invoke, builtin, Sem.run_bind, Sem.run_pure, Result.andThen_ok, List.map_toArray, List.map_cons, List.map_nil, hes, hx, hrun]
  exact hK v' w' k1 k2 k3 k4
theorem wp_apprs {w : World} {ops : Array Oper} {rest : List Oper} {o : Oper} {a : Act} {Q : Exit → Act → World → Prop} (hgd : o.guard = none) (s x : Operand) (t : TypeId)
    (ho : o.op = .call { callee := .builtin .append, args := #[s, x], argTypes := #[t, t] })
    {base b2 : Nat} {e : TypeId} {sz : Nat} {v : Value} {rs ns : List (List Value)} (i : TypeInfo) (z : Value) (ht : Tryd.prog.underlying t = some (.slice e)) (hi : Tryd.prog.info? e = some i) (hz : i.zero = some z) (hsz : i.size = sz)
    (hby : i.bytes ≤ 1000) (hzs : z.cells.size = sz) (hpos : 0 < sz) (h : RW w base e sz v rs) {gs m c : Nat} (hs : RW w b2 e sz (.slice (some ⟨gs, 0, none⟩) m c) ns) (hm : m = ns.length) (h1 : ∀ u ∈ ns.flatten, u.oneCell' = true)
    (hlen : rs.length + m ≤ 100000000) (hb : base ≤ w.heap.size) (hes : a.eval s = v) (hx : a.eval x = .slice (some ⟨gs, 0, none⟩) m c)
    (hK : ∀ v' w', RW w' base e sz v' (rs ++ ns) → w.grownBy w' v.ownBlock → (v'.ownBlock = v.ownBlock ∨ v'.ownBlock = some w.heap.size) → (v' = .slice none 0 0 ↔ v = .slice none 0 0 ∧ m = 0) → wpList Tryd.prog ops Q rest (a.put o.dst v') w') :
    wpList Tryd.prog ops Q (o :: rest) a w := by
  refine wpList_plain hgd fun K hK' => ?_
  obtain ⟨v', w', hrun, k1, k2, k3, k4⟩ := run_apprs i z ht hi hz hsz hby hzs hpos o.type h hs hm h1 hlen hb
  unfold Oper.wp execOp
  simp only [ho, resolve, invoke, builtin, Sem.run_bind, Sem.run_pure, Result.andThen_ok, List.map_toArray, List.map_cons, List.map_nil, hes, hx, hrun]
  exact hK' _ _ (hK v' w' k1 k2 k3 k4)
end Go.Proofs.YtjhocaleampamaaDoor
