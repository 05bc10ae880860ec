/- append to an owned row, from a source that is read. -/
import Derived.Test.YtjhocaleampamaaDoorRowApps
namespace Go.Proofs.YtjhocaleampamaaDoor
open Go.RowKit
/-- v2 can be read as the records ns. -/
def Src (w : World) (sz : Nat) (v2 : Value) (ns : List (List Value)) : Prop := Even sz ns ∧ (∀ u ∈ ns.flatten, u.oneCell' = true) ∧
  ((v2 = .slice none 0 0 ∧ ns = []) ∨ ∃ ad c, v2 = .slice (some ad) ns.length c ∧ ∀ j u, ns.flatten[j]? = some u → w.cell? (ad.add j) = some u)
theorem RW.src {w : World} {base : Nat} {e : TypeId} {sz : Nat} {v : Value} {rs : List (List Value)} (h : RW w base e sz v rs) (h1 : ∀ u ∈ rs.flatten, u.oneCell' = true) : Src w sz v rs := by
  refine ⟨h.2, h1, ?_⟩
  obtain ⟨hl, h2⟩ := id h.1
  rcases h2 with ⟨rfl, h0⟩ | ⟨g, cap, cur, rfl, hb, hg, hn, hc, hs, ht⟩
  · exact .inl ⟨rfl, List.eq_nil_of_length_eq_zero h0⟩
  · refine .inr ⟨⟨g, 0, none⟩, cap, rfl, fun j u hu => ?_⟩
    have hj : j < rs.length * sz := by rw [← hl]; exact (List.getElem?_eq_some_iff.1 hu).1
    rw [Addr.add_mid, Nat.zero_add, World.ownsRow.cellAt h.1 j hj]; exact hu
theorem run_appsv {w : World} {base : Nat} {e t : TypeId} {sz : Nat} {v v2 : Value} {rs ns : List (List Value)} (i : TypeInfo) (z : Value) (ht : Tryd.prog.underlying t = some (.slice e)) (hi : Tryd.prog.info? e = some i) (hz : i.zero = some z) (hsz : i.size = sz)
    (hby : i.bytes ≤ 1000) (hzs : z.cells.size = sz) (hpos : 0 < sz) (ty : TypeId) (h : RW w base e sz v rs) (hs : Src w sz v2 ns)
    (hlen : rs.length + ns.length ≤ 100000000) (hb : base ≤ w.heap.size) :
    ∃ v' w', (Builtin.append_ #[t, t] ty #[v, v2]).run Tryd.prog w = .ok v' w' ∧ RW w' base e sz v' (rs ++ ns) ∧ w.grownBy w' v.ownBlock ∧ (v'.ownBlock = v.ownBlock ∨ v'.ownBlock = some w.heap.size) := by
  obtain ⟨hev, h1, hs⟩ := hs
  rcases hs with ⟨rfl, rfl⟩ | ⟨ad, c, rfl, hc⟩
  · refine ⟨v, w, run_append_owned_none (P := Tryd.prog) (w := w) base t ty e i sz ht hi v rs.length rs.flatten h.1, by rw [List.append_nil]; exact h, World.grownBy.refl _ _, .inl rfl⟩
  · obtain ⟨v', w', hrun, ho, hg, _, hn⟩ := run_append_own_at (P := Tryd.prog) (w := w) base t ty e i z sz i.bytes ht hi hz hsz rfl hzs hpos v rs.length rs.flatten h.1 ad ns.length c ns.flatten hev.flat hc h1 (by unfold maxLen; omega) (by
      have : (rs.length + ns.length) * i.bytes ≤ 100000000 * 1000 := Nat.mul_le_mul hlen hby
      omega) hb
    refine ⟨v', w', hrun, ⟨?_, ?_⟩, hg, hn⟩
    · rw [List.length_append, List.flatten_append]; exact ho
    · intro q hq
      rcases List.mem_append.1 hq with hq | hq
      · exact h.2 q hq
      · exact hev q hq
theorem step_appsv {w : World} {ops : Array Oper} {o : Oper} {a : Act} {K : Act → World → Prop} {Q : Exit → Act → World → Prop} {E : Prop} (hgd : o.guard = none) (s x : Operand) (t : TypeId)
    (ho : o.op = .call { callee := .builtin .append, args := #[s, x], argTypes := #[t, t] })
    {base : Nat} {e : TypeId} {sz : Nat} {v v2 : Value} {rs ns : List (List Value)} (i : TypeInfo) (z : Value) (ht : Tryd.prog.underlying t = some (.slice e)) (hi : Tryd.prog.info? e = some i) (hz : i.zero = some z) (hsz : i.size = sz)
    (hby : i.bytes ≤ 1000) (hzs : z.cells.size = sz) (hpos : 0 < sz) (h : RW w base e sz v rs) (hs : Src w sz v2 ns)
    (hlen : rs.length + ns.length ≤ 100000000) (hb : base ≤ w.heap.size) (hes : a.eval s = v) (hx : a.eval x = v2)
    (hK : ∀ v' w', RW w' base e sz v' (rs ++ ns) → w.grownBy w' v.ownBlock → (v'.ownBlock = v.ownBlock ∨ v'.ownBlock = some w.heap.size) → K (a.put o.dst v') w') :
    if Region.wanted o (yielded ops a.tmps) = true then Oper.wp Tryd.prog o a w K Q else E := by
  have hw : Region.wanted o (yielded ops a.tmps) = true := by simp [Region.wanted, hgd]
  rw [if_pos hw]
  obtain ⟨v', w', hrun, k1, k2, k3⟩ := run_appsv i z ht hi hz hsz hby hzs hpos o.type h hs hlen hb
  unfold Oper.wp execOp
  simp only [ho, resolve, invoke, builtin, Sem.run_bind, Sem.run_pure, Result.andThen_ok, List.map_toArray, List.map_cons, List.map_nil, hes, hx, hrun]
  exact hK v' w' k1 k2 k3
theorem Src.only {S : Nat → Prop} {w w' : World} {sz : Nat} {v2 : Value} {ns : List (List Value)} (h : Src w sz v2 ns) (ho : Only S w w') (hn : ns ≠ [] → ∀ k, v2.ownBlock = some k → ¬ S k) : Src w' sz v2 ns := by
  obtain ⟨hev, h1, hs⟩ := h
  refine ⟨hev, h1, ?_⟩
  rcases hs with hs | ⟨ad, c, rfl, hc⟩
  · exact .inl hs
  · refine .inr ⟨ad, c, rfl, fun j u hu => ?_⟩
    have hne : ns ≠ [] := by rintro rfl; simp at hu
    have h0 := hc j u hu
    have hlt := World.block_lt_of_cell? w _ h0
    have hb : (ad.add j).block = ad.block := by unfold Addr.add; split <;> rfl
    rw [ho.cell hlt (by rw [hb]; exact hn hne ad.block rfl)]; exact h0
theorem Src.keep {w w' : World} {sz : Nat} {v2 : Value} {ns : List (List Value)} (h : Src w sz v2 ns) (hb : Below w.heap.size w w') : Src w' sz v2 ns := h.only (Only.of_below (S := fun _ => False) hb) (fun _ _ _ h => h)
end Go.Proofs.YtjhocaleampamaaDoor
