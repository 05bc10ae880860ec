/- The words that all walks of this seat use: what a slice of bytes is, and small lemmas on worlds. -/
import Derived.Test.YtjhocaleampamaaDoorRows
import Derived.WalkKit
import Derived.WalkSpells
import Derived.WalkLawsBesides
import Derived.Handy
import Derived.Lib.Hide
import Derived.Laws.AppendOwnNone
import Derived.Laws.BytesArg
import Derived.Maps.AppendAt
namespace Go.Proofs.YtjhocaleampamaaDoor
open Go.RowKit
/-- v is a slice of the bytes l. -/
def Bsl (w : World) (v : Value) (l : List UInt8) : Prop :=
  ∃ ao cap, v = .slice ao l.length cap ∧ l.length ≤ cap ∧ cap ≤ 9223372036854775807 ∧ (ao = none → cap = 0) ∧
    (l ≠ [] → ∃ b off, ao = some ⟨b, off, none⟩ ∧ ∀ j, j < l.length → w.cell? ⟨b, off + j, none⟩ = some (.int .u8 ((l.getD j 0).toNat : Int)))
theorem Bsl.keep {w w' : World} {v : Value} {l : List UInt8} (h : Bsl w v l) (hb : Below w.heap.size w w') : Bsl w' v l := by
  obtain ⟨ao, cap, rfl, h1, h2, h3, h4⟩ := h
  refine ⟨ao, cap, rfl, h1, h2, h3, fun hne => ?_⟩
  obtain ⟨b, off, rfl, hc⟩ := h4 hne
  refine ⟨b, off, rfl, fun j hj => ?_⟩
  have := hc j hj
  rw [hb.cell (World.block_lt_of_cell? w _ this)]; exact this
/-- A byte's cell. -/
def bv (c : UInt8) : Value := .int .u8 (c.toNat : Int)
/-- v is a slice of the bytes l in memory that was made from block 'base' on, and that nobody else holds. -/
def OB (w : World) (base : Nat) (v : Value) (l : List UInt8) : Prop := w.ownsRow base 5 1 v l.length (l.map bv)
theorem OB.bsl {w : World} {base : Nat} {v : Value} {l : List UInt8} (h : OB w base v l) : Bsl w v l := by
  have hcell : ∀ g, v.ownBlock = some g → ∀ j u, (l.map bv)[j]? = some u → w.cell? ((⟨g, 0, none⟩ : Addr).add j) = some u := fun g hg => World.ownsRow.cells h hg
  obtain ⟨_, h2⟩ := h
  rcases h2 with ⟨rfl, h0⟩ | ⟨g, cap, cur, rfl, hb, hg, hn, hc, hs, ht⟩
  · refine ⟨none, 0, by rw [h0], by omega, by omega, fun _ => rfl, fun hne => ?_⟩
    exact absurd (List.eq_nil_of_length_eq_zero h0) hne
  · refine ⟨_, cap, rfl, hn, by unfold maxLen at hc; omega, (by simp), fun _ => ⟨g, 0, rfl, fun j hj => ?_⟩⟩
    have := hcell g rfl j (bv (l.getD j 0)) (by simp [List.getD, hj])
    rw [Addr.add_lit] at this; exact this
theorem OB.keep {w w' : World} {base : Nat} {v : Value} {l : List UInt8} (h : OB w base v l) (hb : Below w.heap.size w w') : OB w' base v l := by
  refine World.ownsRow.kept (row := none) h ⟨hb.os, hb.tape, hb.output, hb.size, fun k hk _ => hb.block k hk⟩ ?_
  cases hv : v.ownBlock <;> simp
theorem OB.mono {w : World} {b b' : Nat} {v : Value} {l : List UInt8} (h : OB w b v l) (hb : b' ≤ b) : OB w b' v l := by
  obtain ⟨h1, h2⟩ := h
  refine ⟨h1, ?_⟩
  rcases h2 with h2 | ⟨g, cap, cur, hv, hg, r⟩
  · exact .inl h2
  · exact .inr ⟨g, cap, cur, hv, Nat.le_trans hb hg, r⟩
theorem OB.drew {w : World} {base : Nat} {v : Value} {l : List UInt8} (h : OB w base v l) : OB w.drew base v l := h
theorem OB.nil (w : World) (base : Nat) : OB w base (.slice none 0 0) [] := World.ownsRow_nil _ _ _ _
theorem Below.of_grown {w w' : World} {B : Nat} {row : Option Nat} (hg : w.grownBy w' row) (hB : B ≤ w.heap.size) (hr : ∀ k, row = some k → B ≤ k) : Below B w w' :=
  (Below.refl B w).grown hg hB hr
theorem OB.own_ge {w : World} {base : Nat} {v : Value} {l : List UInt8} (h : OB w base v l) : ∀ k, v.ownBlock = some k → base ≤ k := fun k hk => (World.ownsRow.lt h k hk).1
theorem OB.own_lt {w : World} {base : Nat} {v : Value} {l : List UInt8} (h : OB w base v l) : ∀ k, v.ownBlock = some k → k < w.heap.size := fun k hk => (World.ownsRow.lt h k hk).2
theorem bv_one (l : List UInt8) : ∀ u ∈ l.map bv, u.oneCell' = true := by
  intro u hu; obtain ⟨_, _, rfl⟩ := List.mem_map.1 hu; rfl
theorem Tryd.info_u8 : (Tryd.prog.info? 5).map (fun i => (i.zero, i.size, i.bytes)) = some (some (.int .u8 0), 1, 1) := by kernel_rfl
theorem Bsl.one (w : World) (n : Int) (h : 0 ≤ n ∧ n ≤ 255) : Bsl (w.alloc (.cells #[.int .u8 n] 5)) (.slice (some ⟨w.heap.size, 0, none⟩) 1 1) [UInt8.ofNat n.toNat] := by
  refine ⟨_, 1, rfl, by simp, by omega, by simp, fun _ => ⟨w.heap.size, 0, rfl, fun j hj => ?_⟩⟩
  simp at hj; subst hj
  have h2 : ((UInt8.ofNat n.toNat).toNat : Int) = n := by simp; omega
  have h3 : (w.alloc (.cells #[.int .u8 n] 5)).cell? ⟨w.heap.size, 0, none⟩ = some (.int .u8 n) := by
    rw [World.cell?_alloc_new]; rfl
  show (w.alloc (.cells #[.int .u8 n] 5)).cell? ⟨w.heap.size, 0, none⟩ = _
  rw [h3]
  show some (Value.int .u8 n) = some (.int .u8 ((UInt8.ofNat n.toNat).toNat : Int))
  rw [h2]
theorem run_app (w : World) (base : Nat) (ty : TypeId) (v v2 : Value) (l m : List UInt8) (h : OB w base v l) (h2 : Bsl w v2 m) (hlen : l.length + m.length ≤ 140737488355328) (hb : base ≤ w.heap.size) :
    ∃ v' w', (Builtin.append_ #[39, 39] ty #[v, v2]).run Tryd.prog w = .ok v' w' ∧ OB w' base v' (l ++ m) ∧ w.grownBy w' v.ownBlock ∧ (v'.ownBlock = v.ownBlock ∨ v'.ownBlock = some w.heap.size) := by
  obtain ⟨i0, hi, hz0, hz1, hz2⟩ := info_parts Tryd.info_u8
  obtain ⟨ao, cap, rfl, hlc, hcm, hnil, hc⟩ := h2
  cases ao with
  | none =>
    have hcap := hnil rfl
    have hm : m = [] := List.eq_nil_of_length_eq_zero (by omega)
    subst hm; subst hcap
    have hrun := run_append_owned_none (P := Tryd.prog) (w := w) base 39 ty 5 i0 1 Tryd.underlying39 hi v l.length (l.map bv) h
    exact ⟨v, w, hrun, by simpa using h, World.grownBy.refl _ _, .inl rfl⟩
  | some ad =>
    obtain ⟨v', w', hr, ho, hg, _, hn⟩ := run_append_own_at (P := Tryd.prog) w base 39 ty 5 i0 (.int .u8 0) 1 1 Tryd.underlying39 hi hz0 hz1 hz2 rfl (by decide) v l.length (l.map bv) h
      ad m.length cap (m.map bv) (by simp) (by
        intro j u hu
        have hj : j < m.length := by simpa using (List.getElem?_eq_some_iff.1 hu).1
        obtain ⟨b, off, had, hcell⟩ := hc (by intro h; simp [h] at hj)
        obtain rfl := Option.some.inj had
        rw [Addr.add_lit, hcell j hj]
        simp [hj] at hu
        rw [← hu]; simp [bv, List.getD, hj]) (bv_one m) (by unfold maxLen; omega) (by omega) hb
    refine ⟨v', w', hr, ?_, hg, hn⟩
    unfold OB; rw [List.length_append, List.map_append]; exact ho
/-- 'append' of bytes to a slice of the call's own. -/
theorem wp_app {w : World} {ops : Array Oper} {rest : List Oper} {o : Oper} {a : Act} {Q : Exit → Act → World → Prop} (hgd : o.guard = none) (s x : Operand)
    (ho : o.op = .call { callee := .builtin .append, args := #[s, x], argTypes := #[39, 39] })
    (base : Nat) (v v2 : Value) (l m : List UInt8) (hs : a.eval s = v) (hx : a.eval x = v2) (hv : OB w base v l) (hv2 : Bsl w v2 m) (hlen : l.length + m.length ≤ 140737488355328) (hb : base ≤ w.heap.size)
    (h : ∀ v' w', OB w' base v' (l ++ m) → w.grownBy w' v.ownBlock → (v'.ownBlock = v.ownBlock ∨ v'.ownBlock = some w.heap.size) → wpList Tryd.prog ops Q rest (a.put o.dst v') w') : wpList Tryd.prog ops Q (o :: rest) a w := by
  refine wpList_plain hgd fun K hK => ?_
  obtain ⟨v', w', hr, h1, h2, h3⟩ := run_app w base o.type v v2 l m hv hv2 hlen hb
  unfold Oper.wp execOp
  simp only [ho, resolve, invoke, builtin, Sem.run_bind, Sem.run_pure, Result.andThen_ok, List.map_toArray, List.map_cons, List.map_nil, hs, hx, hr]
  exact hK _ _ (h v' w' h1 h2 h3)
theorem Bsl.take {w : World} {ao : Option Addr} {n cap : Nat} {l : List UInt8} (h : Bsl w (.slice ao n cap) l) {m : Nat} (hm : m ≤ l.length) : Bsl w (.slice ao m cap) (l.take m) := by
  obtain ⟨a, c, he, h1, h2, h3, h4⟩ := h
  simp only [Value.slice.injEq] at he
  obtain ⟨rfl, rfl, rfl⟩ := he
  refine ⟨ao, cap, by rw [List.length_take, Nat.min_eq_left hm], by simp; omega, h2, h3, fun hne => ?_⟩
  have hl : l ≠ [] := by rintro rfl; simp at hne
  obtain ⟨b, off, rfl, hc⟩ := h4 hl
  refine ⟨b, off, rfl, fun j hj => ?_⟩
  have hj2 : j < m ∧ j < l.length := by simp at hj; omega
  rw [hc j hj2.2]
  simp [List.getD, hj2.1]
theorem Bsl.len {w : World} {ao : Option Addr} {n cap : Nat} {l : List UInt8} (h : Bsl w (.slice ao n cap) l) : n = l.length ∧ n ≤ cap ∧ cap ≤ 9223372036854775807 := by
  obtain ⟨a, c, he, h1, h2, h3, h4⟩ := h
  simp only [Value.slice.injEq] at he
  obtain ⟨rfl, rfl, rfl⟩ := he
  exact ⟨rfl, h1, h2⟩
/-- 'string(b)'. -/
theorem run_str (w : World) {v : Value} {l : List UInt8} (h : Bsl w v l) : (convert 39 9 v).run Tryd.prog w = .ok (.string ⟨l.toArray⟩) w := by
  obtain ⟨ao, cap, rfl, h1, h2, h3, h4⟩ := h
  have hb : (Conv.bytesToString (.slice ao l.length cap)).run Tryd.prog w = .ok (.string ⟨l.toArray⟩) w := by
    cases ao with
    | none =>
      have h0 := h3 rfl
      have hl : l = [] := List.eq_nil_of_length_eq_zero (by omega)
      subst hl
      simp [Conv.bytesToString]; rfl
    | some ad =>
      have hl : (loadCells ad l.length).run Tryd.prog w = .ok ((l.map fun c => (c.toNat : Int)).map (Value.int .u8)).toArray w := by
        have := run_loadCells_list (P := Tryd.prog) w ad ((l.map fun c => (c.toNat : Int)).map (Value.int .u8)) (fun j v hj => by
          have hjl : j < l.length := by simpa using (List.getElem?_eq_some_iff.1 hj).1
          obtain ⟨b, off, had, hc⟩ := h4 (by intro h; simp [h] at hjl)
          obtain rfl := Option.some.inj had
          rw [Addr.add_lit, hc j hjl]
          simp [hjl] at hj
          rw [← hj]; simp [List.getD, hjl])
        simpa using this
      rw [run_bytesToString w ad l.length cap _ hl, foldl_push_bytes]
      have e : (l.map fun c => (c.toNat : Int)).map (fun n => UInt8.ofNat n.toNat) = l := by
        rw [List.map_map]
        conv => rhs; rw [← List.map_id l]
        apply List.map_congr_left
        intro c _; simp
      rw [e]; simp [ByteArray.empty, ByteArray.emptyWithCapacity]; rfl
  rw [run_convert_bytes_string w 39 9 5 ao l.length cap Tryd.underlying39 Tryd.underlying5 Tryd.underlying9]
  exact hb
/-- A new block of bytes that is written out. -/
theorem Bsl.lit (w : World) (l : List UInt8) (C : Array Value) (fr : Nat × Nat) (cap : Nat) (hC : C = (l.map bv).toArray) (hc : l.length ≤ cap) (hm : cap ≤ 9223372036854775807) :
    Bsl (w.alloc (.cells C 5 fr)) (.slice (some ⟨w.heap.size, 0, none⟩) l.length cap) l := by
  refine ⟨_, cap, rfl, hc, hm, by simp, fun _ => ⟨w.heap.size, 0, rfl, fun j hj => ?_⟩⟩
  rw [World.cell?_alloc_mark, hC]
  simp [hj, bv]
/-- 'append' of bytes as one step of a region that draws its order. -/
theorem step_app {w : World} {ops : Array Oper} {o : Oper} {a : Act} {K : Act → World → Prop} {Q : Exit → Act → World → Prop} {E : Prop} (hgd : o.guard = none) (s x : Operand)
    (ho : o.op = .call { callee := .builtin .append, args := #[s, x], argTypes := #[39, 39] })
    (base : Nat) (v v2 : Value) (l m : List UInt8) (hs : a.eval s = v) (hx : a.eval x = v2) (hv : OB w base v l) (hv2 : Bsl w v2 m) (hlen : l.length + m.length ≤ 140737488355328) (hb : base ≤ w.heap.size)
    (h : ∀ v' w', OB w' base v' (l ++ m) → w.grownBy w' v.ownBlock → (v'.ownBlock = v.ownBlock ∨ v'.ownBlock = some w.heap.size) → K (a.put o.dst v') w') :
    if Region.wanted o (yielded ops a.tmps) = true then Oper.wp Tryd.prog o a w K Q else E := by
  have hw : Region.wanted o (yielded ops a.tmps) = true := by simp [Region.wanted, hgd]
  rw [if_pos hw]
  obtain ⟨v', w', hr, h1, h2, h3⟩ := run_app w base o.type v v2 l m hv hv2 hlen hb
  unfold Oper.wp execOp
  simp only [ho, resolve, invoke, builtin, Sem.run_bind, Sem.run_pure, Result.andThen_ok, List.map_toArray, List.map_cons, List.map_nil, hs, hx, hr]
  exact h v' w' h1 h2 h3
theorem OB.shape {w : World} {base : Nat} {v : Value} {l : List UInt8} (h : OB w base v l) (hne : l ≠ []) :
    ∃ g cap, v = .slice (some ⟨g, 0, none⟩) l.length cap ∧ base ≤ g ∧ g < w.heap.size ∧ l.length ≤ cap ∧ cap ≤ 9223372036854775807 := by
  obtain ⟨_, h2⟩ := h
  rcases h2 with ⟨rfl, h0⟩ | ⟨g, cap, cur, rfl, hb, hg, hn, hc, hs, ht⟩
  · exact absurd (List.eq_nil_of_length_eq_zero h0) hne
  · exact ⟨g, cap, rfl, hb, (Array.getElem?_eq_some_iff.1 hg).1, hn, by unfold maxLen at hc; omega⟩
theorem OB.cell {w : World} {base g n cap : Nat} {l : List UInt8} (h : OB w base (.slice (some ⟨g, 0, none⟩) n cap) l) (hn : n = l.length) {j : Nat} (hj : j < l.length) : w.cell? ⟨g, j, none⟩ = some (.int .u8 ((l.getD j 0).toNat : Int)) := by
  subst hn
  have := World.ownsRow.cellAt h j (by omega)
  rw [this]; simp [hj, bv]
theorem OB.free {w : World} {base g n cap : Nat} {l : List UInt8} (h : OB w base (.slice (some ⟨g, 0, none⟩) n cap) l) (hn : n = l.length) (j : Nat) : w.frozen? ⟨g, j, none⟩ = false := by
  subst hn
  exact World.ownsRow.frozenAt h j
theorem OB.set {w : World} {base g n cap : Nat} {l : List UInt8} (h : OB w base (.slice (some ⟨g, 0, none⟩) n cap) l) (hn : n = l.length) (j : Nat) (c : UInt8) : OB (w.setCell ⟨g, j, none⟩ (.int .u8 (c.toNat : Int))) base (.slice (some ⟨g, 0, none⟩) n cap) (l.set j c) := by
  subst hn
  have := (World.ownsRow.stored h j (bv c)).1
  unfold OB
  rw [List.length_set, List.map_set]
  exact this
end Go.Proofs.YtjhocaleampamaaDoor
