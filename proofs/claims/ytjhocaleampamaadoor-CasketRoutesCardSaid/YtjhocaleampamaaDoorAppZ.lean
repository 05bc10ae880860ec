/- append(out, make([]byte, k)...) onto bytes of the call's own. -/
import Derived.Test.YtjhocaleampamaaDoorBase
import Derived.Lib.AppendZerosOnto
namespace Go.Proofs.YtjhocaleampamaaDoor
open Go.RowKit
theorem zeroCells_one (z : Value) (k : Nat) : Builtin.zeroCells #[z] k = (List.replicate k z).toArray := by
  unfold Builtin.zeroCells
  apply Array.ext
  · simp
  · intro i h1 h2
    simp [Nat.mod_one]
theorem bv_zeros (k : Nat) : (List.replicate k (0 : UInt8)).map bv = List.replicate k (.int .u8 0) := by
  rw [List.map_replicate]; rfl
theorem run_appz (w : World) (base : Nat) (ty : TypeId) (v : Value) (l : List UInt8) (k : Nat) (h : OB w base v l) (hlen : l.length + k ≤ 1000000000) (hb : base ≤ w.heap.size) :
    ∃ v' w', (Builtin.append_ #[39, 3] ty #[v, .int .i64 k]).run Tryd.prog w = .ok v' w' ∧ OB w' base v' (l ++ List.replicate k 0) ∧ w.grownBy w' v.ownBlock ∧ (v'.ownBlock = v.ownBlock ∨ v'.ownBlock = some w.heap.size) := by
  obtain ⟨i0, hi, hz0, hz1, hz2⟩ := info_parts Tryd.info_u8
  have ht := Tryd.underlying39
  have htn := Tryd.underlying3
  have hw : IntKind.i64.wrap (k : Int) = k := by rw [IntKind.wrap_i64]; omega
  have hw0 : IntKind.i64.wrap 0 = 0 := by rw [IntKind.wrap_i64]; rfl
  have hneg : ¬ ((k : Int) < 0) := by omega
  have hby : ¬ (281474976710656 < (k : Int)) := by omega
  have hO := h
  have hcl := h
  obtain ⟨h1, h2⟩ := h
  rcases h2 with ⟨rfl, h0⟩ | ⟨g, cap, cur, rfl, hbg, hg, hnc, hcm, hcs, htake⟩
  · have hl : l = [] := List.eq_nil_of_length_eq_zero h0
    subst hl
    by_cases hk : k = 0
    · subst hk
      refine ⟨.slice none 0 0, w, ?_, by simpa using hO, World.grownBy.refl _ _, .inl rfl⟩
      simp [Builtin.append_, run_underlying ht, run_underlying htn, sizeOf, typeInfo, hi, hz2, asInt, asIntOf, hw0]
    · have hr := Lib.run_append_nil_zeros (P := Tryd.prog) w 39 3 ty 5 i0 (.int .u8 0) .i64 .i64 ht htn hi hz0 k (by omega) (by omega) (by omega) (by rw [hz2]; omega)
      refine ⟨_, _, hr, ?_, ⟨rfl, rfl, rfl, by simp, fun j hj _ => heap_alloc_old w.drew _ hj⟩, .inr rfl⟩
      have hge := grownCap_ge w k 0 5
      have hcm : grownCap w k 0 5 ≤ maxLen := grownCap_le_maxLen w k 0 _ (by unfold maxLen; omega)
      refine ⟨by simp, .inr ⟨w.heap.size, _, _, by simp, hb, heap_alloc_new w.drew _, by simpa using hge, hcm, ?_, ?_⟩⟩
      · simp [size_zeroCells, Value.cells]; omega
      · simp only [List.nil_append]
        rw [bv_zeros]
        have e : (Value.int .u8 0).cells = #[.int .u8 0] := rfl
        rw [e, zeroCells_one, zeroCells_one]
        simp
  · by_cases hroom : l.length + k ≤ cap
    · have hfit : l.length + (List.replicate k (Value.int .u8 0)).length ≤ cur.size := by simp; omega
      have hst := run_storeCells_at Tryd.prog g l.length 5 (List.replicate k (Value.int .u8 0)) 0 cur w hg (by simpa using hfit) (by intro u hu; rw [List.mem_replicate] at hu; rw [hu.2]; rfl)
      simp only [Nat.add_zero] at hst
      have e : (Value.int .u8 0).cells = #[.int .u8 0] := rfl
      have hrun : (Builtin.append_ #[39, 3] ty #[.slice (some ⟨g, 0, none⟩) l.length cap, .int .i64 k]).run Tryd.prog w =
          .ok (.slice (some ⟨g, 0, none⟩) (l.length + k) cap) (w.setRow g (cur.toList.take l.length ++ List.replicate k (Value.int .u8 0) ++ cur.toList.drop (l.length + k)).toArray) := by
        by_cases hk : k = 0
        · subst hk
          simp only [List.replicate_zero, List.length_nil, Nat.add_zero] at hst
          simp [Builtin.append_, run_underlying ht, run_underlying htn, sizeOf, typeInfo, hi, hz1, hz2, asInt, asIntOf, hw0, hnc, Addr.add_lit, hst]
        · have hk1 : ¬ (k * 1 = 0) := by omega
          simp only [List.length_replicate] at hst
          simp [Builtin.append_, run_underlying ht, run_underlying htn, sizeOf, typeInfo, zeroValue, hi, hz0, hz1, hz2, asInt, asIntOf, hw, hroom, hneg, hby, hk, e, zeroCells_one, Addr.add_lit, hst]
      refine ⟨_, _, hrun, ?_, ⟨rfl, rfl, rfl, by simp, fun j hj hjn => setRow_other w g j _ (fun e => hjn (by simp [Value.ownBlock, e]))⟩, .inl rfl⟩
      refine ⟨by simp, .inr ⟨g, cap, _, by simp, hbg, setRow_heap w g cur _ _ _ hg, by simpa using hroom, hcm, ?_, ?_⟩⟩
      · simp; omega
      · rw [List.map_append, bv_zeros]
        simp only [Nat.mul_one] at htake ⊢
        rw [htake, List.length_append, List.length_replicate]
        have : (l.map bv ++ List.replicate k (Value.int .u8 0) ++ cur.toList.drop (l.length + k)).take (l.length + k) = l.map bv ++ List.replicate k (Value.int .u8 0) := by
          rw [List.take_left' (by simp)]
        simpa using this
    · have hold : (Builtin.firstCells i0.size l.length (.slice (some ⟨g, 0, none⟩) l.length cap)).run Tryd.prog w.drew = .ok (l.map bv).toArray w.drew := by
        have := run_firstCells_some (P := Tryd.prog) w.drew i0.size l.length ⟨g, 0, none⟩ l.length cap (l.map bv) (by rw [hz1]; simp) (by
          intro j u hu
          have hj : j < l.length := by simpa using (List.getElem?_eq_some_iff.1 hu).1
          have hc := hcl.cell rfl hj
          rw [Addr.add_lit, Nat.zero_add]
          show w.cell? ⟨g, j, none⟩ = _
          rw [hc]
          simp [hj] at hu
          rw [← hu]; simp [bv, List.getD, hj])
        exact this
      have hr := Lib.run_append_grow_zeros (P := Tryd.prog) w 39 3 ty 5 i0 (.int .u8 0) .i64 .i64 ht htn hi hz0 (some ⟨g, 0, none⟩) l.length cap (l.map bv) hold k (by omega) (by omega) (by omega) (by omega) (by rw [hz2]; omega) (growslice_fits (by omega) (by rw [hz2]; omega))
      have hge := grownCap_ge w (l.length + k) cap 5
      have hcm2 : grownCap w (l.length + k) cap 5 ≤ maxLen := grownCap_le_maxLen w (l.length + k) cap _ (by unfold maxLen; omega)
      refine ⟨_, _, hr, ?_, ⟨rfl, rfl, rfl, by simp, fun j hj _ => heap_alloc_old w.drew _ hj⟩, .inr rfl⟩
      refine ⟨by simp, .inr ⟨w.heap.size, _, _, by simp, hb, heap_alloc_new w.drew _, by simpa using hge, hcm2, ?_, ?_⟩⟩
      · simp [size_zeroCells, Value.cells]; omega
      · rw [List.map_append, bv_zeros]
        have e : (Value.int .u8 0).cells = #[.int .u8 0] := rfl
        rw [e, zeroCells_one, zeroCells_one]
        simp only [Array.toList_append, Array.append_assoc]
        simp
        rw [← List.replicate_append_replicate, ← List.append_assoc, List.take_left' (by simp)]
end Go.Proofs.YtjhocaleampamaaDoor
