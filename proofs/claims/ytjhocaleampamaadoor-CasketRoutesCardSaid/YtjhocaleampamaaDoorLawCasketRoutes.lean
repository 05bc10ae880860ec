/- caskettop.CasketRoutes: its parts, the plain law of the boxes, the walk. -/
import Derived.Test.YtjhocaleampamaaDoorRowSrc
import Derived.Test.YtjhocaleampamaaDoorAppZ
import Derived.Test.YtjhocaleampamaaDoorRing
import Derived.Test.YtjhocaleampamaaDoorBld
import Derived.Test.YtjhocaleampamaaDoorMsgRD
import Derived.ChangeKeysEq
import Derived.Test.YtjhocaleampamaaDoorNetTake
import Derived.Deep.DeepCutAuto
/- append(out, make([]bool, k)...) onto bools of the call's own (as AppZ for bytes). -/
namespace Go.Proofs.YtjhocaleampamaaDoor
open Go.RowKit
set_option linter.unusedVariables false
def bo (b : Bool) : Value := .bool b
/-- v is an owned slice of the bools l. -/
def OBo (w : World) (base : Nat) (v : Value) (l : List Bool) : Prop := w.ownsRow base 4 1 v l.length (l.map bo)
theorem Tryd.info_bool : (Tryd.prog.info? 4).map (fun i => (i.zero, i.size, i.bytes)) = some (some (.bool false), 1, 1) := by kernel_rfl
theorem OBo.cell {w : World} {base g n cap : Nat} {l : List Bool} (h : OBo w base (.slice (some ⟨g, 0, none⟩) n cap) l) (hn : n = l.length) {j : Nat} (hj : j < l.length) : w.cell? ⟨g, j, none⟩ = some (.bool (l.getD j false)) := by
  subst hn
  have h : w.ownsRow base 4 1 (.slice (some ⟨g, 0, none⟩) l.length cap) l.length (l.map bo) := h
  rw [World.ownsRow.cellAt h j (by omega)]
  simp [bo, List.getD, hj]
theorem bo_zeros (k : Nat) : (List.replicate k false).map bo = List.replicate k (.bool false) := by
  rw [List.map_replicate]; rfl
theorem run_appzB (w : World) (base : Nat) (ty : TypeId) (v : Value) (l : List Bool) (k : Nat) (h : OBo w base v l) (hlen : l.length + k ≤ 1000000000) (hb : base ≤ w.heap.size) :
    ∃ v' w', (Builtin.append_ #[24, 3] ty #[v, .int .i64 k]).run Tryd.prog w = .ok v' w' ∧ OBo w' base v' (l ++ List.replicate k false) ∧ w.grownBy w' v.ownBlock ∧ (v'.ownBlock = v.ownBlock ∨ v'.ownBlock = some w.heap.size) := by
  obtain ⟨i0, hi, hz0, hz1, hz2⟩ := info_parts Tryd.info_bool
  have ht := Tryd.underlying24
  have htn := Tryd.underlying3
  have hw : IntKind.i64.wrap (k : Int) = k := by rw [IntKind.wrap_i64]; omega
  have hw0 : IntKind.i64.wrap 0 = 0 := by rw [IntKind.wrap_i64]; rfl
  have hneg : ¬ ((k : Int) < 0) := by omega
  have hby : ¬ (281474976710656 < (k : Int)) := by omega
  have hO := h
  have hcl := h
  obtain ⟨h1, h2⟩ := h
  rcases h2 with ⟨rfl, h0⟩ | ⟨g, cap, cur, rfl, hbg, hg, hnc, hcm, hcs, htake⟩
  · have hl : l = [] := List.eq_nil_of_length_eq_zero h0
    subst hl
    by_cases hk : k = 0
    · subst hk
      refine ⟨.slice none 0 0, w, ?_, by simpa using hO, World.grownBy.refl _ _, .inl rfl⟩
      simp [Builtin.append_, run_underlying ht, run_underlying htn, sizeOf, typeInfo, hi, hz2, asInt, asIntOf, hw0]
    · have hr := Lib.run_append_nil_zeros (P := Tryd.prog) w 24 3 ty 4 i0 (.bool false) .i64 .i64 ht htn hi hz0 k (by omega) (by omega) (by omega) (by rw [hz2]; omega)
      refine ⟨_, _, hr, ?_, ⟨rfl, rfl, rfl, by simp, fun j hj _ => heap_alloc_old w.drew _ hj⟩, .inr rfl⟩
      have hge := grownCap_ge w k 0 4
      have hcm : grownCap w k 0 4 ≤ maxLen := grownCap_le_maxLen w k 0 _ (by unfold maxLen; omega)
      refine ⟨by simp, .inr ⟨w.heap.size, _, _, by simp, hb, heap_alloc_new w.drew _, by simpa using hge, hcm, ?_, ?_⟩⟩
      · simp [size_zeroCells, Value.cells]; omega
      · simp only [List.nil_append]
        rw [bo_zeros]
        have e : (Value.bool false).cells = #[.bool false] := rfl
        rw [e, zeroCells_one, zeroCells_one]
        simp
  · by_cases hroom : l.length + k ≤ cap
    · have hfit : l.length + (List.replicate k (Value.bool false)).length ≤ cur.size := by simp; omega
      have hst := run_storeCells_at Tryd.prog g l.length 4 (List.replicate k (Value.bool false)) 0 cur w hg (by simpa using hfit) (by intro u hu; rw [List.mem_replicate] at hu; rw [hu.2]; rfl)
      simp only [Nat.add_zero] at hst
      have e : (Value.bool false).cells = #[.bool false] := rfl
      have hrun : (Builtin.append_ #[24, 3] ty #[.slice (some ⟨g, 0, none⟩) l.length cap, .int .i64 k]).run Tryd.prog w =
          .ok (.slice (some ⟨g, 0, none⟩) (l.length + k) cap) (w.setRow g (cur.toList.take l.length ++ List.replicate k (Value.bool false) ++ cur.toList.drop (l.length + k)).toArray) := by
        by_cases hk : k = 0
        · subst hk
          simp only [List.replicate_zero, List.length_nil, Nat.add_zero] at hst
          simp [Builtin.append_, run_underlying ht, run_underlying htn, sizeOf, typeInfo, hi, hz1, hz2, asInt, asIntOf, hw0, hnc, Addr.add_lit, hst]
        · have hk1 : ¬ (k * 1 = 0) := by omega
          simp only [List.length_replicate] at hst
          simp [Builtin.append_, run_underlying ht, run_underlying htn, sizeOf, typeInfo, zeroValue, hi, hz0, hz1, hz2, asInt, asIntOf, hw, hroom, hneg, hby, hk, e, zeroCells_one, Addr.add_lit, hst]
      refine ⟨_, _, hrun, ?_, ⟨rfl, rfl, rfl, by simp, fun j hj hjn => setRow_other w g j _ (fun e => hjn (by simp [Value.ownBlock, e]))⟩, .inl rfl⟩
      refine ⟨by simp, .inr ⟨g, cap, _, by simp, hbg, setRow_heap w g cur _ _ _ hg, by simpa using hroom, hcm, ?_, ?_⟩⟩
      · simp; omega
      · rw [List.map_append, bo_zeros]
        simp only [Nat.mul_one] at htake ⊢
        rw [htake, List.length_append, List.length_replicate]
        have : (l.map bo ++ List.replicate k (Value.bool false) ++ cur.toList.drop (l.length + k)).take (l.length + k) = l.map bo ++ List.replicate k (Value.bool false) := by
          rw [List.take_left' (by simp)]
        simpa using this
    · have hold : (Builtin.firstCells i0.size l.length (.slice (some ⟨g, 0, none⟩) l.length cap)).run Tryd.prog w.drew = .ok (l.map bo).toArray w.drew := by
        have := run_firstCells_some (P := Tryd.prog) w.drew i0.size l.length ⟨g, 0, none⟩ l.length cap (l.map bo) (by rw [hz1]; simp) (by
          intro j u hu
          have hj : j < l.length := by simpa using (List.getElem?_eq_some_iff.1 hu).1
          have hc := hcl.cell rfl hj
          rw [Addr.add_lit, Nat.zero_add]
          show w.cell? ⟨g, j, none⟩ = _
          rw [hc]
          simp [hj] at hu
          rw [← hu]; simp [bo, List.getD, hj])
        exact this
      have hr := Lib.run_append_grow_zeros (P := Tryd.prog) w 24 3 ty 4 i0 (.bool false) .i64 .i64 ht htn hi hz0 (some ⟨g, 0, none⟩) l.length cap (l.map bo) hold k (by omega) (by omega) (by omega) (by omega) (by rw [hz2]; omega) (growslice_fits (by omega) (by rw [hz2]; omega))
      have hge := grownCap_ge w (l.length + k) cap 4
      have hcm2 : grownCap w (l.length + k) cap 4 ≤ maxLen := grownCap_le_maxLen w (l.length + k) cap _ (by unfold maxLen; omega)
      refine ⟨_, _, hr, ?_, ⟨rfl, rfl, rfl, by simp, fun j hj _ => heap_alloc_old w.drew _ hj⟩, .inr rfl⟩
      refine ⟨by simp, .inr ⟨w.heap.size, _, _, by simp, hb, heap_alloc_new w.drew _, by simpa using hge, hcm2, ?_, ?_⟩⟩
      · simp [size_zeroCells, Value.cells]; omega
      · rw [List.map_append, bo_zeros]
        have e : (Value.bool false).cells = #[.bool false] := rfl
        rw [e, zeroCells_one, zeroCells_one]
        simp only [Array.toList_append, Array.append_assoc]
        simp
        rw [← List.replicate_append_replicate, ← List.append_assoc, List.take_left' (by simp)]
end Go.Proofs.YtjhocaleampamaaDoor
/- The parts of caskettop.CasketRoutes: messages, their literals, '!=' of arrays, what is up. -/
namespace Go.Proofs.YtjhocaleampamaaDoor
open Go.RowKit
set_option linter.unusedVariables false
/-- The message to the one that stands for f. -/
def rM (key : List UInt8) (i f : Nat) : MD := ⟨5, 5, i, 0, f, 0, ⟨key, []⟩, [], [], []⟩
def rV (key : List UInt8) (i f : Nat) : MV := ⟨rM key i f, .slice none 0 0, .slice none 0 0, .slice none 0 0, .slice none 0 0, []⟩
theorem rM_ok (key : List UInt8) (i f : Nat) (hi : i ≤ 100) (hf : f ≤ 7) : okM (rM key i f) = true := by
  unfold okM headK restK inK setK rM
  simp
  omega
theorem rM_res (key : List UInt8) (i f : Nat) : (rM key i f).res = rM key i f := by
  unfold MD.res rM
  simp [MD.none]
theorem rM_K (key : List UInt8) (i f : Nat) (hk : key.length = 32) : (rM key i f).K32 := ⟨hk, by simp [rM], by simp [rM]⟩
theorem rM_read (key : List UInt8) (i f : Nat) (hk : key.length = 32) (hi : i ≤ 100) (hf : f ≤ 7) : readM (bytesM (rM key i f)) = some (rM key i f) := by
  have h := read_back (rM_ok key i f hi hf) (rM_K key i f hk)
  rwa [rM_res] at h
theorem rV_At (key : List UInt8) (i f : Nat) (w : World) (hk : key.length = 32) (hi : i ≤ 100) (hf : f ≤ 7) : (rV key i f).At w := by
  refine ⟨⟨hk, ⟨none, 0, rfl, Nat.le_refl _, by omega, by simp, fun h => absurd rfl h⟩⟩, Rd.nil _ _, Rd.nil _ _, Rd.nil _ _, by simp [rV], by simp [rV, rM], ?_⟩
  refine ⟨⟨?_, ?_, ?_, ?_, ?_, ?_⟩, by simp [rV, rM], by simp [rV, rM], by simp [rV, rM], by simp [rV, rM], by simp [rV, rM], by simp [rV, rM]⟩ <;> (unfold i64 rV rM; simp; try omega)
theorem smallL_le (n : Int) : (smallL n).length ≤ 1 := by unfold smallL; split <;> simp
theorem numL_le (n : Int) : (numL n).length ≤ 8 := by
  unfold numL
  split
  · rw [List.length_reverse, putLowL_length]; omega
  · simp
theorem rM_len (key : List UInt8) (i f : Nat) (hk : key.length = 32) : (bytesM (rM key i f)).length ≤ 1000 := by
  have h1 := smallL_le 5
  have h2 := numL_le (i : Int)
  have h3 := smallL_le (f : Int)
  unfold bytesM headB restB rowB bytesL rM
  simp only [List.length_append]
  simp [hk, putLowL_length]
  omega
/-- A row's literal, a message's literal. -/
theorem bdT_R (ps : Array (Nat × Value)) : Instr.build 41 ps = bdT 41 ps := rfl
theorem bdT_M (ps : Array (Nat × Value)) : Instr.build 45 ps = bdT 45 ps := rfl
theorem builtR (parts : List (Nat × Value)) : Tryd.prog.built 41 parts = Instr.fill ([(0, 32), (32, 1)].toArray[·]?) zR.toArray parts :=
  built_of (by kernel_rfl) Tryd.underlying41 (by kernel_rfl) parts
theorem builtM (parts : List (Nat × Value)) : Tryd.prog.built 45 parts = Instr.fill ([(0, 1), (1, 1), (2, 1), (3, 1), (4, 1), (5, 1), (6, 33), (39, 1), (40, 1), (41, 1)].toArray[·]?) zM.toArray parts :=
  built_of (by kernel_rfl) Tryd.underlying45 (by kernel_rfl) parts
theorem bd_R (key : List UInt8) (hk : key.length = 32) (w : World) : (bdT 41 #[(0, .agg (key.map bv).toArray)]).run Tryd.prog w = .ok (.agg (key.map bv ++ [Value.slice none 0 0]).toArray) w := by
  refine run_bdT ?_ w
  have hl : (key.map bv).length = 32 := by rw [List.length_map, hk]
  rw [builtR]
  rw [fill_step (off := 0) (cs := key.map bv) (by rw [hl]; rfl) rfl (by rw [hl, zR_len]; decide)]
  unfold setL
  rw [hl, List.take_zero, List.nil_append]
  rfl
theorem bd_M (key : List UInt8) (i f : Nat) (hk : key.length = 32) (w : World) : (bdT 45 #[(0, .int .i64 5), (1, .int .i64 5), (2, .int .i64 i), (4, .int .i64 f), (6, .agg (key.map bv ++ [Value.slice none 0 0]).toArray)]).run Tryd.prog w = .ok (.agg (rV key i f).C.toArray) w := by
  refine run_bdT ?_ w
  have hl : (key.map bv ++ [Value.slice none 0 0]).length = 33 := by rw [List.length_append, List.length_map, hk]; rfl
  rw [builtM]
  rw [fill_step (off := 0) (cs := [.int .i64 5]) rfl rfl (by rw [zM_len]; decide)]
  rw [fill_step (off := 1) (cs := [.int .i64 5]) rfl rfl (by rw [setL_len _ _ _ (by rw [zM_len]; decide), zM_len]; decide)]
  rw [fill_step (off := 2) (cs := [.int .i64 i]) rfl rfl (by rw [setL_len _ _ _ (by rw [setL_len _ _ _ (by rw [zM_len]; decide), zM_len]; decide), setL_len _ _ _ (by rw [zM_len]; decide), zM_len]; show 3 ≤ 42; omega)]
  have e1 : setL (setL (setL zM 0 [.int .i64 5]) 1 [.int .i64 5]) 2 [.int .i64 i] = [Value.int .i64 5, .int .i64 5, .int .i64 i] ++ zM.drop 3 := rfl
  rw [e1]
  have l1 : ([Value.int .i64 5, .int .i64 5, .int .i64 i] ++ zM.drop 3).length = 42 := by rw [List.length_append, List.length_drop, zM_len]; rfl
  rw [fill_step (off := 4) (cs := [.int .i64 f]) rfl rfl (by rw [l1]; show 5 ≤ 42; omega)]
  have e2 : setL ([Value.int .i64 5, .int .i64 5, .int .i64 i] ++ zM.drop 3) 4 [.int .i64 f] = [Value.int .i64 5, .int .i64 5, .int .i64 i, .int .i64 0, .int .i64 f, .int .i64 0] ++ zM.drop 6 := rfl
  rw [e2]
  have l2 : ([Value.int .i64 5, .int .i64 5, .int .i64 i, .int .i64 0, .int .i64 f, .int .i64 0] ++ zM.drop 6).length = 42 := by rw [List.length_append, List.length_drop, zM_len]; rfl
  rw [fill_step (off := 6) (cs := key.map bv ++ [Value.slice none 0 0]) (by rw [hl]; rfl) rfl (by rw [hl, l2]; decide)]
  unfold setL
  rw [hl]
  rfl
/-- '!=' of two arrays that are the same. -/
theorem eqItems_b (d : Nat) (a : List UInt8) (w : World) : ∀ is : List Nat, (∀ i ∈ is, i < a.length) → (Op.eqItems (d + 1) 5 1 (a.map bv).toArray (a.map bv).toArray is).run Tryd.prog w = .ok true w
  | [], _ => by simp [Op.eqItems]
  | i :: is, h => by
    have hi := h i (by simp)
    have ih := eqItems_b d a w is (fun j hj => h j (by simp [hj]))
    have hp : Tryd.prog.plainKey 5 = true := by kernel_rfl
    have p1 := run_part_plain (P := Tryd.prog) (w := w) hp (xs := (a.map bv).toArray) (off := i * 1) (v := bv a[i]) (by simp [hi])
    have p3 : (Op.equalIn (d + 1) 5 (bv a[i]) (bv a[i])).run Tryd.prog w = .ok ((a[i].toNat : Int) == (a[i].toNat : Int)) w := run_equalIn_int w d _ _ _ _ _ Tryd.underlying5
    simp only [Op.eqItems, Sem.run_bind, p1, p3, Result.andThen_ok]
    simp [ih]
theorem neq_Bl (a : List UInt8) (h : a.length = 32) (w : World) : (binOp .neq 23 (.agg (a.map bv).toArray) (.agg (a.map bv).toArray)).run Tryd.prog w = .ok (.bool false) w := by
  obtain ⟨i0, hi, hz0, hz1, hz2⟩ := info_parts Tryd.info_u8
  have hc : Tryd.prog.cellsOf 5 = 1 := by kernel_rfl
  rw [run_neq_struct, run_equalIn_array (P := Tryd.prog) (w := w) 9999 _ _ Tryd.underlying23 hi, hc, eqItems_b 9998 a w (List.range 32) (by intro i hi; simp at hi; omega)]
  rfl
theorem neq_pair (a b : Int) (w : World) : (binOp .neq 38 (.agg #[.int .i64 a, .int .i64 b]) (.agg #[.int .i64 a, .int .i64 b])).run Tryd.prog w = .ok (.bool false) w := by
  obtain ⟨it, zz, hti, htz, hzc, hsz1, hby⟩ := Tryd.intParts
  have hc : Tryd.prog.cellsOf 3 = 1 := by kernel_rfl
  have hp : Tryd.prog.plainKey 3 = true := by kernel_rfl
  have p1 := run_part_plain (P := Tryd.prog) (w := w) hp (xs := #[.int .i64 a, .int .i64 b]) (off := 0) (v := .int .i64 a) rfl
  have p2 := run_part_plain (P := Tryd.prog) (w := w) hp (xs := #[.int .i64 a, .int .i64 b]) (off := 1) (v := .int .i64 b) rfl
  have q1 : (Op.equalIn 9999 3 (.int .i64 a) (.int .i64 a)).run Tryd.prog w = .ok (a == a) w := run_equalIn_int w 9998 _ _ _ _ _ Tryd.underlying3
  have q2 : (Op.equalIn 9999 3 (.int .i64 b) (.int .i64 b)).run Tryd.prog w = .ok (b == b) w := run_equalIn_int w 9998 _ _ _ _ _ Tryd.underlying3
  rw [run_neq_struct, run_equalIn_array (P := Tryd.prog) (w := w) 9999 _ _ Tryd.underlying38 hti, hc]
  show ((Op.eqItems 9999 3 1 _ _ [0, 1]).run Tryd.prog w).andThen _ = _
  simp only [Op.eqItems, Sem.run_bind, Nat.zero_mul, Nat.one_mul, p1, q1, Result.andThen_ok]
  simp [p2, q2]
/-- What is up, as it came in. -/
def UpAt (w : World) (v : Value) (us : List Bool) : Prop := Rd w 1 v (us.map fun b => [Value.bool b]) ∧ ∀ m c, v = .slice none m c → c = 0
theorem up_one (us : List Bool) : ∀ u ∈ (us.map fun b => [Value.bool b]).flatten, u.oneCell' = true := by
  intro u hu
  obtain ⟨l, hl, hu⟩ := List.mem_flatten.1 hu
  obtain ⟨n, _, rfl⟩ := List.mem_map.1 hl
  rw [List.mem_singleton] at hu
  subst hu; rfl
theorem up_src {w : World} {uo : Option Addr} {uc : Nat} {us : List Bool} (h : UpAt w (.slice uo us.length uc) us) {m : Nat} (hm : m ≤ us.length) : Src w 1 (.slice uo m uc) ((us.take m).map fun b => [Value.bool b]) := by
  obtain ⟨h1, h2⟩ := h
  cases uo with
  | none =>
    have hc := h2 _ _ rfl
    subst hc
    have hl : us.length = 0 := by
      obtain ⟨_, ao, c, e, h3, _⟩ := h1
      simp only [Value.slice.injEq] at e
      obtain ⟨_, _, rfl⟩ := e
      rw [List.length_map] at h3
      omega
    obtain rfl : us = [] := List.eq_nil_of_length_eq_zero hl
    obtain rfl : m = 0 := by simpa using hm
    exact ⟨by simp [Even], by simp, .inl ⟨rfl, rfl⟩⟩
  | some ad =>
    refine ⟨fun q hq => by obtain ⟨_, _, rfl⟩ := List.mem_map.1 hq; rfl, up_one _, .inr ⟨ad, uc, by rw [List.length_map, List.length_take, Nat.min_eq_left hm], fun j u hu => ?_⟩⟩
    have hj : j < m := by
      have := (List.getElem?_eq_some_iff.1 hu).1
      rw [Even.flat (sz := 1) (fun q hq => by obtain ⟨_, _, rfl⟩ := List.mem_map.1 hq; rfl), List.length_map, List.length_take] at this
      omega
    obtain ⟨_, ao, c, e, _, _, h4⟩ := h1
    simp only [Value.slice.injEq] at e
    obtain ⟨rfl, _, rfl⟩ := e
    obtain ⟨g, o, e, hr⟩ := h4 (by intro e; rw [List.map_eq_nil_iff] at e; subst e; simp at hm; omega)
    cases e
    have hj2 : j < us.length := by omega
    have hu2 : u = .bool us[j] := by
      have e : ((us.take m).map fun b => [Value.bool b]).flatten = (us.take m).map Value.bool := by
        generalize us.take m = l
        induction l with
        | nil => rfl
        | cons a r ih => simp [ih]
      rw [e, List.getElem?_map, List.getElem?_take, if_pos hj, List.getElem?_eq_getElem hj2] at hu
      exact (Option.some.inj hu).symm
    have := hr j (by rw [List.length_map]; exact hj2) 0 (.bool us[j]) (by rw [List.getElem_map]; rfl)
    rw [Nat.mul_one, Nat.add_zero] at this
    rw [Addr.add_mid, hu2]
    exact this
def apZb (ty : TypeId) (vs : Array Value) : Sem Value := Builtin.append_ #[24, 3] ty vs
theorem apZb_eq (ty : TypeId) (vs : Array Value) : Builtin.append_ #[24, 3] ty vs = apZb ty vs := rfl
theorem OBo.of_rw {w : World} {base : Nat} {v : Value} {l : List Bool} (h : RW w base 4 1 v (l.map fun b => [Value.bool b])) : OBo w base v l := by
  have h1 := h.1
  rw [List.length_map] at h1
  have e : (l.map fun b => [Value.bool b]).flatten = l.map bo := by
    clear h h1
    induction l with
    | nil => rfl
    | cons a r ih => simp [ih, bo]
  rw [e] at h1
  exact h1
theorem OBo.rd {w : World} {base g n cap : Nat} {l : List Bool} (h : OBo w base (.slice (some ⟨g, 0, none⟩) n cap) l) (hn : n = l.length) (hc : n ≤ cap ∧ cap ≤ 9223372036854775807) : Rd w 1 (.slice (some ⟨g, 0, none⟩) n cap) (l.map fun b => [Value.bool b]) := by
  refine ⟨fun r hr => by obtain ⟨_, _, rfl⟩ := List.mem_map.1 hr; rfl, some ⟨g, 0, none⟩, cap, by rw [List.length_map, hn], by rw [List.length_map]; omega, hc.2, fun _ => ⟨g, 0, rfl, fun i hi j v hv => ?_⟩⟩
  rw [List.length_map] at hi
  rw [List.getElem_map] at hv
  obtain rfl : j = 0 := by have := (List.getElem?_eq_some_iff.1 hv).1; simp at this; exact this
  rw [Nat.mul_one, Nat.add_zero, Nat.zero_add, h.cell hn hi]
  simp at hv
  rw [← hv]
  simp [List.getD, hi]
theorem OBo.shape {w : World} {base : Nat} {v : Value} {l : List Bool} (h : OBo w base v l) (hne : l ≠ []) : ∃ g cap, v = .slice (some ⟨g, 0, none⟩) l.length cap ∧ base ≤ g ∧ g < w.heap.size ∧ l.length ≤ cap ∧ cap ≤ 9223372036854775807 := by
  obtain ⟨_, h2⟩ := h
  rcases h2 with ⟨rfl, h0⟩ | ⟨g, cap, cur, rfl, hb, hg, hn, hc, hs, ht⟩
  · exact absurd (List.eq_nil_of_length_eq_zero h0) hne
  · exact ⟨g, cap, rfl, hb, (Array.getElem?_eq_some_iff.1 hg).1, hn, by unfold maxLen at hc; omega⟩
theorem apZb_made (w : World) (base : Nat) (ty : TypeId) (v : Value) (l : List Bool) (k : Nat) (h : OBo w base v l) (hlen : l.length + k ≤ 1000000000) (hb : base ≤ w.heap.size) :
    ∃ v' w', (apZb ty #[v, .int .i64 k]).run Tryd.prog w = .ok v' w' ∧ OBo w' base v' (l ++ List.replicate k false) ∧ Below base w w' := by
  obtain ⟨v', w', h1, h2, h3, h4⟩ := run_appzB w base ty v l k h hlen hb
  exact ⟨v', w', h1, h2, Below.of_grown h3 hb (fun q hq => (World.ownsRow.lt h q hq).1)⟩
end Go.Proofs.YtjhocaleampamaaDoor
/- What lies in the boxes: the plain law. -/
namespace Go.Proofs.YtjhocaleampamaaDoor
set_option linter.unusedVariables false
theorem innN_set {st : NSt} {k : Nat} (hk : k < st.length) (x : List (List UInt8) × List (List UInt8)) (b : Nat) : innN (st.set k x) b = if b = k then x.1 else innN st b := by
  unfold innN
  simp only [List.getD, List.getElem?_set]
  by_cases h : b = k
  · subst h; simp [hk]
  · rw [if_neg (fun e => h e.symm), if_neg h]
theorem seenN_set {st : NSt} {k : Nat} (hk : k < st.length) (x : List (List UInt8) × List (List UInt8)) (b : Nat) : seenN (st.set k x) b = if b = k then x.2 else seenN st b := by
  unfold seenN
  simp only [List.getD, List.getElem?_set]
  by_cases h : b = k
  · subst h; simp [hk]
  · rw [if_neg (fun e => h e.symm), if_neg h]
/-- Behind i of the pairs l: each box is empty, or holds its message and the short one. -/
def Sent (key : List UInt8) (l : List (Nat × Nat)) (i : Nat) (st : NSt) : Prop := st.length = 6 ∧ (∀ b, seenN st b = []) ∧
  ∀ b, (b ∉ (l.take i).map Prod.fst ∧ innN st b = []) ∨ (∃ j, ∃ h : j < l.length, j < i ∧ l[j].1 = b ∧ innN st b = [bytesM (rM key j l[j].2), [120]])
theorem Sent.zero (key : List UInt8) (l : List (Nat × Nat)) : Sent key l 0 (List.replicate 6 ([], [])) := by
  have hr : ∀ b, (List.replicate 6 (([], []) : List (List UInt8) × List (List UInt8))).getD b ([], []) = ([], []) := fun b => by
    simp only [List.getD, List.getElem?_replicate]
    split <;> rfl
  exact ⟨rfl, fun b => by unfold seenN; rw [hr], fun b => .inl ⟨by simp, by unfold innN; rw [hr]⟩⟩
theorem fst_new {l : List (Nat × Nat)} (hn : (l.map Prod.fst).Nodup) {i : Nat} (hi : i < l.length) : l[i].1 ∉ (l.take i).map Prod.fst := by
  intro h
  rw [← List.take_append_drop i l, List.map_append, List.nodup_append] at hn
  exact hn.2.2 _ h l[i].1 (List.mem_map_of_mem (by rw [List.drop_eq_getElem_cons hi]; exact List.mem_cons_self)) rfl
theorem Sent.empty {key : List UInt8} {l : List (Nat × Nat)} {i : Nat} {st : NSt} (h : Sent key l i st) (hn : (l.map Prod.fst).Nodup) (hi : i < l.length) : innN st l[i].1 = [] := by
  rcases h.2.2 l[i].1 with ⟨_, h⟩ | ⟨j, hj, hji, he, _⟩
  · exact h
  · exact (fst_new hn hi (by rw [← he]; exact List.mem_map_of_mem (by rw [← List.getElem_take (h := by rw [List.length_take]; omega) (j := i)]; exact List.getElem_mem _))).elim
theorem Sent.next {key : List UInt8} {l : List (Nat × Nat)} {i : Nat} {st : NSt} (h : Sent key l i st) (hn : (l.map Prod.fst).Nodup) (hi : i < l.length) (h6 : l[i].1 < 6) :
    Sent key l (i + 1) ((st.set l[i].1 (innN st l[i].1 ++ [bytesM (rM key i l[i].2)], seenN st l[i].1)).set l[i].1 (innN (st.set l[i].1 (innN st l[i].1 ++ [bytesM (rM key i l[i].2)], seenN st l[i].1)) l[i].1 ++ [[120]], seenN (st.set l[i].1 (innN st l[i].1 ++ [bytesM (rM key i l[i].2)], seenN st l[i].1)) l[i].1)) := by
  have he := h.empty hn hi
  have hl := h.1
  have hk : l[i].1 < st.length := by omega
  have hk2 : l[i].1 < (st.set l[i].1 (innN st l[i].1 ++ [bytesM (rM key i l[i].2)], seenN st l[i].1)).length := by rw [List.length_set]; exact hk
  refine ⟨by rw [List.length_set, List.length_set]; exact hl, fun b => ?_, fun b => ?_⟩
  · rw [seenN_set hk2, seenN_set hk, seenN_set hk, if_pos rfl, h.2.1, h.2.1]
    split <;> rfl
  · rw [innN_set hk2, innN_set hk, innN_set hk, if_pos rfl, he, List.nil_append]
    by_cases hb : b = l[i].1
    · rw [if_pos hb]
      exact .inr ⟨i, hi, by omega, hb.symm, rfl⟩
    · rw [if_neg hb, if_neg hb]
      rcases h.2.2 b with ⟨h1, h2⟩ | ⟨j, hj, hji, he, h2⟩
      · refine .inl ⟨?_, h2⟩
        rw [List.take_succ_eq_append_getElem hi, List.map_append]
        intro hm
        rcases List.mem_append.1 hm with hm | hm
        · exact h1 hm
        · simp at hm; exact hb hm
      · exact .inr ⟨j, hj, by omega, he, h2⟩
/-- How many are to come to box b. -/
def wantN (l : List (Nat × Nat)) (i b : Nat) : Nat := if b ∈ (l.take i).map Prod.fst then 1 else 0
theorem wantN_le (l : List (Nat × Nat)) (i b : Nat) : wantN l i b ≤ 1 := by unfold wantN; split <;> omega
theorem wantN_step {l : List (Nat × Nat)} (hn : (l.map Prod.fst).Nodup) {i : Nat} (hi : i < l.length) (b : Nat) : wantN l (i + 1) b = if b = l[i].1 then 1 else wantN l i b := by
  unfold wantN
  rw [List.take_succ_eq_append_getElem hi, List.map_append]
  by_cases hb : b = l[i].1
  · simp [hb]
  · simp [hb]
theorem wantN_new {l : List (Nat × Nat)} (hn : (l.map Prod.fst).Nodup) {i : Nat} (hi : i < l.length) : wantN l i l[i].1 = 0 := by
  unfold wantN
  rw [if_neg (fst_new hn hi)]
theorem Sent.len {key : List UInt8} {l : List (Nat × Nat)} {st : NSt} (h : Sent key l l.length st) (b : Nat) : (innN st b).length = 2 * wantN l l.length b := by
  unfold wantN
  rcases h.2.2 b with ⟨h1, h2⟩ | ⟨j, hj, hji, he, h2⟩
  · rw [if_neg h1, h2]; rfl
  · have hm : b ∈ (l.take l.length).map Prod.fst := by rw [List.take_length, ← he]; exact List.mem_map_of_mem (List.getElem_mem _)
    rw [if_pos hm, h2]; rfl
/-- Box b is being emptied, those behind it lie as they were sent. -/
def Taking (key : List UInt8) (l : List (Nat × Nat)) (b : Nat) (st : NSt) : Prop := st.length = 6 ∧ (∀ c, b < c → seenN st c = [] ∧ ((c ∉ l.map Prod.fst ∧ innN st c = []) ∨ (∃ j, ∃ h : j < l.length, l[j].1 = c ∧ innN st c = [bytesM (rM key j l[j].2), [120]]))) ∧
  (seenN st b).length + (innN st b).length ≤ 2 ∧ ∀ m ∈ innN st b, m = [120] ∨ ∃ j, ∃ h : j < l.length, l[j].1 = b ∧ m = bytesM (rM key j l[j].2)
theorem Taking.of {key : List UInt8} {l : List (Nat × Nat)} {b : Nat} {st : NSt} (h0 : st.length = 6) (h : ∀ c, b ≤ c → seenN st c = [] ∧ ((c ∉ l.map Prod.fst ∧ innN st c = []) ∨ (∃ j, ∃ h : j < l.length, l[j].1 = c ∧ innN st c = [bytesM (rM key j l[j].2), [120]]))) : Taking key l b st := by
  obtain ⟨hs, hb⟩ := h b (Nat.le_refl _)
  refine ⟨h0, fun c hc => h c (by omega), ?_, ?_⟩
  · rw [hs]
    rcases hb with ⟨_, h2⟩ | ⟨j, hj, he, h2⟩ <;> rw [h2] <;> simp
  · intro m hm
    rcases hb with ⟨_, h2⟩ | ⟨j, hj, he, h2⟩
    · rw [h2] at hm; cases hm
    · rw [h2] at hm
      simp only [List.mem_cons, List.not_mem_nil, or_false] at hm
      rcases hm with rfl | rfl
      · exact .inr ⟨j, hj, he, rfl⟩
      · exact .inl rfl
theorem Sent.all {key : List UInt8} {l : List (Nat × Nat)} {st : NSt} (h : Sent key l l.length st) : st.length = 6 ∧ ∀ c, 0 ≤ c → seenN st c = [] ∧ ((c ∉ l.map Prod.fst ∧ innN st c = []) ∨ (∃ j, ∃ h : j < l.length, l[j].1 = c ∧ innN st c = [bytesM (rM key j l[j].2), [120]])) := by
  refine ⟨h.1, fun c _ => ⟨h.2.1 c, ?_⟩⟩
  rcases h.2.2 c with ⟨h1, h2⟩ | ⟨j, hj, _, he, h2⟩
  · rw [List.take_length] at h1; exact .inl ⟨h1, h2⟩
  · exact .inr ⟨j, hj, he, h2⟩
theorem Taking.took {key : List UInt8} {l : List (Nat × Nat)} {b : Nat} {st : NSt} (h : Taking key l b st) (hb : b < 6) {k : Nat} (hk : k < (innN st b).length) :
    Taking key l b (st.set b ((innN st b).eraseIdx k, seenN st b ++ [(innN st b).getD k []])) ∧ ((innN st b).getD k [] = [120] ∨ ∃ j, ∃ h : j < l.length, l[j].1 = b ∧ (innN st b).getD k [] = bytesM (rM key j l[j].2)) ∧ (innN (st.set b ((innN st b).eraseIdx k, seenN st b ++ [(innN st b).getD k []])) b).length + 1 = (innN st b).length := by
  obtain ⟨h0, h1, h2, h3⟩ := h
  have hbl : b < st.length := by omega
  refine ⟨⟨by rw [List.length_set]; exact h0, fun c hc => ?_, ?_, ?_⟩, ?_, ?_⟩
  · rw [seenN_set hbl, innN_set hbl, if_neg (by omega), if_neg (by omega)]
    exact h1 c hc
  · rw [seenN_set hbl, innN_set hbl, if_pos rfl, if_pos rfl, List.length_append, List.length_singleton, List.length_eraseIdx, if_pos hk]
    omega
  · rw [innN_set hbl, if_pos rfl]
    intro m hm
    exact h3 m (List.mem_of_mem_eraseIdx hm)
  · refine h3 _ ?_
    simp only [List.getD, List.getElem?_eq_getElem hk, Option.getD_some]
    exact List.getElem_mem hk
  · rw [innN_set hbl, if_pos rfl, List.length_eraseIdx, if_pos hk]
    omega
end Go.Proofs.YtjhocaleampamaaDoor
/- caskettop.CasketRoutes: the walk. -/
namespace Go.Proofs.YtjhocaleampamaaDoor
open Go.RowKit
set_option linter.unusedVariables false
/-- The array 'want' at b, behind i pairs. -/
def WantAt (w : World) (b : Nat) (l : List (Nat × Nat)) (i : Nat) : Prop := b < w.heap.size ∧ ∀ k, k < 5 → w.cell? ⟨b, k, none⟩ = some (.int .i64 ((wantN l i k : Nat) : Int)) ∧ w.frozen? ⟨b, k, none⟩ = false
theorem WantAt.only {S : Nat → Prop} {w w' : World} {b : Nat} {l : List (Nat × Nat)} {i : Nat} (h : WantAt w b l i) (ho : Only S w w') (hn : ¬ S b) : WantAt w' b l i :=
  ⟨Nat.lt_of_lt_of_le h.1 ho.size, fun k hk => ⟨(ho.cell (p := ⟨b, k, none⟩) h.1 hn).trans (h.2 k hk).1, (ho.frozen (p := ⟨b, k, none⟩) h.1 hn).trans (h.2 k hk).2⟩⟩
/-- A variable of a message, made and written. -/
theorem msg_made (w : World) (cs : List Value) (hl : cs.length = 42) (h1 : ∀ u ∈ cs, u.oneCell' = true) : ∃ wq w', (alT 45).run Tryd.prog w = .ok (.pointer (some ⟨w.heap.size, 0, none⟩)) wq ∧ (stT 45 (.pointer (some ⟨w.heap.size, 0, none⟩)) (.agg cs.toArray)).run Tryd.prog wq = .ok () w' ∧ w'.rangeAt w.heap.size 0 cs ∧ Below w.heap.size w wq ∧ Below w.heap.size w w' ∧ w'.heap.size = w.heap.size + 1 :=
  ⟨_, _, run_alT bigM w, run_stT bigM _ _ 0 cs (by rw [hl, ← zM_len]; exact there_new w zM _) (by rw [hl, zM_len]) h1, (var_new w zM cs _ (by rw [hl, zM_len])).1, (Below.refl _ _).alloc (Nat.le_refl _) _, ((Below.refl _ _).alloc (Nat.le_refl _) _).trans (Below.setCells (Nat.le_refl _) _ _ (Below.refl _ _)), by rw [size_setCells]; simp⟩
theorem WantAt.keep {w w' : World} {b : Nat} {l : List (Nat × Nat)} {i : Nat} (h : WantAt w b l i) (hb : Below w.heap.size w w') : WantAt w' b l i := h.only (Only.of_below (S := fun _ => False) hb) (fun h => h)
theorem WantAt.add {w : World} {b : Nat} {l : List (Nat × Nat)} {i k : Nat} (h : WantAt w b l i) (hk : k < 5) (hs : ∀ c, wantN l (i + 1) c = if c = k then 1 else wantN l i c) : WantAt (w.setCell ⟨b, k, none⟩ (.int .i64 1)) b l (i + 1) := by
  refine ⟨by simpa [World.setCell] using h.1, fun c hc => ⟨?_, by rw [World.frozen?_setCell]; exact (h.2 c hc).2⟩⟩
  rw [hs c]
  by_cases e : c = k
  · subst e
    rw [World.cell?_setCell_same w _ _ (h.2 c hc).1, if_pos rfl]
    rfl
  · rw [World.cell?_setCell_other w _ _ _ (by intro e2; have := congrArg Addr.off e2; simp at this; exact e this.symm), if_neg e]
    exact (h.2 c hc).1
/-- From box b on all lies as it was sent. -/
def Rest (key : List UInt8) (l : List (Nat × Nat)) (b : Nat) (st : NSt) : Prop := ∀ c, b ≤ c → seenN st c = [] ∧ ((c ∉ l.map Prod.fst ∧ innN st c = []) ∨ (∃ j, ∃ h : j < l.length, l[j].1 = c ∧ innN st c = [bytesM (rM key j l[j].2), [120]]))
theorem Rest.len {key : List UInt8} {l : List (Nat × Nat)} {b : Nat} {st : NSt} (h : Rest key l b st) : (innN st b).length = 2 * wantN l l.length b := by
  unfold wantN
  rw [List.take_length]
  rcases (h b (Nat.le_refl _)).2 with ⟨h1, h2⟩ | ⟨j, hj, he, h2⟩
  · rw [if_neg h1, h2]; rfl
  · have hm : b ∈ l.map Prod.fst := by rw [← he]; exact List.mem_map_of_mem (List.getElem_mem _)
    rw [if_pos hm, h2]; rfl
theorem only_drewQ (S : Nat → Prop) (w : World) (n : Nat) : Only S w (w.drewN n) := ⟨rfl, rfl, rfl, Nat.le_refl _, fun _ _ _ => rfl⟩
theorem NetAt.drewQ {w : World} {p : Nat} {st : NSt} {bs : Nat → Prop} (h : NetAt w p st bs) (n : Nat) : NetAt (w.drewN n) p st bs := h.only (only_drewQ (fun _ => False) w n) (fun _ _ h => h)
theorem umodQ (x : Int) (L : Nat) (h0 : 0 < L) (h : L ≤ 1000) : ∃ q : Nat, q < L ∧ wrap64 ((IntKind.u64.wrap x).tmod L) = (q : Int) ∧ IntKind.i64.wrap ((IntKind.u64.wrap x).tmod L) = (q : Int) := by
  have h1 : 0 ≤ (IntKind.u64.wrap x).tmod L := by rw [IntKind.wrap_u64]; exact Int.tmod_nonneg _ (by omega)
  have h2 : (IntKind.u64.wrap x).tmod L < L := by rw [IntKind.wrap_u64]; exact Int.tmod_lt_of_pos _ (by omega)
  refine ⟨((IntKind.u64.wrap x).tmod L).toNat, by omega, ?_, ?_⟩
  · rw [IntWalk.wrap64_in _ (by omega)]; omega
  · rw [IntKind.wrap_i64]; omega
attribute [local go_sem ↓] alT_M stT_M ldT_M ldT_B bdT_R bdT_M apZb_eq
set_option maxRecDepth 100000 in
set_option maxHeartbeats 8000000 in
theorem casketRoutes_walk (key : List UInt8) (uv ov : Value) (us : List Bool) (ns : List Int) (w : World) (hk : key.length = 32) (hu : UpAt w uv us) (ho : Rd w 1 ov (ns.map intC)) (hsh : ShaAt w) :
    Calls Tryd.prog 3 #[.agg (key.map bv).toArray, uv, ov] w fun e w' => e = .returned (.bool true) ∧ Below w.heap.size w w' := by
  have kc := fun (w : World) (C : Array Value) (n c : Nat) => Lib.run_convert_bytes_const (P := Tryd.prog) w 39 5 C n c Tryd.underlying39 Tryd.underlying5
  obtain ⟨ib, zb, hbi, hbz, hbc, hbs1, hbb⟩ : ∃ i z, Tryd.prog.info? 4 = some i ∧ i.zero = some z ∧ z.cells.size = 1 ∧ i.size = 1 ∧ i.bytes ≤ 1000 := by
    obtain ⟨i0, hi, hz0, hz1, hz2⟩ := info_parts Tryd.info_bool
    exact ⟨i0, _, hi, hz0, rfl, hz1, by omega⟩
  have HK := Lib.hid hk
  have HU := Lib.hid hu
  have HO := Lib.hid ho
  obtain ⟨w1, hw1, hkr, hB1, hs1⟩ : ∃ w1, w1 = w.alloc (.cells (key.map bv).toArray 23) ∧ w1.rangeAt w.heap.size 0 (key.map bv) ∧ Below w.heap.size w w1 ∧ w.heap.size < w1.heap.size :=
    ⟨_, rfl, rangeAt_alloc_new w (key.map bv) _, (Below.refl _ _).alloc (Nat.le_refl _) _, by simp⟩
  have HW1 := Lib.hid hw1
  have hrn := rnew_any w1 (hsh.keep hB1)
  have HKR := Lib.hid hkr
  obtain ⟨uo, uc, huv⟩ : ∃ uo uc, uv = .slice uo us.length uc := by
    obtain ⟨ao, c, e⟩ := hu.1.shape
    rw [List.length_map] at e
    exact ⟨ao, c, e⟩
  subst huv
  obtain ⟨oo, oc, hov⟩ : ∃ oo oc, ov = .slice oo ns.length oc := by
    obtain ⟨ao, c, e⟩ := ho.shape
    rw [List.length_map] at e
    exact ⟨ao, c, e⟩
  subst hov
  clear hw1 hk hu ho hkr
  go_enter Tryd.func3, Tryd.ntmps3
  go_wp2_with fail
  rw [← HW1.out]
  clear HW1
  refine hrn.mono ?_
  rintro e w2 ⟨pr, pts, rfl, hR2, hPO, hB2⟩
  clear hrn
  have hnn := nnew_ok 6 w2 (by omega) (by omega)
  rw [show ((6 : Nat) : Int) = 6 from rfl] at hnn
  go_wp2_with fail
  refine hnn.mono ?_
  rintro e w3 ⟨pn, rfl, ⟨bsN, hN3, hNg⟩, hB3⟩
  clear hnn
  have hN3l := hN3.lt
  have hR3 := hR2.keep hB3
  have hs2 := hB2.size
  have hs3 := hB3.size
  have hB13 := hB2.trans (hB3.mono hB2.size)
  have hst := stands_any w3 ((hsh.keep hB1).keep hB13)
  clear hsh
  go_wp2_with fail
  refine hst.mono ?_
  rintro e w4 ⟨rfl, hB4⟩
  clear hst
  have hR4 := hR3.keep hB4
  have hN4 := hN3.keep hB4
  have hB14 := hB13.trans (hB4.mono hB13.size)
  have hB04 := hB1.trans (hB14.mono hB1.size)
  have hs4 := hB4.size
  obtain ⟨m, hm⟩ : ∃ m, m = min us.length 5 := ⟨_, rfl⟩
  have hmin : (if 5 < (us.length : Int) then (5 : Int) else (us.length : Int)) = (m : Int) := by split <;> omega
  have hmin2 : min (us.length : Int) 5 = (m : Int) := by omega
  have hml : m ≤ us.length := by omega
  have hm5 : m ≤ 5 := by omega
  clear hm
  have hmc : (m : Int) ≤ uc := by
    obtain ⟨_, ao, c, e, h2, _⟩ := HU.out.1
    simp only [Value.slice.injEq] at e
    obtain ⟨_, _, rfl⟩ := e
    rw [List.length_map] at h2
    omega
  have hA : Below w4.heap.size w4 (w4.alloc (.cells #[] 4)) := (Below.refl _ _).alloc (Nat.le_refl _) _
  have hRA : RW (w4.alloc (.cells #[] 4)) w4.heap.size 4 1 (.slice (some ⟨w4.heap.size, 0, none⟩) 0 0) ([] : List (List Value)) := ⟨World.ownsRow_lit _ _ 0 (Nat.le_refl _) (by unfold maxLen; omega) rfl, by intro q hq; cases hq⟩
  have hSA := (up_src HU.out hml).keep (hB04.trans (hA.mono hB04.size))
  have hlm : ([] : List (List Value)).length + ((us.take m).map fun b => [Value.bool b]).length ≤ 100000000 := by rw [List.length_map, List.length_take]; simp; omega
  have hge : w4.heap.size ≤ (w4.alloc (.cells #[] 4)).heap.size := hA.size
  have HB4 := Lib.hid (And.intro hR4 (And.intro hN4 (And.intro hB14 hB04)))
  clear hR2 hR3 hN3 hR4 hN4 hB14 hB04 hB13 hB1 hB2 hB3 hB4
  go_wp2_with (at_builtin; refine wp_appsv rfl _ _ 24 rfl ib zb Tryd.underlying24 hbi hbz hbs1 hbb hbc (by omega) hRA hSA hlm hge (by rfl) (by rfl) ?_)
  intro v6 w6 hR6 hg6 hn6
  have hO6 := Only.of_grown (S := fun q => (Value.slice (some ⟨w4.heap.size, 0, none⟩) 0 0).ownBlock = some q) hg6 (fun q h => h)
  have hB6 : Below w4.heap.size w4 w6 := hA.trans (hO6.to_below hA.size (fun q e => hRA.own_ge q e))
  have hR6 : RW w6 w4.heap.size 4 1 v6 ((us.take m).map fun b => [Value.bool b]) := by rw [List.map_take]; exact hR6
  obtain ⟨v7, w7, hap7, hO7, hB7⟩ := apZb_made w6 w4.heap.size 24 v6 (us.take m) (5 - m) (OBo.of_rw hR6) (by rw [List.length_take]; omega) hB6.size
  obtain ⟨bs, hbs⟩ : ∃ bs, bs = us.take m ++ List.replicate (5 - m) false := ⟨_, rfl⟩
  have hbl : bs.length = 5 := by rw [hbs, List.length_append, List.length_take, List.length_replicate]; omega
  rw [← hbs] at hO7
  obtain ⟨gu, cu, hv7, hu1, hu2, hu3, hu4⟩ := hO7.shape (by intro e; rw [e] at hbl; simp at hbl)
  rw [hbl] at hv7 hu3
  subst hv7
  have hup := hO7.rd hbl.symm ⟨hu3, hu4⟩
  have h5m : IntKind.i64.wrap (5 - (m : Int)) = ((5 - m : Nat) : Int) := by rw [IntKind.wrap_i64]; omega
  have h5m2 : (5 : Int) - m = ((5 - m : Nat) : Int) := by omega
  obtain ⟨ro, rc, hvv, hz1, hz2, hz3⟩ := hR6.val
  clear hz1 hz2 hz3
  rw [List.length_map, List.length_take, Nat.min_eq_left hml] at hvv
  subst hvv
  have hB47 := hB6.trans (hB7.mono (Nat.le_refl _))
  clear hR6 hg6 hn6 hO6 hB6 hB7 hRA hSA hlm hge hA hmin hbs hO7 hmc
  have hld := run_ldT bigB w7 w.heap.size 0 (key.map bv) (rangeAt_keep HKR.out (HB4.out.2.2.1.trans (hB47.mono (by omega)))) (by rw [List.length_map, HK.out, zK_len])
  have hsd := stand_any pr pts key bs gu 0 cu w7 (HB4.out.1.keep hB47) hPO HK.out hbl hup
  have hs47 := hB47.size
  have HB7 := Lib.hid (And.intro (HB4.out.2.1.keep hB47) (And.intro (HB4.out.2.2.1.trans (hB47.mono (by omega))) (HB4.out.2.2.2.trans (hB47.mono (by omega)))))
  clear hup hPO hB47 HB4
  go_wp2_with fail
  clear hap7 h5m h5m2 hmin2
  refine hsd.mono ?_
  rintro e w8 ⟨v11, xs, rfl, hX, hxn, hxl, hB8⟩
  clear hsd hld
  obtain ⟨hln, hl5, hl3⟩ := standL_ok (upB bs) xs 3 hxn hxl
  generalize standL (upB bs) xs 3 = l at *
  obtain ⟨lo, lc, hlv, hlc1, hlc2, -⟩ := hX.val
  rw [List.length_map] at hlv hlc1
  subst hlv
  have hs8 := hB8.size
  have HB8 := Lib.hid (And.intro (HB7.out.1.keep hB8) (And.intro (HB7.out.2.1.trans (hB8.mono (by omega))) (HB7.out.2.2.trans (hB8.mono (by omega)))))
  clear hxn hxl hB8 HB7
  go_wp2_with fail
  have hB9 : Below w8.heap.size w8 (w8.alloc (.cells #[.int .i64 0, .int .i64 0, .int .i64 0, .int .i64 0, .int .i64 0] 37)) := (Below.refl _ _).alloc (Nat.le_refl _) _
  have hW0 : WantAt (w8.alloc (.cells #[.int .i64 0, .int .i64 0, .int .i64 0, .int .i64 0, .int .i64 0] 37)) w8.heap.size l 0 := by
    refine ⟨by simp, fun k hk => ⟨?_, by simp [World.frozen?_alloc_new]⟩⟩
    rw [World.cell?_alloc_new]
    have e : wantN l 0 k = 0 := by unfold wantN; simp
    rw [e]
    match k, hk with
    | 0, _ => rfl
    | 1, _ => rfl
    | 2, _ => rfl
    | 3, _ => rfl
    | 4, _ => rfl
  have hs9 : (w8.alloc (.cells #[.int .i64 0, .int .i64 0, .int .i64 0, .int .i64 0, .int .i64 0] 37)).heap.size = w8.heap.size + 1 := by simp
  generalize w8.alloc (.cells #[.int .i64 0, .int .i64 0, .int .i64 0, .int .i64 0, .int .i64 0] 37) = w9 at *
  obtain ⟨hN8, hB18, hB08⟩ := HB8.out
  have hN9 := hN8.keep hB9
  have hX9 := hX.keep hB9
  have hB19 := hB18.trans (hB9.mono (by omega))
  have hB09 := hB08.trans (hB9.mono (by omega))
  have hkr9 := rangeAt_keep HKR.out hB19
  have hS : ∀ k, (bsN k ∨ k = w8.heap.size) → w2.heap.size ≤ k := fun k h => h.elim (hNg k) (fun e => by omega)
  have HKld := Lib.hid (show ∀ wr, Only (fun k => bsN k ∨ k = w8.heap.size) w9 wr → (ldT 23 (.pointer (some ⟨w.heap.size, 0, none⟩))).run Tryd.prog wr = .ok (.agg (key.map bv).toArray) wr from fun wr hO =>
    run_ldT bigB wr w.heap.size 0 (key.map bv) (rangeAt_only hkr9 hO (fun h => by have := hS _ h; omega)) (by rw [List.length_map, HK.out, zK_len]))
  have HPair := Lib.hid (show ∀ wr, Only (fun k => bsN k ∨ k = w8.heap.size) w9 wr → ∀ i (h : i < l.length), ∃ g, lo = some ⟨g, 0, none⟩ ∧ wr.cell? ⟨g, i * 2, none⟩ = some (.int .i64 ((l[i].1 : Nat) : Int)) ∧ wr.cell? ⟨g, i * 2 + 1, none⟩ = some (.int .i64 ((l[i].2 : Nat) : Int)) from fun wr hO i hi => by
    obtain ⟨g, cap, e, hg1, hg2, _⟩ := hX9.shape (by intro e; rw [List.map_eq_nil_iff] at e; rw [e] at hi; simp at hi)
    simp only [Value.slice.injEq] at e
    obtain ⟨rfl, _, rfl⟩ := e
    have hgS : ∀ q, (Value.slice (some ⟨g, 0, none⟩) l.length lc).ownBlock = some q → ¬ (bsN q ∨ q = w8.heap.size) := by
      intro q e h
      have e : g = q := by simpa [Value.ownBlock] using e
      subst e
      rcases h with h | h
      · have := hN3l _ h
        have hg1 : w7.heap.size ≤ g := hX.own_ge g rfl
        omega
      · have := hX.own_lt g rfl
        omega
    have hX := hX9.only hO hgS
    have hr := hX.range (List.length_map _).symm (i := i) (by rw [List.length_map]; exact hi)
    rw [List.getElem_map] at hr
    exact ⟨g, rfl, hr 0 _ rfl, hr 1 _ rfl⟩)
  have HOrd := Lib.hid (show ∀ wr, Only (fun k => bsN k ∨ k = w8.heap.size) w9 wr → Below w.heap.size w wr from fun wr hO => hB09.trans (hO.to_below hB09.size (fun k h => by have := hS _ h; omega)))
  have HN9 := Lib.hid hN9
  have HW0 := Lib.hid hW0
  have hwb : w8.heap.size < w9.heap.size := by omega
  have HNUM := Lib.hid (And.intro hN3l (And.intro hNg (And.intro hs2 (And.intro hs3 (And.intro hs4 (And.intro hs47 hs8))))))
  have h5l : l.length ≤ 3 := hl3
  clear hN8 hB18 hB08 hX9 hB19 hB09 hkr9 hX hB9 HB8 hN9 hW0 hs9 hS hN3l hNg HKR
  generalize w8.heap.size = wb at *
  go_loopw [13] (fun cv wr => ∃ (i : Nat) (st : NSt) (bs2 : Nat → Prop), i ≤ l.length ∧ cv = .int .i64 (i : Int) ∧ NetAt wr pn st bs2 ∧ Sent key l i st ∧ WantAt wr wb l i ∧ (∀ k, bs2 k → bsN k ∨ w9.heap.size ≤ k) ∧ Only (fun k => bsN k ∨ k = wb) w9 wr) (fun cv _ => l.length - (intOf cv).toNat)
  case atStart => exact ⟨0, _, bsN, Nat.zero_le _, rfl, HN9.out, Sent.zero _ _, HW0.out, fun k h => .inl h, Only.refl _ _⟩
  case round =>
    obtain ⟨i, st, bs2, hi, rfl, hN, hSt, hWt, hbs2, hO⟩ := hrel
    clear HN9 HW0
    by_cases hlt : i < l.length
    · have hlt' : (i : Int) < l.length := by omega
      obtain ⟨g, rfl, c1, c2⟩ := HPair.out wr hO i hlt
      have hb5 : l[i].1 < 5 := (hl5 _ (List.getElem_mem hlt)).1
      have hf5 : l[i].2 < 5 := (hl5 _ (List.getElem_mem hlt)).2
      have hemp := hSt.empty hln hlt
      have hnext := hSt.next hln hlt (by omega)
      have hwst := wantN_step hln hlt
      have hwnw := wantN_new hln hlt
      have hlen6 := hSt.1
      have HCE := Lib.hid (show ∀ wE, Only (fun k => bsN k ∨ k = wb) w9 wE → wE.cell? ⟨g, i * 2, none⟩ = some (.int .i64 ((l[i].1 : Nat) : Int)) from fun wE hE => by
        obtain ⟨g', e, h1, _⟩ := HPair.out wE hE i hlt
        cases e
        exact h1)
      generalize l[i].1 = b at *
      generalize l[i].2 = f at *
      have HSN := Lib.hid hnext
      have HE := Lib.hid hemp
      have HWS := Lib.hid (And.intro hwst hwnw)
      have HBF := Lib.hid (And.intro hb5 hf5)
      have hC42 : (rV key i f).C.length = 42 := MV.C_len (rV_At key i f wr HK.out (by omega) (by omega))
      have hC1 : ∀ u ∈ (rV key i f).C, u.oneCell' = true := MV.C_one (rV_At key i f wr HK.out (by omega) (by omega))
      have hfa : ∀ wE, Below wr.heap.size wr wE → (ldT 23 (.pointer (some ⟨w.heap.size, 0, none⟩))).run Tryd.prog wE = .ok (.agg (key.map bv).toArray) wE ∧ wE.cell? ⟨g, i * 2 + 1, none⟩ = some (.int .i64 f) ∧ (bdT 41 #[(0, .agg (key.map bv).toArray)]).run Tryd.prog wE = .ok (.agg (key.map bv ++ [Value.slice none 0 0]).toArray) wE ∧
          (bdT 45 #[(0, .int .i64 5), (1, .int .i64 5), (2, .int .i64 i), (4, .int .i64 f), (6, .agg (key.map bv ++ [Value.slice none 0 0]).toArray)]).run Tryd.prog wE = .ok (.agg (rV key i f).C.toArray) wE := fun wE hE =>
        ⟨HKld.out wE (hO.trans (Only.of_below (S := fun k => bsN k ∨ k = wb) hE) (fun _ _ h => h)), (hE.cell (p := ⟨g, i * 2 + 1, none⟩) (World.block_lt_of_cell? wr _ c2)).trans c2, bd_R key HK.out wE, bd_M key i f HK.out wE⟩
      clear hnext hemp hwst hwnw hSt hb5 hf5
      go_wp2_with fail
      refine wp_region_El 10 (fun w' => Below wr.heap.size wr w') #[false, false, false, false, false, false, false, false, false, false, false] (by kernel_rfl) (by kernel_rfl) ?_
      have hS0 : Below wr.heap.size wr wr.drew := (Below.refl _ _).drew
      refine wpAnyE_take (i := 0) (v := ?v_a0) rfl (by kernel_rfl) (by kernel_rfl) (by kernel_rfl) (by kernel_rfl) (by kernel_rfl) (fun _ _ _ h => h) (Or.inl ⟨by kernel_rfl, ?y_a0⟩) (by assumption) ?r_a0
      case y_a0 => intro wE hSw; obtain ⟨q0, q1, q2, q3⟩ := hfa wE hSw; go_simp; try with_reducible rfl
      case' r_a0 => ((try simp only [Act.put, List.getElem_toArray, List.getElem_cons_zero]); (try simp only [List.setIfInBounds_toArray]); (try simp only [List.set_cons_zero, List.set_cons_succ]))
      refine wpAnyE_take (i := 1) (v := ?v_a1) rfl (by kernel_rfl) (by kernel_rfl) (by kernel_rfl) (by kernel_rfl) (by kernel_rfl) (fun _ _ _ h => h) (Or.inl ⟨by kernel_rfl, ?y_a1⟩) (by assumption) ?r_a1
      case y_a1 => intro wE hSw; obtain ⟨q0, q1, q2, q3⟩ := hfa wE hSw; go_simp; try with_reducible rfl
      case' r_a1 => ((try simp only [Act.put, List.getElem_toArray, List.getElem_cons_zero, List.getElem_cons_succ]); (try simp only [List.setIfInBounds_toArray]); (try simp only [List.set_cons_zero, List.set_cons_succ]))
      refine wpAnyE_take (i := 2) (v := ?v_a2) rfl (by kernel_rfl) (by kernel_rfl) (by kernel_rfl) (by kernel_rfl) (by kernel_rfl) (fun _ _ _ h => h) (Or.inl ⟨by kernel_rfl, ?y_a2⟩) (by assumption) ?r_a2
      case y_a2 => intro wE hSw; obtain ⟨q0, q1, q2, q3⟩ := hfa wE hSw; go_simp; try with_reducible rfl
      case' r_a2 => ((try simp only [Act.put, List.getElem_toArray, List.getElem_cons_zero, List.getElem_cons_succ]); (try simp only [List.setIfInBounds_toArray]); (try simp only [List.set_cons_zero, List.set_cons_succ]))
      refine wpAnyE_take (i := 3) (v := ?v_a3) rfl (by kernel_rfl) (by kernel_rfl) (by kernel_rfl) (by kernel_rfl) (by kernel_rfl) (fun _ _ _ h => h) (Or.inl ⟨by kernel_rfl, ?y_a3⟩) (by assumption) ?r_a3
      case y_a3 => intro wE hSw; obtain ⟨q0, q1, q2, q3⟩ := hfa wE hSw; go_simp; try with_reducible rfl
      case' r_a3 => ((try simp only [Act.put, List.getElem_toArray, List.getElem_cons_zero, List.getElem_cons_succ]); (try simp only [List.setIfInBounds_toArray]); (try simp only [List.set_cons_zero, List.set_cons_succ]))
      refine wpAnyE_take (i := 4) (v := ?v_a4) rfl (by kernel_rfl) (by kernel_rfl) (by kernel_rfl) (by kernel_rfl) (by kernel_rfl) (fun _ _ _ h => h) (Or.inl ⟨by kernel_rfl, ?y_a4⟩) (by assumption) ?r_a4
      case y_a4 => intro wE hSw; obtain ⟨q0, q1, q2, q3⟩ := hfa wE hSw; go_simp; try with_reducible rfl
      case' r_a4 => ((try simp only [Act.put, List.getElem_toArray, List.getElem_cons_zero, List.getElem_cons_succ]); (try simp only [List.setIfInBounds_toArray]); (try simp only [List.set_cons_zero, List.set_cons_succ]))
      refine wpAnyE_take (i := 5) (v := ?v_a5) rfl (by kernel_rfl) (by kernel_rfl) (by kernel_rfl) (by kernel_rfl) (by kernel_rfl) (fun _ _ _ h => h) (Or.inl ⟨by kernel_rfl, ?y_a5⟩) (by assumption) ?r_a5
      case y_a5 => intro wE hSw; obtain ⟨q0, q1, q2, q3⟩ := hfa wE hSw; go_simp; try with_reducible rfl
      case' r_a5 => ((try simp only [Act.put, List.getElem_toArray, List.getElem_cons_zero, List.getElem_cons_succ]); (try simp only [List.setIfInBounds_toArray]); (try simp only [List.set_cons_zero, List.set_cons_succ]))
      refine wpAnyE_take (i := 6) (v := ?v_a6) rfl (by kernel_rfl) (by kernel_rfl) (by kernel_rfl) (by kernel_rfl) (by kernel_rfl) (fun _ _ _ h => h) (Or.inl ⟨by kernel_rfl, ?y_a6⟩) (by assumption) ?r_a6
      case y_a6 => intro wE hSw; obtain ⟨q0, q1, q2, q3⟩ := hfa wE hSw; go_simp; try with_reducible rfl
      case' r_a6 => ((try simp only [Act.put, List.getElem_toArray, List.getElem_cons_zero, List.getElem_cons_succ]); (try simp only [List.setIfInBounds_toArray]); (try simp only [List.set_cons_zero, List.set_cons_succ]))
      refine wpAnyE_take (i := 7) (v := ?v_a7) rfl (by kernel_rfl) (by kernel_rfl) (by kernel_rfl) (by kernel_rfl) (by kernel_rfl) (fun _ _ _ h => h) (Or.inl ⟨by kernel_rfl, ?y_a7⟩) (by assumption) ?r_a7
      case y_a7 => intro wE hSw; obtain ⟨q0, q1, q2, q3⟩ := hfa wE hSw; go_simp; try with_reducible rfl
      case' r_a7 => ((try simp only [Act.put, List.getElem_toArray, List.getElem_cons_zero, List.getElem_cons_succ]); (try simp only [List.setIfInBounds_toArray]); (try simp only [List.set_cons_zero, List.set_cons_succ]))
      refine wpAnyE_take (i := 8) (v := ?v_a8) rfl (by kernel_rfl) (by kernel_rfl) (by kernel_rfl) (by kernel_rfl) (by kernel_rfl) (fun _ _ _ h => h) (Or.inl ⟨by kernel_rfl, ?y_a8⟩) (by assumption) ?r_a8
      case y_a8 => intro wE hSw; obtain ⟨q0, q1, q2, q3⟩ := hfa wE hSw; go_simp; try with_reducible rfl
      case' r_a8 => ((try simp only [Act.put, List.getElem_toArray, List.getElem_cons_zero, List.getElem_cons_succ]); (try simp only [List.setIfInBounds_toArray]); (try simp only [List.set_cons_zero, List.set_cons_succ]))
      refine wpAnyE_ready (rs := [9]) (by kernel_rfl) (by simp) ?_
      refine AllReadyE.cons rfl (fun KA hKA => ?_) AllReadyE.nil
      rw [if_pos (by kernel_rfl)]
      obtain ⟨wq, w5', hal5, hst5, hrg5, hBq, hB5, hs5⟩ := msg_made wr.drew (rV key i f).C hC42 hC1
      have hal5 : (alT 45).run Tryd.prog wr.drew = .ok (.pointer (some ⟨wr.heap.size, 0, none⟩)) wq := hal5
      have hst5 : (stT 45 (.pointer (some ⟨wr.heap.size, 0, none⟩)) (.agg (rV key i f).C.toArray)).run Tryd.prog wq = .ok () w5' := hst5
      have hBq : Below wr.heap.size wr wq := Below.of_drew hBq
      have hB5 : Below wr.heap.size wr w5' := Below.of_drew hB5
      go_simp
      refine hKA _ _ (fun _ => hBq) ?_
      clear hKA KA
      refine wpAnyE_ready (rs := [10]) (by kernel_rfl) (by simp) ?_
      refine AllReadyE.cons rfl (fun KA hKA => ?_) AllReadyE.nil
      rw [if_pos (by kernel_rfl)]
      go_simp
      refine hKA _ _ (fun h => Bool.noConfusion (show true = false from h)) ?_
      clear hKA KA
      refine wpAnyE_done (by kernel_rfl) ?_ _
      have hld5 := run_ldT bigM w5' wr.heap.size 0 (rV key i f).C hrg5 (by rw [hC42, zM_len])
      have hmw := mwrite_any (rV key i f) w5' (rV_At key i f w5' HK.out (by have := HBF.out; omega) (by have := HBF.out; omega))
      have hok : okM (rV key i f).m = true := rM_ok key i f (by have := HBF.out; omega) (by have := HBF.out; omega)
      have hN5 := hN.keep hB5
      have hO5 := hO.trans (Only.of_below (S := fun k => bsN k ∨ k = wb) hB5) (fun _ _ h => h)
      have hWt := hWt.keep hB5
      have HL5 := Lib.hid (And.intro hN5 (And.intro hO5 hWt))
      have hsz5 := hB5.size
      clear hal5 hst5 hrg5 hs5 hBq hfa hS0 hN hO hB5 hN5 hO5 hWt
      go_wp2_with fail
      refine hmw.mono ?_
      rintro e w6' ⟨hres, hB6⟩
      clear hmw hld5 hC42 hC1
      obtain ⟨v15, rfl, hv15⟩ : ∃ v, e = .returned (.tuple #[v, .int .i64 0]) ∧ OB w6' w5'.heap.size v (bytesM (rM key i f)) := by
        rcases hres with ⟨_, v, h1, h2⟩ | ⟨h, _⟩
        · exact ⟨v, h1, h2⟩
        · rw [hok] at h; cases h
      clear hres hok
      obtain ⟨hN5, hO5, hWt5⟩ := HL5.out
      have hN6 := hN5.keep hB6
      have hO6 := hO5.trans (Only.of_below (S := fun k => bsN k ∨ k = wb) hB6) (fun _ _ h => h)
      have hWt6 := hWt5.keep hB6
      obtain ⟨hb5, hf5⟩ := HBF.out
      have hsn := nsend_ok b v15 (bytesM (rM key i f)) w6' hN6 (by omega) (by rw [HE.out]; decide) hv15.bsl (by have := rM_len key i f HK.out; omega)
      have hs6 := hB6.size
      have hs69 : w9.heap.size ≤ w6'.heap.size := hO6.size
      have HL6 := Lib.hid (And.intro hN6 (And.intro hO6 (And.intro hlen6 hb5)))
      clear hN5 hO5 hWt5 hB6 hN6 hO6 hb5 hf5 hlen6
      obtain ⟨v15o, v15c, rfl⟩ := hv15.bsl.shape
      clear hv15
      have hnwb : ¬ bsN wb := fun h => by have hz := HNUM.out; have := hz.1 _ h; omega
      have hb2w : ¬ bs2 wb := fun h => (hbs2 _ h).elim hnwb (fun h => by omega)
      have c6 := HCE.out w6' HL6.out.2.1
      have hb5 := HBF.out.1
      have hb5' : (b : Int) < 5 := by omega
      have HW6 := Lib.hid hWt6
      clear hWt6
      go_wp2_with fail
      refine hsn.mono ?_
      rintro e w7' ⟨rfl, bs3, hN7, hE7⟩
      clear hsn c6
      have hO7 := HL6.out.2.1.trans hE7.only (fun q hq h => (hbs2 q h).elim .inl (fun h => by omega))
      have hbs3 : ∀ q, bs3 q → bsN q ∨ w9.heap.size ≤ q := fun q h => (hE7.new q h).elim (hbs2 q) (fun h => .inr (Nat.le_trans hs69 h))
      have hW7 := HW6.out.only hE7.only hb2w
      have hA8 : Below w7'.heap.size w7' (w7'.alloc (.cells #[.int .u8 120] 5 (1, 2))) := (Below.refl _ _).alloc (Nat.le_refl _) _
      have hbx := Bsl.lit w7' [120] #[.int .u8 120] (1, 2) 1 rfl (by simp) (by omega)
      have hb3w : ¬ bs3 wb := fun h => (hbs3 _ h).elim hnwb (fun h => by omega)
      have c7 := HCE.out w7' hO7
      have hl7 : (st.set b (innN st b ++ [bytesM (rM key i f)], seenN st b)).length = 6 := by rw [List.length_set]; exact HL6.out.2.2.1
      have hsn2 := nsend_ok b (.slice (some ⟨w7'.heap.size, 0, none⟩) 1 1) [120] (w7'.alloc (.cells #[.int .u8 120] 5 (1, 2))) (hN7.keep hA8) (by rw [hl7]; omega) (by rw [innN_set (by rw [HL6.out.2.2.1]; omega), if_pos rfl, HE.out]; show 1 < 64; omega) hbx (by decide)
      have hO8 := hO7.trans (Only.of_below (S := fun k => bsN k ∨ k = wb) hA8) (fun _ _ h => h)
      have hW8 := hW7.keep hA8
      have HX8 := Lib.hid (And.intro hO8 (And.intro hW8 hA8.size))
      have hs79 : w9.heap.size ≤ w7'.heap.size := hO7.size
      clear hN7 hE7 hO7 hW7 hA8 hbx hO8 hW8 HW6 hl7
      go_wp2_with fail
      refine hsn2.mono ?_
      rintro e w10 ⟨rfl, bs4, hN10, hE10⟩
      clear hsn2 c7
      obtain ⟨hO8, hW8, hs8a⟩ := HX8.out
      have hO10 := hO8.trans hE10.only (fun q hq h => (hbs3 q h).elim .inl (fun h => by omega))
      have hbs4 : ∀ q, bs4 q → bsN q ∨ w9.heap.size ≤ q := fun q h => (hE10.new q h).elim (hbs3 q) (fun h => .inr (by omega))
      have hW10 := hW8.only hE10.only hb3w
      have hb4w : ¬ bs4 wb := fun h => (hbs4 _ h).elim hnwb (fun h => by omega)
      have c10 := HCE.out w10 hO10
      obtain ⟨cw, fw⟩ := hW10.2 b hb5
      rw [HWS.out.2, show ((0 : Nat) : Int) = 0 from rfl] at cw
      have hOS : Only (· = wb) w10 (w10.setCell ⟨wb, b, none⟩ (.int .i64 1)) := Only.setCell (S := (· = wb)) (Only.refl _ _) (p := ⟨wb, b, none⟩) (fun _ => rfl) _
      have HF := Lib.hid (And.intro (hN10.only hOS (fun q h e => hb4w (by rw [← show q = wb from e]; exact h))) (And.intro (hW10.add hb5 HWS.out.1) (And.intro hbs4 (hO10.trans hOS (fun q hq e => .inr e)))))
      clear hN10 hE10 hO8 hW8 hs8a hO10 hbs4 hbs3 hW10 hOS HX8 hb2w hb3w hb4w
      go_wp2_with fail
      go_roundw
      case rel => exact ⟨i + 1, _, bs4, by omega, by go_num, HF.out.1, HSN.out, HF.out.2.1, HF.out.2.2.1, HF.out.2.2.2⟩
      case measure => simp [intOf]; omega
    · have hltn : ¬ (i : Int) < l.length := by omega
      have hie : i = l.length := by omega
      subst hie
      have HT := Lib.hid (And.intro hN (And.intro hSt (And.intro hWt (And.intro hbs2 hO))))
      clear hN hSt hWt hbs2 hO hi
      go_wp2_with fail
      obtain ⟨hN, hSt, hWt, hbs2, hO⟩ := HT.out
      have HAll := Lib.hid (show st.length = 6 ∧ Rest key l 0 st from hSt.all)
      have hnwb : ¬ bsN wb := fun h => by have hz := HNUM.out; have := hz.1 _ h; omega
      clear hSt HT
      go_loopw [17] (fun cv wx => ∃ (b : Nat) (st2 : NSt) (bs5 : Nat → Prop), b ≤ 5 ∧ cv = .int .i64 (b : Int) ∧ NetAt wx pn st2 bs5 ∧ (st2.length = 6 ∧ Rest key l b st2) ∧ WantAt wx wb l l.length ∧ (∀ k, bs5 k → bsN k ∨ w9.heap.size ≤ k) ∧ Only (fun k => bsN k ∨ k = wb) w9 wx) (fun cv _ => 5 - (intOf cv).toNat)
      case atStart => exact ⟨0, st, bs2, by omega, rfl, hN, HAll.out, hWt, hbs2, hO⟩
      case round =>
        clear hN hWt hbs2 hO HAll
        obtain ⟨b, st2, bs5, hb, rfl, hN, hRe, hWt, hbs5, hO⟩ := hrel
        by_cases hb5 : b < 5
        · have hb5' : (b : Int) < 5 := by omega
          have hL := hRe.2.len
          obtain ⟨cw, fw⟩ := hWt.2 b hb5
          have hwn := wantN_le l l.length b
          have kL := fun n => quiet_eq (nlen_ok b (wr.drewN n) (hN.drewQ n) (by rw [hRe.1]; omega))
          have HTk := Lib.hid (Taking.of hRe.1 hRe.2)
          have HN := Lib.hid (And.intro hN (And.intro hWt (And.intro hbs5 hO)))
          have hL2 : ((innN st2 b).length : Int) = 2 * ((wantN l l.length b : Nat) : Int) := by omega
          generalize wantN l l.length b = wn at *
          generalize hLL : (innN st2 b).length = LL at *
          have HLL := Lib.hid hLL
          have hwn' : ¬ (1 : Int) < wn := by omega
          have hwrp : IntKind.i64.wrap (2 * (wn : Int)) = 2 * (wn : Int) := by rw [IntKind.wrap_i64]; omega
          clear hL hN hWt hbs5 hO fw hLL hRe
          go_wp2_with fail
          refine wp_region_quiet_lit (by kernel_rfl) (by kernel_rfl) ?_
          repeat (quiet_step ((go_at_call 10; with_reducible exact kL _)))
          refine wpQuiet_nil ?_
          rintro _ ⟨n0, rfl⟩
          clear kL cw
          go_wp2_with fail
          clear hwn hwn' hwrp hL2
          obtain ⟨hN, hWt, hbs5, hO⟩ := HN.out
          have hN0 := hN.drewQ n0
          have hW0 := hWt.only (only_drewQ (fun _ => False) wr n0) (fun h => h)
          have hO0 := hO.trans (only_drewQ (fun _ => False) wr n0) (fun _ _ h => h.elim)
          generalize wr.drewN n0 = wx0 at *
          clear hN hWt hO HN
          go_loopw [18] (fun cv wy => ∃ (i : Nat) (st3 : NSt) (bs6 : Nat → Prop), cv = .int .i64 (i : Int) ∧ i + (innN st3 b).length ≤ 2 ∧ NetAt wy pn st3 bs6 ∧ Taking key l b st3 ∧ WantAt wy wb l l.length ∧ (∀ k, bs6 k → bsN k ∨ w9.heap.size ≤ k) ∧ Only (fun k => bsN k ∨ k = wb) w9 wy) (fun cv _ => 3 - (intOf cv).toNat)
          case atStart => exact ⟨0, st2, bs5, rfl, by have := HTk.out.2.2.1; omega, hN0, HTk.out, hW0, hbs5, hO0⟩
          case round =>
            clear hN0 hW0 hO0 hbs5 HTk HLL
            obtain ⟨i, st3, bs6, rfl, hi2, hN, hTk, hWt, hbs6, hO⟩ := hrel
            have hl6 := hTk.1
            have kL := nlen_ok b wr hN (by omega)
            by_cases hpos : 0 < (innN st3 b).length
            · have hpos' : (0 : Int) < ((innN st3 b).length : Int) := by omega
              have hseen := hTk.2.2.1
              have HIN := Lib.hid (And.intro hi2 (And.intro hseen hpos))
              have HTK := Lib.hid hTk
              clear hTk
              go_wp2_with fail
              refine kL.mono ?_
              rintro e w' ⟨rfl, rfl⟩
              clear kL
              go_upto_if 144 with (fail)
              go_cut [19] (fun qv wz => ∃ q : Nat, q < (innN st3 b).length ∧ qv = .int .i64 (q : Int) ∧ NetAt wz pn st3 bs6 ∧ WantAt wz wb l l.length ∧ Only (fun k => bsN k ∨ k = wb) w9 wz)
              case first =>
                by_cases hio : i < ns.length
                · have hio' : (i : Int) < ns.length := by omega
                  have hRo := HO.out.keep (HOrd.out wr hO)
                  obtain ⟨og, oof, rfl⟩ : ∃ og oof, oo = some ⟨og, oof, none⟩ := by
                    obtain ⟨_, ao, c, e, _, _, h4⟩ := hRo
                    simp only [Value.slice.injEq] at e
                    obtain ⟨rfl, _, rfl⟩ := e
                    obtain ⟨g, o, e, _⟩ := h4 (by intro e; rw [List.map_eq_nil_iff] at e; subst e; simp at hio)
                    exact ⟨g, o, e⟩
                  obtain ⟨x, hx⟩ : ∃ x, wr.cell? ⟨og, oof + i, none⟩ = some (.int .i64 x) := by
                    obtain ⟨_, ao, c, e, _, _, h4⟩ := hRo
                    simp only [Value.slice.injEq] at e
                    obtain ⟨rfl, _, rfl⟩ := e
                    obtain ⟨g, o, e, hr⟩ := h4 (by intro e; rw [List.map_eq_nil_iff] at e; subst e; simp at hio)
                    cases e
                    have hr := hr i (by rw [List.length_map]; exact hio)
                    rw [List.getElem_map, Nat.mul_one] at hr
                    exact ⟨_, hr 0 _ rfl⟩
                  have kLn := fun n => quiet_eq (nlen_ok b (wr.drewN n) (hN.drewQ n) (by omega))
                  obtain ⟨q, hq, hq1, hq2⟩ := umodQ x (innN st3 b).length hpos (by omega)
                  have hu64 : IntKind.u64.wrap (((innN st3 b).length : Nat) : Int) = (((innN st3 b).length : Nat) : Int) := by rw [IntKind.wrap_u64]; omega
                  have HG := Lib.hid (And.intro hN (And.intro hWt hO))
                  have hLn0 : ¬ (((innN st3 b).length : Nat) : Int) = 0 := by omega
                  clear hRo hN hWt hO
                  have hLnN : ¬ (innN st3 b).length = 0 := by omega
                  generalize (innN st3 b).length = LL at *
                  go_wp2_with fail
                  refine wp_region_quiet_lit (by kernel_rfl) (by kernel_rfl) ?_
                  repeat (quiet_step ((go_at_call 10; with_reducible exact kLn _)))
                  refine wpQuiet_nil ?_
                  rintro _ ⟨n1, rfl⟩
                  go_wp2_with fail
                  go_meet
                  exact ⟨q, hq, rfl, HG.out.1.drewQ n1, HG.out.2.1.only (only_drewQ (fun _ => False) wr n1) (fun h => h), HG.out.2.2.trans (only_drewQ (fun _ => False) wr n1) (fun _ _ h => h.elim)⟩
                · have hion : ¬ (i : Int) < ns.length := by omega
                  have HG := Lib.hid (And.intro hN (And.intro hWt hO))
                  clear hN hWt hO
                  go_wp2_with fail
                  go_meet
                  exact ⟨0, hpos, rfl, HG.out.1, HG.out.2.1, HG.out.2.2⟩
              case rest =>
                obtain ⟨q, hq, rfl, hN, hWt, hO⟩ := hcut
                have hsq := HIN.out.2.1
                have htk := ntake_ok b q wc hN (by omega) hq (by omega)
                obtain ⟨hT2, hm, hlen⟩ := HTK.out.took (by omega) hq
                generalize (innN st3 b).getD q [] = mm at *
                generalize st3.set b ((innN st3 b).eraseIdx q, seenN st3 b ++ [mm]) = st4 at *
                have hml1 : mm.length ≤ 1000000 := by
                  rcases hm with h | ⟨j, hj, _, h⟩
                  · rw [h]; simp
                  · rw [h]; have := rM_len key j l[j].2 HK.out; omega
                have HM := Lib.hid hm
                have HT2 := Lib.hid (And.intro hT2 hlen)
                have HLV := Lib.hid (And.intro hWt hO)
                clear hm hT2 hlen hWt hO
                go_wp2_with fail
                refine htk.mono ?_
                rintro e w6' ⟨v20, bs7, rfl, hv20, hN7, hE7, hdis⟩
                clear htk hdis
                have hO7 := HLV.out.2.trans hE7.only (fun q hq h => (hbs6 q h).elim .inl (fun h => by omega))
                have hcs := HLV.out.2.size
                have hbs7 : ∀ q, bs7 q → bsN q ∨ w9.heap.size ≤ q := fun q h => (hE7.new q h).elim (hbs6 q) (fun h => .inr (by omega))
                have hb6w : ¬ bs6 wb := fun h => (hbs6 _ h).elim hnwb (fun h => by omega)
                have hWt7 := HLV.out.1.only hE7.only hb6w
                have hrd := mread_any v20 mm w6' hv20.bsl hml1
                obtain ⟨vo, vc, rfl⟩ := hv20.bsl.shape
                have hbb := hv20.bsl
                have HX7 := Lib.hid (And.intro hN7 (And.intro hWt7 hO7))
                clear hN7 hE7 hWt7 hO7 hv20 hN hb6w hcs HLV
                go_wp2_with fail
                refine hrd.mono ?_
                rintro e w7' ⟨hres, hB7⟩
                clear hrd
                obtain ⟨C, er, rfl, hC42, hC1, hCx⟩ : ∃ (C : List Value) (er : Int), e = .returned (.tuple #[.agg C.toArray, .int .i64 er]) ∧ C.length = 42 ∧ (∀ u ∈ C, u.oneCell' = true) ∧ ((∃ x : MV, readM mm = some x.m ∧ C = x.C ∧ er = 0 ∧ x.At w7') ∨ readM mm = none) := by
                  rcases hres with ⟨x, h1, h2, h3⟩ | ⟨h1, h2⟩
                  · exact ⟨x.C, 0, h2, MV.C_len h3, MV.C_one h3, .inl ⟨x, h1, rfl, rfl, h3⟩⟩
                  · exact ⟨_, 2, h2, mv0_len _ _ _, mv0_one _ _ _, .inr h1⟩
                clear hres
                obtain ⟨wq, w8', hal8, hst8, hrg8, hBq, hB8, hs8'⟩ := msg_made w7' C hC42 hC1
                have hB78 := hB7.trans (hB8.mono hB7.size)
                have hb8 := hbb.keep hB78
                have s8 := run_str w8' hb8
                have HX8 := Lib.hid (show NetAt w8' pn st4 bs7 ∧ WantAt w8' wb l l.length ∧ Only (fun k => bsN k ∨ k = wb) w9 w8' from ⟨HX7.out.1.keep hB78, HX7.out.2.1.keep hB78, HX7.out.2.2.trans (Only.of_below (S := fun k => bsN k ∨ k = wb) hB78) (fun _ _ h => h)⟩)
                have hi2 := HIN.out.1
                have HS8 := Lib.hid hs8'
                have hCX := Lib.hid hCx
                clear hB7 hB8 hB78 hbb hb8 hBq HX7 hs8' hCx
                by_cases hmx : mm = [120]
                · subst hmx
                  rw [show ([120] : List UInt8).length = 1 from rfl] at s8 ⊢
                  have s8 : (convert 39 9 (.slice vo 1 vc)).run Tryd.prog w8' = .ok (.string ⟨#[120]⟩) w8' := s8
                  clear HM hCX
                  go_wp2_with fail
                  go_roundw
                  case rel => exact ⟨i + 1, st4, bs7, by go_num, by have := HT2.out.2; omega, HX8.out.1, HT2.out.1, HX8.out.2.1, hbs7, HX8.out.2.2⟩
                  case measure => simp [intOf]; omega
                · have hbeq : (mm == [120]) = false := by simpa using hmx
                  obtain ⟨j, hj, hjb, hjm⟩ := HM.out.resolve_left hmx
                  have hf5 := (hl5 _ (List.getElem_mem hj)).2
                  obtain ⟨x, hxm, rfl, rfl, hxA⟩ : ∃ x : MV, x.m = rM key j l[j].2 ∧ C = x.C ∧ er = 0 ∧ x.At w7' := by
                    have hrr := rM_read key j l[j].2 HK.out (by omega) (by omega)
                    rw [← hjm] at hrr
                    rcases hCX.out with ⟨x, h1, h2, h3, h4⟩ | h
                    · rw [hrr] at h1
                      exact ⟨x, (Option.some.inj h1).symm, h2, h3, h4⟩
                    · rw [hrr] at h; cases h
                  have hxk : x.m.row.key = key := by rw [hxm]; rfl
                  obtain ⟨⟨-, -, ca, -, ch, -⟩, hrow, -⟩ := MV.range hrg8 (by rw [hxk]; exact HK.out)
                  rw [hxm, show (rM key j l[j].2).ask = ((j : Nat) : Int) from rfl] at ca
                  rw [hxm, show (rM key j l[j].2).hold = ((l[j].2 : Nat) : Int) from rfl] at ch
                  obtain ⟨hkr, -⟩ := RV.range hrow (show x.row.key.length = 32 by show x.m.row.key.length = 32; rw [hxk]; exact HK.out)
                  rw [show x.row.key = key from hxk] at hkr
                  obtain ⟨g, hlo, p1, p2⟩ := HPair.out w8' HX8.out.2.2 j hj
                  subst hlo
                  rw [hjb] at p1
                  generalize l[j].2 = f at *
                  have ldm := fun n => run_ldT bigB (w8'.drewN n) w7'.heap.size 6 (key.map bv) hkr (by rw [List.length_map, HK.out, zK_len])
                  have ldk := fun n => HKld.out (w8'.drewN n) (HX8.out.2.2.trans (only_drewQ (fun _ => False) w8' n) (fun _ _ h => h.elim))
                  have nqk := fun w => neq_Bl key HK.out w
                  have nqp := fun w => neq_pair (b : Int) (f : Int) w
                  have hj' : (j : Int) < l.length := by omega
                  have hj0 : ¬ (j : Int) < 0 := by omega
                  have hjg : ¬ (l.length : Int) ≤ j := by omega
                  clear HM hjm hxA hrow hkr hC42 hC1 hrg8 hCX hxm hxk
                  go_wp2_with fail
                  clear s8 hbeq hal8 hst8
                  go_quiet (fail)
                  clear ldm ldk nqk nqp p1 p2 ca ch
                  have HF := Lib.hid (And.intro (HX8.out.1.drewQ nq) (And.intro (HX8.out.2.1.only (only_drewQ (fun _ => False) w8' nq) (fun h => h)) (HX8.out.2.2.trans (only_drewQ (fun _ => False) w8' nq) (fun _ _ h => h.elim))))
                  go_wp2_with fail
                  go_roundw
                  case rel => exact ⟨i + 1, st4, bs7, by go_num, by have := HT2.out.2; omega, HF.out.1, HT2.out.1, HF.out.2.1, hbs7, HF.out.2.2⟩
                  case measure => simp [intOf]; omega
            · have hz : (innN st3 b).length = 0 := by omega
              have hze : (((innN st3 b).length : Nat) : Int) = 0 := by omega
              have HF := Lib.hid (show Rest key l (b + 1) st3 from fun c hc => hTk.2.1 c (by omega))
              clear hTk
              rw [hze] at kL
              go_wp2_with fail
              refine kL.mono ?_
              rintro e w' ⟨rfl, rfl⟩
              go_wp2_with fail
              go_roundw
              case rel => exact ⟨b + 1, st3, bs6, by omega, by go_num, hN, ⟨hl6, HF.out⟩, hWt, hbs6, hO⟩
              case measure => simp [intOf]; omega
        · have hbn : ¬ (b : Int) < 5 := by omega
          have HF := Lib.hid (HOrd.out wr hO)
          clear hN hRe hWt hbs5 hO
          go_wp2_with fail
          go_ret
          exact ⟨rfl, HF.out⟩
end Go.Proofs.YtjhocaleampamaaDoor
