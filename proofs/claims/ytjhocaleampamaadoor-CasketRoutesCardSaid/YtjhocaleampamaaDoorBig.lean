/- Variables of large types: their making, loads and stores; arrays of numbers. -/
import Derived.Test.YtjhocaleampamaaDoorRow
import Derived.Test.YtjhocaleampamaaDoorBuild
namespace Go.Proofs.YtjhocaleampamaaDoor.Big
open Go.RowKit Go.Proofs.YtjhocaleampamaaDoor
set_option linter.unusedVariables false
/-- A type's size, and its zero value. -/
structure BigT (t : TypeId) (zs : List Value) : Prop where
  parts : ∃ i z, Tryd.prog.info? t = some i ∧ i.zero = some z ∧ z.cells = zs.toArray ∧ i.size = zs.length ∧ i.bytes ≤ 1000 ∧ z = .agg zs.toArray
  row : ∃ d, Tryd.prog.underlying t = some d ∧ d.isRow = true
theorem BigT.of {t : TypeId} {zs : List Value} (h : (Tryd.prog.info? t).map (fun i => (i.zero, i.size, decide (i.bytes ≤ 1000))) = some (some (.agg zs.toArray), zs.length, true)) (hr : ∃ d, Tryd.prog.underlying t = some d ∧ d.isRow = true) : BigT t zs := by
  refine ⟨?_, hr⟩
  cases hi : Tryd.prog.info? t with
  | none => rw [hi] at h; cases h
  | some i =>
    rw [hi] at h
    simp only [Option.map_some, Option.some.injEq, Prod.mk.injEq, decide_eq_true_eq] at h
    obtain ⟨h1, h2, h3⟩ := h
    exact ⟨i, _, rfl, h1, rfl, h2, h3, rfl⟩
theorem BigT.size {t : TypeId} {zs : List Value} (h : BigT t zs) : (Tryd.prog.info? t).map (·.size) = some zs.length := by
  obtain ⟨i, z, h1, _, _, h4, _⟩ := h.parts
  rw [h1, Option.map_some, h4]
def alT (t : TypeId) : Sem Value := Instr.alloc t true (.tuple #[])
def ldT (t : TypeId) (v : Value) : Sem Value := Instr.loadAt t v
def stT (t : TypeId) (v u : Value) : Sem Unit := Instr.storeAt t v u
theorem run_alT {t : TypeId} {zs : List Value} (h : BigT t zs) (w : World) : (alT t).run Tryd.prog w = .ok (.pointer (some ⟨w.heap.size, 0, none⟩)) (w.alloc (.cells zs.toArray t)) := by
  obtain ⟨i, z, hi, hz, hzc, _⟩ := h.parts
  rw [← hzc]
  simp [alT, Instr.alloc, zeroValue, typeInfo, hi, hz, newVar, newRow]
theorem run_ldT {t : TypeId} {zs : List Value} (h : BigT t zs) (w : World) (b o : Nat) (cs : List Value) (hr : w.rangeAt b o cs) (hl : cs.length = zs.length) : (ldT t (.pointer (some ⟨b, o, none⟩))).run Tryd.prog w = .ok (.agg cs.toArray) w := by
  obtain ⟨d, hu, hd⟩ := h.row
  exact run_loadAt_mid w b o _ cs d hr hu hd (by rw [h.size, hl])
theorem run_stT {t : TypeId} {zs : List Value} (h : BigT t zs) (w : World) (b o : Nat) (cs : List Value) (hr : w.there b o cs.length) (hl : cs.length = zs.length) (h1 : ∀ u ∈ cs, u.oneCell' = true) : (stT t (.pointer (some ⟨b, o, none⟩)) (.agg cs.toArray)).run Tryd.prog w = .ok () (w.setCells b o cs) :=
  run_storeAt_mid w b o _ cs.toArray (by simpa using hr) (by rw [h.size, List.size_toArray, hl]) (all_oneCell_toArray h1)
theorem run_lvT {t : TypeId} {zs : List Value} (h : BigT t zs) (w : World) (b o : Nat) (cs : List Value) (hr : w.rangeAt b o cs) (hl : cs.length = zs.length) : (loadVar t ⟨b, o, none⟩).run Tryd.prog w = .ok (.agg cs.toArray) w := by
  obtain ⟨d, hu, hd⟩ := h.row
  exact run_loadVar_mid w b o _ cs d hr hu hd (by rw [h.size, hl])
theorem results_cell {P : Program} {fn : Func} {a : Tmp} {t : TypeId} {b o : Nat} {v : Value} {w : World} {tmps : Array Value} (h : fn.results = #[.cell a t]) (ha : tmps.getD a undef = .pointer (some ⟨b, o, none⟩))
    (hr : (loadVar t ⟨b, o, none⟩).run P w = .ok v w) : (results fn tmps).run P w = .ok v w := by
  unfold results
  rw [h]
  simp only [asAddr, ha, hr, List.mapM_toArray, List.mapM_cons, List.mapM_nil, Sem.run_bind, Sem.run_pure, Result.andThen_ok, Sem.run_map]
  simp
theorem rangeAt_only {S : Nat → Prop} {w w' : World} {g o : Nat} {cs : List Value} (h : w.rangeAt g o cs) (ho : Only S w w') (hn : ¬ S g) : w'.rangeAt g o cs := fun j v hv => by
  have h0 := h j v hv
  exact (ho.cell (p := ⟨g, o + j, none⟩) (World.block_lt_of_cell? w _ h0) hn).trans h0
theorem there_new (w : World) (zs : List Value) (t : TypeId) : (w.alloc (.cells zs.toArray t)).there w.heap.size 0 zs.length := by
  intro j hj
  rw [World.cell?_alloc_new]
  refine ⟨?_, by simp⟩
  rw [Nat.zero_add]; simp [hj]
theorem rangeAt_new (w : World) (cs : List Value) (T : TypeId) : (w.alloc (.cells cs.toArray T)).rangeAt w.heap.size 0 cs := by
  intro j v hv
  rw [World.cell?_alloc_new]; simpa using hv
/-- Block b holds the numbers l of the kind k, and may be written. -/
def AN (k : IntKind) (w : World) (b : Nat) (l : List Nat) : Prop := b < w.heap.size ∧ ∀ j, j < l.length → w.cell? ⟨b, j, none⟩ = some (.int k ((l.getD j 0 : Nat) : Int)) ∧ w.frozen? ⟨b, j, none⟩ = false
def nv (k : IntKind) (x : Nat) : Value := .int k (x : Int)
def nvs (k : IntKind) (l : List Nat) : List Value := l.map (nv k)
theorem nvs_len (k : IntKind) (l : List Nat) : (nvs k l).length = l.length := by simp [nvs]
theorem nvs_one (k : IntKind) (l : List Nat) : ∀ u ∈ nvs k l, u.oneCell' = true := by
  intro u hu; obtain ⟨_, _, rfl⟩ := List.mem_map.1 hu; rfl
theorem nvs_bytes (l : List UInt8) : nvs .u8 (l.map UInt8.toNat) = l.map bv := by simp [nvs, nv, bv, Function.comp_def]
theorem AN.lt {k : IntKind} {w : World} {b : Nat} {l : List Nat} (h : AN k w b l) : b < w.heap.size := h.1
theorem AN.cell {k : IntKind} {w : World} {b : Nat} {l : List Nat} (h : AN k w b l) {j : Nat} (hj : j < l.length) : w.cell? ⟨b, j, none⟩ = some (.int k ((l.getD j 0 : Nat) : Int)) := (h.2 j hj).1
theorem AN.free {k : IntKind} {w : World} {b : Nat} {l : List Nat} (h : AN k w b l) {j : Nat} (hj : j < l.length) : w.frozen? ⟨b, j, none⟩ = false := (h.2 j hj).2
theorem AN.range {k : IntKind} {w : World} {b : Nat} {l : List Nat} (h : AN k w b l) : w.rangeAt b 0 (nvs k l) := fun j v hv => by
  have hj : j < l.length := by have := (List.getElem?_eq_some_iff.1 hv).1; simpa [nvs] using this
  rw [Nat.zero_add, h.cell hj, ← hv]
  simp [nvs, nv, hj, List.getD]
theorem AN.there {k : IntKind} {w : World} {b : Nat} {l : List Nat} (h : AN k w b l) : w.there b 0 l.length := fun j hj => by
  rw [Nat.zero_add, h.cell hj, h.free hj]; exact ⟨rfl, rfl⟩
theorem AN.of {k : IntKind} {w : World} {b : Nat} {l : List Nat} (hb : b < w.heap.size) (hr : w.rangeAt b 0 (nvs k l)) (ht : w.there b 0 l.length) : AN k w b l := ⟨hb, fun j hj => by
  have h1 := hr j (nv k (l.getD j 0)) (by simp [nvs, hj, List.getD])
  have h2 := (ht j hj).2
  rw [Nat.zero_add] at h1 h2
  exact ⟨h1, h2⟩⟩
theorem AN.only {k : IntKind} {S : Nat → Prop} {w w' : World} {b : Nat} {l : List Nat} (h : AN k w b l) (ho : Only S w w') (hn : ¬ S b) : AN k w' b l :=
  ⟨Nat.lt_of_lt_of_le h.1 ho.size, fun j hj => ⟨(ho.cell (p := ⟨b, j, none⟩) h.1 hn).trans (h.2 j hj).1, (ho.frozen (p := ⟨b, j, none⟩) h.1 hn).trans (h.2 j hj).2⟩⟩
theorem AN.keep {k : IntKind} {w w' : World} {b : Nat} {l : List Nat} (h : AN k w b l) (hb : Below w.heap.size w w') : AN k w' b l := h.only (Only.of_below (S := fun _ => False) hb) (fun h => h)
theorem AN.under {k : IntKind} {w w' : World} {b B : Nat} {l : List Nat} (h : AN k w b l) (hb : Below B w w') (hlt : b < B) : AN k w' b l :=
  ⟨Nat.lt_of_lt_of_le h.1 hb.size, fun j hj => ⟨(hb.cell (p := ⟨b, j, none⟩) hlt).trans (h.2 j hj).1, (hb.frozen (p := ⟨b, j, none⟩) hlt).trans (h.2 j hj).2⟩⟩
theorem AN.drewN {k : IntKind} {w : World} {b : Nat} {l : List Nat} (h : AN k w b l) (n : Nat) : AN k (w.drewN n) b l := h
theorem AN.set {k : IntKind} {w : World} {b : Nat} {l : List Nat} (h : AN k w b l) {j : Nat} (hj : j < l.length) (x : Nat) : AN k (w.setCell ⟨b, j, none⟩ (.int k (x : Int))) b (l.set j x) := by
  refine ⟨by simpa [World.setCell] using h.1, fun i hi => ?_⟩
  rw [List.length_set] at hi
  rw [World.frozen?_setCell]
  refine ⟨?_, h.free hi⟩
  by_cases hij : i = j
  · subst hij
    rw [World.cell?_setCell_same w _ _ (h.cell hi)]
    simp [hi]
  · rw [World.cell?_setCell_other w _ _ _ (by intro e; have := congrArg Addr.off e; simp at this; exact hij this.symm), h.cell hi]
    congr 3
    simp [List.getD, show ¬ j = i from fun e => hij e.symm]
theorem AN.set_other {k : IntKind} {w : World} {b : Nat} {l : List Nat} (h : AN k w b l) {p : Addr} (hp : p.block ≠ b) (v : Value) : AN k (w.setCell p v) b l :=
  h.only (Only.setCell (S := (· = p.block)) (Only.refl _ _) (fun _ => rfl) v) (fun e => hp e.symm)
theorem AN.new (k : IntKind) (w : World) (l : List Nat) (t : TypeId) : AN k (w.alloc (.cells (nvs k l).toArray t)) w.heap.size l :=
  AN.of (by simp) (rangeAt_new _ _ _) (by have := there_new w (nvs k l) t; rwa [nvs_len] at this)
/-- The whole is stored. -/
theorem AN.stored {k : IntKind} {w : World} {b : Nat} {l m : List Nat} (h : AN k w b l) (hl : m.length = l.length) : AN k (w.setCells b 0 (nvs k m)) b m := by
  have ht : w.there b 0 (nvs k m).length := by rw [nvs_len, hl]; exact h.there
  refine AN.of (by rw [size_setCells]; exact h.1) (World.rangeAt_setCells_same _ _ _ _ ht) ?_
  have := World.there_setCells ht b 0 (nvs k m)
  rwa [nvs_len] at this
/-- A part is stored. -/
theorem AN.splice {k : IntKind} {w : World} {b : Nat} {l : List Nat} (h : AN k w b l) (o : Nat) (m : List Nat) (ho : o + m.length ≤ l.length) : AN k (w.setCells b o (nvs k m)) b (l.take o ++ (m ++ l.drop (o + m.length))) := by
  have hlen : (l.take o ++ (m ++ l.drop (o + m.length))).length = l.length := by simp; omega
  refine ⟨by rw [size_setCells]; exact h.1, fun j hj => ?_⟩
  rw [hlen] at hj
  rw [World.frozen?_setCells]
  refine ⟨?_, h.free hj⟩
  by_cases h1 : o ≤ j ∧ j < o + m.length
  · obtain ⟨i, rfl⟩ := Nat.exists_eq_add_of_le h1.1
    have hi : i < m.length := by omega
    rw [World.cell?_setCells_in b (nvs k m) o w (fun i hi => by rw [nvs_len] at hi; rw [h.cell (by omega)]; rfl) i (by rw [nvs_len]; exact hi)]
    have hto : (l.take o).length = o := by rw [List.length_take]; omega
    simp only [List.getD]
    rw [List.getElem?_append_right (by omega), hto, Nat.add_sub_cancel_left, List.getElem?_append_left hi, List.getElem?_eq_getElem hi]
    simp [nvs, nv]
  · rw [World.cell?_setCells_out b (nvs k m) o w ⟨b, j, none⟩ (fun _ _ => by rw [nvs_len]; show j < o ∨ o + m.length ≤ j; omega), h.cell hj]
    congr 3
    have hto : (l.take o).length = o := by rw [List.length_take]; omega
    simp only [List.getD]
    by_cases h2 : j < o
    · rw [List.getElem?_append_left (by omega), List.getElem?_take, if_pos h2]
    · rw [List.getElem?_append_right (by omega), hto, List.getElem?_append_right (by omega), List.getElem?_drop]
      congr 2; omega
theorem below_setCells {w : World} {B b : Nat} (hb : B ≤ b) (vs : List Value) (o : Nat) : Below B w (w.setCells b o vs) := Go.Proofs.YtjhocaleampamaaDoor.Below.setCells hb _ _ (Below.refl _ _)
theorem below_setCell {w : World} {B : Nat} {p : Addr} (hb : B ≤ p.block) (v : Value) : Below B w (w.setCell p v) := (Below.refl _ _).setCell hb v
theorem only_setCells (b : Nat) (vs : List Value) (o : Nat) (w : World) : Only (· = b) w (w.setCells b o vs) := Only.setCells (S := (· = b)) rfl vs o (Only.refl _ _)
/-- A slice of a variable of bytes. -/
theorem AN.bsl {w : World} {b : Nat} {l : List UInt8} (h : AN .u8 w b (l.map UInt8.toNat)) {n cap : Nat} (hn : n = l.length) (hc : n ≤ cap) (hm : cap ≤ 9223372036854775807) : Bsl w (.slice (some ⟨b, 0, none⟩) n cap) l := by
  subst hn
  refine ⟨_, cap, rfl, hc, hm, by simp, fun _ => ⟨b, 0, rfl, fun j hj => ?_⟩⟩
  have := h.cell (j := j) (by simpa using hj)
  rw [Nat.zero_add, this]
  simp [List.getD, hj]
theorem BigT.ld {t : TypeId} {k : IntKind} {z : List Nat} (h : BigT t (nvs k z)) {w : World} {b : Nat} {l : List Nat} (ha : AN k w b l) (hl : l.length = z.length) : (ldT t (.pointer (some ⟨b, 0, none⟩))).run Tryd.prog w = .ok (.agg (nvs k l).toArray) w :=
  run_ldT h w b 0 _ ha.range (by rw [nvs_len, nvs_len, hl])
theorem BigT.lv {t : TypeId} {k : IntKind} {z : List Nat} (h : BigT t (nvs k z)) {w : World} {b : Nat} {l : List Nat} (ha : AN k w b l) (hl : l.length = z.length) : (loadVar t ⟨b, 0, none⟩).run Tryd.prog w = .ok (.agg (nvs k l).toArray) w :=
  run_lvT h w b 0 _ ha.range (by rw [nvs_len, nvs_len, hl])
theorem BigT.st {t : TypeId} {k : IntKind} {z : List Nat} (h : BigT t (nvs k z)) {w : World} {b : Nat} {l m : List Nat} (ha : AN k w b l) (hl : l.length = z.length) (hm : m.length = z.length) : (stT t (.pointer (some ⟨b, 0, none⟩)) (.agg (nvs k m).toArray)).run Tryd.prog w = .ok () (w.setCells b 0 (nvs k m)) :=
  run_stT h w b 0 _ (by rw [nvs_len, hm, ← hl]; exact ha.there) (by rw [nvs_len, nvs_len, hm]) (nvs_one _ _)
theorem BigT.al {t : TypeId} {k : IntKind} {z : List Nat} (h : BigT t (nvs k z)) (w : World) : (alT t).run Tryd.prog w = .ok (.pointer (some ⟨w.heap.size, 0, none⟩)) (w.alloc (.cells (nvs k z).toArray t)) := run_alT h w
theorem Bsl_sub {w : World} {b off n cap : Nat} {l : List UInt8} (h : Bsl w (.slice (some ⟨b, off, none⟩) n cap) l) {i m : Nat} (hm : i + m ≤ l.length) : Bsl w (.slice (some ⟨b, off + i, none⟩) m (cap - i)) ((l.drop i).take m) := by
  obtain ⟨a, c, he, h1, h2, h3, h4⟩ := h
  simp only [Value.slice.injEq] at he
  obtain ⟨rfl, rfl, rfl⟩ := he
  have hlen : ((l.drop i).take m).length = m := by simp; omega
  refine ⟨some ⟨b, off + i, none⟩, cap - i, by rw [hlen], by rw [hlen]; omega, by omega, by simp, fun hne => ⟨b, off + i, rfl, fun j hj => ?_⟩⟩
  rw [hlen] at hj
  obtain ⟨b', off', e, hc⟩ := h4 (by intro e; rw [e] at hm; simp at hm; omega)
  cases e
  have := hc (i + j) (by omega)
  rw [Nat.add_assoc, this]
  simp [List.getD, List.getElem?_drop, hj]
theorem Bsl_rest {w : World} {b off n cap : Nat} {l : List UInt8} (h : Bsl w (.slice (some ⟨b, off, none⟩) n cap) l) {m : Nat} (hm : m ≤ l.length) : Bsl w (.slice (if cap = m then some ⟨b, off, none⟩ else some ⟨b, off + m, none⟩) (l.length - m) (cap - m)) (l.drop m) := by
  obtain ⟨hn, hc1, hc2⟩ := h.len
  by_cases hc : cap = m
  · rw [if_pos hc, List.drop_of_length_le (by omega)]
    exact ⟨_, _, by rw [List.length_nil, show l.length - m = 0 by omega], by simp, by omega, by simp, fun h => absurd rfl h⟩
  · rw [if_neg hc]
    have := Bsl_sub h (i := m) (m := l.length - m) (by omega)
    rwa [List.take_of_length_le (by rw [List.length_drop]; exact Nat.le_refl _)] at this
/-- A new variable, set. -/
theorem BigT.made {t : TypeId} {k : IntKind} {z : List Nat} (h : BigT t (nvs k z)) (w : World) (l : List Nat) (hl : l.length = z.length) :
    ∃ wa w', (alT t).run Tryd.prog w = .ok (.pointer (some ⟨w.heap.size, 0, none⟩)) wa ∧ (stT t (.pointer (some ⟨w.heap.size, 0, none⟩)) (.agg (nvs k l).toArray)).run Tryd.prog wa = .ok () w' ∧ AN k w' w.heap.size l ∧ Below w.heap.size w w' ∧ w'.heap.size = w.heap.size + 1 := by
  have h0 := AN.new k w z t
  refine ⟨_, _, h.al w, h.st h0 rfl hl, h0.stored hl, ((Below.refl _ _).alloc (Nat.le_refl _) _).trans (below_setCells (Nat.le_refl _) _ _), by rw [size_setCells]; simp⟩
theorem BigT.made0 {t : TypeId} {k : IntKind} {z : List Nat} (h : BigT t (nvs k z)) (w : World) :
    ∃ w', (alT t).run Tryd.prog w = .ok (.pointer (some ⟨w.heap.size, 0, none⟩)) w' ∧ AN k w' w.heap.size z ∧ Below w.heap.size w w' ∧ w'.heap.size = w.heap.size + 1 :=
  ⟨_, h.al w, AN.new k w z t, (Below.refl _ _).alloc (Nat.le_refl _) _, by simp⟩
/-- A variable is set. -/
theorem BigT.put {t : TypeId} {k : IntKind} {z : List Nat} (h : BigT t (nvs k z)) {w : World} {b : Nat} {l : List Nat} (ha : AN k w b l) (hl : l.length = z.length) (m : List Nat) (hm : m.length = z.length) :
    ∃ w', (stT t (.pointer (some ⟨b, 0, none⟩)) (.agg (nvs k m).toArray)).run Tryd.prog w = .ok () w' ∧ AN k w' b m ∧ Only (· = b) w w' ∧ w'.heap.size = w.heap.size :=
  ⟨_, h.st ha hl hm, ha.stored (by rw [hm, hl]), only_setCells _ _ _ _, size_setCells _ _ _ _⟩
def zN (n : Nat) : List Nat := List.replicate n 0
theorem zN_len (n : Nat) : (zN n).length = n := by simp [zN]
theorem big32 : BigT 22 (nvs .u8 (zN 32)) := BigT.of (by kernel_rfl) ⟨_, Tryd.underlying22, rfl⟩
theorem alT_32 : Instr.alloc 22 true (.tuple #[]) = alT 22 := rfl
theorem ldT_32 (v : Value) : Instr.loadAt 22 v = ldT 22 v := rfl
theorem stT_32 (v u : Value) : Instr.storeAt 22 v u = stT 22 v u := rfl
end Go.Proofs.YtjhocaleampamaaDoor.Big
