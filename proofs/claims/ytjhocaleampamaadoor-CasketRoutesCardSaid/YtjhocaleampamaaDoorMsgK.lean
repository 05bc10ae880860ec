/- Variables of large types: their making, loads and stores. -/
import Derived.Test.YtjhocaleampamaaDoorMsgWL
import Derived.Test.YtjhocaleampamaaDoorBuild
namespace Go.Proofs.YtjhocaleampamaaDoor
open Go.RowKit
set_option linter.unusedVariables false
/-- A type's size, and its zero value. -/
structure BigT (t : TypeId) (zs : List Value) : Prop where
  parts : ∃ i z, Tryd.prog.info? t = some i ∧ i.zero = some z ∧ z.cells = zs.toArray ∧ i.size = zs.length ∧ i.bytes ≤ 1000 ∧ z = .agg zs.toArray
  row : ∃ d, Tryd.prog.underlying t = some d ∧ d.isRow = true
theorem BigT.of {t : TypeId} {zs : List Value} (h : (Tryd.prog.info? t).map (fun i => (i.zero, i.size, decide (i.bytes ≤ 1000))) = some (some (.agg zs.toArray), zs.length, true)) (hr : ∃ d, Tryd.prog.underlying t = some d ∧ d.isRow = true) : BigT t zs := by
  refine ⟨?_, hr⟩
  cases hi : Tryd.prog.info? t with
  | none => rw [hi] at h; cases h
  | some i =>
    rw [hi] at h
    simp only [Option.map_some, Option.some.injEq, Prod.mk.injEq, decide_eq_true_eq] at h
    obtain ⟨h1, h2, h3⟩ := h
    exact ⟨i, _, rfl, h1, rfl, h2, h3, rfl⟩
theorem BigT.size {t : TypeId} {zs : List Value} (h : BigT t zs) : (Tryd.prog.info? t).map (·.size) = some zs.length := by
  obtain ⟨i, z, h1, _, _, h4, _⟩ := h.parts
  rw [h1, Option.map_some, h4]
def alT (t : TypeId) : Sem Value := Instr.alloc t true (.tuple #[])
def ldT (t : TypeId) (v : Value) : Sem Value := Instr.loadAt t v
def stT (t : TypeId) (v u : Value) : Sem Unit := Instr.storeAt t v u
theorem run_alT {t : TypeId} {zs : List Value} (h : BigT t zs) (w : World) : (alT t).run Tryd.prog w = .ok (.pointer (some ⟨w.heap.size, 0, none⟩)) (w.alloc (.cells zs.toArray t)) := by
  obtain ⟨i, z, hi, hz, hzc, _⟩ := h.parts
  rw [← hzc]
  simp [alT, Instr.alloc, zeroValue, typeInfo, hi, hz, newVar, newRow]
theorem run_ldT {t : TypeId} {zs : List Value} (h : BigT t zs) (w : World) (b o : Nat) (cs : List Value) (hr : w.rangeAt b o cs) (hl : cs.length = zs.length) : (ldT t (.pointer (some ⟨b, o, none⟩))).run Tryd.prog w = .ok (.agg cs.toArray) w := by
  obtain ⟨d, hu, hd⟩ := h.row
  exact run_loadAt_mid w b o _ cs d hr hu hd (by rw [h.size, hl])
theorem run_stT {t : TypeId} {zs : List Value} (h : BigT t zs) (w : World) (b o : Nat) (cs : List Value) (hr : w.there b o cs.length) (hl : cs.length = zs.length) (h1 : ∀ u ∈ cs, u.oneCell' = true) : (stT t (.pointer (some ⟨b, o, none⟩)) (.agg cs.toArray)).run Tryd.prog w = .ok () (w.setCells b o cs) :=
  run_storeAt_mid w b o _ cs.toArray (by simpa using hr) (by rw [h.size, List.size_toArray, hl]) (all_oneCell_toArray h1)
theorem there_new (w : World) (zs : List Value) (t : TypeId) : (w.alloc (.cells zs.toArray t)).there w.heap.size 0 zs.length := by
  intro j hj
  rw [World.cell?_alloc_new]
  refine ⟨?_, by simp⟩
  rw [Nat.zero_add]; simp [hj]
/-- A fresh variable that was set. -/
theorem var_new (w : World) (zs cs : List Value) (t : TypeId) (hl : cs.length = zs.length) : ((w.alloc (.cells zs.toArray t)).setCells w.heap.size 0 cs).rangeAt w.heap.size 0 cs ∧
    Below w.heap.size w ((w.alloc (.cells zs.toArray t)).setCells w.heap.size 0 cs) ∧ ((w.alloc (.cells zs.toArray t)).setCells w.heap.size 0 cs).heap.size = w.heap.size + 1 ∧
    ((w.alloc (.cells zs.toArray t)).setCells w.heap.size 0 cs).there w.heap.size 0 zs.length :=
  ⟨World.rangeAt_setCells_same _ _ _ _ (by rw [hl]; exact there_new w zs t), Go.Proofs.YtjhocaleampamaaDoor.Below.setCells (Nat.le_refl _) _ _ ((Below.refl _ _).alloc (Nat.le_refl _) _), by rw [size_setCells]; simp, World.there_setCells (there_new w zs t) _ _ _⟩
def bsT (st : TypeId) (parts : Array (Nat × Value)) : Sem Value := Instr.buildSlice st 1 parts
theorem run_bsT {t st : TypeId} {zs : List Value} (h : BigT t zs) (hu : Tryd.prog.underlying st = some (.slice t)) (w : World) (cs : List Value) (hl : cs.length = zs.length) (hz1 : 0 < zs.length) (hz2 : zs.length ≤ 1000) : (bsT st #[(0, .agg cs.toArray)]).run Tryd.prog w = .ok (.slice (some ⟨w.heap.size, 0, none⟩) 1 1) (w.alloc (.cells cs.toArray t)) := by
  obtain ⟨i, z, hi, hz, hzc, hs, hb, _⟩ := h.parts
  exact run_buildSlice (P := Tryd.prog) w _ _ 1 #[(0, .agg cs.toArray)] cs.toArray i z hu hi hz (by omega) (by omega) (fill_one (n := zs.length) (by rw [Nat.zero_mul, hs]) (by simp [hs]) hl)
def zK : List Value := z32.map bv
def zR : List Value := zK ++ [.slice none 0 0]
def zM : List Value := [.int .i64 0, .int .i64 0, .int .i64 0, .int .i64 0, .int .i64 0, .int .i64 0] ++ (zR ++ [.slice none 0 0, .slice none 0 0, .slice none 0 0])
theorem big32 : BigT 22 zK := BigT.of (by kernel_rfl) ⟨_, Tryd.underlying22, rfl⟩
theorem bigB : BigT 23 zK := BigT.of (by kernel_rfl) ⟨_, Tryd.underlying23, rfl⟩
theorem bigR : BigT 41 zR := BigT.of (by kernel_rfl) ⟨_, Tryd.underlying41, rfl⟩
theorem bigM : BigT 45 zM := BigT.of (by kernel_rfl) ⟨_, Tryd.underlying45, rfl⟩
theorem zK_len : zK.length = 32 := by simp [zK, z32]
theorem zR_len : zR.length = 33 := by simp [zR, zK_len]
theorem zM_len : zM.length = 42 := by simp [zM, zR_len]
theorem alT_32 : Instr.alloc 22 true (.tuple #[]) = alT 22 := rfl
theorem ldT_32 (v : Value) : Instr.loadAt 22 v = ldT 22 v := rfl
theorem stT_32 (v u : Value) : Instr.storeAt 22 v u = stT 22 v u := rfl
theorem alT_B : Instr.alloc 23 true (.tuple #[]) = alT 23 := rfl
theorem ldT_B (v : Value) : Instr.loadAt 23 v = ldT 23 v := rfl
theorem stT_B (v u : Value) : Instr.storeAt 23 v u = stT 23 v u := rfl
theorem alT_R : Instr.alloc 41 true (.tuple #[]) = alT 41 := rfl
theorem ldT_R (v : Value) : Instr.loadAt 41 v = ldT 41 v := rfl
theorem stT_R (v u : Value) : Instr.storeAt 41 v u = stT 41 v u := rfl
theorem alT_M : Instr.alloc 45 true (.tuple #[]) = alT 45 := rfl
theorem ldT_M (v : Value) : Instr.loadAt 45 v = ldT 45 v := rfl
theorem stT_M (v u : Value) : Instr.storeAt 45 v u = stT 45 v u := rfl
theorem bsT_32 (ps : Array (Nat × Value)) : Instr.buildSlice 42 1 ps = bsT 42 ps := rfl
theorem bsT_R (ps : Array (Nat × Value)) : Instr.buildSlice 43 1 ps = bsT 43 ps := rfl
end Go.Proofs.YtjhocaleampamaaDoor
