/- disk.Disk: New. -/
import Derived.Test.YtbmdcblcefebiaaDisk
import Derived.Test.YtbmdcblcefebiaaDiskSec
import Derived.Deep.RegionLaw
namespace Go.Proofs.Ytbmdcblcefebiaa
open Go.RowKit
def zC (n : Nat) : List Value := List.replicate (n * 64) (bv 0)
theorem Try.info_secN : (Try.prog.info? 39).map (fun i => (i.zero.map (fun z => z.cells), i.size, decide (i.bytes ≤ 1000))) = some (some (List.replicate 64 (bv 0)).toArray, 64, true) := by kernel_rfl
theorem Try.sec_parts : ∃ i z, Try.prog.info? 39 = some i ∧ i.zero = some z ∧ z.cells = (List.replicate 64 (bv 0)).toArray ∧ i.size = 64 ∧ i.bytes ≤ 1000 := by
  have h := Try.info_secN
  cases hi : Try.prog.info? 39 with
  | none => rw [hi] at h; cases h
  | some i =>
    rw [hi] at h
    simp only [Option.map_some, Option.some.injEq, Prod.mk.injEq, decide_eq_true_eq] at h
    obtain ⟨h1, h2, h3⟩ := h
    cases hz : i.zero with
    | none => rw [hz] at h1; cases h1
    | some z => rw [hz] at h1; exact ⟨i, z, rfl, hz, by simpa using h1, h2, h3⟩
theorem made_zC (n : Nat) : madeCells (List.replicate 64 (bv 0)).toArray (n * 64) = (zC n).toArray := by
  apply Array.ext'
  apply List.ext_getElem
  · simp [madeCells, zC]
  · intro j h1 h2
    have hj : j % 64 < 64 := Nat.mod_lt _ (by omega)
    simp only [madeCells, zC, List.size_toArray, List.length_replicate, Array.toList_map, Array.toList_range, List.getElem_map, List.getElem_range, List.getElem_replicate]
    rw [getElem!_pos _ _ (by simpa using hj), List.getElem_toArray, List.getElem_replicate]
theorem run_mk_sec (w : World) (n : Nat) (h : n ≤ 8192) : (Instr.makeSlice 64 (.int .i64 n) (.int .i64 n)).run Try.prog w = .ok (.slice (some ⟨w.heap.size, 0, none⟩) n n) (w.alloc (.cells (zC n).toArray 39)) := by
  obtain ⟨i, z, hi, hz, hzc, hs, hb⟩ := Try.sec_parts
  have hb2 : (i.bytes : Int) * n ≤ 281474976710656 := by
    have : i.bytes * n ≤ 1000 * 8192 := Nat.mul_le_mul hb h
    have h2 : ((i.bytes * n : Nat) : Int) ≤ 281474976710656 := by omega
    rwa [Int.natCast_mul] at h2
  have := run_make (P := Try.prog) w _ _ i z Try.underlying64 hi hz .i64 .i64 (n : Int) n (by omega) (by omega) hb2 (by omega)
  rw [this, Int.toNat_natCast, hzc, hs, made_zC]
def mkG (v u : Value) : Sem Value := Instr.makeSlice 64 v u
theorem mkG_eq (v u : Value) : Instr.makeSlice 64 v u = mkG v u := rfl
theorem run_mkG (w : World) (n : Nat) (h : n ≤ 8192) : (mkG (.int .i64 n) (.int .i64 n)).run Try.prog w = .ok (.slice (some ⟨w.heap.size, 0, none⟩) n n) (w.alloc (.cells (zC n).toArray 39)) := run_mk_sec w n h
attribute [local go_sem ↓] mkG_eq
attribute [local go_sem] run_mkG
def DK.new (n : Nat) : DK := { now := List.replicate n (secL 0), fast := List.replicate n (secL 0), loose := [], fuse := 0, off := false }
theorem secs_new (n : Nat) : ((List.replicate n (secL 0)).map secC).flatten = zC n := by
  simp only [List.map_replicate, secC, secL, zC]
  rw [List.flatten_replicate_replicate]
theorem RW.new (w : World) (n : Nat) (h : n ≤ 8192) : RW (w.alloc (.cells (zC n).toArray 39)) 0 39 64 (.slice (some ⟨w.heap.size, 0, none⟩) n n) ((List.replicate n (secL 0)).map secC) := by
  refine ⟨?_, ?_⟩
  · rw [secs_new]
    have := World.ownsRow_lit (base := 0) (e := 39) (size := 64) w (zC n).toArray n (Nat.zero_le _) (by unfold maxLen; omega) (by simp [zC])
    simpa using this
  · intro r hr
    obtain ⟨s, hs, rfl⟩ := List.mem_map.1 hr
    rw [List.eq_of_mem_replicate hs]; simp [secC, secL]
theorem DiskAt.fresh {w w1 : World} {n gn gf : Nat} (h : n ≤ 8192) (hB : Below w.heap.size w w1) (h1 : RW w1 0 39 64 (.slice (some ⟨gn, 0, none⟩) n n) ((List.replicate n (secL 0)).map secC))
    (h2 : RW w1 0 39 64 (.slice (some ⟨gf, 0, none⟩) n n) ((List.replicate n (secL 0)).map secC)) (hne : gn ≠ gf) (hgn : w.heap.size ≤ gn) (hgf : w.heap.size ≤ gf) :
    (∃ bs, DiskAt (w1.alloc (.cells #[.slice (some ⟨gn, 0, none⟩) n n, .slice (some ⟨gf, 0, none⟩) n n, .slice none 0 0, .int .i64 0, .bool false] 67)).drew w1.heap.size (DK.new n) bs ∧ (∀ k, bs k → w.heap.size ≤ k)) ∧
    Below w.heap.size w (w1.alloc (.cells #[.slice (some ⟨gn, 0, none⟩) n n, .slice (some ⟨gf, 0, none⟩) n n, .slice none 0 0, .int .i64 0, .bool false] 67)).drew := by
  have l1 := h1.own_lt gn rfl
  have l2 := h2.own_lt gf rfl
  have hk : Below w1.heap.size w1 (w1.alloc (.cells #[.slice (some ⟨gn, 0, none⟩) n n, .slice (some ⟨gf, 0, none⟩) n n, .slice none 0 0, .int .i64 0, .bool false] 67)).drew := ((Below.refl _ _).alloc (Nat.le_refl _) _).drew
  refine ⟨⟨_, ⟨_, _, _, ⟨?_, ?_, ?_, ?_, ?_⟩, ?_, h1.keep hk, h2.keep hk, RW.nil _ _ _ _, ⟨?_, ?_, ?_⟩, ?_, ?_, ⟨rfl, by simpa [DK.new] using h, by simp [DK.new], by simp [DK.new]⟩, rfl⟩, ?_⟩, hB.drew.alloc hB.size _⟩
  · exact World.cell?_alloc_new w1 _ _ 0
  · exact World.cell?_alloc_new w1 _ _ 1
  · exact World.cell?_alloc_new w1 _ _ 2
  · exact World.cell?_alloc_new w1 _ _ 3
  · exact World.cell?_alloc_new w1 _ _ 4
  · intro j hj; simp
  · intro e; simp [Value.ownBlock] at e; omega
  · intro e; simp [Value.ownBlock] at e; omega
  · intro e; simp [Value.ownBlock] at e
  · intro k hk; simp [Value.ownBlock] at hk ⊢; omega
  · intro k hk; simp [Value.ownBlock] at hk ⊢
  · intro k hk
    have := hB.size
    simp [Value.ownBlock] at hk
    omega
set_option maxRecDepth 100000 in
set_option maxHeartbeats 1000000 in
theorem dnew_ok (n : Nat) (w : World) (h1 : 1 ≤ n) (h : n ≤ 8192) :
    Calls Try.prog 8 #[.int .i64 n] w fun e w' => ∃ p, e = .returned (.tuple #[.pointer (some ⟨p, 0, none⟩), .int .i64 0]) ∧ (∃ bs, DiskAt w' p (DK.new n) bs ∧ (∀ k, bs k → w.heap.size ≤ k)) ∧ Below w.heap.size w w' := by
  have hA : ((n : Int) < 1) = False := by simp; omega
  have hB : ((8192 : Int) < n) = False := by simp; omega
  go_enter Try.func8, Try.ntmps8
  go_wp2_with fail
  have r1 := RW.new w n h
  have r2 := RW.new (w.alloc (.cells (zC n).toArray 39)) n h
  have r1' := r1.keep ((Below.refl _ _).alloc (Nat.le_refl _) (.cells (zC n).toArray 39))
  have hb : Below w.heap.size w ((w.alloc (.cells (zC n).toArray 39)).alloc (.cells (zC n).toArray 39)) := ((Below.refl _ _).alloc (Nat.le_refl _) _).alloc (by simp) _
  have hs : (w.alloc (.cells (zC n).toArray 39)).heap.size = w.heap.size + 1 := by simp
  have hs2 : ((w.alloc (.cells (zC n).toArray 39)).alloc (.cells (zC n).toArray 39)).heap.size = w.heap.size + 1 + 1 := by simp
  have F1 := DiskAt.fresh h hb r1' r2 (by omega) (by omega) (by omega)
  have F2 := DiskAt.fresh h hb r2 r1' (by omega) (by omega) (by omega)
  rw [hs2, hs] at F1 F2
  clear r1 r2 r1' hb hs hs2
  go_region
  all_goals
    go_wp2_with fail
    go_ret2
    first
    | exact ⟨_, rfl, F1⟩
    | exact ⟨_, rfl, F2⟩
set_option maxRecDepth 100000 in
set_option maxHeartbeats 1000000 in
theorem dnew_bad (n : Int) (w : World) (h : n < 1 ∨ 8192 < n) :
    Calls Try.prog 8 #[.int .i64 n] w fun e w' => e = .returned (.tuple #[.pointer none, .int .i64 1]) ∧ w = w' := by
  by_cases h1 : n < 1
  · go_enter Try.func8, Try.ntmps8
    go_wp2_with fail
    go_ret2
    exact ⟨rfl, rfl⟩
  · have h2 : 8192 < n := by omega
    go_enter Try.func8, Try.ntmps8
    go_wp2_with fail
    go_ret2
    exact ⟨rfl, rfl⟩
end Go.Proofs.Ytbmdcblcefebiaa
