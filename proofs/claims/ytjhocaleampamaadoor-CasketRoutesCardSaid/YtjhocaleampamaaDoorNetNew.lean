/- net.Net: New, Clear, message. -/
import Derived.Test.YtjhocaleampamaaDoorNetOps
namespace Go.Proofs.YtjhocaleampamaaDoor
open Go.RowKit
def nbC (n : Nat) : List Value := List.replicate (n * 2) (.slice none 0 0)
theorem Tryd.info_box : (Tryd.prog.info? 87).map (fun i => (i.zero.map (fun z => z.cells), i.size, decide (i.bytes ≤ 1000))) = some (some #[.slice none 0 0, .slice none 0 0], 2, true) := by kernel_rfl
theorem Tryd.box_parts : ∃ i z, Tryd.prog.info? 87 = some i ∧ i.zero = some z ∧ z.cells = #[.slice none 0 0, .slice none 0 0] ∧ i.size = 2 ∧ i.bytes ≤ 1000 := by
  have h := Tryd.info_box
  cases hi : Tryd.prog.info? 87 with
  | none => rw [hi] at h; cases h
  | some i =>
    rw [hi] at h
    simp only [Option.map_some, Option.some.injEq, Prod.mk.injEq, decide_eq_true_eq] at h
    obtain ⟨h1, h2, h3⟩ := h
    cases hz : i.zero with
    | none => rw [hz] at h1; cases h1
    | some z => rw [hz] at h1; exact ⟨i, z, rfl, hz, by simpa using h1, h2, h3⟩
def mkN (v u : Value) : Sem Value := Instr.makeSlice 67 v u
theorem mkN_eq (v u : Value) : Instr.makeSlice 67 v u = mkN v u := rfl
set_option maxRecDepth 100000 in
theorem run_mkN (w : World) (n : Nat) (h : n ≤ 100) : (mkN (.int .i64 n) (.int .i64 n)).run Tryd.prog w = .ok (.slice (some ⟨w.heap.size, 0, none⟩) n n) (w.alloc (.cells (nbC n).toArray 87)) := by
  obtain ⟨i, z, hi, hz, hzc, hs, hb⟩ := Tryd.box_parts
  have hb2 : (i.bytes : Int) * n ≤ 281474976710656 := by
    have : i.bytes * n ≤ 1000 * 100 := Nat.mul_le_mul hb h
    have h2 : ((i.bytes * n : Nat) : Int) ≤ 281474976710656 := by omega
    rwa [Int.natCast_mul] at h2
  have := run_make (P := Tryd.prog) w _ _ i z Tryd.underlying67 hi hz .i64 .i64 (n : Int) n (by omega) (by omega) hb2 (by omega)
  unfold mkN
  rw [this, Int.toNat_natCast, hzc, hs]
  congr 3
  apply Array.ext'
  apply List.ext_getElem
  · simp [madeCells, nbC]
  · intro j h1 h2
    have hj : j % 2 < 2 := Nat.mod_lt _ (by omega)
    simp only [madeCells, nbC, Array.toList_map, Array.toList_range, List.getElem_map, List.getElem_range, List.getElem_replicate]
    rcases Nat.mod_two_eq_zero_or_one j with e | e <;> simp [e]
attribute [local go_sem ↓] mkN_eq
attribute [local go_sem] run_mkN
theorem NetAt.fresh (w : World) (n : Nat) (h : n ≤ 100) : (∃ bs, NetAt ((w.alloc (.cells (nbC n).toArray 87)).alloc (.cells #[.slice (some ⟨w.heap.size, 0, none⟩) n n] 69)) (w.heap.size + 1) (List.replicate n ([], [])) bs ∧ (∀ k, bs k → w.heap.size ≤ k)) ∧
    Below w.heap.size w ((w.alloc (.cells (nbC n).toArray 87)).alloc (.cells #[.slice (some ⟨w.heap.size, 0, none⟩) n n] 69)) := by
  have hs1 : (w.alloc (.cells (nbC n).toArray 87)).heap.size = w.heap.size + 1 := by simp
  have hB : Below w.heap.size w (w.alloc (.cells (nbC n).toArray 87)) := (Below.refl _ _).alloc (Nat.le_refl _) _
  have hc : ∀ j, j < n * 2 → (w.alloc (.cells (nbC n).toArray 87)).cell? ⟨w.heap.size, j, none⟩ = some (.slice none 0 0) := fun j hj => by
    rw [World.cell?_alloc_new]; simp [nbC, hj]
  have hf : ∀ j, (w.alloc (.cells (nbC n).toArray 87)).frozen? ⟨w.heap.size, j, none⟩ = false := fun j => by simp
  generalize w.alloc (.cells (nbC n).toArray 87) = w1 at *
  have hk : Below w1.heap.size w1 (w1.alloc (.cells #[.slice (some ⟨w.heap.size, 0, none⟩) n n] 69)) := (Below.refl _ _).alloc (Nat.le_refl _) _
  have hgl : w.heap.size < w1.heap.size := by omega
  have hc0 : (w1.alloc (.cells #[.slice (some ⟨w.heap.size, 0, none⟩) n n] 69)).cell? ⟨w.heap.size + 1, 0, none⟩ = some (.slice (some ⟨w.heap.size, 0, none⟩) n n) := by rw [← hs1]; exact World.cell?_alloc_new w1 _ _ 0
  have hsz2 : (w1.alloc (.cells #[.slice (some ⟨w.heap.size, 0, none⟩) n n] 69)).heap.size = w.heap.size + 2 := by simp; omega
  have hget : ∀ i (hi : i < (List.replicate n (⟨[], [], []⟩ : BoxD)).length), (List.replicate n (⟨[], [], []⟩ : BoxD))[i] = ⟨[], [], []⟩ := fun i hi => List.getElem_replicate _
  refine ⟨⟨fun k => k = w.heap.size ∨ k = w.heap.size + 1, ⟨List.replicate n ⟨[], [], []⟩, by simp [BoxD.txt], ?_⟩, fun k hk => by omega⟩, hB.trans (hk.mono hB.size)⟩
  refine ⟨w.heap.size, n, fun k => if k = w.heap.size then 1 else 0, fun _ => .slice none 0 0, fun _ => .slice none 0 0, ⟨by rw [List.length_replicate]; exact hc0, by simp, by omega⟩, ⟨by simp, by simp⟩, ?_, ?_, ?_, ?_, ⟨.inr rfl, .inl rfl⟩, ?_⟩
  · intro i hi
    rw [List.length_replicate] at hi
    exact ⟨⟨(hk.cell (p := ⟨w.heap.size, i * 2, none⟩) hgl).trans (hc _ (by omega)), (hk.cell (p := ⟨w.heap.size, i * 2 + 1, none⟩) hgl).trans (hc _ (by omega))⟩, (hk.frozen (p := ⟨w.heap.size, i * 2, none⟩) hgl).trans (hf _), (hk.frozen (p := ⟨w.heap.size, i * 2 + 1, none⟩) hgl).trans (hf _)⟩
  · intro i hi
    rw [hget i hi]
    exact ⟨RW.nil _ _ _ _, RW.nil _ _ _ _⟩
  · intro i hi
    exact ⟨fun k hk => by simp [Value.ownBlock] at hk, fun k hk => by simp [Value.ownBlock] at hk⟩
  · intro i hi x hx
    rw [hget i hi] at hx
    rcases hx with hx | hx | hx <;> simp at hx
  · intro k hk
    rw [hsz2]; omega
set_option maxRecDepth 100000 in
set_option maxHeartbeats 400000 in
theorem nnew_ok (n : Nat) (w : World) (h1 : 1 ≤ n) (h : n ≤ 9) :
    Calls Tryd.prog 5 #[.int .i64 n] w fun e w' => ∃ p, e = .returned (.tuple #[.pointer (some ⟨p, 0, none⟩), .int .i64 0]) ∧ (∃ bs, NetAt w' p (List.replicate n ([], [])) bs ∧ (∀ k, bs k → w.heap.size ≤ k)) ∧ Below w.heap.size w w' := by
  have h100 : n ≤ 100 := by omega
  have F := NetAt.fresh w n h100
  go_enter Tryd.func5, Tryd.ntmps5
  go_wp2_with fail
  go_ret2
  exact ⟨_, rfl, F⟩
set_option maxRecDepth 100000 in
set_option maxHeartbeats 400000 in
theorem nnew_bad (n : Int) (w : World) (h : n < 1 ∨ 9 < n) :
    Calls Tryd.prog 5 #[.int .i64 n] w fun e w' => e = .returned (.tuple #[.pointer none, .int .i64 1]) ∧ w = w' := by
  by_cases h1 : n < 1
  · go_enter Tryd.func5, Tryd.ntmps5
    go_wp2_with fail
    go_ret2
    exact ⟨rfl, rfl⟩
  · have h2 : 9 < n := by omega
    go_enter Tryd.func5, Tryd.ntmps5
    go_wp2_with fail
    go_ret2
    exact ⟨rfl, rfl⟩
set_option maxRecDepth 100000 in
set_option maxHeartbeats 1000000 in
/-- 'message' where the box is there. -/
theorem nmessage_ok (i : Nat) (k : Int) (w : World) {p g cap n m ic : Nat} {io : Option Addr} (c0 : w.cell? ⟨p, 0, none⟩ = some (.slice (some ⟨g, 0, none⟩) n cap)) (c1 : w.cell? ⟨g, i * 2, none⟩ = some (.slice io m ic)) (hi : i < n) :
    Calls Tryd.prog 30 #[.pointer (some ⟨p, 0, none⟩), .int .i64 i, .int .i64 k] w fun e w' => e = .returned (.tuple #[.pointer (some ⟨g, i * 2, none⟩), .int .i64 (if 0 ≤ k ∧ k < m then 0 else 7)]) ∧ w = w' := by
  by_cases h0 : k < 0
  · rw [if_neg (by omega)]
    go_enter Tryd.func30, Tryd.ntmps30
    go_wp2_with fail
    refine (nbox_ok i w c0 hi).mono ?_
    rintro e w1 ⟨rfl, rfl⟩
    go_wp2_with fail
    go_ret2
    exact ⟨rfl, rfl⟩
  · by_cases h1 : (m : Int) ≤ k
    · rw [if_neg (by omega)]
      go_enter Tryd.func30, Tryd.ntmps30
      go_wp2_with fail
      refine (nbox_ok i w c0 hi).mono ?_
      rintro e w1 ⟨rfl, rfl⟩
      go_wp2_with fail
      go_ret2
      exact ⟨rfl, rfl⟩
    · rw [if_pos (by omega)]
      go_enter Tryd.func30, Tryd.ntmps30
      go_wp2_with fail
      refine (nbox_ok i w c0 hi).mono ?_
      rintro e w1 ⟨rfl, rfl⟩
      go_wp2_with fail
      go_ret2
      exact ⟨rfl, rfl⟩
set_option maxRecDepth 100000 in
set_option maxHeartbeats 1000000 in
theorem nmessage_bad (i k : Int) (w : World) {p : Nat} {xs : List BoxD} {bs : Nat → Prop} (h : NetIn w p xs bs) (hk : ¬ (0 ≤ i ∧ i < xs.length)) :
    Calls Tryd.prog 30 #[.pointer (some ⟨p, 0, none⟩), .int .i64 i, .int .i64 k] w fun e w' => e = .returned (.tuple #[.pointer none, .int .i64 1]) ∧ w = w' := by
  go_enter Tryd.func30, Tryd.ntmps30
  go_wp2_with fail
  refine (nbox_bad i w h hk).mono ?_
  rintro e w1 ⟨rfl, rfl⟩
  go_wp2_with fail
  go_ret2
  exact ⟨rfl, rfl⟩
end Go.Proofs.YtjhocaleampamaaDoor
