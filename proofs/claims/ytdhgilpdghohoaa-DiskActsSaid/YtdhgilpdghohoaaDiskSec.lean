/- The law's 'sector'. -/
import Derived.Test.YtdhgilpdghohoaaRow
import Derived.Deep.MidRow
namespace Go.Proofs.Ytdhgilpdghohoaa
open Go.RowKit
def secL (by_ : UInt8) : List UInt8 := List.replicate 64 by_
def secV (s : List UInt8) : Value := .agg (s.map bv).toArray
def secPart (by_ : UInt8) (k : Nat) : Array Value := (List.replicate k (bv by_) ++ List.replicate (64 - k) (bv 0)).toArray
theorem secPart_set (c : UInt8) (k : Nat) (h : k < 64) : (secPart c k).set! k (bv c) = secPart c (k + 1) := by
  apply Array.ext'
  simp only [secPart, Array.set!_eq_setIfInBounds, Array.toList_setIfInBounds]
  rw [List.set_append_right _ _ (by simp), List.length_replicate, Nat.sub_self, show 64 - k = (64 - (k + 1)) + 1 by omega, List.replicate_succ, List.set_cons_zero, List.replicate_succ', List.append_assoc]
  rfl
theorem secPart_size (c : UInt8) (k : Nat) (h : k ≤ 64) : (secPart c k).size = 64 := by simp [secPart]; omega
theorem secPart_full (c : UInt8) : secPart c 64 = ((secL c).map bv).toArray := by simp [secPart, secL]
theorem results_cell {P : Program} {fn : Func} {a : Tmp} {t : TypeId} {b o : Nat} {v : Value} {w : World} {tmps : Array Value} (h : fn.results = #[.cell a t]) (ha : tmps.getD a undef = .pointer (some ⟨b, o, none⟩))
    (hr : (loadVar t ⟨b, o, none⟩).run P w = .ok v w) : (results fn tmps).run P w = .ok v w := by
  unfold results
  rw [h]
  simp only [asAddr, ha, hr, List.mapM_toArray, List.mapM_cons, List.mapM_nil, Sem.run_bind, Sem.run_pure, Result.andThen_ok, Sem.run_map]
  simp
set_option maxRecDepth 100000 in
set_option maxHeartbeats 1000000 in
theorem sector_any (c : UInt8) (w : World) : Calls Try.prog 12 #[.int .u8 c.toNat] w fun e w' => e = .returned (secV (secL c)) ∧ Below w.heap.size w w' := by
  go_enter Try.func12, Try.ntmps12
  go_wp2_with fail
  have h0 : secPart c 0 = (List.replicate 64 (Value.int .u8 0)).toArray := by simp [secPart, bv]
  have hs1 : (w.alloc (Obj.cells (secPart 0 0) 35)).heap.size = w.heap.size + 1 := by simp
  have ht1 : (w.alloc (Obj.cells (secPart 0 0) 35)).there w.heap.size 0 64 := by
    intro j hj
    rw [World.cell?_alloc_new]
    refine ⟨?_, by simp⟩
    simp only [Nat.zero_add]
    rw [Array.getElem?_eq_getElem (by rw [secPart_size 0 0 (by omega)]; exact hj)]; rfl
  have hB1 : Below w.heap.size w (w.alloc (Obj.cells (secPart 0 0) 35)) := (Below.refl _ _).alloc (Nat.le_refl _) _
  have h00 : secPart 0 0 = secPart c 0 := rfl
  rw [h00, h0] at hs1 ht1 hB1
  generalize hW : w.alloc (Obj.cells _ 35) = W1
  have hs1 : W1.heap.size = w.heap.size + 1 := by rw [← hW]; exact hs1
  have ht1 : W1.there w.heap.size 0 64 := by rw [← hW]; exact ht1
  have hB1 : Below w.heap.size w W1 := by rw [← hW]; exact hB1
  clear hW
  go_loopw [4] (fun i wr => ∃ k : Nat, k ≤ 64 ∧ i = .int .i64 k ∧ wr = W1.alloc (.cells (secPart c k) 35)) (fun i _ => 64 - (intOf i).toNat)
  case atStart => exact ⟨0, by omega, rfl, rfl⟩
  case round =>
    clear h0 h00
    obtain ⟨k, hk, rfl, rfl⟩ := hrel
    by_cases hlt : k < 64
    · have hck : (secPart c k)[k]? = some (secPart c k)[k]! := by
        have := secPart_size c k (by omega)
        simp [getElem!_pos, this, hlt]
      have hset := secPart_set c k hlt
      rw [Array.set!_eq_setIfInBounds] at hset
      have hlt' : (k : Int) < 64 := by omega
      unfold bv at hset
      go_wp2_with fail
      go_roundw
      case rel => exact ⟨k + 1, by omega, rfl, rfl⟩
      case measure => simp [intOf]; omega
    · have hk' : k = 64 := by omega
      subst hk'
      rw [secPart_full]
      have hs : (secL c).map bv = (secL c).map bv := rfl
      have hlen : ((secL c).map bv).length = 64 := by simp [secL]
      have hone := bv_one (secL c)
      have hi : (Try.prog.info? 35).map (·.size) = some ((secL c).map bv).length := by rw [hlen]; kernel_rfl
      have hr : (W1.alloc (.cells ((secL c).map bv).toArray 35)).rangeAt (w.heap.size + 1) 0 ((secL c).map bv) := by
        intro j v hv
        rw [← hs1, World.cell?_alloc_new]; simpa using hv
      have hth := World.there_alloc ht1 (.cells ((secL c).map bv).toArray 35)
      have hBf : Below w.heap.size w (W1.alloc (.cells ((secL c).map bv).toArray 35)) := hB1.alloc (by omega) _
      generalize hcs : (secL c).map bv = cs at *
      generalize W1.alloc (.cells cs.toArray 35) = W2 at *
      have hth' : W2.there w.heap.size 0 cs.toArray.size := by simpa [hlen] using hth
      go_wp2_with (first | (refine wpList_load_mid rfl _ _ rfl _ _ rfl cs _ hr Try.underlying35 rfl hi ?_) | (refine wpList_store_mid rfl _ _ _ rfl _ _ cs.toArray rfl rfl hth' (by simpa using hi) (all_oneCell_toArray hone) ?_))
      have hsame := World.rangeAt_setCells_same W2 w.heap.size 0 cs (by rw [hlen]; exact hth)
      refine bodyPost_ret (results_cell Try.results12 rfl (run_loadVar_mid _ _ _ _ cs _ hsame Try.underlying35 rfl hi)) rfl ⟨?_, Go.Proofs.Ytdhgilpdghohoaa.Below.setCells (Nat.le_refl _) _ _ hBf⟩
      unfold secV; rw [hcs]
end Go.Proofs.Ytdhgilpdghohoaa
