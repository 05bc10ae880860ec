/- The law's 'sector'. -/
import Derived.Test.YtbmdcblcefebiaaRow
import Derived.Deep.MidRow
namespace Go.Proofs.Ytbmdcblcefebiaa
open Go.RowKit
def secL (by_ : UInt8) : List UInt8 := List.replicate 64 by_
def secV (s : List UInt8) : Value := .agg (s.map bv).toArray
def secPart (by_ : UInt8) (k : Nat) : Array Value := (List.replicate k (bv by_) ++ List.replicate (64 - k) (bv 0)).toArray
theorem secPart_set (c : UInt8) (k : Nat) (h : k < 64) : (secPart c k).set! k (bv c) = secPart c (k + 1) := by
  apply Array.ext'
  simp only [secPart, Array.set!_eq_setIfInBounds, Array.toList_setIfInBounds]
  rw [List.set_append_right _ _ (by simp), List.length_replicate, Nat.sub_self, show 64 - k = (64 - (k + 1)) + 1 by omega, List.replicate_succ, List.set_cons_zero, List.replicate_succ', List.append_assoc]
  rfl
theorem secPart_size (c : UInt8) (k : Nat) (h : k ≤ 64) : (secPart c k).size = 64 := by simp [secPart]; omega
theorem secPart_full (c : UInt8) : secPart c 64 = ((secL c).map bv).toArray := by simp [secPart, secL]
theorem results_cell {P : Program} {fn : Func} {a : Tmp} {t : TypeId} {b o : Nat} {v : Value} {w : World} {tmps : Array Value} (h : fn.results = #[.cell a t]) (ha : tmps.getD a undef = .pointer (some ⟨b, o, none⟩))
    (hr : (loadVar t ⟨b, o, none⟩).run P w = .ok v w) : (results fn tmps).run P w = .ok v w := by
  unfold results
  rw [h]
  simp only [asAddr, ha, hr, List.mapM_toArray, List.mapM_cons, List.mapM_nil, Sem.run_bind, Sem.run_pure, Result.andThen_ok, Sem.run_map]
  simp
end Go.Proofs.Ytbmdcblcefebiaa
