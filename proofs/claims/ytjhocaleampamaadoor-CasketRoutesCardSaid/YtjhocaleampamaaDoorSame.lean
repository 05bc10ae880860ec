/- bits.Same: the walk. -/
import Derived.Test.YtjhocaleampamaaDoorBase
import Derived.Deep.QuietTactic
import Derived.BigQuiet
namespace Go.Proofs.YtjhocaleampamaaDoor
open Go.RowKit
theorem take_succ_getD {l : List UInt8} {k : Nat} (h : k < l.length) : l.take (k + 1) = l.take k ++ [l.getD k 0] := by
  rw [List.take_succ_eq_append_getElem h]; simp [List.getD, h]
theorem snoc_eq_iff {a b : List UInt8} {x y : UInt8} : a ++ [x] = b ++ [y] ↔ a = b ∧ x = y := by
  constructor
  · intro h
    have := List.append_inj' h rfl
    exact ⟨this.1, by simpa using this.2⟩
  · rintro ⟨rfl, rfl⟩; rfl
theorem or_eq_zero {a b : Nat} : a ||| b = 0 ↔ a = 0 ∧ b = 0 := by
  constructor
  · intro h
    constructor
    · apply Nat.eq_of_testBit_eq; intro i
      have : (a ||| b).testBit i = false := by rw [h]; simp
      rw [Nat.testBit_or] at this; simp at this ⊢; exact this.1
    · apply Nat.eq_of_testBit_eq; intro i
      have : (a ||| b).testBit i = false := by rw [h]; simp
      rw [Nat.testBit_or] at this; simp at this ⊢; exact this.2
  · rintro ⟨rfl, rfl⟩; rfl
theorem nxor_eq_zero {a b : Nat} : a ^^^ b = 0 ↔ a = b := by
  constructor
  · intro h
    have : (a ^^^ b) ^^^ b = b := by rw [h, Nat.zero_xor]
    rw [Nat.xor_assoc, Nat.xor_self, Nat.xor_zero] at this; exact this
  · rintro rfl; exact Nat.xor_self a

end Go.Proofs.YtjhocaleampamaaDoor
