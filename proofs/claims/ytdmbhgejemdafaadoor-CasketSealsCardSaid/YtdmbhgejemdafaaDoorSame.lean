/- bits.Same: the walk. -/
import Derived.Test.YtdmbhgejemdafaaDoorBase
import Derived.Deep.QuietTactic
import Derived.BigQuiet
namespace Go.Proofs.YtdmbhgejemdafaaDoor
open Go.RowKit
theorem take_succ_getD {l : List UInt8} {k : Nat} (h : k < l.length) : l.take (k + 1) = l.take k ++ [l.getD k 0] := by
  rw [List.take_succ_eq_append_getElem h]; simp [List.getD, h]
theorem snoc_eq_iff {a b : List UInt8} {x y : UInt8} : a ++ [x] = b ++ [y] ↔ a = b ∧ x = y := by
  constructor
  · intro h
    have := List.append_inj' h rfl
    exact ⟨this.1, by simpa using this.2⟩
  · rintro ⟨rfl, rfl⟩; rfl
theorem or_eq_zero {a b : Nat} : a ||| b = 0 ↔ a = 0 ∧ b = 0 := by
  constructor
  · intro h
    constructor
    · apply Nat.eq_of_testBit_eq; intro i
      have : (a ||| b).testBit i = false := by rw [h]; simp
      rw [Nat.testBit_or] at this; simp at this ⊢; exact this.1
    · apply Nat.eq_of_testBit_eq; intro i
      have : (a ||| b).testBit i = false := by rw [h]; simp
      rw [Nat.testBit_or] at this; simp at this ⊢; exact this.2
  · rintro ⟨rfl, rfl⟩; rfl
theorem nxor_eq_zero {a b : Nat} : a ^^^ b = 0 ↔ a = b := by
  constructor
  · intro h
    have : (a ^^^ b) ^^^ b = b := by rw [h, Nat.zero_xor]
    rw [Nat.xor_assoc, Nat.xor_self, Nat.xor_zero] at this; exact this
  · rintro rfl; exact Nat.xor_self a

set_option maxRecDepth 100000 in
set_option maxHeartbeats 400000 in
theorem same_any (va vb : Value) (la lb : List UInt8) (w : World) (ha : Bsl w va la) (hb : Bsl w vb lb) :
    Calls Tryd.prog 26 #[va, vb] w fun e w' => e = .returned (.bool (decide (la = lb))) ∧ Below w.heap.size w w' := by
  obtain ⟨ao, cap, rfl, hlc, hcm, hnil, hca⟩ := ha
  obtain ⟨bo, cap', rfl, hlc', hcm', hnil', hcb⟩ := hb
  clear hnil hnil'
  by_cases hlen : la.length = lb.length
  · have hne : ((la.length : Int) != (lb.length : Int)) = false := by rw [hlen]; simp
    have hd : ∀ (x : Bool), x = decide (la = lb) → Ending.returned (.bool x) = .returned (.bool (decide (la = lb))) := by rintro x rfl; rfl
    have hll : lb.length ≤ la.length ∧ la.length ≤ lb.length := by omega
    have HL := Lib.hid hlen; clear hlen
    have HD := Lib.hid hd; clear hd
    go_enter Tryd.func26, Tryd.ntmps26
    go_wp2
    go_loopw [5, 14] (fun d i wr => ∃ k x : Nat, k ≤ la.length ∧ i = .int .i64 k ∧ d = .int .u8 x ∧ x < 256 ∧ (x = 0 ↔ la.take k = lb.take k) ∧ Below w.heap.size w wr) (fun _ i _ => la.length - (intOf i).toNat)
    case atStart => exact ⟨0, 0, Nat.zero_le _, rfl, rfl, by omega, by simp, Below.refl _ _⟩
    case round =>
      obtain ⟨k, x, hk, rfl, rfl, hx, hiff, hbel⟩ := hrel
      have HI := Lib.hid hiff; clear hiff
      by_cases hlt : k < la.length
      · obtain ⟨b, off, rfl, hc⟩ := hca (by intro h; simp [h] at hlt)
        obtain ⟨b2, off2, rfl, hc2⟩ := hcb (by intro h; simp [h] at hll; simp [hll] at hlt)
        have hck := hc k hlt
        have hck2 := hc2 k (by omega)
        have hck := (hbel.cell (World.block_lt_of_cell? w _ hck)).trans hck
        have hck2 := (hbel.cell (World.block_lt_of_cell? w _ hck2)).trans hck2
        clear hc hc2 hca hcb
        obtain ⟨c, hcc⟩ : ∃ c, c = la.getD k 0 := ⟨_, rfl⟩
        obtain ⟨c2, hcc2⟩ : ∃ c, c = lb.getD k 0 := ⟨_, rfl⟩
        rw [← hcc] at hck
        rw [← hcc2] at hck2
        have HC := Lib.hid hcc; clear hcc
        have HC2 := Lib.hid hcc2; clear hcc2
        have hi1 : (k : Int) < (la.length : Int) := by omega
        have hi2 : (k : Int) < (lb.length : Int) := by omega
        go_wp2
        go_quiet (fail)
        go_wp2
        have hc8 : c.toNat < 256 := c.toNat_lt
        have hc28 : c2.toNat < 256 := c2.toNat_lt
        have e1 : bits BinOp.xor IntKind.u8 (c.toNat : Int) (c2.toNat : Int) = ((c.toNat ^^^ c2.toNat : Nat) : Int) := u8_xor_nat _ _ hc8 hc28
        have hxl : c.toNat ^^^ c2.toNat < 256 := Nat.xor_lt_two_pow (n := 8) hc8 hc28
        have e2 : bits BinOp.or IntKind.u8 (x : Int) ((c.toNat ^^^ c2.toNat : Nat) : Int) = ((x ||| (c.toNat ^^^ c2.toNat) : Nat) : Int) := u8_or_nat _ _ hx hxl
        go_roundw
        case rel =>
          refine ⟨k + 1, x ||| (c.toNat ^^^ c2.toNat), by omega, by go_num, by rw [e1, e2], Nat.or_lt_two_pow (n := 8) hx hxl, ?_, below_drewN hbel _⟩
          rw [or_eq_zero, nxor_eq_zero, HI.out, take_succ_getD hlt, take_succ_getD (by omega : k < lb.length), ← HC.out, ← HC2.out]
          rw [snoc_eq_iff, UInt8.toNat_inj]
        case measure => simp [intOf]; omega
      · go_wp2
        go_ret
        refine ⟨HD.out _ ?_, hbel⟩
        have h := HI.out
        have hkl : k = la.length := by omega
        rw [List.take_of_length_le (by omega), List.take_of_length_le (by omega)] at h
        by_cases hx0 : x = 0
        · have := h.1 hx0
          simp [hx0, this]
        · have hn : ¬ la = lb := fun e => hx0 (h.2 e)
          simp [hx0, hn]
  · have hne : ((la.length : Int) != (lb.length : Int)) = true := by simp; omega
    have hd : decide (la = lb) = false := by simp; intro h; exact hlen (by rw [h])
    have HD := Lib.hid hd; clear hd
    clear hca hcb hlen
    go_enter Tryd.func26, Tryd.ntmps26
    go_wp2
    go_ret
    exact ⟨by rw [HD.out]; rfl, Below.refl _ _⟩
end Go.Proofs.YtdmbhgejemdafaaDoor
