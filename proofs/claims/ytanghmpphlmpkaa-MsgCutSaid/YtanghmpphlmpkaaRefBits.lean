/- casketref01: the walks. -/
import Derived.Test.YtanghmpphlmpkaaBits
namespace Go.Proofs.Ytanghmpphlmpkaa
open Go.RowKit
/-- A string of the bytes l. -/
def strV (l : List UInt8) : Value := .string ⟨l.toArray⟩
def putL (k x : Nat) (high : Bool) : List UInt8 := if high then (putLowL k x).reverse else putLowL k x
theorem strcat (a b : List UInt8) : (⟨a.toArray⟩ : ByteArray) ++ ⟨b.toArray⟩ = ⟨(a ++ b).toArray⟩ := ByteArray.mk_append_mk _ _
theorem run_cat (a b : List UInt8) (h : a.length + b.length ≤ 9223372036854775807) (w : World) : (Op.stringOp .add ⟨a.toArray⟩ ⟨b.toArray⟩).run Try.prog w = .ok (.string ⟨(a ++ b).toArray⟩) w := by
  rw [run_string_add_sum w _ _ (by simp [ByteArray.size]; omega), strcat]
set_option maxRecDepth 100000 in
set_option maxHeartbeats 400000 in
theorem refPut_any (x : Nat) (s : Int) (hi : Bool) (w : World) (hx : x < 18446744073709551616) (h1 : 0 ≤ s) (h2 : s ≤ 64) :
    Calls Try.prog 48 #[.int .u64 x, .int .i64 s, .bool hi] w fun e w' => e = .returned (strV (putL s.toNat x hi)) ∧ Below w.heap.size w w' := by
  obtain ⟨n, rfl⟩ := Int.eq_ofNat_of_zero_le h1
  rw [Int.toNat_natCast]
  have hn : n ≤ 64 := by omega
  go_enter Try.func48, Try.ntmps48
  go_wp2
  go_loopw [0, 7, 8] (fun y v i wr => ∃ k : Nat, k ≤ n ∧ i = .int .i64 k ∧ y = .int .u64 ((x / 256 ^ k : Nat) : Int) ∧ x / 256 ^ k < 18446744073709551616 ∧ v = .string ⟨(putL k x hi).toArray⟩ ∧ Below w.heap.size w wr) (fun _ _ i _ => n - (intOf i).toNat)
  case atStart => exact ⟨0, Nat.zero_le _, rfl, by simp, by simpa using hx, by cases hi <;> rfl, Below.refl _ _⟩
  case round =>
    obtain ⟨k, hk, rfl, rfl, hyb, rfl, hbel⟩ := hrel
    generalize hy : x / 256 ^ k = y at *
    have HY := Lib.hid hy; clear hy
    by_cases hlt : k < n
    · have hk64 : (k : Int) < 64 := by omega
      have hone := Bsl.one wr ((y : Int) % 256) (by omega)
      have hcv := run_str _ hone
      have hsz := hbel.size
      have hb1 : Below w.heap.size w (wr.alloc (.cells #[.int .u8 ((y : Int) % 256)] 5)) := hbel.alloc hsz _
      have hpl : (putL k x hi).length = k := by cases hi <;> simp [putL, putLowL_length]
      clear hone
      have e : x / 256 ^ (k + 1) = y / 256 := by rw [Nat.pow_succ, ← Nat.div_div_eq_div_mul, HY.out]
      have e2 : UInt8.ofNat (y % 256) = UInt8.ofNat y := by apply UInt8.toNat_inj.1; simp
      have HE := Lib.hid e; clear e
      have HE2 := Lib.hid e2; clear e2
      cases hi with
      | true =>
        go_wp2
        go_roundw
        case rel =>
          refine ⟨k + 1, by omega, by go_num, by rw [HE.out]; rfl, by rw [HE.out]; omega, ?_, hb1⟩
          rw [show (#[UInt8.ofNat (y % 256)] : Array UInt8) = [UInt8.ofNat (y % 256)].toArray from rfl, strcat, HE2.out]
          simp [putL, putLowL_snoc, HY.out]
        case measure => simp [intOf]; omega
      | false =>
        go_wp2
        go_roundw
        case rel =>
          refine ⟨k + 1, by omega, by go_num, by rw [HE.out]; rfl, by rw [HE.out]; omega, ?_, hb1⟩
          rw [show (#[UInt8.ofNat (y % 256)] : Array UInt8) = [UInt8.ofNat (y % 256)].toArray from rfl, strcat, HE2.out]
          simp [putL, putLowL_snoc, HY.out]
        case measure => simp [intOf]; omega
    · go_wp2
      go_ret
      obtain rfl : k = n := by omega
      exact ⟨rfl, hbel⟩
end Go.Proofs.Ytanghmpphlmpkaa
