/- crc.Check: the walk. -/
import Derived.Test.YtbmdcblcefebiaaBase
import Derived.Test.YtbmdcblcefebiaaCrcMath
namespace Go.Proofs.Ytbmdcblcefebiaa
open Go.RowKit Crc
theorem u32_step (z : Nat) (hz : z < 4294967296) :
    bits BinOp.xor IntKind.u32 ((z : Int) / 2) (bits BinOp.and IntKind.u32 2197175160 (-bits BinOp.and IntKind.u32 (z : Int) 1 % 4294967296)) = ((cStep z : Nat) : Int) := by
  have h1 : bits BinOp.and IntKind.u32 (z : Int) 1 = ((z % 2 : Nat) : Int) := by
    have := u32_and_nat z 1 (by omega) (by omega)
    rw [nat_mask1] at this; exact this
  rw [h1]
  unfold cStep
  rcases Nat.mod_two_eq_zero_or_one z with h | h
  · rw [h, if_neg (by omega)]
    have h2 : bits BinOp.and IntKind.u32 2197175160 (-((0 : Nat) : Int) % 4294967296) = ((0 : Nat) : Int) := by
      have := u32_and_nat 2197175160 0 (by omega) (by omega)
      rw [Nat.and_zero] at this; exact this
    rw [h2]
    have := u32_xor_nat (z / 2) 0 (by omega) (by omega)
    rw [Nat.xor_zero] at this
    exact this
  · rw [h, if_pos rfl]
    have h2 : bits BinOp.and IntKind.u32 2197175160 (-((1 : Nat) : Int) % 4294967296) = ((2197175160 : Nat) : Int) := by
      have := u32_and_nat 2197175160 4294967295 (by omega) (by omega)
      exact this
    rw [h2]
    exact u32_xor_nat (z / 2) 2197175160 (by omega) (by omega)
theorem u32_flip (x : Nat) (hx : x < 4294967296) : bits BinOp.xor IntKind.u32 IntKind.u32.max (x : Int) = ((x ^^^ 4294967295 : Nat) : Int) := by
  have := u32_xor_nat 4294967295 x (by omega) hx
  rw [Nat.xor_comm] at this; exact this
theorem ret_int {k : IntKind} {a b : Int} (h : a = b) : Ending.returned (.int k a) = .returned (.int k b) := by rw [h]
theorem drop_getD_cons {l : List UInt8} {k : Nat} (h : k < l.length) : l.drop k = l.getD k 0 :: l.drop (k + 1) := by
  rw [List.drop_eq_getElem_cons h]; simp [List.getD, h]

set_option maxRecDepth 100000 in
set_option maxHeartbeats 400000 in
theorem check_any (v : Value) (l : List UInt8) (w : World) (hb : Bsl w v l) :
    Calls Try.prog 70 #[v] w fun e w' => e = .returned (.int .u32 (crcOf (l.map UInt8.toNat))) ∧ w = w' := by
  obtain ⟨ao, cap, rfl, hlc, hcm, hnil, hcells⟩ := hb
  clear hnil
  have hl : l.length ≤ 9223372036854775807 := by omega
  go_enter Try.func70, Try.ntmps70
  go_wp2
  go_loop [3, 8] (fun n i => ∃ k x : Nat, k ≤ l.length ∧ i = .int .i64 k ∧ x < 4294967296 ∧ n = .int .u32 x ∧ cRun x ((l.drop k).map UInt8.toNat) = cRun 0xFFFFFFFF (l.map UInt8.toNat)) (fun _ i => l.length - (intOf i).toNat)
  case atStart => exact ⟨0, 4294967295, Nat.zero_le _, rfl, by omega, rfl, rfl⟩
  case round =>
    obtain ⟨k, x, hk, rfl, hx, rfl, hrun⟩ := hrel
    have HR := Lib.hid hrun; clear hrun
    by_cases hlt : k < l.length
    · obtain ⟨b, off, rfl, hc⟩ := hcells (by intro h; simp [h] at hlt)
      have hck := hc k hlt
      clear hc hcells
      obtain ⟨c, hcc⟩ : ∃ c, c = l.getD k 0 := ⟨_, rfl⟩
      rw [← hcc] at hck
      have HC := Lib.hid hcc; clear hcc
      have hc256 : (c.toNat : Int) < 256 := by have := c.toNat_lt; omega
      go_wp2
      have hc8 : c.toNat < 256 := c.toNat_lt
      have hxor : bits BinOp.xor IntKind.u32 (x : Int) (c.toNat : Int) = ((x ^^^ c.toNat : Nat) : Int) := u32_xor_nat x c.toNat (by omega) (by omega)
      rw [hxor]
      clear hxor
      have hy : x ^^^ c.toNat < 4294967296 := Nat.xor_lt_two_pow (n := 32) (by omega) (by omega)
      generalize hyd : x ^^^ c.toNat = y at *
      have HY := Lib.hid hyd; clear hyd
      go_loop [3, 16] (fun n i => ∃ j z : Nat, j ≤ 8 ∧ i = .int .i64 j ∧ z < 4294967296 ∧ n = .int .u32 z ∧ cIter (8 - j) z = cIter 8 y) (fun _ i => 8 - (intOf i).toNat)
      case atStart => exact ⟨0, y, by omega, rfl, hy, rfl, rfl⟩
      case round =>
        obtain ⟨j, z, hj, rfl, hz, rfl, hit⟩ := hrel
        have HI := Lib.hid hit; clear hit
        by_cases hj8 : j < 8
        · go_wp2
          go_round
          case rel =>
            refine ⟨j + 1, cStep z, by omega, by go_num, cStep_lt hz, by rw [u32_step z hz], ?_⟩
            have := HI.out
            rw [show 8 - j = (8 - (j + 1)) + 1 from by omega] at this
            exact this
          case measure => simp [intOf]; omega
        · go_wp2
          go_round
          case rel =>
            refine ⟨k + 1, z, by omega, by go_num, hz, rfl, ?_⟩
            have h1 := HI.out
            rw [show 8 - j = 0 from by omega] at h1
            have h2 := HR.out
            rw [drop_getD_cons hlt, ← HC.out] at h2
            simp only [List.map_cons, cRun, List.foldl_cons] at h2 ⊢
            rw [← h2]; congr 1
            show cIter 0 z = cByte x c.toNat
            rw [h1]; unfold cByte; rw [HY.out]
          case measure => simp [intOf]; omega
    · go_wp2
      go_ret
      refine ⟨ret_int ?_, rfl⟩
      have h2 := HR.out
      rw [List.drop_of_length_le (by omega)] at h2
      rw [u32_flip x hx]
      unfold crcOf; rw [← h2]; rfl
end Go.Proofs.Ytbmdcblcefebiaa
