/- casketref09: the walks. -/
import Derived.Test.YtbmdcblcefebiaaRefBits
import Derived.Test.YtbmdcblcefebiaaCrcTop
import Derived.Lib.SlBytesConst
namespace Go.Proofs.Ytbmdcblcefebiaa
open Go.RowKit Crc
theorem str_size (l : List UInt8) : (⟨l.toArray⟩ : ByteArray).size = l.length := by simp [ByteArray.size]
theorem str_get (l : List UInt8) (k : Nat) (h : k < l.length) : (⟨l.toArray⟩ : ByteArray)[k]'(by rw [str_size]; exact h) = l.getD k 0 := by
  show l.toArray[k]'(by simpa using h) = _
  simp [List.getD, h]
set_option maxRecDepth 100000 in
set_option maxHeartbeats 400000 in
theorem refCheck_any (l : List UInt8) (w : World) (hl : l.length ≤ 140737488355000) :
    Calls Try.prog 55 #[strV l] w fun e w' => e = .returned (.int .u32 (crcOf (l.map UInt8.toNat))) ∧ w = w' := by
  unfold strV
  go_enter Try.func55, Try.ntmps55
  go_wp2
  go_loop [3, 4] (fun n i => ∃ k x : Nat, k ≤ l.length ∧ i = .int .i64 k ∧ x < 4294967296 ∧ n = .int .u32 x ∧ cRun x ((l.drop k).map UInt8.toNat) = cRun 0xFFFFFFFF (l.map UInt8.toNat)) (fun _ i => l.length - (intOf i).toNat)
  case atStart => exact ⟨0, 4294967295, Nat.zero_le _, rfl, by omega, rfl, rfl⟩
  case round =>
    obtain ⟨k, x, hk, rfl, hx, rfl, hrun⟩ := hrel
    have HR := Lib.hid hrun; clear hrun
    by_cases hlt : k < l.length
    · obtain ⟨c, hcc⟩ : ∃ c, c = l.getD k 0 := ⟨_, rfl⟩
      have hcv : (⟨l.toArray⟩ : ByteArray)[k]'(by rw [str_size]; exact hlt) = c := by rw [hcc, str_get l k hlt]
      have HC := Lib.hid hcc; clear hcc
      have hc256 : (c.toNat : Int) < 256 := by have := c.toNat_lt; omega
      go_wp2
      clear hcv
      have hc8 : c.toNat < 256 := c.toNat_lt
      have hxor : bits BinOp.xor IntKind.u32 (x : Int) (c.toNat : Int) = ((x ^^^ c.toNat : Nat) : Int) := u32_xor_nat x c.toNat (by omega) (by omega)
      rw [hxor]
      clear hxor
      have hy : x ^^^ c.toNat < 4294967296 := Nat.xor_lt_two_pow (n := 32) (by omega) (by omega)
      generalize hyd : x ^^^ c.toNat = y at *
      have HY := Lib.hid hyd; clear hyd
      go_loop [3, 5] (fun n i => ∃ j z : Nat, j ≤ 8 ∧ i = .int .i64 j ∧ z < 4294967296 ∧ n = .int .u32 z ∧ cIter (8 - j) z = cIter 8 y) (fun _ i => 8 - (intOf i).toNat)
      case atStart => exact ⟨0, y, by omega, rfl, hy, rfl, rfl⟩
      case round =>
        obtain ⟨j, z, hj, rfl, hz, rfl, hit⟩ := hrel
        have HI := Lib.hid hit; clear hit
        by_cases hj8 : j < 8
        · have h1 : bits BinOp.and IntKind.u32 (z : Int) 1 = ((z % 2 : Nat) : Int) := by
            have := u32_and_nat z 1 (by omega) (by omega)
            rw [nat_mask1] at this; exact this
          have hlast : cIter (8 - (j + 1)) (cStep z) = cIter 8 y := by
            have := HI.out
            rw [show 8 - j = (8 - (j + 1)) + 1 from by omega] at this
            exact this
          have HL := Lib.hid hlast; clear hlast
          rcases Nat.mod_two_eq_zero_or_one z with h2 | h2
          · have hst : cStep z = z / 2 := by unfold cStep; rw [if_neg (by omega)]
            have HS := Lib.hid hst; clear hst
            rw [h2] at h1; clear h2
            go_wp2
            go_round
            case rel => exact ⟨j + 1, cStep z, by omega, by go_num, cStep_lt hz, by rw [HS.out]; rfl, HL.out⟩
            case measure => simp [intOf]; omega
          · have hst : cStep z = (z / 2) ^^^ 2197175160 := by unfold cStep; rw [if_pos h2]
            have hxx : bits BinOp.xor IntKind.u32 ((z : Int) / 2) 2197175160 = ((cStep z : Nat) : Int) := by rw [hst]; exact u32_xor_nat (z / 2) 2197175160 (by omega) (by omega)
            clear hst
            rw [h2] at h1; clear h2
            go_wp2
            go_round
            case rel => exact ⟨j + 1, cStep z, by omega, by go_num, cStep_lt hz, rfl, HL.out⟩
            case measure => simp [intOf]; omega
        · go_wp2
          go_round
          case rel =>
            refine ⟨k + 1, z, by omega, by go_num, hz, rfl, ?_⟩
            have h1 := HI.out
            rw [show 8 - j = 0 from by omega] at h1
            have h2 := HR.out
            rw [drop_getD_cons hlt, ← HC.out] at h2
            simp only [List.map_cons, cRun, List.foldl_cons] at h2 ⊢
            rw [← h2]; congr 1
            show cIter 0 z = cByte x c.toNat
            rw [h1]; unfold cByte; rw [HY.out]
          case measure => simp [intOf]; omega
    · go_wp2
      go_ret
      refine ⟨ret_int ?_, rfl⟩
      have h2 := HR.out
      rw [List.drop_of_length_le (by omega)] at h2
      rw [u32_flip x hx]
      unfold crcOf; rw [← h2]; rfl

set_option maxRecDepth 100000 in
set_option maxHeartbeats 400000 in
theorem refClose_any (l : List UInt8) (w : World) (hl : l.length ≤ 140737488355000) :
    Calls Try.prog 37 #[strV l] w fun e w' => e = .returned (strV (closeL l)) ∧ Below w.heap.size w w' := by
  have hlt := crcOf_lt (l.map UInt8.toNat) (toNats_lt l)
  have hsz : (putL 4 (crcOf (l.map UInt8.toNat)) false).length = 4 := by simp [putL, putLowL_length]
  have hcl : closeL l = l ++ putL 4 (crcOf (l.map UInt8.toNat)) false := by simp [closeL, putL]
  have hcat := run_cat l (putL 4 (crcOf (l.map UInt8.toNat)) false) (by omega)
  rw [hcl]
  clear hcl hsz
  unfold strV
  go_enter Try.func37, Try.ntmps37
  go_wp2_with fail
  refine (refCheck_any l _ (by omega)).mono ?_
  rintro e w1 ⟨rfl, rfl⟩
  go_wp2_with fail
  refine (refPut_any _ 4 false _ (by omega) (by omega) (by omega)).mono ?_
  rintro e w1 ⟨rfl, hb1⟩
  unfold strV
  rw [show Int.toNat 4 = 4 from rfl]
  generalize ht : putL 4 (crcOf (l.map UInt8.toNat)) false = t at *
  have HT := Lib.hid ht; clear ht
  go_wp2_with fail
  go_ret
  exact ⟨by rw [HT.out]; rfl, hb1⟩
def strB (l : List UInt8) : ByteArray := ⟨l.toArray⟩
theorem str_extract (l : List UInt8) (n : Nat) : (⟨l.toArray⟩ : ByteArray).extract 0 n = ⟨(l.take n).toArray⟩ := by
  apply ByteArray.ext
  simp [List.take_drop]
end Go.Proofs.Ytbmdcblcefebiaa
