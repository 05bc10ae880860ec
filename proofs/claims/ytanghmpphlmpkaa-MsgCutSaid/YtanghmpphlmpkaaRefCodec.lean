/- casketref08's parts as bytes: the walks. -/
import Derived.Test.YtanghmpphlmpkaaOutObj
import Derived.Test.YtanghmpphlmpkaaRefBits
import Derived.Lib.SlBytesConst
namespace Go.Proofs.Ytanghmpphlmpkaa
open Go.RowKit
set_option maxRecDepth 100000 in
set_option maxHeartbeats 400000 in
theorem refOne_any (n : Int) (w : World) (h1 : 0 ≤ n) (h2 : n ≤ 255) :
    Calls Try.prog 47 #[.int .i64 n] w fun e w' => e = .returned (strV [UInt8.ofNat n.toNat]) ∧ Below w.heap.size w w' := by
  have hone := Bsl.one w n ⟨h1, h2⟩
  have hcv := run_str _ hone
  have hb1 : Below w.heap.size w (w.alloc (.cells #[.int .u8 n] 5)) := (Below.refl _ _).alloc (Nat.le_refl _) _
  clear hone
  go_enter Try.func47, Try.ntmps47
  go_wp2_with fail
  go_ret
  exact ⟨rfl, hb1⟩
set_option maxRecDepth 100000 in
set_option maxHeartbeats 400000 in
theorem refSmall_any (n : Int) (w : World) :
    Calls Try.prog 22 #[.int .i64 n] w fun e w' => e = .returned (strV (smallL n)) ∧ Below w.heap.size w w' := by
  by_cases hn : 0 ≤ n ∧ n ≤ 255
  · have e1 : smallL n = [UInt8.ofNat n.toNat] := by unfold smallL; rw [if_pos hn]
    rw [e1]; clear e1
    obtain ⟨ha, hb⟩ := hn
    go_enter Try.func22, Try.ntmps22
    go_wp2_with fail
    refine (refOne_any n _ ha hb).mono ?_
    rintro e w1 ⟨rfl, hb1⟩
    unfold strV
    go_wp2_with fail
    go_ret
    exact ⟨rfl, hb1⟩
  · have e1 : smallL n = [] := by unfold smallL; rw [if_neg hn]
    rw [e1]; clear e1
    have hn' : n < 0 ∨ 255 < n := by omega
    rcases hn' with hn' | hn'
    · go_enter Try.func22, Try.ntmps22
      go_wp2_with fail
      go_ret
      exact ⟨rfl, Below.refl _ _⟩
    · go_enter Try.func22, Try.ntmps22
      go_wp2_with fail
      go_ret
      exact ⟨rfl, Below.refl _ _⟩
set_option maxRecDepth 100000 in
set_option maxHeartbeats 400000 in
theorem refNum_any (n : Int) (w : World) (h2 : n ≤ 9223372036854775807) :
    Calls Try.prog 23 #[.int .i64 n] w fun e w' => e = .returned (strV (numL n)) ∧ Below w.heap.size w w' := by
  by_cases hn : 0 ≤ n
  · have e1 : numL n = putL 8 n.toNat true := by unfold numL; rw [if_pos hn]; rfl
    rw [e1]; clear e1
    obtain ⟨n, rfl⟩ := Int.eq_ofNat_of_zero_le hn
    rw [Int.toNat_natCast]
    go_enter Try.func23, Try.ntmps23
    go_wp2_with fail
    refine (refPut_any n 8 true _ (by omega) (by omega) (by omega)).mono ?_
    rintro e w1 ⟨rfl, hb1⟩
    unfold strV
    rw [show Int.toNat 8 = 8 from rfl]
    go_wp2_with fail
    go_ret
    exact ⟨rfl, hb1⟩
  · have e1 : numL n = [] := by unfold numL; rw [if_neg hn]
    rw [e1]; clear e1
    have hn' : n < 0 := by omega
    go_enter Try.func23, Try.ntmps23
    go_wp2_with fail
    go_ret
    exact ⟨rfl, Below.refl _ _⟩
set_option maxRecDepth 100000 in
set_option maxHeartbeats 400000 in
theorem refBytes_any (b : List UInt8) (w : World) (hl : b.length ≤ 140737488355000) :
    Calls Try.prog 49 #[strV b] w fun e w' => e = .returned (strV (bytesL b)) ∧ Below w.heap.size w w' := by
  have hsz : (putL 4 b.length true).length = 4 := by simp [putL, putLowL_length]
  have hcat := run_cat (putL 4 b.length true) b (by omega)
  have hcl : bytesL b = putL 4 b.length true ++ b := by simp [bytesL, putL]
  rw [hcl]
  clear hcl hsz
  unfold strV
  go_enter Try.func49, Try.ntmps49
  go_wp2_with fail
  refine (refPut_any b.length 4 true _ (by omega) (by omega) (by omega)).mono ?_
  rintro e w1 ⟨rfl, hb1⟩
  unfold strV
  rw [show Int.toNat 4 = 4 from rfl]
  generalize ht : putL 4 b.length true = t at *
  have HT := Lib.hid ht; clear ht
  go_wp2_with fail
  go_ret
  exact ⟨by rw [HT.out]; rfl, hb1⟩
end Go.Proofs.Ytanghmpphlmpkaa
