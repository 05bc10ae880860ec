/- casketref08's parts as bytes: the walks. -/
import Derived.Test.YtinpeieecodijaaOutObj
import Derived.Test.YtinpeieecodijaaRefBits
import Derived.Lib.SlBytesConst
namespace Go.Proofs.Ytinpeieecodijaa
open Go.RowKit
set_option maxRecDepth 100000 in
set_option maxHeartbeats 400000 in
theorem refOne_any (n : Int) (w : World) (h1 : 0 ≤ n) (h2 : n ≤ 255) :
    Calls Try.prog 53 #[.int .i64 n] w fun e w' => e = .returned (strV [UInt8.ofNat n.toNat]) ∧ Below w.heap.size w w' := by
  have hone := Bsl.one w n ⟨h1, h2⟩
  have hcv := run_str _ hone
  have hb1 : Below w.heap.size w (w.alloc (.cells #[.int .u8 n] 5)) := (Below.refl _ _).alloc (Nat.le_refl _) _
  clear hone
  go_enter Try.func53, Try.ntmps53
  go_wp2_with fail
  go_ret
  exact ⟨rfl, hb1⟩
set_option maxRecDepth 100000 in
set_option maxHeartbeats 400000 in
theorem refSmall_any (n : Int) (w : World) :
    Calls Try.prog 42 #[.int .i64 n] w fun e w' => e = .returned (strV (smallL n)) ∧ Below w.heap.size w w' := by
  by_cases hn : 0 ≤ n ∧ n ≤ 255
  · have e1 : smallL n = [UInt8.ofNat n.toNat] := by unfold smallL; rw [if_pos hn]
    rw [e1]; clear e1
    obtain ⟨ha, hb⟩ := hn
    go_enter Try.func42, Try.ntmps42
    go_wp2_with fail
    refine (refOne_any n _ ha hb).mono ?_
    rintro e w1 ⟨rfl, hb1⟩
    unfold strV
    go_wp2_with fail
    go_ret
    exact ⟨rfl, hb1⟩
  · have e1 : smallL n = [] := by unfold smallL; rw [if_neg hn]
    rw [e1]; clear e1
    have hn' : n < 0 ∨ 255 < n := by omega
    rcases hn' with hn' | hn'
    · go_enter Try.func42, Try.ntmps42
      go_wp2_with fail
      go_ret
      exact ⟨rfl, Below.refl _ _⟩
    · go_enter Try.func42, Try.ntmps42
      go_wp2_with fail
      go_ret
      exact ⟨rfl, Below.refl _ _⟩
set_option maxRecDepth 100000 in
set_option maxHeartbeats 400000 in
theorem refNum_any (n : Int) (w : World) (h2 : n ≤ 9223372036854775807) :
    Calls Try.prog 41 #[.int .i64 n] w fun e w' => e = .returned (strV (numL n)) ∧ Below w.heap.size w w' := by
  by_cases hn : 0 ≤ n
  · have e1 : numL n = putL 8 n.toNat true := by unfold numL; rw [if_pos hn]; rfl
    rw [e1]; clear e1
    obtain ⟨n, rfl⟩ := Int.eq_ofNat_of_zero_le hn
    rw [Int.toNat_natCast]
    go_enter Try.func41, Try.ntmps41
    go_wp2_with fail
    refine (refPut_any n 8 true _ (by omega) (by omega) (by omega)).mono ?_
    rintro e w1 ⟨rfl, hb1⟩
    unfold strV
    rw [show Int.toNat 8 = 8 from rfl]
    go_wp2_with fail
    go_ret
    exact ⟨rfl, hb1⟩
  · have e1 : numL n = [] := by unfold numL; rw [if_neg hn]
    rw [e1]; clear e1
    have hn' : n < 0 := by omega
    go_enter Try.func41, Try.ntmps41
    go_wp2_with fail
    go_ret
    exact ⟨rfl, Below.refl _ _⟩
set_option maxRecDepth 100000 in
set_option maxHeartbeats 400000 in
theorem refBytes_any (b : List UInt8) (w : World) (hl : b.length ≤ 140737488355000) :
    Calls Try.prog 43 #[strV b] w fun e w' => e = .returned (strV (bytesL b)) ∧ Below w.heap.size w w' := by
  have hsz : (putL 4 b.length true).length = 4 := by simp [putL, putLowL_length]
  have hcat := run_cat (putL 4 b.length true) b (by omega)
  have hcl : bytesL b = putL 4 b.length true ++ b := by simp [bytesL, putL]
  rw [hcl]
  clear hcl hsz
  unfold strV
  go_enter Try.func43, Try.ntmps43
  go_wp2_with fail
  refine (refPut_any b.length 4 true _ (by omega) (by omega) (by omega)).mono ?_
  rintro e w1 ⟨rfl, hb1⟩
  unfold strV
  rw [show Int.toNat 4 = 4 from rfl]
  generalize ht : putL 4 b.length true = t at *
  have HT := Lib.hid ht; clear ht
  go_wp2_with fail
  go_ret
  exact ⟨by rw [HT.out]; rfl, hb1⟩
set_option maxRecDepth 100000 in
set_option maxHeartbeats 400000 in
theorem codes_any (w : World) : Calls Try.prog 12 #[] w fun e w' => e = .returned (.bool true) ∧ Below w.heap.size w w' := by
  have kc := fun (w : World) (C : Array Value) (n c : Nat) => Lib.run_convert_bytes_const (P := Try.prog) w 24 5 C n c Try.underlying24 Try.underlying5
  go_enter Try.func12, Try.ntmps12
  have h0 := OutAt.fresh w w.heap.size 32 (Nat.le_refl _)
  have b0 : Below w.heap.size w (w.alloc (.cells #[.slice none 0 0, .bool false] 32)) := (Below.refl _ _).alloc (Nat.le_refl _) _
  go_wp2_with fail
  refine (osmall_any 3 _ h0 (by omega) (by omega) (by simp)).mono ?_
  rintro e w1 ⟨rfl, g1, h1, e1⟩
  have b1 : Below w.heap.size w w1 := b0.trans (e1.below (by simp) (Nat.le_refl _) (by simp))
  clear h0 b0 e1
  have hl2 := Bsl.lit w1 [97, 98] #[.int .u8 97, .int .u8 98] (2, 3) 2 rfl (by decide) (by omega)
  have k2 : Below w1.heap.size w1 (w1.alloc (.cells #[.int .u8 97, .int .u8 98] 5 (2, 3))) := (Below.refl _ _).alloc (Nat.le_refl _) _
  have hO2 := h1.keep k2
  have hp1 := h1.pLt
  have hg1 := h1.gB
  go_wp2_with fail
  refine (obytes_any _ [97, 98] _ hO2 hl2 ?_ (by decide)).mono ?_
  · intro k hk
    simp [Value.ownBlock] at hk
    subst hk
    exact ⟨by omega, fun e => by have := (hg1 _ e).2; omega⟩
  rintro e w2 ⟨rfl, g2, h2, e2⟩
  have b2 : Below w.heap.size w w2 := (b1.alloc (by omega) _).trans (e2.below (by simp; omega) (Nat.le_refl _) (fun k hk => (hg1 k hk).1))
  go_wp2_with fail
  refine (odone_any _ h2 (by decide)).mono ?_
  rintro e w3 ⟨v3, rfl, ho3, b3⟩
  have hs := run_str w3 ho3.bsl
  rw [show (([] ++ smallL 3 ++ bytesL [97, 98] : List UInt8)) = [3, 0, 0, 0, 2, 97, 98] from by decide] at hs
  rw [show (if (false || !decide ((0 : Int) ≤ 3 ∧ (3 : Int) ≤ 255)) = true then (1 : Int) else 0) = 0 from by decide]
  go_wp2_with fail
  go_ret
  exact ⟨rfl, b2.trans (b3.mono b2.size)⟩
end Go.Proofs.Ytinpeieecodijaa
