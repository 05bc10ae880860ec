/- Plain law of layer 9, joined to lists of bytes: what is closed is opened again, and with a burst changed it is not. -/
import Derived.Test.YtbmdcblcefebiaaCrcTop
namespace Go.Proofs.Ytbmdcblcefebiaa
open Crc
theorem putLow4 (x : Nat) : (putLowL 4 x).map UInt8.toNat = le4 x := by
  simp only [putLowL, le4, List.map_cons, List.map_nil]
  simp
  omega
theorem openOk_close (m : List UInt8) : openOk (closeL m) = true := by
  unfold openOk
  rw [closeL_length]
  have : (closeL m).take (m.length + 4 - 4) = m := by simp [closeL]
  rw [this]; simp
theorem take_close (m : List UInt8) : (closeL m).take ((closeL m).length - 4) = m := by
  rw [closeL_length]; simp [closeL]
/-- The first i of four bytes changed, from place k on. -/
def xa (l : List UInt8) (k by_ : Nat) : Nat → List UInt8
  | 0 => l
  | i + 1 => (xa l k by_ i).set (k + i) ((xa l k by_ i).getD (k + i) 0 ^^^ UInt8.ofNat (by_ / 256 ^ i))
theorem xa_length (l : List UInt8) (k by_ i : Nat) : (xa l k by_ i).length = l.length := by
  induction i with
  | zero => rfl
  | succ i ih => simp [xa, ih]
theorem xa_getD (l : List UInt8) (k by_ : Nat) (i : Nat) (hk : k + i ≤ l.length) : ∀ j, j < l.length →
    (xa l k by_ i).getD j 0 = if k ≤ j ∧ j < k + i then l.getD j 0 ^^^ UInt8.ofNat (by_ / 256 ^ (j - k)) else l.getD j 0 := by
  induction i with
  | zero => intro j hj; rw [if_neg (by omega)]; rfl
  | succ i ih =>
    intro j hj
    have ih' := ih (by omega)
    have hl := xa_length l k by_ i
    rw [xa]
    by_cases hjk : j = k + i
    · subst hjk
      rw [if_pos (by omega)]
      have h1 := ih' (k + i) (by omega)
      rw [if_neg (by omega)] at h1
      rw [h1]
      simp [List.getD, hl, hj, show k + i - k = i from by omega]
    · have h1 := ih' j hj
      have : ((xa l k by_ i).set (k + i) ((xa l k by_ i).getD (k + i) 0 ^^^ UInt8.ofNat (by_ / 256 ^ i))).getD j 0 = (xa l k by_ i).getD j 0 := by
        simp only [List.getD, List.getElem?_set]
        rw [if_neg (by omega)]
      rw [this, h1]
      by_cases hc : k ≤ j ∧ j < k + i
      · rw [if_pos hc, if_pos (by omega)]
      · rw [if_neg hc, if_neg (by omega)]
def dby (by_ i : Nat) : Nat := by_ / 256 ^ i % 256
theorem xa_zip (l : List UInt8) (k by_ : Nat) (hk : k + 4 ≤ l.length) :
    (xa l k by_ 4).map UInt8.toNat = List.zipWith (· ^^^ ·) (l.map UInt8.toNat) (List.replicate k 0 ++ [dby by_ 0, dby by_ 1, dby by_ 2, dby by_ 3] ++ List.replicate (l.length - 4 - k) 0) := by
  have hxl := xa_length l k by_ 4
  apply List.ext_getElem
  · simp [hxl]; omega
  intro j h1 h2
  have hj : j < l.length := by simp [hxl] at h1; exact h1
  have hg := xa_getD l k by_ 4 hk j hj
  have e1 : ((xa l k by_ 4).map UInt8.toNat)[j] = ((xa l k by_ 4).getD j 0).toNat := by simp [List.getD, hxl, hj]
  have e2 : (l.map UInt8.toNat)[j]'(by simpa using hj) = (l.getD j 0).toNat := by simp [List.getD, hj]
  rw [e1, hg, List.getElem_zipWith, e2]
  by_cases hc : k ≤ j ∧ j < k + 4
  · rw [if_pos hc]
    have : (List.replicate k 0 ++ [dby by_ 0, dby by_ 1, dby by_ 2, dby by_ 3] ++ List.replicate (l.length - 4 - k) 0)[j]'(by simp; omega) = dby by_ (j - k) := by
      rw [List.getElem_append_left (by simp; omega), List.getElem_append_right (by simp; omega)]
      simp only [List.length_replicate]
      have : j - k = 0 ∨ j - k = 1 ∨ j - k = 2 ∨ j - k = 3 := by omega
      rcases this with h | h | h | h <;> simp [h]
    rw [this, UInt8.toNat_xor, UInt8.toNat_ofNat']
    rfl
  · rw [if_neg hc]
    have : (List.replicate k 0 ++ [dby by_ 0, dby by_ 1, dby by_ 2, dby by_ 3] ++ List.replicate (l.length - 4 - k) 0)[j]'(by simp; omega) = 0 := by
      by_cases hjk : j < k
      · rw [List.getElem_append_left (by simp; omega), List.getElem_append_left (by simpa using hjk)]; simp
      · rw [List.getElem_append_right (by simp; omega)]; simp
    rw [this, Nat.xor_zero]
theorem split_last4 (l : List UInt8) (h : 4 ≤ l.length) : ∃ b0 b1 b2 b3, l.drop (l.length - 4) = [b0, b1, b2, b3] := by
  have hl : (l.drop (l.length - 4)).length = 4 := by simp; omega
  generalize l.drop (l.length - 4) = t at hl
  match t, hl with
  | [a, b, c, d], _ => exact ⟨a, b, c, d, rfl⟩
theorem burst_open (m : List UInt8) (k by_ : Nat) (hk : k ≤ m.length) (hb : by_ < 4294967296) (h0 : by_ ≠ 0) : openOk (xa (closeL m) k by_ 4) = false := by
  have hcl := closeL_length m
  have hxl := xa_length (closeL m) k by_ 4
  unfold openOk
  rw [Bool.and_eq_false_iff]
  refine .inr ?_
  rw [decide_eq_false_iff_not]
  intro he
  have hz := xa_zip (closeL m) k by_ (by omega)
  generalize hx : xa (closeL m) k by_ 4 = x at *
  obtain ⟨b0, b1, b2, b3, hd⟩ := split_last4 x (by omega)
  have hsplit : x = x.take (x.length - 4) ++ [b0, b1, b2, b3] := by rw [← hd, List.take_append_drop]
  have hc : (putLowL 4 (crcOf ((x.take (x.length - 4)).map UInt8.toNat))) = [b0, b1, b2, b3] := by
    have h1 : x.take (x.length - 4) ++ putLowL 4 (crcOf ((x.take (x.length - 4)).map UInt8.toNat)) = x.take (x.length - 4) ++ [b0, b1, b2, b3] := by
      rw [← hsplit]; exact he
    exact List.append_cancel_left h1
  have hle : le4 (crcOf ((x.take (x.length - 4)).map UInt8.toNat)) = [b0.toNat, b1.toNat, b2.toNat, b3.toNat] := by
    rw [← putLow4, hc]; rfl
  have hword : word4 (dby by_ 0) (dby by_ 1) (dby by_ 2) (dby by_ 3) ≠ 0 := by
    rw [word4_add (by unfold dby; omega) (by unfold dby; omega) (by unfold dby; omega) (by unfold dby; omega)]
    unfold dby
    simp only [Nat.reducePow]
    omega
  refine burst_caught (m.map UInt8.toNat) (toNats_lt m) k (d0 := dby by_ 0) (d1 := dby by_ 1) (d2 := dby by_ 2) (d3 := dby by_ 3) (by unfold dby; omega) (by unfold dby; omega) (by unfold dby; omega) (by unfold dby; omega) hword
    (by simpa using hk) ((x.take (x.length - 4)).map UInt8.toNat) (toNats_lt _) (b0 := b0.toNat) (b1 := b1.toNat) (b2 := b2.toNat) (b3 := b3.toNat) b0.toNat_lt b1.toNat_lt b2.toNat_lt b3.toNat_lt ?_ hle
  have h2 : (closeL m).map UInt8.toNat = m.map UInt8.toNat ++ le4 (crcOf (m.map UInt8.toNat)) := by rw [closeL, List.map_append, putLow4]
  have h3 : (x.take (x.length - 4)).map UInt8.toNat ++ [b0.toNat, b1.toNat, b2.toNat, b3.toNat] = x.map UInt8.toNat := by
    conv => rhs; rw [hsplit]
    rw [List.map_append]; rfl
  rw [h3, hz, h2, List.length_map, hcl]
  congr 4
end Go.Proofs.Ytbmdcblcefebiaa
