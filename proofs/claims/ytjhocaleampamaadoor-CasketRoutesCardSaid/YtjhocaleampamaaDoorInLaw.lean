/- What is put is taken again. -/
import Derived.Test.YtjhocaleampamaaDoorInMore
import Derived.Test.YtjhocaleampamaaDoorOutObj
namespace Go.Proofs.YtjhocaleampamaaDoor
open Go.RowKit
theorem beL_put (k : Nat) : ∀ x, beL (putLowL k x).reverse = x % 256 ^ k := by
  induction k with
  | zero => intro x; simp [putLowL, beL, Nat.mod_one]
  | succ k ih =>
    intro x
    rw [putLowL, List.reverse_cons, beL_snoc, ih, Nat.pow_succ, Nat.mul_comm (256 ^ k) 256, Nat.mod_mul]
    have : (UInt8.ofNat x).toNat = x % 256 := by simp
    omega
/-- A number of k bytes stands next. -/
theorem lkE_put {x k : Nat} {l : List UInt8} {most : Int} (hx : x < 256 ^ k) (hx2 : x < 9223372036854775808) (hm : (x : Int) ≤ most) : lkE ((putLowL k x).reverse ++ l) k most = 0 ∧ lkN ((putLowL k x).reverse ++ l) k most = x := by
  have hl : (putLowL k x).reverse.length = k := by simp [putLowL_length]
  have ht : ((putLowL k x).reverse ++ l).take k = (putLowL k x).reverse := List.take_left' hl
  have hb := beL_put k x
  rw [Nat.mod_eq_of_lt hx] at hb
  have h1 : lkE ((putLowL k x).reverse ++ l) k most = 0 := by
    unfold lkE
    rw [if_neg (by simp [hl]; try omega), ht, hb, if_pos ⟨hx2, hm⟩]
  exact ⟨h1, by unfold lkN; rw [h1, if_pos rfl, ht, hb]⟩
theorem lkE_big {x k : Nat} {l : List UInt8} {most : Int} (hx : x < 256 ^ k) (hm : most < (x : Int)) : lkE ((putLowL k x).reverse ++ l) k most = 5 ∧ lkN ((putLowL k x).reverse ++ l) k most = 0 := by
  have hl : (putLowL k x).reverse.length = k := by simp [putLowL_length]
  have ht : ((putLowL k x).reverse ++ l).take k = (putLowL k x).reverse := List.take_left' hl
  have hb := beL_put k x
  rw [Nat.mod_eq_of_lt hx] at hb
  have h1 : lkE ((putLowL k x).reverse ++ l) k most = 5 := by
    unfold lkE
    rw [if_neg (by simp [hl]; try omega), ht, hb, if_neg (fun h => by omega)]
  exact ⟨h1, by unfold lkN; rw [h1, if_neg (by omega)]⟩
theorem num_put {n : Int} {l : List UInt8} {most : Int} (h0 : 0 ≤ n) (h1 : n ≤ 9223372036854775807) (hm : n ≤ most) : IK.numN ⟨numL n ++ l, 0⟩ 8 most = n ∧ IK.numS ⟨numL n ++ l, 0⟩ 8 most = ⟨l, 0⟩ := by
  unfold numL
  rw [if_pos h0]
  obtain ⟨e1, e2⟩ := lkE_put (x := n.toNat) (k := 8) (l := l) (most := most) (by have : (256 : Nat) ^ 8 = 18446744073709551616 := by decide
                                                                                 omega) (by omega) (by omega)
  have hd : ((putLowL 8 n.toNat).reverse ++ l).drop 8 = l := List.drop_left' (by simp [putLowL_length])
  constructor
  · unfold IK.numN; rw [if_neg (by simp)]; rw [e2]; omega
  · unfold IK.numS; rw [if_neg (by simp), if_pos e1]; simp only [hd]
theorem num_big {n : Int} {l : List UInt8} {most : Int} (h0 : 0 ≤ n) (h1 : n ≤ 9223372036854775807) (hm : most < n) : IK.numN ⟨numL n ++ l, 0⟩ 8 most = 0 ∧ IK.numS ⟨numL n ++ l, 0⟩ 8 most = ⟨numL n ++ l, 5⟩ := by
  unfold numL
  rw [if_pos h0]
  obtain ⟨e1, e2⟩ := lkE_big (x := n.toNat) (k := 8) (l := l) (most := most) (by have : (256 : Nat) ^ 8 = 18446744073709551616 := by decide
                                                                                 omega) (by omega)
  constructor
  · unfold IK.numN; rw [if_neg (by simp)]; rw [e2]
  · unfold IK.numS; rw [if_neg (by simp), if_neg (by rw [e1]; omega), e1]
theorem small_put {n : Int} {l : List UInt8} {most : Int} (h0 : 0 ≤ n) (h1 : n ≤ 255) (hm : n ≤ most) : IK.numN ⟨smallL n ++ l, 0⟩ 1 most = n ∧ IK.numS ⟨smallL n ++ l, 0⟩ 1 most = ⟨l, 0⟩ := by
  have hs : smallL n = (putLowL 1 n.toNat).reverse := by unfold smallL; rw [if_pos ⟨h0, h1⟩]; simp [putLowL]
  rw [hs]
  obtain ⟨e1, e2⟩ := lkE_put (x := n.toNat) (k := 1) (l := l) (most := most) (by omega) (by omega) (by omega)
  have hd : ((putLowL 1 n.toNat).reverse ++ l).drop 1 = l := List.drop_left' (by simp [putLowL_length])
  constructor
  · unfold IK.numN; rw [if_neg (by simp)]; rw [e2]; omega
  · unfold IK.numS; rw [if_neg (by simp), if_pos e1]; simp only [hd]
theorem fix_put (t l : List UInt8) : IK.fixL ⟨t ++ l, 0⟩ t.length = t ∧ IK.fixS ⟨t ++ l, 0⟩ t.length = ⟨l, 0⟩ := by
  constructor
  · unfold IK.fixL
    rw [if_neg (by simp), if_neg (by simp; omega), Int.toNat_natCast]; simp
  · unfold IK.fixS
    rw [if_neg (by simp), if_neg (by simp; omega), Int.toNat_natCast]; simp
theorem byt_put {t l : List UInt8} {most : Int} (ht : t.length < 4294967296) (hm : (t.length : Int) ≤ most) : IK.bytL ⟨bytesL t ++ l, 0⟩ most = t ∧ IK.bytS ⟨bytesL t ++ l, 0⟩ most = ⟨l, 0⟩ := by
  unfold bytesL
  rw [List.append_assoc]
  obtain ⟨e1, e2⟩ := lkE_put (x := t.length) (k := 4) (l := t ++ l) (most := most) (by have : (256 : Nat) ^ 4 = 4294967296 := by decide
                                                                                       omega) (by omega) hm
  have hd : ((putLowL 4 t.length).reverse ++ (t ++ l)).drop 4 = t ++ l := List.drop_left' (by simp [putLowL_length])
  have hl : ((putLowL 4 t.length).reverse ++ (t ++ l)).length = 4 + t.length + l.length := by simp [putLowL_length]; omega
  constructor
  · unfold IK.bytL
    rw [if_neg (by simp), if_neg (by rw [e1]; simp), if_neg (by rw [hl, e2]; omega), e2, Int.toNat_natCast, hd]; simp
  · unfold IK.bytS
    rw [if_neg (by simp), if_neg (by rw [e1]; simp), if_neg (by rw [hl, e2]; omega), e2, Int.toNat_natCast, hd]; simp
theorem byt_big {t l : List UInt8} {most : Int} (ht : t.length < 4294967296) (hm : most < (t.length : Int)) : IK.bytL ⟨bytesL t ++ l, 0⟩ most = [] ∧ IK.bytS ⟨bytesL t ++ l, 0⟩ most = ⟨bytesL t ++ l, 5⟩ := by
  unfold bytesL
  rw [List.append_assoc]
  obtain ⟨e1, e2⟩ := lkE_big (x := t.length) (k := 4) (l := t ++ l) (most := most) (by have : (256 : Nat) ^ 4 = 4294967296 := by decide
                                                                                       omega) hm
  constructor
  · unfold IK.bytL
    rw [if_neg (by simp), if_pos (by rw [e1]; omega)]
  · unfold IK.bytS
    rw [if_neg (by simp), if_pos (by rw [e1]; omega), e1]
end Go.Proofs.YtjhocaleampamaaDoor
