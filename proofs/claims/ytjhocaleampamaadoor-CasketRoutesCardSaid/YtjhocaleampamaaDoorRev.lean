/- slices.Reverse of bytes, bits.PutHigh, bits.Byte, bits.Int: the walks. -/
import Derived.Test.YtjhocaleampamaaDoorBits
import Derived.Test.YtjhocaleampamaaDoorOnly
import Derived.RegionTactic
import Derived.BigRegion
import Derived.Deep.RegionHeld3
namespace Go.Proofs.YtjhocaleampamaaDoor
open Go.RowKit
def rv (l : List UInt8) : Nat → List UInt8
  | 0 => l
  | k + 1 => ((rv l k).set k ((rv l k).getD (l.length - 1 - k) 0)).set (l.length - 1 - k) ((rv l k).getD k 0)
theorem rv_length (l : List UInt8) (k : Nat) : (rv l k).length = l.length := by
  induction k with
  | zero => rfl
  | succ k ih => simp [rv, ih]
theorem rv_getD (l : List UInt8) (k : Nat) (hk : 2 * k ≤ l.length) : ∀ j, j < l.length → (rv l k).getD j 0 = if j < k ∨ l.length - k ≤ j then l.getD (l.length - 1 - j) 0 else l.getD j 0 := by
  induction k with
  | zero => intro j hj; rw [if_neg (by omega)]; rfl
  | succ k ih =>
    intro j hj
    have ih' := ih (by omega)
    have hl := rv_length l k
    rw [rv]
    have hset : ∀ (m : List UInt8) (i : Nat) (x : UInt8) (j : Nat), j < m.length → (m.set i x).getD j 0 = if i = j then x else m.getD j 0 := by
      intro m i x j hj
      simp only [List.getD, List.getElem?_set]
      by_cases h : i = j
      · subst h; simp [hj]
      · simp [h]
    rw [hset _ _ _ _ (by simp [hl]; omega), hset _ _ _ _ (by omega), ih' j hj, ih' k (by omega), ih' (l.length - 1 - k) (by omega)]
    by_cases h1 : l.length - 1 - k = j
    · rw [if_pos h1, if_neg (by omega), if_pos (by omega)]
      congr 1; omega
    · rw [if_neg h1]
      by_cases h2 : k = j
      · subst h2
        rw [if_pos rfl, if_neg (by omega), if_pos (by omega)]
      · rw [if_neg h2]
        by_cases h3 : j < k ∨ l.length - k ≤ j
        · rw [if_pos h3, if_pos (by omega)]
        · rw [if_neg h3, if_neg (by omega)]
theorem rv_done (l : List UInt8) (k : Nat) (hk : 2 * k ≤ l.length) (hk2 : l.length ≤ 2 * k + 1) : rv l k = l.reverse := by
  apply List.ext_getElem
  · simp [rv_length]
  intro j h1 h2
  have hj : j < l.length := by simpa using h2
  have h := rv_getD l k hk j hj
  have e1 : (rv l k)[j] = (rv l k).getD j 0 := by simp [List.getD, h1]
  rw [e1, h, List.getElem_reverse]
  by_cases hc : j < k ∨ l.length - k ≤ j
  · rw [if_pos hc]; simp [List.getD, show l.length - 1 - j < l.length from by omega]
  · rw [if_neg hc]
    have : l.length - 1 - j = j := by omega
    simp [List.getD, hj, this]
set_option maxRecDepth 100000 in
set_option maxHeartbeats 400000 in
theorem reverse_any (B g cap n : Nat) (l : List UInt8) (w : World) (hn : n = l.length) (ho : OB w B (.slice (some ⟨g, 0, none⟩) n cap) l) (hl : n ≤ 1000000) :
    Calls Tryd.prog 63 #[.slice (some ⟨g, 0, none⟩) n cap] w fun e w' => e = .returned (.tuple #[]) ∧ OB w' B (.slice (some ⟨g, 0, none⟩) n cap) l.reverse ∧ Only (· = g) w w' := by
  have HN := Lib.hid hn
  clear hn
  go_enter Tryd.func63, Tryd.ntmps63
  go_wp2_with fail
  go_loopw [2, 3] (fun i j wr => ∃ k : Nat, 2 * k ≤ n ∧ i = .int .i64 k ∧ j = .int .i64 ((n : Int) - 1 - k) ∧ OB wr B (.slice (some ⟨g, 0, none⟩) n cap) (rv l k) ∧ Only (· = g) w wr) (fun i _ _ => n + 1 - (intOf i).toNat)
  case atStart => exact ⟨0, by omega, rfl, by simp, ho, Only.refl _ _⟩
  case round =>
    obtain ⟨k, hk, rfl, rfl, hown, hon⟩ := hrel
    by_cases hlt : 2 * k + 1 < n
    · have hxl := rv_length l k
      rw [← HN.out] at hxl
      have HXL := Lib.hid hxl
      have hc1 := hown.cell hxl.symm (j := k) (by omega)
      have hc2 := hown.cell hxl.symm (j := n - 1 - k) (by omega)
      have hf1 := hown.free hxl.symm k
      have hf2 := hown.free hxl.symm (n - 1 - k)
      clear hxl
      obtain ⟨c1, h1⟩ : ∃ c, c = (rv l k).getD k 0 := ⟨_, rfl⟩
      obtain ⟨c2, h2⟩ : ∃ c, c = (rv l k).getD (n - 1 - k) 0 := ⟨_, rfl⟩
      rw [← h1] at hc1
      rw [← h2] at hc2
      have H1 := Lib.hid h1; clear h1
      have H2 := Lib.hid h2; clear h2
      have hij : (k : Int) < (n : Int) - 1 - k := by omega
      obtain ⟨j, hj⟩ : ∃ j, j = n - 1 - k := ⟨_, rfl⟩
      have hji : (n : Int) - 1 - k = (j : Int) := by omega
      rw [← hj] at hc2 hf2
      have HJ := Lib.hid hj
      have hkj : k ≠ j := by omega
      have hjn : (j : Int) < (n : Int) := by omega
      clear hj
      rw [hji] at hij ⊢
      have HJI := Lib.hid hji; clear hji
      go_wp2_with fail
      go_region
      have hown' := (hown.set HXL.out.symm k c2).set (by rw [List.length_set]; exact HXL.out.symm) j c1
      have hon' : Only (· = g) w (((wr.setCell ⟨g, k, none⟩ (.int .u8 c2.toNat)).setCell ⟨g, j, none⟩ (.int .u8 c1.toNat)).drew) := ((hon.setCell (fun _ => rfl) _).setCell (fun _ => rfl) _).drew
      have hown2 := hown'.drew
      clear hc1 hc2 hf1 hf2 hown hown'
      generalize ((wr.setCell ⟨g, k, none⟩ (.int .u8 c2.toNat)).setCell ⟨g, j, none⟩ (.int .u8 c1.toNat)).drew = w5 at *
      go_wp2_with fail
      go_roundw
      case rel =>
        refine ⟨k + 1, by omega, by go_num, by have := HJI.out; go_num, ?_, hon'⟩
        have e : rv l (k + 1) = ((rv l k).set k c2).set j c1 := by
          rw [rv, ← HN.out, H1.out, H2.out, HJ.out]
        rw [e]; exact hown2
      case measure => simp [intOf]; omega
    · go_wp2_with fail
      go_end0
      refine ⟨rfl, ?_, hon⟩
      rw [rv_done l k (by rw [← HN.out]; omega) (by rw [← HN.out]; omega)] at hown
      exact hown
set_option maxRecDepth 100000 in
set_option maxHeartbeats 400000 in
theorem putHigh_any (x : Nat) (s : Int) (w : World) (hx : x < 18446744073709551616) (h1 : 1 ≤ s) (h2 : s ≤ 64) :
    Calls Tryd.prog 38 #[.int .u64 x, .int .i64 s] w fun e w' => ∃ v, e = .returned v ∧ OB w' w.heap.size v (putLowL s.toNat x).reverse ∧ Below w.heap.size w w' := by
  obtain ⟨n, rfl⟩ := Int.eq_ofNat_of_zero_le (a := s) (by omega)
  rw [Int.toNat_natCast]
  have hln := putLowL_length n x
  go_enter Tryd.func38, Tryd.ntmps38
  go_wp2_with fail
  refine (putLow_any x n _ hx (by omega) h2).mono ?_
  rw [Int.toNat_natCast]
  rintro e w1 ⟨v1, rfl, ho1, hb1⟩
  obtain ⟨g, cap, rfl, hgb, hgs, hgc, hgm⟩ := ho1.shape (by intro h; rw [h] at hln; simp at hln; omega)
  have hsz := hb1.size
  rw [hln] at ho1
  rw [hln]
  have HLN := Lib.hid hln; clear hln hgc
  go_wp2_with fail
  refine (reverse_any w.heap.size g cap n (putLowL n x) _ HLN.out.symm ho1 (by omega)).mono ?_
  rintro e w2 ⟨rfl, ho2, hon2⟩
  go_wp2_with fail
  go_ret
  refine ⟨_, rfl, ?_, hb1.trans (hon2.to_below hsz (fun k hk => by subst hk; exact hgb))⟩
  exact ho2
set_option maxRecDepth 100000 in
set_option maxHeartbeats 400000 in
theorem byte_any (n : Int) (w : World) (h1 : -9223372036854775808 ≤ n) (h2 : n ≤ 9223372036854775807) :
    Calls Tryd.prog 78 #[.int .i64 n] w fun e w' => e = .returned (.tuple #[.int .u8 (if 0 ≤ n ∧ n ≤ 255 then n else 0), .bool (decide (0 ≤ n ∧ n ≤ 255))]) ∧ w = w' := by
  by_cases hn : 0 ≤ n ∧ n ≤ 255
  · obtain ⟨ha, hb⟩ := hn
    rw [if_pos ⟨ha, hb⟩, decide_eq_true ⟨ha, hb⟩]
    go_enter Tryd.func78, Tryd.ntmps78
    go_wp2_with fail
    go_ret2
    exact ⟨rfl, rfl⟩
  · rw [if_neg hn, decide_eq_false hn]
    have hb : (n % 256 == n) = false := by rw [beq_eq_false_iff_ne]; omega
    go_enter Tryd.func78, Tryd.ntmps78
    go_wp2_with fail
    go_ret2
    exact ⟨rfl, rfl⟩
set_option maxRecDepth 100000 in
set_option maxHeartbeats 400000 in
theorem bint_any (x : Nat) (w : World) (h : x < 18446744073709551616) :
    Calls Tryd.prog 93 #[.int .u64 x] w fun e w' => e = .returned (.tuple #[.int .i64 (if x < 9223372036854775808 then (x : Int) else 0), .bool (decide (x < 9223372036854775808))]) ∧ w = w' := by
  by_cases hn : x < 9223372036854775808
  · rw [if_pos hn, decide_eq_true hn]
    have hn' : (x : Int) ≤ 9223372036854775807 := by omega
    clear hn
    go_enter Tryd.func93, Tryd.ntmps93
    go_wp2_with fail
    go_ret2
    exact ⟨rfl, rfl⟩
  · rw [if_neg hn, decide_eq_false hn]
    have hw : ¬ (0 ≤ wrap64 (x : Int)) := by unfold wrap64; omega
    clear hn
    go_enter Tryd.func93, Tryd.ntmps93
    go_wp2_with fail
    go_ret2
    exact ⟨rfl, rfl⟩
end Go.Proofs.YtjhocaleampamaaDoor
