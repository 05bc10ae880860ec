/- slices.Concat of bytes: the walk. -/
import Derived.Test.YtjhocaleampamaaDoorOps
namespace Go.Proofs.YtjhocaleampamaaDoor
open Go.RowKit
set_option linter.unusedVariables false
attribute [local go_sem ↓] apB_eq apZ_eq
set_option maxRecDepth 100000 in
set_option maxHeartbeats 400000 in
theorem grow_any (n : Nat) (w : World) (hn : n ≤ 1000000) :
    Calls Tryd.prog 61 #[.slice none 0 0, .int .i64 n] w fun e w' => ∃ v, e = .returned v ∧ OB w' w.heap.size v [] ∧ Below w.heap.size w w' := by
  by_cases h0 : n = 0
  · subst h0
    go_enter Tryd.func61, Tryd.ntmps61
    go_wp2_with fail
    go_ret
    exact ⟨_, rfl, OB.nil _ _, Below.refl _ _⟩
  · obtain ⟨v', w', hr, ho, hB, _, _⟩ := apZ_made w w.heap.size 39 (.slice none 0 0) [] n (OB.nil _ _) (by simp; omega) (Nat.le_refl _)
    obtain ⟨g, cap, rfl, hg1, hg2, hg3, hg4⟩ := ho.shape (by simp; omega)
    have ho := ho.cleared
    simp only [List.nil_append, List.length_replicate] at hr hg3
    have hn1 : (1 : Int) ≤ n := by omega
    have hn0 : (0 : Int) < n := by omega
    go_enter Tryd.func61, Tryd.ntmps61
    go_wp2_with fail
    go_ret
    exact ⟨_, rfl, ho, hB⟩
def sumL (ls : List (List UInt8)) : Nat := ls.flatten.length
theorem cflat_take (ls : List (List UInt8)) (k : Nat) (h : k < ls.length) : (ls.take (k + 1)).flatten = (ls.take k).flatten ++ ls.getD k [] := by
  rw [List.take_succ_eq_append_getElem h, List.flatten_append]
  simp only [List.flatten_cons, List.flatten_nil, List.append_nil, List.getD, List.getElem?_eq_getElem h, Option.getD_some]
theorem sumL_take (ls : List (List UInt8)) (k : Nat) (h : k < ls.length) : sumL (ls.take (k + 1)) = sumL (ls.take k) + (ls.getD k []).length := by
  unfold sumL
  rw [cflat_take ls k h, List.length_append]
theorem sumL_le (ls : List (List UInt8)) (k : Nat) : sumL (ls.take k) ≤ sumL ls := by
  have h2 : sumL ls = sumL (ls.take k) + sumL (ls.drop k) := by
    unfold sumL
    rw [← List.length_append, ← List.flatten_append, List.take_append_drop]
  omega
set_option maxRecDepth 100000 in
set_option maxHeartbeats 1000000 in
theorem concat_any (v : Value) (ls : List (List UInt8)) (w : World) (hp : PartsAt w v ls) (hs : sumL ls ≤ 1000000) :
    Calls Tryd.prog 37 #[v] w fun e w' => ∃ v', e = .returned v' ∧ OB w' w.heap.size v' ls.flatten ∧ Below w.heap.size w w' := by
  have hp0 := hp
  obtain ⟨ao, cap, rfl, h1, h2, h3⟩ := hp
  have hl : ls.length ≤ 9223372036854775807 := by omega
  have H0 := Lib.hid hp0; clear hp0
  have H3 := Lib.hid h3; clear h3
  go_enter Tryd.func37, Tryd.ntmps37
  go_wp2_with fail
  go_loopw [3, 11] (fun s i wr => ∃ k : Nat, k ≤ ls.length ∧ i = .int .i64 k ∧ s = .int .i64 (sumL (ls.take k)) ∧ w = wr) (fun _ i _ => ls.length - (intOf i).toNat)
  case atStart => exact ⟨0, Nat.zero_le _, rfl, rfl, rfl⟩
  case round =>
    obtain ⟨k, hk, rfl, rfl, rfl⟩ := hrel
    have hle := sumL_le ls k
    by_cases hlt : k < ls.length
    · obtain ⟨b, off, rfl, hc⟩ := H3.out (by rintro rfl; simp at hlt)
      obtain ⟨u, hu, hbu⟩ := hc k hlt
      have hle2 := sumL_le ls (k + 1)
      have hst := sumL_take ls k hlt
      obtain ⟨ao2, cap2, rfl⟩ := hbu.val'
      clear hc
      generalize (ls.getD k []).length = n at *
      have hsum : sumL (ls.take k) + n ≤ 1000000 := by omega
      generalize sumL (ls.take k) = s at *
      have HST := Lib.hid hst
      clear hst hle2 hbu
      have hsn : ¬ ((s : Int) + n < 0) := by omega
      have hkl : (k : Int) < ls.length := by omega
      go_wp2_with fail
      go_roundw
      case rel => exact ⟨k + 1, by omega, by go_num, by rw [HST.out]; go_num, trivial⟩
      case measure => simp [intOf]; omega
    · have hkl : ¬ (k : Int) < ls.length := by omega
      have hke : k = ls.length := by omega
      have hsl : sumL (ls.take k) = sumL ls := by rw [List.take_of_length_le (by omega)]
      rw [hsl]
      clear hsl hke hle
      have HS := Lib.hid hs
      have hs2 := hs
      generalize sumL ls = S at hs2 ⊢
      have hs := hs2
      clear hs2
      go_wp2_with fail
      refine (grow_any S _ hs).mono ?_
      rintro e w1 ⟨v1, rfl, ho1, hB1⟩
      have hsz1 := hB1.size
      go_wp2_with fail
      go_loopw [6, 27] (fun v i w2 => ∃ k : Nat, k ≤ ls.length ∧ i = .int .i64 k ∧ OB w2 w.heap.size v ((ls.take k).flatten) ∧ Below w.heap.size w w2) (fun _ i _ => ls.length - (intOf i).toNat)
      case atStart => exact ⟨0, Nat.zero_le _, rfl, ho1, hB1⟩
      case round =>
        obtain ⟨k2, hk2, rfl, ho2, hB2⟩ := hrel
        clear ho1 hB1
        by_cases hlt2 : k2 < ls.length
        · obtain ⟨b, off, rfl, hc⟩ := H3.out (by rintro rfl; simp at hlt2)
          obtain ⟨u, hu, hbu⟩ := hc k2 hlt2
          have hu := (hB2.cell (p := ⟨b, off + k2, none⟩) (World.block_lt_of_cell? w _ hu)).trans hu
          have hbu := hbu.keep hB2
          have hkl2 : (k2 : Int) < ls.length := by omega
          have hf := cflat_take ls k2 hlt2
          have hle2 : sumL (ls.take (k2 + 1)) ≤ 1000000 := Nat.le_trans (sumL_le ls _) HS.out
          unfold sumL at hle2
          rw [hf, List.length_append] at hle2
          obtain ⟨v3, w3, hap, ho3, hB3, _, _⟩ := apB_made wr w.heap.size 39 _ u _ _ ho2 hbu (by omega) hB2.size
          rw [← hf] at ho3
          have HO := Lib.hid (And.intro ho3 (hB2.trans hB3))
          clear hc hf hle2 ho2 hB2 ho3 hB3 hbu
          go_wp2_with fail
          go_roundw
          case rel => exact ⟨k2 + 1, by omega, by go_num, HO.out⟩
          case measure => simp [intOf]; omega
        · have hkl2 : ¬ (k2 : Int) < ls.length := by omega
          rw [List.take_of_length_le (by omega)] at ho2
          go_wp2_with fail
          go_ret
          exact ⟨_, rfl, ho2, hB2⟩
end Go.Proofs.YtjhocaleampamaaDoor
