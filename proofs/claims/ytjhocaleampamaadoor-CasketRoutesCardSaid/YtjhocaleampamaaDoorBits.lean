/- bits: the walks. -/
import Derived.Test.YtjhocaleampamaaDoorBase

namespace Go.Proofs.YtjhocaleampamaaDoor
open Go.RowKit
/-- k bytes of x, the lowest first. -/
def putLowL : Nat → Nat → List UInt8
  | 0, _ => []
  | k + 1, x => UInt8.ofNat x :: putLowL k (x / 256)
theorem putLowL_length (k : Nat) : ∀ x, (putLowL k x).length = k := by
  induction k with
  | zero => intro x; rfl
  | succ k ih => intro x; simp [putLowL, ih]
theorem putLowL_snoc (k : Nat) : ∀ x, putLowL (k + 1) x = putLowL k x ++ [UInt8.ofNat (x / 256 ^ k)] := by
  induction k with
  | zero => intro x; simp [putLowL]
  | succ k ih =>
    intro x
    rw [putLowL, ih, putLowL]
    simp [Nat.div_div_eq_div_mul, Nat.pow_succ, Nat.mul_comm]

set_option maxRecDepth 100000 in
set_option maxHeartbeats 400000 in
theorem putLow_any (x : Nat) (s : Int) (w : World) (hx : x < 18446744073709551616) (h1 : 0 ≤ s) (h2 : s ≤ 64) :
    Calls Tryd.prog 62 #[.int .u64 x, .int .i64 s] w fun e w' => ∃ v, e = .returned v ∧ OB w' w.heap.size v (putLowL s.toNat x) ∧ Below w.heap.size w w' := by
  obtain ⟨n, rfl⟩ := Int.eq_ofNat_of_zero_le h1
  rw [Int.toNat_natCast]
  obtain ⟨i0, hi, hz0, hz1, hz2⟩ := info_parts Tryd.info_u8
  have hn : n ≤ 64 := by omega
  go_enter Tryd.func62, Tryd.ntmps62
  go_wp2
  go_loopw [0, 5, 8] (fun y v i wr => ∃ k : Nat, k ≤ n ∧ i = .int .i64 k ∧ y = .int .u64 ((x / 256 ^ k : Nat) : Int) ∧ x / 256 ^ k < 18446744073709551616 ∧ OB wr w.heap.size v (putLowL k x) ∧ Below w.heap.size w wr) (fun _ _ i _ => n - (intOf i).toNat)
  case atStart => exact ⟨0, Nat.zero_le _, rfl, by simp, by simpa using hx, OB.nil _ _, Below.refl _ _⟩
  case round =>
    obtain ⟨k, hk, rfl, rfl, hyb, hown, hbel⟩ := hrel
    generalize hy : x / 256 ^ k = y at *
    have HY := Lib.hid hy; clear hy
    by_cases hlt : k < n
    · have hone := Bsl.one wr ((y : Int) % 256) (by omega)
      have hln := putLowL_length k x
      have hsz := hbel.size
      go_wp2_with (at_builtin; refine wp_app rfl _ _ rfl w.heap.size _ _ _ _ rfl rfl (hown.keep ((Below.refl _ _).alloc (Nat.le_refl _) _)) hone ?_ ?_ ?_)
      · rw [hln]; simp; omega
      · simp; omega
      · intro v' w1 hown' hgrow _
        have hb1 : Below w.heap.size w w1 := (hbel.alloc hsz _).grown hgrow (by simp; omega) hown.own_ge
        clear hgrow hone
        go_wp2_with fail
        go_roundw
        case rel =>
          have e : x / 256 ^ (k + 1) = y / 256 := by rw [Nat.pow_succ, ← Nat.div_div_eq_div_mul, HY.out]
          refine ⟨k + 1, by omega, by go_num, by rw [e]; rfl, by rw [e]; omega, ?_, hb1⟩
          rw [putLowL_snoc, HY.out]
          have e2 : UInt8.ofNat ((y : Int) % 256).toNat = UInt8.ofNat y := by
            apply UInt8.toNat_inj.1; simp; omega
          rw [← e2]; exact hown'
        case measure => simp [intOf]; omega
    · go_wp2_with fail
      go_ret
      have hkn : k = n := by omega
      subst hkn
      exact ⟨_, rfl, hown, hbel⟩
set_option maxRecDepth 100000 in
set_option maxHeartbeats 400000 in
theorem bclone_any (v : Value) (l : List UInt8) (w : World) (hb : Bsl w v l) (hl : l.length ≤ 140737488355328) :
    Calls Tryd.prog 29 #[v] w fun e w' => ∃ v', e = .returned v' ∧ OB w' w.heap.size v' l ∧ Below w.heap.size w w' := by
  have hb' := hb
  obtain ⟨ao, cap, rfl, hlc, hcm, hnil, hcells⟩ := hb'
  have heq := fun w => Lib.run_eql_slice_nil (P := Tryd.prog) w 39 5 ao l.length cap 0 0 Tryd.underlying39
  cases ao with
  | none =>
    have hcap := hnil rfl
    have hm : l = [] := List.eq_nil_of_length_eq_zero (by omega)
    subst hm; subst hcap
    clear hb hcells hnil
    simp only [List.length_nil, Option.isNone_none] at heq
    go_enter Tryd.func29, Tryd.ntmps29
    go_wp2_with fail
    go_ret
    exact ⟨_, rfl, OB.nil _ _, Below.refl _ _⟩
  | some ad =>
    clear hcells hnil
    have hbel : Below w.heap.size w (w.alloc (.cells #[] 5)) := (Below.refl _ _).alloc (Nat.le_refl _) _
    have hown : OB (w.alloc (.cells #[] 5)) w.heap.size (.slice (some ⟨w.heap.size, 0, none⟩) 0 0) [] := World.ownsRow_made w #[] 0 (Nat.le_refl _) (by decide) rfl
    go_enter Tryd.func29, Tryd.ntmps29
    go_wp2_with (at_builtin; refine wp_app rfl _ _ rfl w.heap.size _ _ _ _ rfl rfl hown (hb.keep hbel) ?_ ?_ ?_)
    · simpa using hl
    · simp
    · intro v' w1 hown' hgrow _
      have hb1 : Below w.heap.size w w1 := hbel.grown hgrow (by simp) hown.own_ge
      clear hgrow hbel hown
      go_wp2_with fail
      go_ret
      exact ⟨_, rfl, hown', hb1⟩

end Go.Proofs.YtjhocaleampamaaDoor
