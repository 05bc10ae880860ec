/- pad.Class and casketref10.Class: the walks. -/
import Derived.Test.YtembfelckbmgiaaDoorBase
namespace Go.Proofs.YtembfelckbmgiaaDoor
open Go.RowKit
/-- The class's number, its size, the error: of a count. -/
def clsK (n : Int) : Int := if n < 0 ∨ 4000 < n then 0 else if n ≤ 60 then 0 else if n ≤ 252 then 1 else if n ≤ 1020 then 2 else 3
def clsS (n : Int) : Int := if n < 0 ∨ 4000 < n then 0 else if n ≤ 60 then 64 else if n ≤ 252 then 256 else if n ≤ 1020 then 1024 else 4096
def clsE (n : Int) : Int := if n < 0 then 1 else if 4000 < n then 5 else 0
theorem cls_cases (n : Int) : (n < 0 ∧ clsK n = 0 ∧ clsS n = 0 ∧ clsE n = 1) ∨ (4000 < n ∧ clsK n = 0 ∧ clsS n = 0 ∧ clsE n = 5) ∨ ((0 ≤ n ∧ n ≤ 60) ∧ clsK n = 0 ∧ clsS n = 64 ∧ clsE n = 0) ∨
    ((60 < n ∧ n ≤ 252) ∧ clsK n = 1 ∧ clsS n = 256 ∧ clsE n = 0) ∨ ((252 < n ∧ n ≤ 1020) ∧ clsK n = 2 ∧ clsS n = 1024 ∧ clsE n = 0) ∨ ((1020 < n ∧ n ≤ 4000) ∧ clsK n = 3 ∧ clsS n = 4096 ∧ clsE n = 0) := by
  unfold clsK clsS clsE
  by_cases h1 : n < 0
  · left; simp [h1]
  by_cases h2 : 4000 < n
  · right; left; simp [h1, h2]
  by_cases h3 : n ≤ 60
  · right; right; left; simp [h1, h2, h3]; omega
  by_cases h4 : n ≤ 252
  · right; right; right; left; simp [h1, h2, h3, h4]; omega
  by_cases h5 : n ≤ 1020
  · right; right; right; right; left; simp [h1, h2, h3, h4, h5]; omega
  · right; right; right; right; right; simp [h1, h2, h3, h4, h5]; omega
set_option maxRecDepth 100000 in
set_option maxHeartbeats 2000000 in
theorem class_any (n : Int) (w : World) (b1 : -9223372036854775808 ≤ n) (b2 : n ≤ 9223372036854775807) :
    Calls Tryd.prog 26 #[.int .i64 n] w fun e w' => e = .returned (.tuple #[.int .i64 (clsS n), .int .i64 (clsK n), .int .i64 (clsE n)]) ∧ w = w' := by
  rcases cls_cases n with ⟨h, e1, e2, e3⟩ | ⟨h, e1, e2, e3⟩ | ⟨⟨h, h'⟩, e1, e2, e3⟩ | ⟨⟨h, h'⟩, e1, e2, e3⟩ | ⟨⟨h, h'⟩, e1, e2, e3⟩ | ⟨⟨h, h'⟩, e1, e2, e3⟩
  · rw [e1, e2, e3]; clear e1 e2 e3
    go_enter Tryd.func26, Tryd.ntmps26
    go_wp2_with fail
    go_ret3
    exact ⟨rfl, rfl⟩
  · rw [e1, e2, e3]; clear e1 e2 e3
    go_enter Tryd.func26, Tryd.ntmps26
    go_wp2_with fail
    go_ret3
    exact ⟨rfl, rfl⟩
  · rw [e1, e2, e3]; clear e1 e2 e3
    go_enter Tryd.func26, Tryd.ntmps26
    go_wp2_with fail
    refine wp_loop_rounds 1 ?_
    rw [rounds_succ]
    go_wp2_with fail
    go_ret3
    exact ⟨rfl, rfl⟩
  · rw [e1, e2, e3]; clear e1 e2 e3
    go_enter Tryd.func26, Tryd.ntmps26
    go_wp2_with fail
    refine wp_loop_rounds 2 ?_
    rw [rounds_succ]
    go_wp2_with fail
    rw [rounds_succ]
    go_wp2_with fail
    go_ret3
    exact ⟨rfl, rfl⟩
  · rw [e1, e2, e3]; clear e1 e2 e3
    go_enter Tryd.func26, Tryd.ntmps26
    go_wp2_with fail
    refine wp_loop_rounds 3 ?_
    rw [rounds_succ]
    go_wp2_with fail
    rw [rounds_succ]
    go_wp2_with fail
    rw [rounds_succ]
    go_wp2_with fail
    go_ret3
    exact ⟨rfl, rfl⟩
  · rw [e1, e2, e3]; clear e1 e2 e3
    go_enter Tryd.func26, Tryd.ntmps26
    go_wp2_with fail
    refine wp_loop_rounds 4 ?_
    rw [rounds_succ]
    go_wp2_with fail
    rw [rounds_succ]
    go_wp2_with fail
    rw [rounds_succ]
    go_wp2_with fail
    rw [rounds_succ]
    go_wp2_with fail
    go_ret3
    exact ⟨rfl, rfl⟩
end Go.Proofs.YtembfelckbmgiaaDoor
