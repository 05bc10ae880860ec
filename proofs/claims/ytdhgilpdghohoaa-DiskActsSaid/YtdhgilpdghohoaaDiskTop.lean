/- The law's 'disks'. -/
import Derived.Test.YtdhgilpdghohoaaDiskEq
import Derived.Test.YtdhgilpdghohoaaDiskCrash
import Derived.Test.YtdhgilpdghohoaaDiskRead
import Derived.Lib.QuietBelow
namespace Go.Proofs.Ytdhgilpdghohoaa
open Go.RowKit
attribute [local go_sem ↓] alS_eq ldS_eq stS_eq
attribute [local go_sem] run_alS run_guard_sec
theorem write_new1 : ((DK.new 2).write 1 (secL 1)) = { now := [secL 0, secL 1], fast := [secL 0, secL 0], loose := [(1, secL 1)], fuse := 0, off := false } := rfl
theorem write_new2 : (((DK.new 2).write 1 (secL 1)).write 1 (secL 2)) = { now := [secL 0, secL 2], fast := [secL 0, secL 0], loose := [(1, secL 1), (1, secL 2)], fuse := 0, off := false } := rfl
theorem write_new3 : (({ now := [secL 0, secL 1], fast := [secL 0, secL 0], loose := [(1, secL 1)], fuse := 0, off := false } : DK).write 1 (secL 2)) = { now := [secL 0, secL 2], fast := [secL 0, secL 0], loose := [(1, secL 1), (1, secL 2)], fuse := 0, off := false } := rfl
theorem crash_new : (({ now := [secL 0, secL 2], fast := [secL 0, secL 0], loose := [(1, secL 1), (1, secL 2)], fuse := 0, off := false } : DK).crash [true, false]) = { now := [secL 0, secL 1], fast := [secL 0, secL 1], loose := [], fuse := 0, off := false } := rfl
/-- An effect on a disk that the call has made. -/
theorem DEff.own {B : Nat} {w w1 w2 : World} {bs bs' : Nat → Prop} (h : DEff w1 w2 bs bs') (hbs : ∀ k, bs k → B ≤ k) (hB : Below B w w1) (hw : B ≤ w.heap.size) : (∀ k, bs' k → B ≤ k) ∧ Below B w w2 :=
  ⟨fun k hk => (h.new k hk).elim (hbs k) (fun e => Nat.le_trans (Nat.le_trans hw hB.size) e), hB.trans (h.only.to_below (Nat.le_trans hw hB.size) hbs)⟩
theorem secL_len (c : UInt8) : (secL c).length = 64 := by simp [secL]
set_option maxRecDepth 100000 in
set_option maxHeartbeats 1000000 in
theorem disks_any (w : World) : Calls Try.prog 8 #[] w fun e w' => e = .returned (.bool true) ∧ Below w.heap.size w w' := by
  go_enter Try.func8, Try.ntmps8
  go_wp2_with fail
  refine (dnew_ok 2 w (by omega) (by omega)).mono ?_
  rintro e w1 ⟨p, rfl, ⟨bs, hO, hbs⟩, hB1⟩
  go_wp2_with fail
  refine (sector_any 1 w1).mono ?_
  rintro e w2 ⟨rfl, hB2⟩
  have hO2 := hO.keep hB2
  go_wp2_with fail
  refine (dwrite_ok 1 (secL 1) w2 hO2 (secL_len 1) rfl (by simp [DK.new]) (by simp [DK.new])).mono ?_
  rintro e w3 ⟨rfl, bs3, hO3, hE3⟩
  rw [write_new1] at hO3 ⊢
  go_wp2_with fail
  refine (sector_any 2 w3).mono ?_
  rintro e w4 ⟨rfl, hB4⟩
  have hO4 := hO3.keep hB4
  go_wp2_with fail
  refine (dwrite_ok 1 (secL 2) w4 hO4 (secL_len 2) rfl (by simp) (by simp)).mono ?_
  rintro e w5 ⟨rfl, bs5, hO5, hE5⟩
  rw [write_new3] at hO5 ⊢
  obtain ⟨hbs3, hBB3⟩ := hE3.own hbs (hB1.trans (hB2.mono hB1.size)) (Nat.le_refl _)
  obtain ⟨hbs5, hBB5⟩ := hE5.own hbs3 (hBB3.trans (hB4.mono hBB3.size)) (Nat.le_refl _)
  clear hE3 hE5 hbs3 hBB3 hB4 hB2 hB1 hbs hO hO2 hO3 hO4
  have hA : Below w5.heap.size w5 (w5.alloc (.cells #[.bool true, .bool false] 4)) := (Below.refl _ _).alloc (Nat.le_refl _) _
  have hbsl : BoolSl (w5.alloc (.cells #[.bool true, .bool false] 4)) (.slice (some ⟨w5.heap.size, 0, none⟩) 2 2) [true, false] := by
    refine ⟨_, 2, rfl, by simp, by omega, fun _ => ⟨_, 0, rfl, fun j hj => ?_⟩⟩
    rw [World.cell?_alloc_new]
    match j, hj with
    | 0, _ => rfl
    | 1, _ => rfl
  go_wp2_with fail
  refine (dcrash_any [true, false] _ _ (hO5.keep hA) (by simp) (by simp) hbsl (by intro _ k hk hb; have := hO5.lt k hb; simp [Value.ownBlock] at hk; omega)).mono ?_
  rintro e w6 ⟨rfl, bs6, hO6, hE6⟩
  rw [crash_new] at hO6
  obtain ⟨hbs6, hBB6⟩ := hE6.own hbs5 (hBB5.trans (hA.mono hBB5.size)) (Nat.le_refl _)
  go_wp2_with fail
  refine (dread_ok 1 w6 hO6 rfl (by simp)).mono ?_
  rintro e w7 ⟨rfl, _, hB7⟩
  have hBB7 := hBB6.trans (hB7.mono hBB6.size)
  rw [show ([secL 0, secL 1])[1] = secL 1 from rfl]
  have hst := run_stS (w7.alloc (.cells (zC 1).toArray 43)) w7.heap.size 0 (secL 1) (there_alS w7) (secL_len 1)
  obtain ⟨hv1, hv2, hv3⟩ := secV_var w7 (secL 1) (secL_len 1)
  have hBB8 := hBB7.trans (hv2.mono hBB7.size)
  clear hBB5 hBB6 hBB7 hB7 hA hbsl hO5 hO6 hE6 hbs5 hbs6
  go_wp2_with fail
  clear hst hv2
  have hsz : w7.heap.size < ((w7.alloc (.cells (zC 1).toArray 43)).setCells w7.heap.size 0 (secC (secL 1))).heap.size := by omega
  generalize (w7.alloc (.cells (zC 1).toArray 43)).setCells w7.heap.size 0 (secC (secL 1)) = w8 at *
  have hld := fun d os => run_ldS (Sort.grow (redrawn w8 d) os) w7.heap.size 0 (secL 1) (fun j v hv => ((below_regrown w8 d os).cell (p := ⟨w7.heap.size, 0 + j, none⟩) hsz).trans (hv1 j v hv)) (secL_len 1)
  have cS : ∀ d os, Calls Try.prog 12 #[.int .u8 1] (Sort.grow (redrawn w8 d) os) fun e w'' => e = .returned (secV (secL 1)) ∧ ∃ p : Regrown, w'' = Sort.grow (redrawn w8 p.d) p.os :=
    fun d os => Calls.regrown_of (sector_any 1 _)
  have heq := fun w => run_eql_sec 43 Try.underlying43 (secL 1) (secL 1) (secL_len 1) (secL_len 1) w
  simp only [beq_self_eq_true] at heq
  refine wp_region_quiet_below (by kernel_rfl) (by kernel_rfl) ?_
  repeat (quiet_step (first | (go_at_call 12; exact cS _ _)))
  refine wpQuiet_nil ?_
  rintro w9 ⟨⟨d2, os2⟩, rfl⟩
  have hb9 := below_regrown w8 d2 os2
  generalize Sort.grow (redrawn w8 d2) os2 = w9 at *
  go_wp2_with fail
  go_ret
  exact ⟨rfl, hBB8.trans (hb9.mono hBB8.size)⟩
end Go.Proofs.Ytdhgilpdghohoaa
