/- The law's 'disks'. -/
import Derived.Test.YtbmdcblcefebiaaDiskEq
import Derived.Test.YtbmdcblcefebiaaDiskCrash
import Derived.Test.YtbmdcblcefebiaaDiskRead
import Derived.Lib.QuietBelow
namespace Go.Proofs.Ytbmdcblcefebiaa
open Go.RowKit
attribute [local go_sem ↓] alS_eq ldS_eq stS_eq
attribute [local go_sem] run_alS run_guard_sec
theorem write_new1 : ((DK.new 2).write 1 (secL 1)) = { now := [secL 0, secL 1], fast := [secL 0, secL 0], loose := [(1, secL 1)], fuse := 0, off := false } := rfl
theorem write_new2 : (((DK.new 2).write 1 (secL 1)).write 1 (secL 2)) = { now := [secL 0, secL 2], fast := [secL 0, secL 0], loose := [(1, secL 1), (1, secL 2)], fuse := 0, off := false } := rfl
theorem write_new3 : (({ now := [secL 0, secL 1], fast := [secL 0, secL 0], loose := [(1, secL 1)], fuse := 0, off := false } : DK).write 1 (secL 2)) = { now := [secL 0, secL 2], fast := [secL 0, secL 0], loose := [(1, secL 1), (1, secL 2)], fuse := 0, off := false } := rfl
theorem crash_new : (({ now := [secL 0, secL 2], fast := [secL 0, secL 0], loose := [(1, secL 1), (1, secL 2)], fuse := 0, off := false } : DK).crash [true, false]) = { now := [secL 0, secL 1], fast := [secL 0, secL 1], loose := [], fuse := 0, off := false } := rfl
/-- An effect on a disk that the call has made. -/
theorem DEff.own {B : Nat} {w w1 w2 : World} {bs bs' : Nat → Prop} (h : DEff w1 w2 bs bs') (hbs : ∀ k, bs k → B ≤ k) (hB : Below B w w1) (hw : B ≤ w.heap.size) : (∀ k, bs' k → B ≤ k) ∧ Below B w w2 :=
  ⟨fun k hk => (h.new k hk).elim (hbs k) (fun e => Nat.le_trans (Nat.le_trans hw hB.size) e), hB.trans (h.only.to_below (Nat.le_trans hw hB.size) hbs)⟩
theorem secL_len (c : UInt8) : (secL c).length = 64 := by simp [secL]
end Go.Proofs.Ytbmdcblcefebiaa
