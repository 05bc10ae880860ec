/- The walk of PadClasses. -/
import Derived.Test.YtinpeieecodijaaPad
namespace Go.Proofs.Ytinpeieecodijaa
open Go.RowKit
set_option maxRecDepth 100000 in
set_option maxHeartbeats 400000 in
theorem padClasses_walk (n : Int) (w : World) (hn : (Lit.int .i64 n).wf = true) :
    Calls Try.prog 4 #[.int .i64 n] w fun e w' => e = .returned (.bool true) ∧ Below w.heap.size w w' := by
  have b := bounds_i64 hn
  clear hn
  go_enter Try.func4, Try.ntmps4
  go_wp2_with fail
  refine (class_any n _ b.1 b.2).mono ?_
  rintro e w1 ⟨rfl, rfl⟩
  go_wp2_with fail
  refine (refClass_any n _ b.1 b.2).mono ?_
  rintro e w1 ⟨rfl, rfl⟩
  generalize clsS n = a1
  generalize clsK n = a2
  generalize clsE n = a3
  go_wp2_with fail
  refine (pads_any _).mono ?_
  rintro e w1 ⟨rfl, hb⟩
  go_wp2_with fail
  go_ret
  exact ⟨rfl, hb⟩
end Go.Proofs.Ytinpeieecodijaa
