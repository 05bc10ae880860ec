/- slices.Clone of sectors. -/
import Derived.Test.YtbmdcblcefebiaaDiskParts
import Derived.Test.YtbmdcblcefebiaaRowApps
import Derived.Test.YtbmdcblcefebiaaDiskNew
import Derived.Test.YtbmdcblcefebiaaDiskSync
import Derived.Deep.RegionHeldLaw
import Derived.Deep.RegionLaw
import Derived.Lib.SliceRun
namespace Go.Proofs.Ytbmdcblcefebiaa
open Go.RowKit
set_option maxRecDepth 100000 in
set_option maxHeartbeats 1000000 in
theorem dclone_any (w : World) {g n c : Nat} {ss : List (List UInt8)} (h : RW w 0 39 64 (.slice (some ⟨g, 0, none⟩) n c) (ss.map secC)) (hn : n = ss.length) (hlen : ss.length ≤ 8192) :
    Calls Try.prog 44 #[.slice (some ⟨g, 0, none⟩) n c] w fun e w' => ∃ v, e = .returned v ∧ RW w' w.heap.size 39 64 v (ss.map secC) ∧ Below w.heap.size w w' := by
  have heq := fun w => Lib.run_eql_slice_nil (P := Try.prog) w 64 39 (some ⟨g, 0, none⟩) n c 0 0 Try.underlying64
  go_enter Try.func44, Try.ntmps44
  obtain ⟨i, z, hi, hz, hzc, hsz, hby⟩ := Try.sec_parts
  have hA : Below w.heap.size w (w.alloc (.cells #[] 39)) := (Below.refl _ _).alloc (Nat.le_refl _) _
  have h0 : RW (w.alloc (.cells #[] 39)) w.heap.size 39 64 (.slice (some ⟨w.heap.size, 0, none⟩) 0 0) [] := by
    refine ⟨?_, by intro r hr; cases hr⟩
    exact World.ownsRow_lit w #[] 0 (Nat.le_refl _) (by unfold maxLen; omega) (by simp)
  have hs := h.keep hA
  have hone := secs_one ss
  have HN := Lib.hid hn
  have HL := Lib.hid hlen
  clear hn hlen
  go_wp2_with (at_builtin; refine wp_apprs rfl _ _ 64 rfl i z Try.underlying64 hi hz hsz hby (by simp [hzc]) (by omega) h0 hs (by simp [HN.out]) hone (by have := HL.out; simp [HN.out]; omega) (by simp) rfl rfl ?_; intro v' w' hr hg hn' hnil)
  go_ret
  refine ⟨_, rfl, by simpa using hr, ⟨hg.os, hg.tape, hg.output, Nat.le_trans hA.size hg.size, fun k hk => ?_⟩⟩
  rw [hg.block k (by simp; omega) (by simp [Value.ownBlock]; omega)]; exact hA.block k hk
end Go.Proofs.Ytbmdcblcefebiaa
