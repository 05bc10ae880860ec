/- The walk of PadSizes. -/
import Derived.Test.YtinpeieecodijaaPad
namespace Go.Proofs.Ytinpeieecodijaa
open Go.RowKit
theorem cls_600 (n m : Nat) (hm : (m : Int) = clsS n) (h : n ≤ 600) : (m = 64 ∧ clsK n = 0 ∨ m = 256 ∧ clsK n = 1 ∨ m = 1024 ∧ clsK n = 2) := by
  rcases cls_cases n with h1 | h1 | h1 | h1 | h1 | h1 <;> omega
set_option maxRecDepth 100000 in
set_option maxHeartbeats 1000000 in
theorem padSizes_walk (va : Value) (la : List UInt8) (vb : Value) (lb : List UInt8) (w : World) (ha : Bsl w va la) (hb : Bsl w vb lb) :
    Calls Try.prog 5 #[va, vb] w fun e w' => e = .returned (.bool true) ∧ Below w.heap.size w w' := by
  have ha' := ha
  have hb' := hb
  obtain ⟨aoa, capa, rfl, hlca, hcma, _, _⟩ := ha'
  obtain ⟨aob, capb, rfl, hlcb, hcmb, _, _⟩ := hb'
  obtain ⟨na, hna⟩ : ∃ k, k = min la.length 600 := ⟨_, rfl⟩
  obtain ⟨nb, hnb⟩ : ∃ k, k = min lb.length 600 := ⟨_, rfl⟩
  have eA : (if (600:Int) < (la.length:Int) then 600 else (la.length:Int)) = (na : Int) := by split <;> omega
  have eB : (if (600:Int) < (lb.length:Int) then 600 else (lb.length:Int)) = (nb : Int) := by split <;> omega
  have ta := ha.take (m := na) (by omega)
  have tb := hb.take (m := nb) (by omega)
  have tal : (la.take na).length = na := by simp; omega
  have tbl : (lb.take nb).length = nb := by simp; omega
  have qa : na ≤ la.length ∧ na ≤ 600 := by omega
  have qb : nb ≤ lb.length ∧ nb ≤ 600 := by omega
  clear hna hnb
  generalize la.take na = xa at ta tal
  generalize lb.take nb = xb at tb tbl
  subst tal; subst tbl
  have r1 : (xa.length : Int) ≤ capa := by omega
  have r2 : (xb.length : Int) ≤ capb := by omega
  go_enter Try.func5, Try.ntmps5
  go_wp2_with fail
  go_region
  clear eA eB
  go_wp2_with fail
  refine (pad_ok _ xa w.drew ta (by omega)).mono ?_
  rintro e w1 ⟨v1, rfl, ho1, hb1⟩
  have hb1' : Below w.heap.size w w1 := Go.Proofs.Ytinpeieecodijaa.Below.of_drew hb1
  go_wp2_with fail
  refine (pad_ok _ xb w1 (tb.keep hb1') (by omega)).mono ?_
  rintro e w2 ⟨v2, rfl, ho2, hb2⟩
  have ho1 := ho1.keep hb2
  have L1 := padL_length xa (by omega)
  have L2 := padL_length xb (by omega)
  obtain ⟨ao1, cap1, rfl, _⟩ := ho1.val
  obtain ⟨ao2, cap2, rfl, _⟩ := ho2.val
  generalize (padL xa).length = n1 at *
  generalize (padL xb).length = n2 at *
  clear ho1 ho2 ta tb
  go_wp2_with fail
  refine (refClass_any xa.length _ (by omega) (by omega)).mono ?_
  rintro e w3 ⟨rfl, rfl⟩
  go_wp2_with fail
  refine (refClass_any xb.length _ (by omega) (by omega)).mono ?_
  rintro e w3 ⟨rfl, rfl⟩
  generalize clsE (xa.length : Int) = e1
  generalize clsE (xb.length : Int) = e2
  go_wp2_with fail
  refine (pads_any _).mono ?_
  rintro e w3 ⟨rfl, hb3⟩
  have hfin : Below w.heap.size w w3 := (hb1'.trans (hb2.mono hb1'.size)).trans (hb3.mono (Nat.le_trans hb1'.size hb2.size))
  clear hb1 hb1' hb2 hb3
  rcases cls_600 xa.length n1 L1 qa.2 with ⟨rfl, k1⟩ | ⟨rfl, k1⟩ | ⟨rfl, k1⟩ <;> rcases cls_600 xb.length n2 L2 qb.2 with ⟨rfl, k2⟩ | ⟨rfl, k2⟩ | ⟨rfl, k2⟩ <;> rw [k1, k2] <;> clear L1 L2 k1 k2 <;> generalize clsS (xa.length : Int) = z1 <;> generalize clsS (xb.length : Int) = z2 <;> (go_wp2_with fail; go_ret; exact ⟨rfl, hfin⟩)
end Go.Proofs.Ytinpeieecodijaa
