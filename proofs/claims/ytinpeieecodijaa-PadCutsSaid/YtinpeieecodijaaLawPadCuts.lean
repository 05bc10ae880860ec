/- The law PadCuts. -/
import Derived.Test.YtinpeieecodijaaPadCut
import Derived.BigRegion
namespace Go.Proofs.Ytinpeieecodijaa
open Go.RowKit
set_option maxRecDepth 100000 in
set_option maxHeartbeats 1000000 in
theorem padCuts_walk (v : Value) (l : List UInt8) (w : World) (hb : Bsl w v l) :
    Calls Try.prog 10 #[v] w fun e w' => e = .returned (.bool true) ∧ Below w.heap.size w w' := by
  obtain ⟨ao, cap, rfl, hlc, hcm, hnil, hne⟩ := id hb
  obtain ⟨na, hna⟩ : ∃ k, k = min l.length 1100 := ⟨_, rfl⟩
  have eA : (if (1100:Int) < (l.length:Int) then 1100 else (l.length:Int)) = (na : Int) := by split <;> omega
  have ta := hb.take (m := na) (by omega)
  have tal : (l.take na).length = na := by simp; omega
  have qa : na ≤ l.length ∧ na ≤ 1100 := by omega
  clear hna hnil hne hb
  generalize l.take na = t at ta tal
  subst tal
  have r1 : (t.length : Int) ≤ cap := by omega
  go_enter Try.func10, Try.ntmps10
  go_wp2_with fail
  clear eA r1
  cases hok : cutOk t with
  | true =>
    refine (cut_any _ t w ta (by omega)).mono ?_
    rintro e w1 ⟨v1, rfl, ho1, hB1⟩
    rw [hok] at ho1 ⊢
    simp only [if_true] at ho1 ⊢
    have hst := run_str w1 (ta.keep hB1)
    go_wp2_with fail
    clear hst
    refine (refCut_any t w1 (by omega)).mono ?_
    rintro e w2 ⟨rfl, hB2'⟩
    rw [hok]
    simp only [if_true]
    unfold strV
    have hB2 := hB1.trans (hB2'.mono hB1.size)
    have ho2 := ho1.keep hB2'
    clear ho1 hB2' hok
    go_wp2_with fail
    refine (pads_any w2).mono ?_
    rintro e w3 ⟨rfl, hB3'⟩
    have hB3 := hB2.trans (hB3'.mono hB2.size)
    have hst := run_str w3 (ho2.keep hB3').bsl
    go_wp2_with fail
    go_ret
    exact ⟨rfl, hB3⟩
  | false =>
    refine (cut_any _ t w ta (by omega)).mono ?_
    rintro e w1 ⟨v1, rfl, ho1, hB1⟩
    rw [hok] at ho1 ⊢
    simp only [Bool.false_eq_true, if_false] at ho1 ⊢
    have hst := run_str w1 (ta.keep hB1)
    go_wp2_with fail
    clear hst
    refine (refCut_any t w1 (by omega)).mono ?_
    rintro e w2 ⟨rfl, hB2'⟩
    rw [hok]
    simp only [Bool.false_eq_true, if_false]
    unfold strV
    have hB2 := hB1.trans (hB2'.mono hB1.size)
    have ho2 := ho1.keep hB2'
    clear ho1 hB2' hok
    go_wp2_with fail
    refine (pads_any w2).mono ?_
    rintro e w3 ⟨rfl, hB3'⟩
    have hB3 := hB2.trans (hB3'.mono hB2.size)
    have hst := run_str w3 (ho2.keep hB3').bsl
    go_wp2_with fail
    go_ret
    exact ⟨rfl, hB3⟩
end Go.Proofs.Ytinpeieecodijaa
