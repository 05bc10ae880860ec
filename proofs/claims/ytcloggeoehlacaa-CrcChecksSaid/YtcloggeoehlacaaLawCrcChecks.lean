/- casketlaw09.CrcChecks: the walk. -/
import Derived.Test.YtcloggeoehlacaaRefCrc
import Derived.Deep.QuietTactic
import Derived.BigQuiet
import Derived.Lib.QuietBelow
import Derived.Deep.DeepCutAuto
namespace Go.Proofs.Ytcloggeoehlacaa
open Go.RowKit Crc
set_option maxRecDepth 100000 in
set_option maxHeartbeats 400000 in
theorem crcChecks_walk (v : Value) (l : List UInt8) (w : World) (hb : Bsl w v l) :
    Calls Try.prog 4 #[v] w fun e w' => e = .returned (.bool true) ∧ Below w.heap.size w w' := by
  have hb' := hb
  obtain ⟨ao, cap, rfl, hlc, hcm, hnil, hca⟩ := hb'
  clear hnil hca
  go_enter Try.func4, Try.ntmps4
  go_upto_region 1 with (fail)
  go_cut [0] (fun v wx => ∃ m : List UInt8, OB wx w.heap.size v m ∧ m.length ≤ 300 ∧ Below w.heap.size w wx)
  case first =>
    have hbel : Below w.heap.size w (w.alloc (.cells #[] 5)) := (Below.refl _ _).alloc (Nat.le_refl _) _
    have hown : OB (w.alloc (.cells #[] 5)) w.heap.size (.slice (some ⟨w.heap.size, 0, none⟩) 0 0) [] := World.ownsRow_made w #[] 0 (Nat.le_refl _) (by decide) rfl
    by_cases h3 : l.length ≤ 300
    · have h3' : (l.length : Int) ≤ 300 := by omega
      go_wp2_with (at_builtin; refine wp_app rfl _ _ rfl w.heap.size _ _ _ l rfl rfl hown (hb.keep hbel) ?_ ?_ ?_)
      · simp; omega
      · simp
      · intro v' w1 hown1 hgrow _
        have hb1 : Below w.heap.size w w1 := hbel.grown hgrow (by simp) hown.own_ge
        clear hgrow hown hbel
        go_wp2_with fail
        go_meet
        exact ⟨l, hown1, h3, hb1⟩
    · have h3' : 300 < (l.length : Int) := by omega
      have hcap : 300 ≤ (cap : Int) := by omega
      have ht := hb.take (m := 300) (by omega)
      have htl : (l.take 300).length = 300 := by simp; omega
      have HT := Lib.hid htl; clear htl
      generalize l.take 300 = t at *
      go_wp2_with (at_builtin; refine wp_app rfl _ _ rfl w.heap.size _ _ _ t rfl rfl hown (ht.keep hbel) ?_ ?_ ?_)
      · rw [HT.out]; simp
      · simp
      · intro v' w1 hown1 hgrow _
        have hb1 : Below w.heap.size w w1 := hbel.grown hgrow (by simp) hown.own_ge
        clear hgrow hown hbel
        go_wp2_with fail
        go_meet
        exact ⟨t, hown1, by rw [HT.out]; omega, hb1⟩
  case rest =>
    obtain ⟨m, hown, hm, hbel⟩ := hcut
    clear hb hlc hcm
    have hcv := run_str wc hown.bsl
    go_wp2_with fail
    refine (close_any _ m _ hown.bsl (by omega)).mono ?_
    rintro e w1 ⟨v1, rfl, ho1, hb1⟩
    go_wp2_with fail
    refine (open_any _ m _ (hown.bsl.keep hb1) (by omega)).mono ?_
    rintro e w2 ⟨v2, rfl, ho2, hb2⟩
    go_wp2_with fail
    refine (refOpen_any m _ (by omega)).mono ?_
    rintro e w3 ⟨rfl, hb3⟩
    unfold strV
    have B0 : Below w.heap.size w w3 := (hbel.trans (hb1.mono hbel.size)).trans ((hb2.mono (Nat.le_trans hbel.size hb1.size)).trans (hb3.mono (Nat.le_trans hbel.size (Nat.le_trans hb1.size hb2.size))))
    have q0 : Bsl w3 u0 m := ((hown.bsl.keep hb1).keep hb2).keep hb3
    have q1 : Bsl w3 v1 (closeL m) := (ho1.bsl.keep hb2).keep hb3
    have q2 := ho2.bsl.keep hb3
    clear hown ho1 ho2 hb1 hb2 hb3 hbel hcv
    have s0 := fun d os => run_str (Sort.grow (redrawn w3 d) os) (q0.keep (below_regrown w3 d os))
    have s1 := fun d os => run_str (Sort.grow (redrawn w3 d) os) (q1.keep (below_regrown w3 d os))
    have s2 := fun d os => run_str (Sort.grow (redrawn w3 d) os) (q2.keep (below_regrown w3 d os))
    have cK : ∀ d os, Calls Try.prog 6 #[] (Sort.grow (redrawn w3 d) os) fun e w'' => e = .returned (.bool true) ∧ ∃ p : Regrown, w'' = Sort.grow (redrawn w3 p.d) p.os := fun d os => Calls.regrown_of (checks_any _)
    have cC : ∀ d os, Calls Try.prog 7 #[u0] (Sort.grow (redrawn w3 d) os) fun e w'' => e = .returned (.int .u32 (crcOf (m.map UInt8.toNat))) ∧ ∃ p : Regrown, w'' = Sort.grow (redrawn w3 p.d) p.os :=
      fun d os => Calls.regrown_of ((check_any u0 m _ (q0.keep (below_regrown _ _ _))).mono fun e w' ⟨he, hw⟩ => ⟨he, by subst hw; exact Below.refl _ _⟩)
    have cR : ∀ d os, Calls Try.prog 11 #[.string ⟨m.toArray⟩] (Sort.grow (redrawn w3 d) os) fun e w'' => e = .returned (.int .u32 (crcOf (m.map UInt8.toNat))) ∧ ∃ p : Regrown, w'' = Sort.grow (redrawn w3 p.d) p.os :=
      fun d os => Calls.regrown_of ((refCheck_any m _ (by omega)).mono fun e w' ⟨he, hw⟩ => ⟨he, by subst hw; exact Below.refl _ _⟩)
    have cL : ∀ d os, Calls Try.prog 12 #[.string ⟨m.toArray⟩] (Sort.grow (redrawn w3 d) os) fun e w'' => e = .returned (.string ⟨(closeL m).toArray⟩) ∧ ∃ p : Regrown, w'' = Sort.grow (redrawn w3 p.d) p.os :=
      fun d os => Calls.regrown_of (refClose_any m _ (by omega))
    generalize crcOf (m.map UInt8.toNat) = c0 at *
    generalize closeL m = cl at *
    generalize (if openOk m then m.take (m.length - 4) else []) = om at *
    generalize openOk m = ok at *
    clear q0 q1 q2
    go_wp2_with fail
    refine wp_region_quiet_below (by kernel_rfl) (by kernel_rfl) ?_
    repeat (quiet_step (first | (go_at_call 6; exact cK _ _) | (go_at_call 7; exact cC _ _) | (go_at_call 11; exact cR _ _) | (go_at_call 12; exact cL _ _)))
    refine wpQuiet_nil ?_
    rintro w4 ⟨⟨d2, os2⟩, rfl⟩
    have hb4 := below_regrown w3 d2 os2
    generalize Sort.grow (redrawn w3 d2) os2 = w4 at *
    go_wp2_with fail
    go_ret
    exact ⟨rfl, B0.trans (hb4.mono B0.size)⟩
end Go.Proofs.Ytcloggeoehlacaa
