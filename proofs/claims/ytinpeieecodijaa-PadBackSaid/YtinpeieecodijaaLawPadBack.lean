/- The law PadBack. -/
import Derived.Test.YtinpeieecodijaaPadCut
import Derived.Test.YtinpeieecodijaaOpen
import Derived.Deep.CutBlock
import Derived.Deep.DeepCutAuto
import Derived.Lib.QuietBelow
import Derived.Laws.Bits64
namespace Go.Proofs.Ytinpeieecodijaa
open Go.RowKit
theorem umodP (x : Int) (m : Nat) (h0 : 0 < m) (h : m ≤ 100000) : ∃ q : Nat, q < m ∧ wrap64 ((IntKind.u64.wrap x).tmod m) = (q : Int) := by
  have h1 : 0 ≤ (IntKind.u64.wrap x).tmod m := by rw [IntKind.wrap_u64]; exact Int.tmod_nonneg _ (by omega)
  have h2 : (IntKind.u64.wrap x).tmod m < m := by rw [IntKind.wrap_u64]; exact Int.tmod_lt_of_pos _ (by omega)
  refine ⟨((IntKind.u64.wrap x).tmod m).toNat, by omega, ?_⟩
  rw [IntWalk.wrap64_in _ (by omega)]; omega
set_option maxRecDepth 100000 in
set_option maxHeartbeats 1000000 in
theorem padBack_walk (v : Value) (l : List UInt8) (more : Int) (w : World) (hb : Bsl w v l) (hm : (Lit.int .i64 more).wf = true) :
    Calls Try.prog 9 #[v, .int .i64 more] w fun e w' => e = .returned (.bool true) ∧ Below w.heap.size w w' := by
  have hmb := int_of_wf hm
  obtain ⟨ao, cap, rfl, hlc, hcm, hnil, hne⟩ := id hb
  obtain ⟨na, hna⟩ : ∃ k, k = min l.length 300 := ⟨_, rfl⟩
  have eA : (if (300:Int) < (l.length:Int) then 300 else (l.length:Int)) = (na : Int) := by split <;> omega
  have ta := hb.take (m := na) (by omega)
  have tal : (l.take na).length = na := by simp; omega
  have qa : na ≤ l.length ∧ na ≤ 300 := by omega
  clear hna hnil hne hb hm
  generalize l.take na = t at ta tal
  subst tal
  have r1 : (t.length : Int) ≤ cap := by omega
  have hbel : Below w.heap.size w (w.alloc (.cells #[] 5)) := (Below.refl _ _).alloc (Nat.le_refl _) _
  have hown : OB (w.alloc (.cells #[] 5)) w.heap.size (.slice (some ⟨w.heap.size, 0, none⟩) 0 0) [] := World.ownsRow_made w #[] 0 (Nat.le_refl _) (by decide) rfl
  go_enter Try.func9, Try.ntmps9
  go_upto_if 22 with (at_builtin; refine wp_app rfl _ _ rfl w.heap.size _ _ _ t rfl rfl hown (ta.keep hbel) (by simp; omega) (by simp) ?_; intro v1 w1 hown1 hg1 hn1; clear hn1)
  have hB1 : Below w.heap.size w w1 := hbel.grown hg1 (by simp) hown.own_ge
  rw [List.nil_append] at hown1
  clear hg1 hown hbel ta eA r1
  go_cut [0] (fun bv wx => ∃ m : List UInt8, OB wx w.heap.size bv m ∧ m.length ≤ 4600 ∧ Below w.heap.size w wx)
  case first =>
    by_cases hmo : more.tmod 3 = 0
    · obtain ⟨q, hq, hqe⟩ := umodP more 4200 (by omega) (by omega)
      rw [show ((4200 : Nat) : Int) = 4200 from rfl] at hqe
      go_wp2_with (at_builtin; refine wp_appz rfl _ _ rfl w.heap.size _ t q rfl (by first | rfl | (show Value.int .i64 _ = _; rw [hqe])) hown1 (by omega) hB1.size ?_; intro v2 w2 hown2 hg2 hn2; clear hn2)
      have hB2 := hB1.grown hg2 hB1.size hown1.own_ge
      go_meet
      exact ⟨_, hown2, by simp; omega, hB2⟩
    · go_wp2_with fail
      go_meet
      exact ⟨t, hown1, by omega, hB1⟩
  case rest =>
    clear hB1 hown1 qa
    obtain ⟨m, hom, hml, hB⟩ := hcut
    have hst := run_str wc hom.bsl
    obtain ⟨vo, vc, hv, hvz⟩ := OB.val hom
    subst hv
    clear hvz
    by_cases h4 : m.length ≤ 4000
    · have hcE := clsE_ok h4
      obtain ⟨hc1, hc2⟩ := cut_pad h4
      have hpl := padL_length m h4
      have hSg := clsS_ge h4
      go_wp2_with fail
      clear hst
      refine (pad_ok _ m wc hom.bsl h4).mono ?_
      rintro e w2 ⟨v2, rfl, ho2, hB2'⟩
      have hB2 := hB.trans (hB2'.mono hB.size)
      have hom2 := hom.keep hB2'
      clear hom hB2'
      go_wp2_with fail
      refine (refClass_any m.length w2 (by omega) (by omega)).mono ?_
      rintro e w3 ⟨rfl, rfl⟩
      rw [hcE]
      clear hcE
      generalize clsS (m.length : Int) = z1 at *
      generalize clsK (m.length : Int) = z2 at *
      go_wp2_with fail
      refine (pads_any w2).mono ?_
      rintro e w3 ⟨rfl, hB3'⟩
      have hB3 := hB2.trans (hB3'.mono hB2.size)
      have hom3 := hom2.keep hB3'
      have ho3 := ho2.keep hB3'
      have hst := run_str w3 hom3.bsl
      clear hom2 ho2 hB3' hB2
      go_wp2_with fail
      clear hst
      refine (cut_any v2 (padL m) w3 ho3.bsl (by omega)).mono ?_
      rintro e w4 ⟨v4, rfl, ho4, hB4'⟩
      rw [hc2, hc1] at ho4
      rw [hc2]
      simp only [if_true] at ho4 ⊢
      have hB4 := hB3.trans (hB4'.mono hB3.size)
      have hx4 := ho3.keep hB4'
      clear hom3 ho3 hB4' hB3 hc1 hc2 hB
      have s0 := fun d os => run_str (Sort.grow (redrawn w4 d) os) (hx4.bsl.keep (below_regrown w4 d os))
      have s1 := fun d os => run_str (Sort.grow (redrawn w4 d) os) (ho4.bsl.keep (below_regrown w4 d os))
      have cP : ∀ d os, Calls Try.prog 36 #[.string ⟨m.toArray⟩] (Sort.grow (redrawn w4 d) os) fun e w'' => e = .returned (.string ⟨(padL m).toArray⟩) ∧ ∃ p : Regrown, w'' = Sort.grow (redrawn w4 p.d) p.os := fun d os => Calls.regrown_of (refPad_any m _ h4)
      generalize padL m = pm at *
      clear hx4 ho4
      go_wp2_with fail
      refine wp_region_quiet_below (by kernel_rfl) (by kernel_rfl) ?_
      repeat (quiet_step (first | (go_at_call 36; exact cP _ _)))
      refine wpQuiet_nil ?_
      rintro w5 ⟨⟨d2, os2⟩, rfl⟩
      have hb5 := below_regrown w4 d2 os2
      generalize Sort.grow (redrawn w4 d2) os2 = w5 at *
      go_wp2_with fail
      go_ret
      exact ⟨rfl, hB4.trans (hb5.mono hB4.size)⟩
    · have hcE := clsE_big (n := m.length) (by omega)
      go_wp2_with fail
      clear hst
      refine (pad_big _ m wc hom.bsl (by omega)).mono ?_
      rintro e w2 ⟨rfl, rfl⟩
      go_wp2_with fail
      refine (refClass_any m.length wc (by omega) (by omega)).mono ?_
      rintro e w3 ⟨rfl, rfl⟩
      rw [hcE]
      clear hcE
      generalize clsS (m.length : Int) = z1 at *
      generalize clsK (m.length : Int) = z2 at *
      go_wp2_with fail
      refine (pads_any wc).mono ?_
      rintro e w3 ⟨rfl, hB3'⟩
      have hB3 := hB.trans (hB3'.mono hB.size)
      have hst := run_str w3 (hom.keep hB3').bsl
      go_wp2_with fail
      go_ret
      exact ⟨rfl, hB3⟩
end Go.Proofs.Ytinpeieecodijaa
