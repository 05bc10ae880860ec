/- The walk of MsgReads. -/
import Derived.Test.YtanghmpphlmpkaaMsgL
namespace Go.Proofs.Ytanghmpphlmpkaa
open Go.RowKit
set_option linter.unusedVariables false
attribute [local go_sem ↓] alT_M stT_M ldT_M alT_X stT_X ldT_X
set_option maxRecDepth 100000 in
set_option maxHeartbeats 8000000 in
theorem msgReads_walk (v : Value) (l : List UInt8) (w : World) (hv : Bsl w v l) :
    Calls Try.prog 4 #[v] w fun e w' => e = .returned (.bool true) ∧ Below w.heap.size w w' := by
  obtain ⟨vo, vc, rfl, hlc, hcm, _, _⟩ := id hv
  obtain ⟨n, hn1, hn2, en0, en0'⟩ := min_cut l.length 900 (by omega)
  have en : (if (900 : Int) < (l.length : Int) then 900 else (l.length : Int)) = (n : Int) := en0
  have en' : (if 900 < l.length then (900 : Int) else (l.length : Int)) = (n : Int) := en0'
  clear en0 en0'
  have ta := hv.take (m := n) hn1
  have tal : (l.take n).length = n := by rw [List.length_take]; omega
  generalize l.take n = tl at *
  subst tal
  have hnc : (tl.length : Int) ≤ vc := by omega
  have hn0 : (0 : Int) ≤ tl.length := Int.natCast_nonneg _
  have hrd := mread_u _ tl w ta (by omega)
  have hal1 := fun w => run_alT bigM w
  have hal2 := fun w => run_alT bigX w
  clear hv
  go_enter Try.func4, Try.ntmps4
  go_wp2_with fail
  refine hrd.mono ?_
  rintro e w1 ⟨x, er, rfl, hxA, hcx, hB1⟩
  have hxl := MV.C_len hxA
  have hst := run_stT bigM (w1.alloc (.cells zM.toArray 41)) w1.heap.size 0 x.C (by rw [hxl, ← zM_len]; exact there_new _ _ _) (by rw [hxl, zM_len]) (MV.C_one hxA)
  obtain ⟨hr2, hB2, hs2, _⟩ := var_new w1 zM x.C 41 (by rw [hxl, zM_len])
  have hxA2 := hxA.keep hB2
  have hB12 := hB1.trans (hB2.mono hB1.size)
  have hcv := run_str _ (ta.keep hB12)
  generalize hcc : x.C = cx at *
  have HCX := Lib.hid hcc
  have HC1 := Lib.hid hcx
  clear hcc hcx hrd hB1 hxA
  go_wp2_with fail
  generalize hw2 : (w1.alloc (.cells zM.toArray 41)).setCells w1.heap.size 0 cx = w2 at *
  generalize hq1 : w1.heap.size = q1 at *
  refine (fread_u tl w2 (by omega)).mono ?_
  rintro e w3 ⟨y, ok, rfl, hyA, hky, hcy, hB3⟩
  have hyl : y.C.length = 11 := rfl
  have hst2 := run_stT bigX (w3.alloc (.cells (fv0 0 0 0).C.toArray 28)) w3.heap.size 0 y.C (there_new _ _ _) rfl (FV.C_one hyA)
  obtain ⟨hr4, hB4, hs4, _⟩ := var_new w3 (fv0 0 0 0).C y.C 28 rfl
  have hyA4 := hyA.keep hB4
  have hB34 := hB3.trans (hB4.mono hB3.size)
  have hxA4 := hxA2.keep hB34
  have hrx4 := rangeAt_keep hr2 hB34
  have hta4 := (ta.keep hB12).keep hB34
  have hBw4 := hB12.trans (hB34.mono hB12.size)
  have hs34 := hB3.size
  generalize hcz : (fv0 0 0 0).C.toArray = cz at *
  generalize hcc : y.C = cy at *
  have HCY := Lib.hid hcc
  have HCB := Lib.hid (And.intro HC1.out hcy)
  clear hcc hcz hcv hr2 hB12 hB3 hB4 hB34 hyA hxA2 hw2 hst hcy HC1
  go_wp2_with fail
  generalize (w3.alloc (.cells cz 28)).setCells w3.heap.size 0 cy = w4 at *
  generalize hq2 : w3.heap.size = q2 at *
  have hsl1 : q1 < w4.heap.size := by omega
  have hsl2 : q2 < w4.heap.size := by omega
  have hsame : FSame x.m y.m ∧ ((er = 0 ∧ ok = true ∧ readM tl = some x.m) ∨ (er = 2 ∧ ok = false)) := by
    obtain ⟨h1, h2⟩ := HCB.out
    rcases h1 with ⟨h1, e1⟩ | ⟨h1, e1, e2⟩ <;> rcases h2 with ⟨h2, e3⟩ | ⟨h2, e3, e4⟩
    · rw [h1] at h2
      exact ⟨read_same hxA4.K32.1 (Option.some.inj h2).symm, .inl ⟨e1, e3, h1⟩⟩
    · rw [h1] at h2; cases h2
    · rw [h1] at h2; cases h2
    · rw [e2, e4]; exact ⟨zero_same, .inr ⟨e1, e3⟩⟩
  obtain ⟨hfs, hor⟩ := hsame
  have hsy := fun w => says_any w
  have hfr : ∀ w', Below w4.heap.size w4 w' → Calls Try.prog 14 #[.agg cx.toArray] w' fun e w'' => ∃ z : FV, e = .returned (.agg z.C.toArray) ∧ z.m = x.m ∧ z.At w'' ∧ Below w'.heap.size w' w'' := fun w' hb => by
    rw [← HCX.out]; exact from_any x w' (hxA4.keep hb)
  have hsm : ∀ (z : FV) w', Below w4.heap.size w4 w' → z.m = x.m → z.At w' → Calls Try.prog 13 #[.agg z.C.toArray, .agg cy.toArray] w' fun e w'' => e = .returned (.bool true) ∧ Below w'.heap.size w' w'' := fun z w' hb hz hzA => by
    rw [← HCY.out]
    exact fsame_any z y w' hzA (hyA4.keep hb) (by rw [hz]; exact hfs) ⟨by rw [hz, hxA4.K32.1]; omega, hky⟩
  have hSk := Lib.hid (fun (w' : World) (hb : Below w4.heap.size w4 w') => And.intro (rangeAt_keep hrx4 hb) (rangeAt_keep hr4 hb))
  have HFR := Lib.hid hfr
  have HSM := Lib.hid hsm
  have HX := Lib.hid (And.intro hxA4 (And.intro hta4 hBw4))
  have hcl : cx.length = 42 := hxl
  have hcyl : cy.length = 11 := hyl
  clear hfr hsm hxA4 hyA4 hta4 hBw4 hfs hrx4 hr4 ta HCB hst2
  have hdr : Below w4.heap.size w4 w4.drew := (Below.refl _ _).drew
  rcases hor with ⟨rfl, rfl, hrm⟩ | ⟨rfl, rfl⟩
  · go_upto_region 4 with (fail)
    refine wp_region_held_drew (S := fun w' => w'.rangeAt q1 0 cx ∧ w'.rangeAt q2 0 cy) (by kernel_rfl) (hSk.out _ hdr) (fun hHeld => ?_)
    have hB5 := hdr
    refine wpAnyH_ready (rs := [0]) (by kernel_rfl) (by simp) ?_
    refine AllReadyH.cons rfl (fun KA hKA => ?_) AllReadyH.nil
    rw [if_pos (by kernel_rfl)]
    go_simp
    go_at_call 10
    refine (hsy _).mono ?_
    rintro e w5 ⟨rfl, hB5'⟩
    try go_simp
    have hB5 := hdr.trans (hB5'.mono hdr.size)
    refine hKA.out _ _ (hSk.out _ hB5) (fun hHeld => ?_)
    clear hKA KA
    refine wpAnyH_take (i := 1) (v := ?v_xa1) rfl (by kernel_rfl) (by kernel_rfl) (by kernel_rfl) (fun _ _ _ h => h) (Or.inl ⟨by kernel_rfl, ?y_xa1⟩) (by assumption) ?r_xa1
    case y_xa1 => intro wE hSw; obtain ⟨hq, hr⟩ := hSw; have hld1 := run_ldT bigM wE q1 0 cx hq (by rw [hcl, zM_len]); have hld2 := run_ldT bigX wE q2 0 cy hr (by rw [hcyl]; rfl); clear hq hr; go_simp; try with_reducible rfl
    case' r_xa1 => ((try simp only [Act.put]); (try simp only [List.setIfInBounds_toArray]); (try simp only [List.set_cons_zero, List.set_cons_succ]))
    refine wpAnyH_take (i := 2) (v := ?v_xa2) rfl (by kernel_rfl) (by kernel_rfl) (by kernel_rfl) (fun _ _ _ h => h) (Or.inl ⟨by kernel_rfl, ?y_xa2⟩) (by assumption) ?r_xa2
    case y_xa2 => intro wE hSw; obtain ⟨hq, hr⟩ := hSw; have hld1 := run_ldT bigM wE q1 0 cx hq (by rw [hcl, zM_len]); have hld2 := run_ldT bigX wE q2 0 cy hr (by rw [hcyl]; rfl); clear hq hr; go_simp; try with_reducible rfl
    case' r_xa2 => ((try simp only [Act.put]); (try simp only [List.setIfInBounds_toArray]); (try simp only [List.set_cons_zero, List.set_cons_succ]))
    refine wpAnyH_take (i := 3) (v := ?v_xa3) rfl (by kernel_rfl) (by kernel_rfl) (by kernel_rfl) (fun _ _ _ h => h) (Or.inl ⟨by kernel_rfl, ?y_xa3⟩) (by assumption) ?r_xa3
    case y_xa3 => intro wE hSw; obtain ⟨hq, hr⟩ := hSw; have hld1 := run_ldT bigM wE q1 0 cx hq (by rw [hcl, zM_len]); have hld2 := run_ldT bigX wE q2 0 cy hr (by rw [hcyl]; rfl); clear hq hr; go_simp; try with_reducible rfl
    case' r_xa3 => ((try simp only [Act.put]); (try simp only [List.setIfInBounds_toArray]); (try simp only [List.set_cons_zero, List.set_cons_succ]))
    refine wpAnyH_take (i := 4) (v := ?v_xa4) rfl (by kernel_rfl) (by kernel_rfl) (by kernel_rfl) (fun _ _ _ h => h) (Or.inl ⟨by kernel_rfl, ?y_xa4⟩) (by assumption) ?r_xa4
    case y_xa4 => intro wE hSw; obtain ⟨hq, hr⟩ := hSw; have hld1 := run_ldT bigM wE q1 0 cx hq (by rw [hcl, zM_len]); have hld2 := run_ldT bigX wE q2 0 cy hr (by rw [hcyl]; rfl); clear hq hr; go_simp; try with_reducible rfl
    case' r_xa4 => ((try simp only [Act.put]); (try simp only [List.setIfInBounds_toArray]); (try simp only [List.set_cons_zero, List.set_cons_succ]))
    refine wpAnyH_take (i := 5) (v := ?v_xa5) rfl (by kernel_rfl) (by kernel_rfl) (by kernel_rfl) (fun _ _ _ h => h) (Or.inl ⟨by kernel_rfl, ?y_xa5⟩) (by assumption) ?r_xa5
    case y_xa5 => intro wE hSw; obtain ⟨hq, hr⟩ := hSw; have hld1 := run_ldT bigM wE q1 0 cx hq (by rw [hcl, zM_len]); have hld2 := run_ldT bigX wE q2 0 cy hr (by rw [hcyl]; rfl); clear hq hr; go_simp; try with_reducible rfl
    case' r_xa5 => ((try simp only [Act.put]); (try simp only [List.setIfInBounds_toArray]); (try simp only [List.set_cons_zero, List.set_cons_succ]))
    refine wpAnyH_take (i := 6) (v := ?v_xa6) rfl (by kernel_rfl) (by kernel_rfl) (by kernel_rfl) (fun _ _ _ h => h) (Or.inl ⟨by kernel_rfl, ?y_xa6⟩) (by assumption) ?r_xa6
    case y_xa6 => intro wE hSw; obtain ⟨hq, hr⟩ := hSw; have hld1 := run_ldT bigM wE q1 0 cx hq (by rw [hcl, zM_len]); have hld2 := run_ldT bigX wE q2 0 cy hr (by rw [hcyl]; rfl); clear hq hr; go_simp; try with_reducible rfl
    case' r_xa6 => ((try simp only [Act.put]); (try simp only [List.setIfInBounds_toArray]); (try simp only [List.set_cons_zero, List.set_cons_succ]))
    refine wpAnyH_take (i := 7) (v := ?v_xa7) rfl (by kernel_rfl) (by kernel_rfl) (by kernel_rfl) (fun _ _ _ h => h) (Or.inl ⟨by kernel_rfl, ?y_xa7⟩) (by assumption) ?r_xa7
    case y_xa7 => intro wE hSw; obtain ⟨hq, hr⟩ := hSw; have hld1 := run_ldT bigM wE q1 0 cx hq (by rw [hcl, zM_len]); have hld2 := run_ldT bigX wE q2 0 cy hr (by rw [hcyl]; rfl); clear hq hr; go_simp; try with_reducible rfl
    case' r_xa7 => ((try simp only [Act.put]); (try simp only [List.setIfInBounds_toArray]); (try simp only [List.set_cons_zero, List.set_cons_succ]))
    refine wpAnyH_take (i := 8) (v := ?v_xa8) rfl (by kernel_rfl) (by kernel_rfl) (by kernel_rfl) (fun _ _ _ h => h) (Or.inl ⟨by kernel_rfl, ?y_xa8⟩) (by assumption) ?r_xa8
    case y_xa8 => intro wE hSw; obtain ⟨hq, hr⟩ := hSw; have hld1 := run_ldT bigM wE q1 0 cx hq (by rw [hcl, zM_len]); have hld2 := run_ldT bigX wE q2 0 cy hr (by rw [hcyl]; rfl); clear hq hr; go_simp; try with_reducible rfl
    case' r_xa8 => ((try simp only [Act.put]); (try simp only [List.setIfInBounds_toArray]); (try simp only [List.set_cons_zero, List.set_cons_succ]))
    refine wpAnyH_take (i := 9) (v := ?v_xa9) rfl (by kernel_rfl) (by kernel_rfl) (by kernel_rfl) (fun _ _ _ h => h) (Or.inl ⟨by kernel_rfl, ?y_xa9⟩) (by assumption) ?r_xa9
    case y_xa9 => intro wE hSw; obtain ⟨hq, hr⟩ := hSw; have hld1 := run_ldT bigM wE q1 0 cx hq (by rw [hcl, zM_len]); have hld2 := run_ldT bigX wE q2 0 cy hr (by rw [hcyl]; rfl); clear hq hr; go_simp; try with_reducible rfl
    case' r_xa9 => ((try simp only [Act.put]); (try simp only [List.setIfInBounds_toArray]); (try simp only [List.set_cons_zero, List.set_cons_succ]))
    refine wpAnyH_take (i := 11) (v := ?v_xa11) rfl (by kernel_rfl) (by kernel_rfl) (by kernel_rfl) (fun _ _ _ h => h) (Or.inl ⟨by kernel_rfl, ?y_xa11⟩) (by assumption) ?r_xa11
    case y_xa11 => intro wE hSw; obtain ⟨hq, hr⟩ := hSw; have hld1 := run_ldT bigM wE q1 0 cx hq (by rw [hcl, zM_len]); have hld2 := run_ldT bigX wE q2 0 cy hr (by rw [hcyl]; rfl); clear hq hr; go_simp; try with_reducible rfl
    case' r_xa11 => ((try simp only [Act.put]); (try simp only [List.setIfInBounds_toArray]); (try simp only [List.set_cons_zero, List.set_cons_succ]))
    refine wpAnyH_ready (rs := [10]) (by kernel_rfl) (by simp) ?_
    refine AllReadyH.cons rfl (fun KB hKB => ?_) AllReadyH.nil
    rw [if_pos (by kernel_rfl)]
    go_simp
    go_at_call 14
    refine (HFR.out _ hB5).mono ?_
    rintro e w6 ⟨z, rfl, hzm, hzA, hB6'⟩
    try go_simp
    have hB6 := hB5.trans (hB6'.mono hB5.size)
    refine hKB.out _ _ (hSk.out _ hB6) (fun hHeld => ?_)
    clear hKB KB
    refine wpAnyH_ready (rs := [12]) (by kernel_rfl) (by simp) ?_
    refine AllReadyH.cons rfl (fun KC hKC => ?_) AllReadyH.nil
    rw [if_pos (by kernel_rfl)]
    go_simp
    go_at_call 13
    refine (HSM.out z _ hB6 hzm hzA).mono ?_
    rintro e w7 ⟨rfl, hB7'⟩
    try go_simp
    have hB7 := hB6.trans (hB7'.mono hB6.size)
    refine hKC.out _ _ (hSk.out _ hB7) (fun hHeld => ?_)
    clear hKC KC
    refine wpAnyH_take (i := 13) (v := ?v_xb13) rfl (by kernel_rfl) (by kernel_rfl) (by kernel_rfl) (fun _ _ _ h => h) (Or.inl ⟨by kernel_rfl, ?y_xb13⟩) (by assumption) ?r_xb13
    case y_xb13 => intro wE hSw; obtain ⟨hq, hr⟩ := hSw; have hld1 := run_ldT bigM wE q1 0 cx hq (by rw [hcl, zM_len]); have hld2 := run_ldT bigX wE q2 0 cy hr (by rw [hcyl]; rfl); clear hq hr; go_simp; try with_reducible rfl
    case' r_xb13 => ((try simp only [Act.put]); (try simp only [List.setIfInBounds_toArray]); (try simp only [List.set_cons_zero, List.set_cons_succ]))
    refine wpAnyH_take (i := 14) (v := ?v_xb14) rfl (by kernel_rfl) (by kernel_rfl) (by kernel_rfl) (fun _ _ _ h => h) (Or.inl ⟨by kernel_rfl, ?y_xb14⟩) (by assumption) ?r_xb14
    case y_xb14 => intro wE hSw; obtain ⟨hq, hr⟩ := hSw; have hld1 := run_ldT bigM wE q1 0 cx hq (by rw [hcl, zM_len]); have hld2 := run_ldT bigX wE q2 0 cy hr (by rw [hcyl]; rfl); clear hq hr; go_simp; try with_reducible rfl
    case' r_xb14 => ((try simp only [Act.put]); (try simp only [List.setIfInBounds_toArray]); (try simp only [List.set_cons_zero, List.set_cons_succ]))
    refine wpAnyH_done (by kernel_rfl) ?_ _
    generalize z.C.toArray = zc at *
    obtain ⟨hxA4, hta4, hBw4⟩ := HX.out
    have hB7w := hBw4.trans (hB7.mono hBw4.size)
    obtain ⟨hokm, hk32, hres, hbm⟩ := read_some hrm
    have hrx7 := (hSk.out _ hB7).1
    have hld := run_ldT bigM w7 q1 0 cx hrx7 (by rw [hcl, zM_len])
    have hwr := mwrite_any x w7 (hxA4.keep hB7)
    rw [HCX.out, hokm, hbm] at hwr
    have HQ := Lib.hid (And.intro hta4 (And.intro hB7 hB7w))
    clear hxA4 hta4 hBw4 hB7 hB7w hB6 hB5 hrx7 hzA hzm hrm hokm hres hbm hk32 hB5' hB6' hB7' hHeld
    go_wp2_with fail
    refine hwr.mono ?_
    rintro e w8 ⟨h8, hB8⟩
    rcases h8 with ⟨_, v8, rfl, hob⟩ | ⟨h8, _⟩
    · obtain ⟨hta4, hB7, hB7w⟩ := HQ.out
      have hcv1 := run_str _ hob.bsl
      have hcv2 := run_str _ ((hta4.keep hB7).keep hB8)
      have HB := Lib.hid (hB7w.trans (hB8.mono hB7w.size))
      clear hta4 hB7 hB7w hB8 hob hwr hld
      go_wp2_with fail
      go_ret
      exact ⟨rfl, HB.out⟩
    · cases h8
  · go_upto_region 4 with (fail)
    refine wp_region_held_drew (S := fun w' => w'.rangeAt q1 0 cx ∧ w'.rangeAt q2 0 cy) (by kernel_rfl) (hSk.out _ hdr) (fun hHeld => ?_)
    have hB5 := hdr
    refine wpAnyH_ready (rs := [0]) (by kernel_rfl) (by simp) ?_
    refine AllReadyH.cons rfl (fun KA hKA => ?_) AllReadyH.nil
    rw [if_pos (by kernel_rfl)]
    go_simp
    go_at_call 10
    refine (hsy _).mono ?_
    rintro e w5 ⟨rfl, hB5'⟩
    try go_simp
    have hB5 := hdr.trans (hB5'.mono hdr.size)
    refine hKA.out _ _ (hSk.out _ hB5) (fun hHeld => ?_)
    clear hKA KA
    refine wpAnyH_take (i := 1) (v := ?v_za1) rfl (by kernel_rfl) (by kernel_rfl) (by kernel_rfl) (fun _ _ _ h => h) (Or.inl ⟨by kernel_rfl, ?y_za1⟩) (by assumption) ?r_za1
    case y_za1 => intro wE hSw; obtain ⟨hq, hr⟩ := hSw; have hld1 := run_ldT bigM wE q1 0 cx hq (by rw [hcl, zM_len]); have hld2 := run_ldT bigX wE q2 0 cy hr (by rw [hcyl]; rfl); clear hq hr; go_simp; try with_reducible rfl
    case' r_za1 => ((try simp only [Act.put]); (try simp only [List.setIfInBounds_toArray]); (try simp only [List.set_cons_zero, List.set_cons_succ]))
    refine wpAnyH_take (i := 2) (v := ?v_za2) rfl (by kernel_rfl) (by kernel_rfl) (by kernel_rfl) (fun _ _ _ h => h) (Or.inl ⟨by kernel_rfl, ?y_za2⟩) (by assumption) ?r_za2
    case y_za2 => intro wE hSw; obtain ⟨hq, hr⟩ := hSw; have hld1 := run_ldT bigM wE q1 0 cx hq (by rw [hcl, zM_len]); have hld2 := run_ldT bigX wE q2 0 cy hr (by rw [hcyl]; rfl); clear hq hr; go_simp; try with_reducible rfl
    case' r_za2 => ((try simp only [Act.put]); (try simp only [List.setIfInBounds_toArray]); (try simp only [List.set_cons_zero, List.set_cons_succ]))
    refine wpAnyH_take (i := 3) (v := ?v_za3) rfl (by kernel_rfl) (by kernel_rfl) (by kernel_rfl) (fun _ _ _ h => h) (Or.inl ⟨by kernel_rfl, ?y_za3⟩) (by assumption) ?r_za3
    case y_za3 => intro wE hSw; obtain ⟨hq, hr⟩ := hSw; have hld1 := run_ldT bigM wE q1 0 cx hq (by rw [hcl, zM_len]); have hld2 := run_ldT bigX wE q2 0 cy hr (by rw [hcyl]; rfl); clear hq hr; go_simp; try with_reducible rfl
    case' r_za3 => ((try simp only [Act.put]); (try simp only [List.setIfInBounds_toArray]); (try simp only [List.set_cons_zero, List.set_cons_succ]))
    refine wpAnyH_take (i := 4) (v := ?v_za4) rfl (by kernel_rfl) (by kernel_rfl) (by kernel_rfl) (fun _ _ _ h => h) (Or.inl ⟨by kernel_rfl, ?y_za4⟩) (by assumption) ?r_za4
    case y_za4 => intro wE hSw; obtain ⟨hq, hr⟩ := hSw; have hld1 := run_ldT bigM wE q1 0 cx hq (by rw [hcl, zM_len]); have hld2 := run_ldT bigX wE q2 0 cy hr (by rw [hcyl]; rfl); clear hq hr; go_simp; try with_reducible rfl
    case' r_za4 => ((try simp only [Act.put]); (try simp only [List.setIfInBounds_toArray]); (try simp only [List.set_cons_zero, List.set_cons_succ]))
    refine wpAnyH_take (i := 5) (v := ?v_za5) rfl (by kernel_rfl) (by kernel_rfl) (by kernel_rfl) (fun _ _ _ h => h) (Or.inl ⟨by kernel_rfl, ?y_za5⟩) (by assumption) ?r_za5
    case y_za5 => intro wE hSw; obtain ⟨hq, hr⟩ := hSw; have hld1 := run_ldT bigM wE q1 0 cx hq (by rw [hcl, zM_len]); have hld2 := run_ldT bigX wE q2 0 cy hr (by rw [hcyl]; rfl); clear hq hr; go_simp; try with_reducible rfl
    case' r_za5 => ((try simp only [Act.put]); (try simp only [List.setIfInBounds_toArray]); (try simp only [List.set_cons_zero, List.set_cons_succ]))
    refine wpAnyH_take (i := 6) (v := ?v_za6) rfl (by kernel_rfl) (by kernel_rfl) (by kernel_rfl) (fun _ _ _ h => h) (Or.inl ⟨by kernel_rfl, ?y_za6⟩) (by assumption) ?r_za6
    case y_za6 => intro wE hSw; obtain ⟨hq, hr⟩ := hSw; have hld1 := run_ldT bigM wE q1 0 cx hq (by rw [hcl, zM_len]); have hld2 := run_ldT bigX wE q2 0 cy hr (by rw [hcyl]; rfl); clear hq hr; go_simp; try with_reducible rfl
    case' r_za6 => ((try simp only [Act.put]); (try simp only [List.setIfInBounds_toArray]); (try simp only [List.set_cons_zero, List.set_cons_succ]))
    refine wpAnyH_take (i := 7) (v := ?v_za7) rfl (by kernel_rfl) (by kernel_rfl) (by kernel_rfl) (fun _ _ _ h => h) (Or.inl ⟨by kernel_rfl, ?y_za7⟩) (by assumption) ?r_za7
    case y_za7 => intro wE hSw; obtain ⟨hq, hr⟩ := hSw; have hld1 := run_ldT bigM wE q1 0 cx hq (by rw [hcl, zM_len]); have hld2 := run_ldT bigX wE q2 0 cy hr (by rw [hcyl]; rfl); clear hq hr; go_simp; try with_reducible rfl
    case' r_za7 => ((try simp only [Act.put]); (try simp only [List.setIfInBounds_toArray]); (try simp only [List.set_cons_zero, List.set_cons_succ]))
    refine wpAnyH_take (i := 8) (v := ?v_za8) rfl (by kernel_rfl) (by kernel_rfl) (by kernel_rfl) (fun _ _ _ h => h) (Or.inl ⟨by kernel_rfl, ?y_za8⟩) (by assumption) ?r_za8
    case y_za8 => intro wE hSw; obtain ⟨hq, hr⟩ := hSw; have hld1 := run_ldT bigM wE q1 0 cx hq (by rw [hcl, zM_len]); have hld2 := run_ldT bigX wE q2 0 cy hr (by rw [hcyl]; rfl); clear hq hr; go_simp; try with_reducible rfl
    case' r_za8 => ((try simp only [Act.put]); (try simp only [List.setIfInBounds_toArray]); (try simp only [List.set_cons_zero, List.set_cons_succ]))
    refine wpAnyH_take (i := 9) (v := ?v_za9) rfl (by kernel_rfl) (by kernel_rfl) (by kernel_rfl) (fun _ _ _ h => h) (Or.inl ⟨by kernel_rfl, ?y_za9⟩) (by assumption) ?r_za9
    case y_za9 => intro wE hSw; obtain ⟨hq, hr⟩ := hSw; have hld1 := run_ldT bigM wE q1 0 cx hq (by rw [hcl, zM_len]); have hld2 := run_ldT bigX wE q2 0 cy hr (by rw [hcyl]; rfl); clear hq hr; go_simp; try with_reducible rfl
    case' r_za9 => ((try simp only [Act.put]); (try simp only [List.setIfInBounds_toArray]); (try simp only [List.set_cons_zero, List.set_cons_succ]))
    refine wpAnyH_take (i := 11) (v := ?v_za11) rfl (by kernel_rfl) (by kernel_rfl) (by kernel_rfl) (fun _ _ _ h => h) (Or.inl ⟨by kernel_rfl, ?y_za11⟩) (by assumption) ?r_za11
    case y_za11 => intro wE hSw; obtain ⟨hq, hr⟩ := hSw; have hld1 := run_ldT bigM wE q1 0 cx hq (by rw [hcl, zM_len]); have hld2 := run_ldT bigX wE q2 0 cy hr (by rw [hcyl]; rfl); clear hq hr; go_simp; try with_reducible rfl
    case' r_za11 => ((try simp only [Act.put]); (try simp only [List.setIfInBounds_toArray]); (try simp only [List.set_cons_zero, List.set_cons_succ]))
    refine wpAnyH_ready (rs := [10]) (by kernel_rfl) (by simp) ?_
    refine AllReadyH.cons rfl (fun KB hKB => ?_) AllReadyH.nil
    rw [if_pos (by kernel_rfl)]
    go_simp
    go_at_call 14
    refine (HFR.out _ hB5).mono ?_
    rintro e w6 ⟨z, rfl, hzm, hzA, hB6'⟩
    try go_simp
    have hB6 := hB5.trans (hB6'.mono hB5.size)
    refine hKB.out _ _ (hSk.out _ hB6) (fun hHeld => ?_)
    clear hKB KB
    refine wpAnyH_ready (rs := [12]) (by kernel_rfl) (by simp) ?_
    refine AllReadyH.cons rfl (fun KC hKC => ?_) AllReadyH.nil
    rw [if_pos (by kernel_rfl)]
    go_simp
    go_at_call 13
    refine (HSM.out z _ hB6 hzm hzA).mono ?_
    rintro e w7 ⟨rfl, hB7'⟩
    try go_simp
    have hB7 := hB6.trans (hB7'.mono hB6.size)
    refine hKC.out _ _ (hSk.out _ hB7) (fun hHeld => ?_)
    clear hKC KC
    refine wpAnyH_take (i := 13) (v := ?v_zb13) rfl (by kernel_rfl) (by kernel_rfl) (by kernel_rfl) (fun _ _ _ h => h) (Or.inl ⟨by kernel_rfl, ?y_zb13⟩) (by assumption) ?r_zb13
    case y_zb13 => intro wE hSw; obtain ⟨hq, hr⟩ := hSw; have hld1 := run_ldT bigM wE q1 0 cx hq (by rw [hcl, zM_len]); have hld2 := run_ldT bigX wE q2 0 cy hr (by rw [hcyl]; rfl); clear hq hr; go_simp; try with_reducible rfl
    case' r_zb13 => ((try simp only [Act.put]); (try simp only [List.setIfInBounds_toArray]); (try simp only [List.set_cons_zero, List.set_cons_succ]))
    refine wpAnyH_take (i := 14) (v := ?v_zb14) rfl (by kernel_rfl) (by kernel_rfl) (by kernel_rfl) (fun _ _ _ h => h) (Or.inl ⟨by kernel_rfl, ?y_zb14⟩) (by assumption) ?r_zb14
    case y_zb14 => intro wE hSw; obtain ⟨hq, hr⟩ := hSw; have hld1 := run_ldT bigM wE q1 0 cx hq (by rw [hcl, zM_len]); have hld2 := run_ldT bigX wE q2 0 cy hr (by rw [hcyl]; rfl); clear hq hr; go_simp; try with_reducible rfl
    case' r_zb14 => ((try simp only [Act.put]); (try simp only [List.setIfInBounds_toArray]); (try simp only [List.set_cons_zero, List.set_cons_succ]))
    refine wpAnyH_done (by kernel_rfl) ?_ _
    generalize z.C.toArray = zc at *
    obtain ⟨hxA4, hta4, hBw4⟩ := HX.out
    have hB7w := hBw4.trans (hB7.mono hBw4.size)
    have HB := Lib.hid hB7w
    clear hxA4 hta4 hBw4 hB7 hB7w hB6 hB5 hzA hzm hB5' hB6' hB7' hHeld
    go_wp2_with fail
    go_ret
    exact ⟨rfl, HB.out⟩
end Go.Proofs.Ytanghmpphlmpkaa

