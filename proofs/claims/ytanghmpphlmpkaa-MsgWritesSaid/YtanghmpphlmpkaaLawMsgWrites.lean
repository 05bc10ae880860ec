/- The walk of MsgWrites. -/
import Derived.Test.YtanghmpphlmpkaaMsgL
namespace Go.Proofs.Ytanghmpphlmpkaa
open Go.RowKit
set_option linter.unusedVariables false
attribute [local go_sem ↓] alT_M stT_M ldT_M alT_X stT_X ldT_X
set_option maxRecDepth 100000 in
set_option maxHeartbeats 8000000 in
theorem msgWrites_walk (v : Value) (x : FV) (w : World) (hv : InFV w v x) :
    Calls Try.prog 3 #[v] w fun e w' => e = .returned (.bool true) ∧ Below w.heap.size w w' := by
  obtain ⟨rfl, hxA, hln, hnil⟩ := hv
  have htm := fun w' (hb : Below w.heap.size w w') => tame_any x w' (hxA.keep hb) hln hnil
  have hbx : (w.alloc (.cells x.C.toArray 28)).rangeAt w.heap.size 0 x.C := rangeAt_alloc_new _ _ _
  have htx : (w.alloc (.cells x.C.toArray 28)).there w.heap.size 0 11 := there_new w x.C 28
  have hld0 := run_ldT bigX (w.alloc (.cells x.C.toArray 28)) w.heap.size 0 x.C hbx rfl
  have hA1 : Below w.heap.size w (w.alloc (.cells x.C.toArray 28)) := (Below.refl _ _).alloc (Nat.le_refl _) _
  have hs1 : (w.alloc (.cells x.C.toArray 28)).heap.size = w.heap.size + 1 := by simp
  clear hnil hln hxA
  generalize x.C = cx at *
  go_enter Try.func3, Try.ntmps3
  go_wp2_with fail
  generalize hw1 : w.alloc (.cells cx.toArray 28) = w1 at *
  refine (htm _ hA1).mono ?_
  rintro e w2 ⟨y, rfl, hyA, hyB, hyS, hyK, hyN, hyG, hB2⟩
  have ht2 := there_only htx (Only.of_below (S := fun _ => False) hB2) (fun h => h)
  have hst := run_stT bigX w2 w.heap.size 0 y.C ht2 rfl (FV.C_one hyA)
  have hr3 := World.rangeAt_setCells_same w2 w.heap.size 0 y.C ht2
  have ho3 := Only.setCells1 (b := w.heap.size) y.C 0 w2
  have hyA3 := hyA.only hyG ho3 (fun k hk => by omega)
  have hB3 : Below w.heap.size w (w2.setCells w.heap.size 0 y.C) := Go.Proofs.Ytanghmpphlmpkaa.Below.setCells (Nat.le_refl _) _ 0 (hA1.trans (hB2.mono hA1.size))
  have hld3 := run_ldT bigX (w2.setCells w.heap.size 0 y.C) w.heap.size 0 y.C hr3 rfl
  have hto := to_any y _ hyA3 hyB hyK hyN
  have hyl : y.C.length = 11 := rfl
  generalize hcy : y.C = cy at *
  have HCY := Lib.hid hcy
  clear hcy htm hbx htx hld0 hA1 hB2 ht2 ho3 hyA hw1 hyG hyN
  go_wp2_with fail
  generalize w2.setCells w.heap.size 0 cy = w3 at *
  refine hto.mono ?_
  rintro e w4 ⟨z, rfl, hzm, hzA, hB4⟩
  have hwr := mwrite_any z w4 hzA
  rw [hzm] at hwr
  have hyA4 := hyA3.keep hB4
  have hr4 := rangeAt_keep hr3 hB4
  have hB4w := hB3.trans (hB4.mono hB3.size)
  generalize z.C.toArray = cz at *
  clear hto hst hld3 hr3 hyA3 hB3 hB4 hzA hzm
  go_wp2_with fail
  refine hwr.mono ?_
  rintro e w5 ⟨hzo, hB5'⟩
  have hyA5 := hyA4.keep hB5'
  have hr5 := rangeAt_keep hr4 hB5'
  have hB5 := hB4w.trans (hB5'.mono hB4w.size)
  have hld5 := run_ldT bigX w5 w.heap.size 0 cy hr5 (by rw [hyl]; rfl)
  have hfw : ∀ w', Below w5.heap.size w5 w' → Calls Try.prog 9 #[.agg cy.toArray] w' fun e w'' => e = .returned (FOut y.m) ∧ Below w'.heap.size w' w'' := fun w' hb => by
    rw [← HCY.out]; exact fwrite_any y w' (hyA5.keep hb) hyB hyK
  clear hwr hyA4 hr4 hB5' hB4w hr5
  cases hok : okM y.m with
  | false =>
    rw [hok] at hzo
    rcases hzo with ⟨h, _⟩ | ⟨_, rfl⟩
    · cases h
    rw [FOut.bad hok] at hfw
    have HB5 := Lib.hid hB5
    clear hB5 hyA5 hyS hyK
    go_wp2_with fail
    refine (hfw w5 (Below.refl _ _)).mono ?_
    rintro e w6 ⟨rfl, hB6⟩
    have HB6 := Lib.hid hB6
    clear hB6 hfw hld5
    go_wp2_with fail
    refine (says_any w6).mono ?_
    rintro e w7 ⟨rfl, hB7⟩
    have HB := Lib.hid ((HB5.out.trans (HB6.out.mono HB5.out.size)).trans (hB7.mono (Nat.le_trans HB5.out.size HB6.out.size)))
    clear hB7
    go_wp2_with fail
    go_ret
    exact ⟨rfl, HB.out⟩
  | true =>
    rw [hok] at hzo
    rcases hzo with ⟨_, bv1, rfl, hob⟩ | ⟨h, _⟩
    rotate_left
    · cases h
    rw [FOut_true hok] at hfw
    have hbl := hyS.len hyK
    have hrb := read_back hok hyK
    have hrK := (res_rest y.m).2.2.2 hyK
    generalize bytesM y.m = bs at *
    have HB5 := Lib.hid (And.intro hB5 hob)
    clear hB5 hyA5 hyS hob
    go_wp2_with fail
    refine (hfw w5 (Below.refl _ _)).mono ?_
    rintro e w6 ⟨rfl, hB6⟩
    have HB6 := Lib.hid hB6
    clear hB6 hfw hld5
    go_wp2_with fail
    refine (says_any w6).mono ?_
    rintro e w7 ⟨rfl, hB7⟩
    have hBw7 := (HB5.out.1.trans (HB6.out.mono HB5.out.1.size)).trans (hB7.mono (Nat.le_trans HB5.out.1.size HB6.out.size))
    have hob7 := (HB5.out.2.bsl.keep HB6.out).keep hB7
    obtain ⟨bo, bc, hbv⟩ := hob7.shape
    subst hbv
    have hrd := mread_u _ bs w7 hob7 (by omega)
    rw [hrb] at hrd
    have hal1 := fun w => run_alT bigM w
    have hal2 := fun w => run_alT bigX w
    have HQ := Lib.hid (And.intro hBw7 hob7)
    clear hB7 hBw7 hob7
    go_wp2_with fail
    refine hrd.mono ?_
    rintro e w8 ⟨x8, er, rfl, hxA, hcx, hB8⟩
    rcases hcx with ⟨h8, rfl⟩ | ⟨h8, _⟩
    rotate_left
    · cases h8
    have hxm : y.m.res = x8.m := Option.some.inj h8
    have hxl := MV.C_len hxA
    have hst := run_stT bigM (w8.alloc (.cells zM.toArray 41)) w8.heap.size 0 x8.C (by rw [hxl, ← zM_len]; exact there_new _ _ _) (by rw [hxl, zM_len]) (MV.C_one hxA)
    obtain ⟨hr9, hB9, hs9, _⟩ := var_new w8 zM x8.C 41 (by rw [hxl, zM_len])
    have hxA9 := hxA.keep hB9
    have hB89 := hB8.trans (hB9.mono hB8.size)
    generalize hcc : x8.C = cx at *
    have HCX := Lib.hid hcc
    have HXM := Lib.hid hxm
    clear hcc hxm hrd h8 hxA hB8 hB9
    go_wp2_with fail
    generalize hw9 : (w8.alloc (.cells zM.toArray 41)).setCells w8.heap.size 0 cx = w9 at *
    generalize hq1 : w8.heap.size = q1 at *
    clear hst hw9
    have hfr2 := fread_u bs w9 (by omega)
    rw [hrb] at hfr2
    refine hfr2.mono ?_
    rintro e wa ⟨y2, ok2, rfl, hyA2, hky, hcy, hBa⟩
    rcases hcy with ⟨hya, rfl⟩ | ⟨hya, _⟩
    rotate_left
    · cases hya
    have hym : y.m.res = y2.m.pad := Option.some.inj hya
    have hyl : y2.C.length = 11 := rfl
    have hst2 := run_stT bigX (wa.alloc (.cells (fv0 0 0 0).C.toArray 28)) wa.heap.size 0 y2.C (there_new _ _ _) rfl (FV.C_one hyA2)
    obtain ⟨hrb2, hBb, hsb, _⟩ := var_new wa (fv0 0 0 0).C y2.C 28 rfl
    have hyAb := hyA2.keep hBb
    have hBab := hBa.trans (hBb.mono hBa.size)
    have hxAb := hxA9.keep hBab
    have hrxb := rangeAt_keep hr9 hBab
    have hfs : FSame x8.m y2.m := read_same hxAb.K32.1 (by rw [← hym, HXM.out])
    have hsab := hBa.size
    have hB7b := hB89.trans (hBab.mono hB89.size)
    have hbs4 := HQ.out.2.keep hB7b
    have HBW := Lib.hid (HQ.out.1.trans (hB7b.mono HQ.out.1.size))
    generalize hcz : (fv0 0 0 0).C.toArray = cz at *
    generalize hcc : y2.C = cy at *
    have HCY := Lib.hid hcc
    clear hcc hcz hya hym hyA2 hxA9 hr9 hBab hB7b hB89 hBa hBb hfr2 hal1 hrb
    go_wp2_with fail
    generalize (wa.alloc (.cells cz 28)).setCells wa.heap.size 0 cy = w4 at *
    generalize hq2 : wa.heap.size = q2 at *
    have hsl1 : q1 < w4.heap.size := by omega
    have hsl2 : q2 < w4.heap.size := by omega
    have hfr : ∀ w', Below w4.heap.size w4 w' → Calls Try.prog 14 #[.agg cx.toArray] w' fun e w'' => ∃ z : FV, e = .returned (.agg z.C.toArray) ∧ z.m = x8.m ∧ z.At w'' ∧ Below w'.heap.size w' w'' := fun w' hb => by
      rw [← HCX.out]; exact from_any x8 w' (hxAb.keep hb)
    have hsm : ∀ (z : FV) w', Below w4.heap.size w4 w' → z.m = x8.m → z.At w' → Calls Try.prog 13 #[.agg z.C.toArray, .agg cy.toArray] w' fun e w'' => e = .returned (.bool true) ∧ Below w'.heap.size w' w'' := fun z w' hb hz hzA => by
      rw [← HCY.out]
      exact fsame_any z y2 w' hzA (hyAb.keep hb) (by rw [hz]; exact hfs) ⟨by rw [hz, hxAb.K32.1]; omega, hky⟩
    have hSk := Lib.hid (fun (w' : World) (hb : Below w4.heap.size w4 w') => And.intro (rangeAt_keep hrxb hb) (And.intro (rangeAt_keep hrb2 hb) (hbs4.keep hb)))
    have HFR := Lib.hid hfr
    have HSM := Lib.hid hsm
    have hcl : cx.length = 42 := hxl
    have hcyl : cy.length = 11 := hyl
    have hdr : Below w4.heap.size w4 w4.drew := (Below.refl _ _).drew
    clear hfr hsm hxAb hyAb hfs hrxb hrb2 hbs4 hst2 hbl
    go_upto_region 10 with (fail)
    refine wp_region_held_drew (S := fun w' => w'.rangeAt q1 0 cx ∧ w'.rangeAt q2 0 cy ∧ Bsl w' (.slice bo bs.length bc) bs) (by kernel_rfl) (hSk.out _ hdr) (fun hHeld => ?_)
    refine wpAnyH_take (i := 0) (v := ?v_a0) rfl (by kernel_rfl) (by kernel_rfl) (by kernel_rfl) (fun _ _ _ h => h) (Or.inl ⟨by kernel_rfl, ?y_a0⟩) (by assumption) ?r_a0
    case y_a0 => intro wE hSw; obtain ⟨hq, hr, hb⟩ := hSw; have hld1 := run_ldT bigM wE q1 0 cx hq (by rw [hcl, zM_len]); have hld2 := run_ldT bigX wE q2 0 cy hr (by rw [hcyl]; rfl); have hcv := run_str wE hb; clear hq hr hb; go_simp; try with_reducible rfl
    case' r_a0 => ((try simp only [Act.put]); (try simp only [List.setIfInBounds_toArray]); (try simp only [List.set_cons_zero, List.set_cons_succ]))
    refine wpAnyH_take (i := 1) (v := ?v_a1) rfl (by kernel_rfl) (by kernel_rfl) (by kernel_rfl) (fun _ _ _ h => h) (Or.inl ⟨by kernel_rfl, ?y_a1⟩) (by assumption) ?r_a1
    case y_a1 => intro wE hSw; obtain ⟨hq, hr, hb⟩ := hSw; have hld1 := run_ldT bigM wE q1 0 cx hq (by rw [hcl, zM_len]); have hld2 := run_ldT bigX wE q2 0 cy hr (by rw [hcyl]; rfl); have hcv := run_str wE hb; clear hq hr hb; go_simp; try with_reducible rfl
    case' r_a1 => ((try simp only [Act.put]); (try simp only [List.setIfInBounds_toArray]); (try simp only [List.set_cons_zero, List.set_cons_succ]))
    refine wpAnyH_take (i := 2) (v := ?v_a2) rfl (by kernel_rfl) (by kernel_rfl) (by kernel_rfl) (fun _ _ _ h => h) (Or.inl ⟨by kernel_rfl, ?y_a2⟩) (by assumption) ?r_a2
    case y_a2 => intro wE hSw; obtain ⟨hq, hr, hb⟩ := hSw; have hld1 := run_ldT bigM wE q1 0 cx hq (by rw [hcl, zM_len]); have hld2 := run_ldT bigX wE q2 0 cy hr (by rw [hcyl]; rfl); have hcv := run_str wE hb; clear hq hr hb; go_simp; try with_reducible rfl
    case' r_a2 => ((try simp only [Act.put]); (try simp only [List.setIfInBounds_toArray]); (try simp only [List.set_cons_zero, List.set_cons_succ]))
    refine wpAnyH_take (i := 3) (v := ?v_a3) rfl (by kernel_rfl) (by kernel_rfl) (by kernel_rfl) (fun _ _ _ h => h) (Or.inl ⟨by kernel_rfl, ?y_a3⟩) (by assumption) ?r_a3
    case y_a3 => intro wE hSw; obtain ⟨hq, hr, hb⟩ := hSw; have hld1 := run_ldT bigM wE q1 0 cx hq (by rw [hcl, zM_len]); have hld2 := run_ldT bigX wE q2 0 cy hr (by rw [hcyl]; rfl); have hcv := run_str wE hb; clear hq hr hb; go_simp; try with_reducible rfl
    case' r_a3 => ((try simp only [Act.put]); (try simp only [List.setIfInBounds_toArray]); (try simp only [List.set_cons_zero, List.set_cons_succ]))
    refine wpAnyH_take (i := 4) (v := ?v_a4) rfl (by kernel_rfl) (by kernel_rfl) (by kernel_rfl) (fun _ _ _ h => h) (Or.inl ⟨by kernel_rfl, ?y_a4⟩) (by assumption) ?r_a4
    case y_a4 => intro wE hSw; obtain ⟨hq, hr, hb⟩ := hSw; have hld1 := run_ldT bigM wE q1 0 cx hq (by rw [hcl, zM_len]); have hld2 := run_ldT bigX wE q2 0 cy hr (by rw [hcyl]; rfl); have hcv := run_str wE hb; clear hq hr hb; go_simp; try with_reducible rfl
    case' r_a4 => ((try simp only [Act.put]); (try simp only [List.setIfInBounds_toArray]); (try simp only [List.set_cons_zero, List.set_cons_succ]))
    refine wpAnyH_take (i := 5) (v := ?v_a5) rfl (by kernel_rfl) (by kernel_rfl) (by kernel_rfl) (fun _ _ _ h => h) (Or.inl ⟨by kernel_rfl, ?y_a5⟩) (by assumption) ?r_a5
    case y_a5 => intro wE hSw; obtain ⟨hq, hr, hb⟩ := hSw; have hld1 := run_ldT bigM wE q1 0 cx hq (by rw [hcl, zM_len]); have hld2 := run_ldT bigX wE q2 0 cy hr (by rw [hcyl]; rfl); have hcv := run_str wE hb; clear hq hr hb; go_simp; try with_reducible rfl
    case' r_a5 => ((try simp only [Act.put]); (try simp only [List.setIfInBounds_toArray]); (try simp only [List.set_cons_zero, List.set_cons_succ]))
    refine wpAnyH_take (i := 6) (v := ?v_a6) rfl (by kernel_rfl) (by kernel_rfl) (by kernel_rfl) (fun _ _ _ h => h) (Or.inl ⟨by kernel_rfl, ?y_a6⟩) (by assumption) ?r_a6
    case y_a6 => intro wE hSw; obtain ⟨hq, hr, hb⟩ := hSw; have hld1 := run_ldT bigM wE q1 0 cx hq (by rw [hcl, zM_len]); have hld2 := run_ldT bigX wE q2 0 cy hr (by rw [hcyl]; rfl); have hcv := run_str wE hb; clear hq hr hb; go_simp; try with_reducible rfl
    case' r_a6 => ((try simp only [Act.put]); (try simp only [List.setIfInBounds_toArray]); (try simp only [List.set_cons_zero, List.set_cons_succ]))
    refine wpAnyH_take (i := 7) (v := ?v_a7) rfl (by kernel_rfl) (by kernel_rfl) (by kernel_rfl) (fun _ _ _ h => h) (Or.inl ⟨by kernel_rfl, ?y_a7⟩) (by assumption) ?r_a7
    case y_a7 => intro wE hSw; obtain ⟨hq, hr, hb⟩ := hSw; have hld1 := run_ldT bigM wE q1 0 cx hq (by rw [hcl, zM_len]); have hld2 := run_ldT bigX wE q2 0 cy hr (by rw [hcyl]; rfl); have hcv := run_str wE hb; clear hq hr hb; go_simp; try with_reducible rfl
    case' r_a7 => ((try simp only [Act.put]); (try simp only [List.setIfInBounds_toArray]); (try simp only [List.set_cons_zero, List.set_cons_succ]))
    refine wpAnyH_take (i := 8) (v := ?v_a8) rfl (by kernel_rfl) (by kernel_rfl) (by kernel_rfl) (fun _ _ _ h => h) (Or.inl ⟨by kernel_rfl, ?y_a8⟩) (by assumption) ?r_a8
    case y_a8 => intro wE hSw; obtain ⟨hq, hr, hb⟩ := hSw; have hld1 := run_ldT bigM wE q1 0 cx hq (by rw [hcl, zM_len]); have hld2 := run_ldT bigX wE q2 0 cy hr (by rw [hcyl]; rfl); have hcv := run_str wE hb; clear hq hr hb; go_simp; try with_reducible rfl
    case' r_a8 => ((try simp only [Act.put]); (try simp only [List.setIfInBounds_toArray]); (try simp only [List.set_cons_zero, List.set_cons_succ]))
    refine wpAnyH_take (i := 9) (v := ?v_a9) rfl (by kernel_rfl) (by kernel_rfl) (by kernel_rfl) (fun _ _ _ h => h) (Or.inl ⟨by kernel_rfl, ?y_a9⟩) (by assumption) ?r_a9
    case y_a9 => intro wE hSw; obtain ⟨hq, hr, hb⟩ := hSw; have hld1 := run_ldT bigM wE q1 0 cx hq (by rw [hcl, zM_len]); have hld2 := run_ldT bigX wE q2 0 cy hr (by rw [hcyl]; rfl); have hcv := run_str wE hb; clear hq hr hb; go_simp; try with_reducible rfl
    case' r_a9 => ((try simp only [Act.put]); (try simp only [List.setIfInBounds_toArray]); (try simp only [List.set_cons_zero, List.set_cons_succ]))
    refine wpAnyH_take (i := 10) (v := ?v_a10) rfl (by kernel_rfl) (by kernel_rfl) (by kernel_rfl) (fun _ _ _ h => h) (Or.inl ⟨by kernel_rfl, ?y_a10⟩) (by assumption) ?r_a10
    case y_a10 => intro wE hSw; obtain ⟨hq, hr, hb⟩ := hSw; have hld1 := run_ldT bigM wE q1 0 cx hq (by rw [hcl, zM_len]); have hld2 := run_ldT bigX wE q2 0 cy hr (by rw [hcyl]; rfl); have hcv := run_str wE hb; clear hq hr hb; go_simp; try with_reducible rfl
    case' r_a10 => ((try simp only [Act.put]); (try simp only [List.setIfInBounds_toArray]); (try simp only [List.set_cons_zero, List.set_cons_succ]))
    refine wpAnyH_take (i := 11) (v := ?v_a11) rfl (by kernel_rfl) (by kernel_rfl) (by kernel_rfl) (fun _ _ _ h => h) (Or.inl ⟨by kernel_rfl, ?y_a11⟩) (by assumption) ?r_a11
    case y_a11 => intro wE hSw; obtain ⟨hq, hr, hb⟩ := hSw; have hld1 := run_ldT bigM wE q1 0 cx hq (by rw [hcl, zM_len]); have hld2 := run_ldT bigX wE q2 0 cy hr (by rw [hcyl]; rfl); have hcv := run_str wE hb; clear hq hr hb; go_simp; try with_reducible rfl
    case' r_a11 => ((try simp only [Act.put]); (try simp only [List.setIfInBounds_toArray]); (try simp only [List.set_cons_zero, List.set_cons_succ]))
    refine wpAnyH_take (i := 12) (v := ?v_a12) rfl (by kernel_rfl) (by kernel_rfl) (by kernel_rfl) (fun _ _ _ h => h) (Or.inl ⟨by kernel_rfl, ?y_a12⟩) (by assumption) ?r_a12
    case y_a12 => intro wE hSw; obtain ⟨hq, hr, hb⟩ := hSw; have hld1 := run_ldT bigM wE q1 0 cx hq (by rw [hcl, zM_len]); have hld2 := run_ldT bigX wE q2 0 cy hr (by rw [hcyl]; rfl); have hcv := run_str wE hb; clear hq hr hb; go_simp; try with_reducible rfl
    case' r_a12 => ((try simp only [Act.put]); (try simp only [List.setIfInBounds_toArray]); (try simp only [List.set_cons_zero, List.set_cons_succ]))
    refine wpAnyH_take (i := 14) (v := ?v_a14) rfl (by kernel_rfl) (by kernel_rfl) (by kernel_rfl) (fun _ _ _ h => h) (Or.inl ⟨by kernel_rfl, ?y_a14⟩) (by assumption) ?r_a14
    case y_a14 => intro wE hSw; obtain ⟨hq, hr, hb⟩ := hSw; have hld1 := run_ldT bigM wE q1 0 cx hq (by rw [hcl, zM_len]); have hld2 := run_ldT bigX wE q2 0 cy hr (by rw [hcyl]; rfl); have hcv := run_str wE hb; clear hq hr hb; go_simp; try with_reducible rfl
    case' r_a14 => ((try simp only [Act.put]); (try simp only [List.setIfInBounds_toArray]); (try simp only [List.set_cons_zero, List.set_cons_succ]))
    refine wpAnyH_ready (rs := [13]) (by kernel_rfl) (by simp) ?_
    refine AllReadyH.cons rfl (fun KB hKB => ?_) AllReadyH.nil
    rw [if_pos (by kernel_rfl)]
    go_simp
    go_at_call 14
    refine (HFR.out _ hdr).mono ?_
    rintro e wc ⟨z2, rfl, hzm2, hzA2, hB6'⟩
    try go_simp
    have hB6 := hdr.trans (hB6'.mono hdr.size)
    refine hKB.out _ _ (hSk.out _ hB6) (fun hHeld => ?_)
    clear hKB KB
    refine wpAnyH_ready (rs := [15]) (by kernel_rfl) (by simp) ?_
    refine AllReadyH.cons rfl (fun KC hKC => ?_) AllReadyH.nil
    rw [if_pos (by kernel_rfl)]
    go_simp
    go_at_call 13
    refine (HSM.out z2 _ hB6 hzm2 hzA2).mono ?_
    rintro e wd ⟨rfl, hB7'⟩
    try go_simp
    have hB7 := hB6.trans (hB7'.mono hB6.size)
    refine hKC.out _ _ (hSk.out _ hB7) (fun hHeld => ?_)
    clear hKC KC
    refine wpAnyH_take (i := 16) (v := ?v_b16) rfl (by kernel_rfl) (by kernel_rfl) (by kernel_rfl) (fun _ _ _ h => h) (Or.inl ⟨by kernel_rfl, ?y_b16⟩) (by assumption) ?r_b16
    case y_b16 => intro wE hSw; obtain ⟨hq, hr, hb⟩ := hSw; have hld1 := run_ldT bigM wE q1 0 cx hq (by rw [hcl, zM_len]); have hld2 := run_ldT bigX wE q2 0 cy hr (by rw [hcyl]; rfl); have hcv := run_str wE hb; clear hq hr hb; go_simp; try with_reducible rfl
    case' r_b16 => ((try simp only [Act.put]); (try simp only [List.setIfInBounds_toArray]); (try simp only [List.set_cons_zero, List.set_cons_succ]))
    refine wpAnyH_take (i := 17) (v := ?v_b17) rfl (by kernel_rfl) (by kernel_rfl) (by kernel_rfl) (fun _ _ _ h => h) (Or.inl ⟨by kernel_rfl, ?y_b17⟩) (by assumption) ?r_b17
    case y_b17 => intro wE hSw; obtain ⟨hq, hr, hb⟩ := hSw; have hld1 := run_ldT bigM wE q1 0 cx hq (by rw [hcl, zM_len]); have hld2 := run_ldT bigX wE q2 0 cy hr (by rw [hcyl]; rfl); have hcv := run_str wE hb; clear hq hr hb; go_simp; try with_reducible rfl
    case' r_b17 => ((try simp only [Act.put]); (try simp only [List.setIfInBounds_toArray]); (try simp only [List.set_cons_zero, List.set_cons_succ]))
    refine wpAnyH_done (by kernel_rfl) ?_ _
    generalize z2.C.toArray = zc at *
    have HB := Lib.hid (HBW.out.trans (hB7.mono HBW.out.size))
    clear hB7 hB7' hB6 hB6' hdr hzA2 hzm2 hHeld
    try go_simp
    go_wp2_with fail
    go_ret
    exact ⟨rfl, HB.out⟩
end Go.Proofs.Ytanghmpphlmpkaa

