/- The walk of MsgCut. -/
import Derived.Test.YtanghmpphlmpkaaMsgL
namespace Go.Proofs.Ytanghmpphlmpkaa
open Go.RowKit
theorem umodC (x : Int) (m : Nat) (h0 : 0 < m) (h : m ≤ 100000) : ∃ q : Nat, q < m ∧ wrap64 ((IntKind.u64.wrap x).tmod m) = (q : Int) ∧ IntKind.i64.wrap ((IntKind.u64.wrap x).tmod m) = (q : Int) := by
  have h1 : 0 ≤ (IntKind.u64.wrap x).tmod m := by rw [IntKind.wrap_u64]; exact Int.tmod_nonneg _ (by omega)
  have h2 : (IntKind.u64.wrap x).tmod m < m := by rw [IntKind.wrap_u64]; exact Int.tmod_lt_of_pos _ (by omega)
  refine ⟨((IntKind.u64.wrap x).tmod m).toNat, by omega, ?_, ?_⟩
  · rw [IntWalk.wrap64_in _ (by omega)]; omega
  · rw [IntKind.wrap_i64]; omega
set_option linter.unusedVariables false
attribute [local go_sem ↓] alT_M stT_M ldT_M alT_X stT_X ldT_X
set_option maxRecDepth 100000 in
set_option maxHeartbeats 8000000 in
theorem msgCut_walk (v : Value) (x : FV) (a c : Int) (w : World) (hv : InFV w v x) (_ : (Lit.int .i64 a).wf = true) (hc : (Lit.int .u8 c).wf = true) :
    Calls Try.prog 5 #[v, .int .i64 a, .int .u8 c] w fun e w' => e = .returned (.bool true) ∧ Below w.heap.size w w' := by
  obtain ⟨rfl, hxA, hln, hnil⟩ := hv
  have htm := fun w' (hb : Below w.heap.size w w') => tame_any x w' (hxA.keep hb) hln hnil
  have hbx : (w.alloc (.cells x.C.toArray 28)).rangeAt w.heap.size 0 x.C := rangeAt_alloc_new _ _ _
  have htx : (w.alloc (.cells x.C.toArray 28)).there w.heap.size 0 11 := there_new w x.C 28
  have hld0 := run_ldT bigX (w.alloc (.cells x.C.toArray 28)) w.heap.size 0 x.C hbx rfl
  have hA1 : Below w.heap.size w (w.alloc (.cells x.C.toArray 28)) := (Below.refl _ _).alloc (Nat.le_refl _) _
  have hs1 : (w.alloc (.cells x.C.toArray 28)).heap.size = w.heap.size + 1 := by simp
  clear hnil hln hxA
  generalize x.C = cx at *
  go_enter Try.func5, Try.ntmps5
  go_wp2_with fail
  generalize hw1 : w.alloc (.cells cx.toArray 28) = w1 at *
  refine (htm _ hA1).mono ?_
  rintro e w2 ⟨y, rfl, hyA, hyB, hyS, hyK, hyN, hyG, hB2⟩
  have ht2 := there_only htx (Only.of_below (S := fun _ => False) hB2) (fun h => h)
  have hst := run_stT bigX w2 w.heap.size 0 y.C ht2 rfl (FV.C_one hyA)
  have hr3 := World.rangeAt_setCells_same w2 w.heap.size 0 y.C ht2
  have ho3 := Only.setCells1 (b := w.heap.size) y.C 0 w2
  have hyA3 := hyA.only hyG ho3 (fun k hk => by omega)
  have hB3 : Below w.heap.size w (w2.setCells w.heap.size 0 y.C) := Go.Proofs.Ytanghmpphlmpkaa.Below.setCells (Nat.le_refl _) _ 0 (hA1.trans (hB2.mono hA1.size))
  have hld3 := run_ldT bigX (w2.setCells w.heap.size 0 y.C) w.heap.size 0 y.C hr3 rfl
  have hto := to_any y _ hyA3 hyB hyK hyN
  have hyl : y.C.length = 11 := rfl
  generalize hcy : y.C = cy at *
  have HCY := Lib.hid hcy
  clear hcy htm hbx htx hld0 hA1 hB2 ht2 ho3 hyA hw1 hyG hyN
  go_wp2_with fail
  generalize w2.setCells w.heap.size 0 cy = w3 at *
  refine hto.mono ?_
  rintro e w4 ⟨z, rfl, hzm, hzA, hB4⟩
  have hwr := mwrite_any z w4 hzA
  rw [hzm] at hwr
  have hyA4 := hyA3.keep hB4
  have hr4 := rangeAt_keep hr3 hB4
  have hB4w := hB3.trans (hB4.mono hB3.size)
  generalize z.C.toArray = cz at *
  clear hto hst hld3 hr3 hyA3 hB3 hB4 hzA hzm
  go_wp2_with fail
  refine hwr.mono ?_
  rintro e w5 ⟨hzo, hB5'⟩
  have hyA5 := hyA4.keep hB5'
  have hr5 := rangeAt_keep hr4 hB5'
  have hB5 := hB4w.trans (hB5'.mono hB4w.size)
  have hld5 := run_ldT bigX w5 w.heap.size 0 cy hr5 (by rw [hyl]; rfl)
  have hfw : ∀ w', Below w5.heap.size w5 w' → Calls Try.prog 9 #[.agg cy.toArray] w' fun e w'' => e = .returned (FOut y.m) ∧ Below w'.heap.size w' w'' := fun w' hb => by
    rw [← HCY.out]; exact fwrite_any y w' (hyA5.keep hb) hyB hyK
  clear hwr hyA4 hr4 hB5' hB4w hr5
  clear hfw hld5 hyA5
  cases hok : okM y.m with
  | false =>
    rw [hok] at hzo
    rcases hzo with ⟨h, _⟩ | ⟨_, rfl⟩
    · cases h
    have HB5 := Lib.hid hB5
    clear hB5 hyS hyK
    go_wp2_with fail
    refine (says_any w5).mono ?_
    rintro e w6 ⟨rfl, hB6⟩
    have HB6 := Lib.hid hB6
    clear hB6
    go_wp2_with fail
    refine (says_any w6).mono ?_
    rintro e w7 ⟨rfl, hB7⟩
    have HB := Lib.hid ((HB5.out.trans (HB6.out.mono HB5.out.size)).trans (hB7.mono (Nat.le_trans HB5.out.size HB6.out.size)))
    clear hB7
    go_wp2_with fail
    go_ret
    exact ⟨rfl, HB.out⟩
  | true =>
    rw [hok] at hzo
    rcases hzo with ⟨_, bv1, rfl, hob⟩ | ⟨h, _⟩
    rotate_left
    · cases h
    have hbl := hyS.len hyK
    have hpos := bytes_pos hok
    have hcut := fun n hn => read_cut hok hyK (n := n) hn
    have hmore := fun c => read_more hok hyK (c := c)
    generalize bytesM y.m = bs at *
    obtain ⟨bo, bc, hbv⟩ := hob.bsl.shape
    subst hbv
    obtain ⟨q, hq, hqe, hqe2⟩ := umodC a bs.length hpos hbl
    have HB5 := Lib.hid (And.intro hB5 hob.bsl)
    clear hB5 hyS hob
    go_wp2_with fail
    refine (says_any w5).mono ?_
    rintro e w6 ⟨rfl, hB6⟩
    have hBw6 := HB5.out.1.trans (hB6.mono HB5.out.1.size)
    have hbs6 := HB5.out.2.keep hB6
    have hqb : (q : Int) ≤ bc := by have := hbs6.len; omega
    have hbt := hbs6.take (m := q) (by omega)
    have hr6 := mread_u _ (bs.take q) w6 hbt (by rw [List.length_take]; omega)
    rw [hcut q hq] at hr6
    have hu64 : (IntKind.u64.wrap (bs.length : Int)) = (bs.length : Int) := by rw [IntKind.wrap_u64]; omega
    have hbn0 : ¬ (bs.length : Int) = 0 := by omega
    have hal := fun w => run_alT bigM w
    have HQ6 := Lib.hid (And.intro hBw6 hbs6)
    clear hB6 hBw6 hbs6 hbt hcut HB5
    go_wp2_with fail
    refine hr6.mono ?_
    rintro e w7 ⟨x7, er7, rfl, hx7, h7, hB7⟩
    rcases h7 with ⟨h7, _⟩ | ⟨_, rfl, rfl⟩
    · cases h7
    have hst7 := run_stT bigM (w7.alloc (.cells zM.toArray 41)) w7.heap.size 0 (mv0 0 0 0).C (by rw [mv0_len, ← zM_len]; exact there_new _ _ _) (by rw [mv0_len, zM_len]) (mv0_one 0 0 0)
    obtain ⟨hr8, hB8, hs8, _⟩ := var_new w7 zM (mv0 0 0 0).C 41 (by rw [mv0_len, zM_len])
    have hB78 := hB7.trans (hB8.mono hB7.size)
    have hbs8 := HQ6.out.2.keep hB78
    have hBw8 := HQ6.out.1.trans (hB78.mono HQ6.out.1.size)
    have c7 := (MV.range hr8 z32_len).1.1
    generalize hcz : (mv0 0 0 0).C = cz at *
    have HCZ := Lib.hid hcz
    have hs7 := hB7.size
    clear hcz hr6 hx7 hr8 hB7 hB8 hB78
    go_upto_region 7 with (fail)
    generalize (w7.alloc (.cells zM.toArray 41)).setCells w7.heap.size 0 cz = w8 at *
    generalize hq1 : w7.heap.size = q1 at *
    clear hst7
    have hql1 : q1 < w8.heap.size := by omega
    clear hs8
    have hcb : 0 ≤ c ∧ c ≤ 255 := by
      have h := hc
      simp only [Lit.wf, IntKind.min, IntKind.max, IntKind.signed, IntKind.bits, Bool.and_eq_true] at h
      simp at h; omega
    have hA9 : Below w8.heap.size w8 (w8.alloc (.cells #[] 5)) := (Below.refl _ _).alloc (Nat.le_refl _) _
    have hown : OB (w8.alloc (.cells #[] 5)) w8.heap.size (.slice (some ⟨w8.heap.size, 0, none⟩) 0 0) [] := World.ownsRow_made w8 #[] 0 (Nat.le_refl _) (by decide) rfl
    have hbs9 := hbs8.keep hA9
    have hln9 : ([] : List UInt8).length + bs.length ≤ 140737488355328 := by simp; omega
    have hge9 := hA9.size
    have HW8 := Lib.hid hBw8
    clear hBw8 hbs8
    go_wp2_with (at_builtin; refine wp_app rfl _ _ rfl w8.heap.size _ _ _ _ rfl rfl hown hbs9 hln9 hge9 ?_)
    intro v9 w9 ho9 hg9 hn9
    obtain ⟨o9, c9, hv9, _⟩ := ho9.val
    subst hv9
    have hB9 : Below w8.heap.size w8 w9 := hA9.grown hg9 hA9.size (fun k hk => hown.own_ge k hk)
    have hone := Bsl.one w9 c hcb
    have hA10 : Below w9.heap.size w9 (w9.alloc (.cells #[.int .u8 c] 5)) := (Below.refl _ _).alloc (Nat.le_refl _) _
    have ho9A := ho9.keep hA10
    have hln10 : bs.length + [UInt8.ofNat c.toNat].length ≤ 140737488355328 := by simp; omega
    have hge10 := Nat.le_trans hB9.size hA10.size
    have hB9A := hB9.trans (hA10.mono hB9.size)
    clear hown hbs9 hln9 hge9 hA9 hg9 hn9 ho9
    go_wp2_with (at_builtin; refine wp_app rfl _ _ rfl w8.heap.size _ _ _ _ rfl rfl ho9A hone hln10 hge10 ?_)
    intro v10 w10 ho10 hg10 hn10
    have hB10 : Below w8.heap.size w8 w10 := hB9A.grown hg10 hB9A.size (fun k hk => ho9A.own_ge k hk)
    have hr10 := mread_u v10 (bs ++ [UInt8.ofNat c.toNat]) w10 ho10.bsl (by rw [List.length_append]; simp; omega)
    rw [hmore] at hr10
    have hHB := Lib.hid hB10
    clear hone ho9A hln10 hge10 hB9A hB9 hA10 hg10 hn10 ho10 hB10 hmore
    go_wp2_with fail
    refine hr10.mono ?_
    rintro e w11 ⟨x8, er8, rfl, hx8, h8, hB11⟩
    rcases h8 with ⟨h8, _⟩ | ⟨_, rfl, rfl⟩
    · cases h8
    have hst12 := run_stT bigM (w11.alloc (.cells zM.toArray 41)) w11.heap.size 0 (mv0 0 0 0).C (by rw [mv0_len, ← zM_len]; exact there_new _ _ _) (by rw [mv0_len, zM_len]) (mv0_one 0 0 0)
    obtain ⟨hr12, hB12, hs12, _⟩ := var_new w11 zM (mv0 0 0 0).C 41 (by rw [mv0_len, zM_len])
    have hB8_12 := (hHB.out.trans (hB11.mono hHB.out.size)).trans (hB12.mono (Nat.le_trans hHB.out.size hB11.size))
    have c12 := (MV.range hr12 z32_len).1.1
    have c7' := (hB8_12.cell (p := ⟨q1, 0, none⟩) hql1).trans c7
    have HB := Lib.hid (HW8.out.trans (hB8_12.mono HW8.out.size))
    generalize (mv0 0 0 0).C = cz2 at *
    clear hB8_12 hr12 hB12 hB11 hHB HW8 hr10 hx8 c7
    go_wp2_with fail
    go_ret
    exact ⟨rfl, HB.out⟩
end Go.Proofs.Ytanghmpphlmpkaa

