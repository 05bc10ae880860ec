/- The law CodecTakes. -/
import Derived.Test.YtinpeieecodijaaInLaw
import Derived.Test.YtinpeieecodijaaRefIn
import Derived.Test.YtinpeieecodijaaRefCodec
import Derived.Test.YtinpeieecodijaaOpenRows
import Derived.Deep.CutBlock
import Derived.Deep.DeepCutAuto
import Derived.Deep.RegionLaw
import Derived.Laws.BitsAllLaws
namespace Go.Proofs.Ytinpeieecodijaa
open Go.RowKit
def intC (y : Int) : List Value := [.int .i64 y]
/-- v is a slice of the ints ys. -/
def IntsAt (w : World) (v : Value) (ys : List Int) : Prop := RowsAt w v 1 intC ys ∧ ∀ y ∈ ys, -9223372036854775808 ≤ y ∧ y ≤ 9223372036854775807
theorem open_intlist {H : Type} {enc : TypeId × Value → H} {W : World} {a : Option Addr} {len cap : Nat} {d : DataW H} {p : List MemPlace}
    (h : DataW.Trod enc Try.prog W 0 (fun _ => true) true 50 (.slice a len cap) d p) : ∃ ys, IntsAt W (.slice a len cap) ys := by
  refine open_rows Try.underlying50 (n := 1) (by kernel_rfl) (by omega) intC _ ?_ h
  intro fuel cs x hlen ht
  obtain ⟨k0, h0, _, w0⟩ := DataW.trod_int Try.underlying3 ht
  exact ⟨k0, h0, int_of_wf w0⟩
theorem IK.fix_len {d : IK} {n : Int} : (d.fixS n).b.length ≤ d.b.length := by
  unfold IK.fixS; split
  · exact Nat.le_refl _
  · split
    · exact Nat.le_refl _
    · simp
theorem IK.num_len {d : IK} {k : Nat} {n : Int} : (d.numS k n).b.length ≤ d.b.length := by
  unfold IK.numS; split
  · exact Nat.le_refl _
  · split
    · simp
    · exact Nat.le_refl _
theorem IK.byt_len {d : IK} {n : Int} : (d.bytS n).b.length ≤ d.b.length := by
  unfold IK.bytS; split
  · exact Nat.le_refl _
  · split
    · exact Nat.le_refl _
    · split
      · exact Nat.le_refl _
      · simp
theorem xor85 (c : UInt8) : bits BinOp.xor IntKind.u8 (c.toNat : Int) 85 = ((c ^^^ 85).toNat : Int) := by
  have := u8_xor_nat c.toNat 85 c.toNat_lt (by omega)
  rw [UInt8.toNat_xor]; exact this
set_option maxRecDepth 100000 in
set_option maxHeartbeats 1000000 in
theorem codecTakes_walk (v : Value) (l : List UInt8) (kv : Value) (ks : List UInt8) (mv : Value) (ms : List Int) (w : World) (hb : Bsl w v l) (hkb : Bsl w kv ks) (hmb : IntsAt w mv ms) :
    Calls Try.prog 7 #[v, kv, mv] w fun e w' => e = .returned (.bool true) ∧ Below w.heap.size w w' := by
  obtain ⟨ao, cap, rfl, hlc, hcm, hnil, hne⟩ := id hb
  obtain ⟨kao, kcap, rfl, hklc, hkcm, hknil, hkne⟩ := id hkb
  obtain ⟨⟨mao, mcap, rfl, hmlc, hmcm, hmnil, hmne⟩, hmall⟩ := id hmb
  obtain ⟨na, hna⟩ : ∃ k, k = min l.length 400 := ⟨_, rfl⟩
  have eA : (if (400:Int) < (l.length:Int) then 400 else (l.length:Int)) = (na : Int) := by split <;> omega
  have ta := hb.take (m := na) (by omega)
  have tal : (l.take na).length = na := by simp; omega
  have qa : na ≤ l.length ∧ na ≤ 400 := by omega
  clear hna hnil hne hknil hmnil hmb hb
  generalize l.take na = t at ta tal
  subst tal
  have r1 : (t.length : Int) ≤ cap := by omega
  have hbel : Below w.heap.size w (w.alloc (.cells #[] 5)) := (Below.refl _ _).alloc (Nat.le_refl _) _
  have hown : OB (w.alloc (.cells #[] 5)) w.heap.size (.slice (some ⟨w.heap.size, 0, none⟩) 0 0) [] := World.ownsRow_made w #[] 0 (Nat.le_refl _) (by decide) rfl
  go_enter Try.func7, Try.ntmps7
  go_wp2_with (at_builtin; refine wp_app rfl _ _ rfl w.heap.size _ _ _ t rfl rfl hown (ta.keep hbel) (by simp; omega) (by simp) ?_; intro v1 w1 hown1 hg1 hn1; clear hn1)
  have hB1 : Below w.heap.size w w1 := hbel.grown hg1 (by simp) hown.own_ge
  rw [List.nil_append] at hown1
  clear hg1 hown hbel ta eA r1
  refine (codes_any w1).mono ?_
  rintro e w2 ⟨rfl, hB2'⟩
  have hB2 := hB1.trans (hB2'.mono hB1.size)
  have hown2 := hown1.keep hB2'
  clear hown1 hB1 hB2'
  go_wp2_with fail
  refine (inum_nil 1 w2).mono ?_
  rintro e w3 ⟨rfl, rfl⟩
  go_wp2_with fail
  refine (ismall_nil 1 w2).mono ?_
  rintro e w3 ⟨rfl, rfl⟩
  go_wp2_with fail
  refine (ifixed_nil 1 w2).mono ?_
  rintro e w3 ⟨rfl, rfl⟩
  go_wp2_with fail
  refine (ibytes_nil 1 w2).mono ?_
  rintro e w3 ⟨rfl, rfl⟩
  go_wp2_with fail
  refine (iend_nil w2).mono ?_
  rintro e w3 ⟨rfl, rfl⟩
  have hst := run_str w2 hown2.bsl
  go_wp2_with fail
  clear hst
  have hA : Below w2.heap.size w2 (w2.alloc (.cells #[.string ⟨t.toArray⟩, .int .i64 0] 53)) := (Below.refl _ _).alloc (Nat.le_refl _) _
  have hR : RInAt (w2.alloc (.cells #[.string ⟨t.toArray⟩, .int .i64 0] 53)) w2.heap.size ⟨t, 0⟩ := ⟨⟨World.cell?_alloc_new w2 _ _ 0, World.cell?_alloc_new w2 _ _ 1⟩, by simp, by simp⟩
  have hownA := hown2.keep hA
  have hBA := hB2.trans (hA.mono hB2.size)
  have hprB : w.heap.size ≤ w2.heap.size := hB2.size
  have hvr : ∀ k, v1.ownBlock = some k → k ≠ w2.heap.size := fun k hk e => by have := hown2.own_lt k hk; omega
  clear hA hB2 hown2
  generalize w2.alloc (.cells #[.string ⟨t.toArray⟩, .int .i64 0] 53) = wA at *
  generalize w2.heap.size = pr at *
  refine (iof_any v1 t wA hownA.bsl (by omega)).mono ?_
  rintro e w4 ⟨pi, gi, rfl, hI, hpi, hgi, hB4'⟩
  have hB4 := hBA.trans (hB4'.mono hBA.size)
  have hown4 := hownA.keep hB4'
  have hR4 := hR.keep hB4'
  have hrl := hR.lt
  have hvi : ∀ k, v1.ownBlock = some k → k ≠ pi ∧ gi ≠ some k := fun k hk => by
    have := hownA.own_lt k hk
    exact ⟨fun e => by omega, fun e => by have := hgi k e; omega⟩
  have hvB := hown4.own_ge
  have hpiB : w.heap.size ≤ pi := Nat.le_trans hBA.size hpi
  have hgiB : ∀ k, gi = some k → k ≠ pr := fun k hk e => by have := hgi k hk; omega
  have hpip : pi ≠ pr := fun e => by omega
  clear hR hownA hBA hB4'
  go_upto_region 7 with (fail)
  go_upto_block 0 with (fail)
  go_cut [10] (fun _ wx => InAt wx pi gi ⟨t, 0⟩ ∧ RInAt wx pr ⟨t, 0⟩ ∧ Below w.heap.size w wx)
  case first =>
    go_wp2_with fail
    obtain ⟨vo, vc, hvv, hvz⟩ := OB.val hown4
    clear hvz
    subst hvv
    go_loopw [10] (fun iv wr => ∃ (r : Nat) (l' : List UInt8), r ≤ t.length ∧ iv = .int .i64 r ∧ l'.length = t.length ∧ OB wr w.heap.size (.slice vo t.length vc) l' ∧ InAt wr pi gi ⟨t, 0⟩ ∧ RInAt wr pr ⟨t, 0⟩ ∧ Below w.heap.size w wr) (fun iv _ => t.length - (intOf iv).toNat)
    case atStart => exact ⟨0, t, by omega, rfl, rfl, hown4, hI, hR4, hB4⟩
    case round =>
      clear hown4 hI hR4 hB4
      obtain ⟨r, l', hr, rfl, hl', ho, hI, hR, hB⟩ := hrel
      by_cases hlt : r < t.length
      · have hlt8 : (r : Int) < t.length := by omega
        obtain ⟨g, c, hs, hz1, hgl, hz2, hz3⟩ := ho.shape (by intro e; rw [e] at hl'; simp at hl'; omega)
        simp only [Value.slice.injEq] at hs
        obtain ⟨rfl, hz4, rfl⟩ := hs
        clear hz1 hz4
        have hc := ho.cell (by omega) (j := r) (by omega)
        have hf := ho.free (by omega) r
        have hset := ho.set (by omega) r (l'.getD r 0 ^^^ 85)
        have hgg := hvi g (by simp [Value.ownBlock])
        have hgr := hvr g (by simp [Value.ownBlock])
        have hx := xor85 (l'.getD r 0)
        have hon : Only (· = g) wr (wr.setCell ⟨g, r, none⟩ (.int .u8 ((l'.getD r 0 ^^^ 85).toNat : Int))) := Only.setCell (S := (· = g)) (Only.refl _ _) (p := ⟨g, r, none⟩) (fun _ => rfl) _
        have hI2 := hI.only hon (fun e => hgg.1 e.symm) (fun k hk e => hgg.2 (by rw [hk, e]))
        have hR2 := hR.only hon (fun e => hgr e.symm)
        have hB2 := hB.trans (hon.to_below hB.size (fun k hk => by subst hk; exact hvB k (by simp [Value.ownBlock])))
        generalize (l'.getD r 0 ^^^ 85) = c2 at *
        generalize l'.getD r 0 = c1 at *
        have HX := Lib.hid hx
        have hlen2 : (l'.set r c2).length = t.length := by rw [List.length_set]; exact hl'
        clear ho hI hR hB hon hx
        go_wp2_with fail
        rw [HX.out]
        exact ⟨⟨r + 1, l'.set r c2, by omega, rfl, hlen2, hset, hI2, hR2, hB2⟩, by simp [intOf]; omega⟩
      · have hlt8 : ¬ ((r : Int) < t.length) := by omega
        go_wp2_with fail
        go_meet
        exact ⟨hI, hR, hB⟩
  case rest =>
    clear hown4 hI hR4 hB4
    obtain ⟨hI0, hR0, hB0⟩ := hcut
    go_upto_region 11 with (fail)
    go_upto_block 2 with (fail)
    go_cut [11, 12, 13] (fun _ _ _ wx => ∃ d : IK, InAt wx pi gi d ∧ RInAt wx pr d ∧ Below w.heap.size w wx)
    case first =>
      go_wp2_with fail
      go_loopw [11] (fun iv wr => ∃ (r : Nat) (d : IK), r ≤ ks.length ∧ r ≤ 30 ∧ iv = .int .i64 r ∧ InAt wr pi gi d ∧ RInAt wr pr d ∧ d.b.length ≤ 400 ∧ Below w.heap.size w wr) (fun iv _ => 30 - (intOf iv).toNat)
      case atStart => exact ⟨0, ⟨t, 0⟩, by omega, by omega, rfl, hI0, hR0, qa.2, hB0⟩
      case round =>
        clear hI0 hR0 hB0
        obtain ⟨r, d, hr1, hr2, rfl, hI, hR, hdl, hB⟩ := hrel
        have hrlw := hR.lt
        by_cases hlt : r < ks.length
        · have hlt8 : (r : Int) < ks.length := by omega
          by_cases hlt2 : r < 30
          · have hlt9 : (r : Int) < 30 := by omega
            obtain ⟨kb, koff, rfl, hkc⟩ := hkne (by intro e; simp [e] at hlt)
            have ck0 := hkc r hlt
            have hkbl : kb < w.heap.size := World.block_lt_of_cell? w _ ck0
            have ck := (hB.cell (p := ⟨kb, koff + r, none⟩) hkbl).trans ck0
            clear hkc hkne ck0
            have hk8 := UInt8.toNat_lt (ks.getD r 0)
            generalize (ks.getD r 0).toNat = kc at *
            by_cases hm : r < ms.length
            · have hm8 : (r : Int) < ms.length := by omega
              obtain ⟨mb, moff, rfl, hmc⟩ := hmne (by intro e; simp [e] at hm)
              have cm0 : w.cell? ⟨mb, moff + r, none⟩ = some (.int .i64 ms[r]) := by have := hmc r hm 0 (by omega); rw [Nat.mul_one] at this; exact this
              have hmm := hmall _ (List.getElem_mem hm)
              have hmbl : mb < w.heap.size := World.block_lt_of_cell? w _ cm0
              have cm := (hB.cell (p := ⟨mb, moff + r, none⟩) hmbl).trans cm0
              clear hmc hmne cm0
              generalize ms[r] = m at *
              go_upto_region 17 with (fail)
              have hk : (kc : Int) % 4 = 0 ∨ (kc : Int) % 4 = 1 ∨ (kc : Int) % 4 = 2 ∨ (kc : Int) % 4 = 3 := by omega
              have htm : (kc : Int).tmod 4 = (kc : Int) % 4 := Int.tmod_eq_emod_of_nonneg (by omega)
              rcases hk with hk | hk | hk | hk
              · rw [hk] at htm
                go_wp2_with fail
                refine (inum_any m wr hI (by omega)).mono ?_
                rintro e w6 ⟨rfl, hI6, hon6⟩
                have hR6 := hR.only hon6 (fun e => hpip e.symm)
                have hB6 := hB.trans (hon6.to_below hB.size (fun k hk => by omega))
                clear hI hR hB hon6
                go_wp2_with fail
                refine (rnum_any m hmm w6 hR6 (by omega)).mono ?_
                rintro e w7 ⟨rfl, hR7, hon7⟩
                have hI7 := hI6.only hon7 hpip (fun k hk e => hgiB k hk e)
                have hB7 := hB6.trans (hon7.to_below hB6.size (fun k hk => by omega))
                have hl7 : (d.numS 8 m).b.length ≤ 400 := Nat.le_trans IK.num_len hdl
                generalize d.numN 8 m = N at *
                generalize d.numS 8 m = d7 at *
                clear hI6 hR6 hB6 hon7
                go_wp2_with fail
                go_roundw
                case rel => exact ⟨r + 1, d7, by omega, by omega, rfl, hI7, hR7, hl7, hB7⟩
                case measure => simp [intOf]; omega
              · rw [hk] at htm
                go_wp2_with fail
                refine (ismall_any m wr hI (by omega)).mono ?_
                rintro e w6 ⟨rfl, hI6, hon6⟩
                have hR6 := hR.only hon6 (fun e => hpip e.symm)
                have hB6 := hB.trans (hon6.to_below hB.size (fun k hk => by omega))
                clear hI hR hB hon6
                go_wp2_with fail
                refine (rsmall_any m hmm w6 hR6 (by omega)).mono ?_
                rintro e w7 ⟨rfl, hR7, hon7⟩
                have hI7 := hI6.only hon7 hpip (fun k hk e => hgiB k hk e)
                have hB7 := hB6.trans (hon7.to_below hB6.size (fun k hk => by omega))
                have hl7 : (d.numS 1 m).b.length ≤ 400 := Nat.le_trans IK.num_len hdl
                generalize d.numN 1 m = N at *
                generalize d.numS 1 m = d7 at *
                clear hI6 hR6 hB6 hon7
                go_wp2_with fail
                go_roundw
                case rel => exact ⟨r + 1, d7, by omega, by omega, rfl, hI7, hR7, hl7, hB7⟩
                case measure => simp [intOf]; omega
              · rw [hk] at htm
                go_wp2_with fail
                have hI := InAt.keep (w := wr) hI ((Below.refl _ _).drew)
                have hR := RInAt.keep (w := wr) hR ((Below.refl _ _).drew)
                have hB := hB.drew
                have hl7 : (d.fixS m).b.length ≤ 400 := Nat.le_trans IK.fix_len hdl
                go_region_law (first
                  | (go_simp; go_at_call 27; refine (ifixed_any m _ hI (by omega)).mono ?_; rintro e wA ⟨vA, rfl, hoA, hI, hon⟩; have hR := hR.only hon (fun e => hpip e.symm); have hB := hB.trans (hon.to_below hB.size (fun k hk => by omega)); have hstA := run_str wA hoA.bsl; have hge := hoA.own_ge)
                  | (go_simp; go_at_call 30; refine (rfixed_any m _ hR (by omega)).mono ?_; rintro e wB ⟨rfl, hR, hon⟩; have hI := hI.only hon hpip (fun k hk e => hgiB k hk e); have hB := hB.trans (hon.to_below hB.size (fun k hk => by omega)); (try (have hoB := hoA.only hon (fun k hk e => by have h1 := hge k hk; have h2 : pr < wr.drew.heap.size := hrlw; omega); have hstB := run_str wB hoB.bsl)); unfold strV))
                all_goals
                  go_wp2_with fail
                  go_roundw
                  case rel => exact ⟨r + 1, d.fixS m, by omega, by omega, rfl, hI, hR, hl7, hB⟩
                  case measure => simp [intOf]; omega
              · rw [hk] at htm
                go_wp2_with fail
                have hI := InAt.keep (w := wr) hI ((Below.refl _ _).drew)
                have hR := RInAt.keep (w := wr) hR ((Below.refl _ _).drew)
                have hB := hB.drew
                have hl7 : (d.bytS m).b.length ≤ 400 := Nat.le_trans IK.byt_len hdl
                go_region_law (first
                  | (go_simp; go_at_call 25; refine (ibytes_any m _ hI (by omega)).mono ?_; rintro e wA ⟨vA, rfl, hoA, hI, hon⟩; have hR := hR.only hon (fun e => hpip e.symm); have hB := hB.trans (hon.to_below hB.size (fun k hk => by omega)); have hstA := run_str wA hoA.bsl; have hge := hoA.own_ge)
                  | (go_simp; go_at_call 31; refine (rbytes_any m hmm _ hR (by omega)).mono ?_; rintro e wB ⟨rfl, hR, hon⟩; have hI := hI.only hon hpip (fun k hk e => hgiB k hk e); have hB := hB.trans (hon.to_below hB.size (fun k hk => by omega)); (try (have hoB := hoA.only hon (fun k hk e => by have h1 := hge k hk; have h2 : pr < wr.drew.heap.size := hrlw; omega); have hstB := run_str wB hoB.bsl)); unfold strV))
                all_goals
                  go_wp2_with fail
                  go_roundw
                  case rel => exact ⟨r + 1, d.bytS m, by omega, by omega, rfl, hI, hR, hl7, hB⟩
                  case measure => simp [intOf]; omega
            · have hm8 : ¬ ((r : Int) < ms.length) := by omega
              clear hmne
              go_upto_region 17 with (fail)
              obtain ⟨m, hme⟩ : ∃ m : Int, m = 1099511627776 := ⟨_, rfl⟩
              rw [← hme]
              have hmm : -9223372036854775808 ≤ m ∧ m ≤ 9223372036854775807 := by omega
              clear hme
              have hk : (kc : Int) % 4 = 0 ∨ (kc : Int) % 4 = 1 ∨ (kc : Int) % 4 = 2 ∨ (kc : Int) % 4 = 3 := by omega
              have htm : (kc : Int).tmod 4 = (kc : Int) % 4 := Int.tmod_eq_emod_of_nonneg (by omega)
              rcases hk with hk | hk | hk | hk
              · rw [hk] at htm
                go_wp2_with fail
                refine (inum_any m wr hI (by omega)).mono ?_
                rintro e w6 ⟨rfl, hI6, hon6⟩
                have hR6 := hR.only hon6 (fun e => hpip e.symm)
                have hB6 := hB.trans (hon6.to_below hB.size (fun k hk => by omega))
                clear hI hR hB hon6
                go_wp2_with fail
                refine (rnum_any m hmm w6 hR6 (by omega)).mono ?_
                rintro e w7 ⟨rfl, hR7, hon7⟩
                have hI7 := hI6.only hon7 hpip (fun k hk e => hgiB k hk e)
                have hB7 := hB6.trans (hon7.to_below hB6.size (fun k hk => by omega))
                have hl7 : (d.numS 8 m).b.length ≤ 400 := Nat.le_trans IK.num_len hdl
                generalize d.numN 8 m = N at *
                generalize d.numS 8 m = d7 at *
                clear hI6 hR6 hB6 hon7
                go_wp2_with fail
                go_roundw
                case rel => exact ⟨r + 1, d7, by omega, by omega, rfl, hI7, hR7, hl7, hB7⟩
                case measure => simp [intOf]; omega
              · rw [hk] at htm
                go_wp2_with fail
                refine (ismall_any m wr hI (by omega)).mono ?_
                rintro e w6 ⟨rfl, hI6, hon6⟩
                have hR6 := hR.only hon6 (fun e => hpip e.symm)
                have hB6 := hB.trans (hon6.to_below hB.size (fun k hk => by omega))
                clear hI hR hB hon6
                go_wp2_with fail
                refine (rsmall_any m hmm w6 hR6 (by omega)).mono ?_
                rintro e w7 ⟨rfl, hR7, hon7⟩
                have hI7 := hI6.only hon7 hpip (fun k hk e => hgiB k hk e)
                have hB7 := hB6.trans (hon7.to_below hB6.size (fun k hk => by omega))
                have hl7 : (d.numS 1 m).b.length ≤ 400 := Nat.le_trans IK.num_len hdl
                generalize d.numN 1 m = N at *
                generalize d.numS 1 m = d7 at *
                clear hI6 hR6 hB6 hon7
                go_wp2_with fail
                go_roundw
                case rel => exact ⟨r + 1, d7, by omega, by omega, rfl, hI7, hR7, hl7, hB7⟩
                case measure => simp [intOf]; omega
              · rw [hk] at htm
                go_wp2_with fail
                have hI := InAt.keep (w := wr) hI ((Below.refl _ _).drew)
                have hR := RInAt.keep (w := wr) hR ((Below.refl _ _).drew)
                have hB := hB.drew
                have hl7 : (d.fixS m).b.length ≤ 400 := Nat.le_trans IK.fix_len hdl
                go_region_law (first
                  | (go_simp; go_at_call 27; refine (ifixed_any m _ hI (by omega)).mono ?_; rintro e wA ⟨vA, rfl, hoA, hI, hon⟩; have hR := hR.only hon (fun e => hpip e.symm); have hB := hB.trans (hon.to_below hB.size (fun k hk => by omega)); have hstA := run_str wA hoA.bsl; have hge := hoA.own_ge)
                  | (go_simp; go_at_call 30; refine (rfixed_any m _ hR (by omega)).mono ?_; rintro e wB ⟨rfl, hR, hon⟩; have hI := hI.only hon hpip (fun k hk e => hgiB k hk e); have hB := hB.trans (hon.to_below hB.size (fun k hk => by omega)); (try (have hoB := hoA.only hon (fun k hk e => by have h1 := hge k hk; have h2 : pr < wr.drew.heap.size := hrlw; omega); have hstB := run_str wB hoB.bsl)); unfold strV))
                all_goals
                  go_wp2_with fail
                  go_roundw
                  case rel => exact ⟨r + 1, d.fixS m, by omega, by omega, rfl, hI, hR, hl7, hB⟩
                  case measure => simp [intOf]; omega
              · rw [hk] at htm
                go_wp2_with fail
                have hI := InAt.keep (w := wr) hI ((Below.refl _ _).drew)
                have hR := RInAt.keep (w := wr) hR ((Below.refl _ _).drew)
                have hB := hB.drew
                have hl7 : (d.bytS m).b.length ≤ 400 := Nat.le_trans IK.byt_len hdl
                go_region_law (first
                  | (go_simp; go_at_call 25; refine (ibytes_any m _ hI (by omega)).mono ?_; rintro e wA ⟨vA, rfl, hoA, hI, hon⟩; have hR := hR.only hon (fun e => hpip e.symm); have hB := hB.trans (hon.to_below hB.size (fun k hk => by omega)); have hstA := run_str wA hoA.bsl; have hge := hoA.own_ge)
                  | (go_simp; go_at_call 31; refine (rbytes_any m hmm _ hR (by omega)).mono ?_; rintro e wB ⟨rfl, hR, hon⟩; have hI := hI.only hon hpip (fun k hk e => hgiB k hk e); have hB := hB.trans (hon.to_below hB.size (fun k hk => by omega)); (try (have hoB := hoA.only hon (fun k hk e => by have h1 := hge k hk; have h2 : pr < wr.drew.heap.size := hrlw; omega); have hstB := run_str wB hoB.bsl)); unfold strV))
                all_goals
                  go_wp2_with fail
                  go_roundw
                  case rel => exact ⟨r + 1, d.bytS m, by omega, by omega, rfl, hI, hR, hl7, hB⟩
                  case measure => simp [intOf]; omega
          · have hlt9 : ¬ ((r : Int) < 30) := by omega
            go_wp2_with fail
            go_meet
            exact ⟨d, hI, hR, hB⟩
        · have hlt8 : ¬ ((r : Int) < ks.length) := by omega
          go_wp2_with fail
          go_meet
          exact ⟨d, hI, hR, hB⟩
    case rest =>
      clear hI0 hR0 hB0
      obtain ⟨d, hI, hR, hB⟩ := hcut
      go_wp2_with fail
      refine (iend_any wc hI).mono ?_
      rintro e w5 ⟨rfl, rfl⟩
      go_wp2_with fail
      refine (rend_any wc hR).mono ?_
      rintro e w5 ⟨rfl, rfl⟩
      generalize d.endE = E at *
      go_wp2_with fail
      go_ret
      exact ⟨rfl, hB⟩
end Go.Proofs.Ytinpeieecodijaa
