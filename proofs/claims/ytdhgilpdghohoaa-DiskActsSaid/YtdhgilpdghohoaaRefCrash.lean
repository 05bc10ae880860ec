/- casketref16.Disk: DocSync, DocCrash. -/
import Derived.Test.YtdhgilpdghohoaaRefDisk
import Derived.Deep.DeepCutAuto
import Derived.Deep.CutBlock
namespace Go.Proofs.Ytdhgilpdghohoaa
open Go.RowKit
theorem Try.info_secR2 : (Try.prog.info? 35).map (·.size) = some 64 := by kernel_rfl
/-- All writes, laid down. -/
def applyL (f : List (List UInt8)) (l : List (Nat × List UInt8)) : List (List UInt8) := l.foldl (fun f x => f.set x.1 x.2) f
theorem applyL_snoc (f : List (List UInt8)) (l : List (Nat × List UInt8)) (x : Nat × List UInt8) : applyL f (l ++ [x]) = (applyL f l).set x.1 x.2 := by simp [applyL]
theorem applyL_length (l : List (Nat × List UInt8)) : ∀ f, (applyL f l).length = f.length := by
  induction l with
  | nil => intro f; rfl
  | cons x l ih => intro f; simp only [applyL, List.foldl_cons] at ih ⊢; rw [ih]; simp
theorem lay_short (xs : List (Nat × List UInt8)) : ∀ (f : List (List UInt8)) (bs : List Bool) (r : Nat), bs.length ≤ r → lay f xs bs = lay f (xs.take r) bs := by
  induction xs with
  | nil => intro f bs r _; simp
  | cons x xs ih =>
    intro f bs r hr
    cases bs with
    | nil => rw [lay_nil, lay_nil]
    | cons b bs =>
      cases r with
      | zero => simp at hr
      | succ r => rw [List.take_succ_cons, lay, lay]; exact ih _ bs r (by simpa using hr)
/-- One write, laid down. -/
theorem RDAt.round {w : World} {p r : Nat} {d : DK} {bs : Nat → Prop} (h : RDAt w p d bs) (hr : r < d.loose.length) (hx1 : (d.loose[r]).1 < d.fast.length) (hx2 : (d.loose[r]).2.length = 64) : ∃ gf cf gl cl,
    (w.cell? ⟨p, 0, none⟩ = some (.slice (some ⟨gf, 0, none⟩) d.fast.length cf) ∧ w.cell? ⟨p, 1, none⟩ = some (.slice (some ⟨gl, 0, none⟩) d.loose.length cl) ∧ w.cell? ⟨gl, r * 65, none⟩ = some (.int .i64 (d.loose[r]).1) ∧ w.rangeAt gl (r * 65 + 1) (secC (d.loose[r]).2) ∧ w.there gf ((d.loose[r]).1 * 64) 64) ∧
    (d.fast.length ≤ cf ∧ cf ≤ 9223372036854775807 ∧ d.loose.length ≤ cl ∧ cl ≤ 9223372036854775807) ∧
    (let w' := w.setCells gf ((d.loose[r]).1 * 64) (secC (d.loose[r]).2)
     (w'.cell? ⟨p, 0, none⟩ = some (.slice (some ⟨gf, 0, none⟩) d.fast.length cf) ∧ w'.cell? ⟨p, 1, none⟩ = some (.slice (some ⟨gl, 0, none⟩) d.loose.length cl) ∧ w'.cell? ⟨gl, r * 65, none⟩ = some (.int .i64 (d.loose[r]).1) ∧ w'.rangeAt gl (r * 65 + 1) (secC (d.loose[r]).2) ∧ w'.there gf ((d.loose[r]).1 * 64) 64) ∧
     RDAt w' p { d with fast := d.fast.set (d.loose[r]).1 (d.loose[r]).2 } bs ∧ DEff w w' bs bs) := by
  obtain ⟨gf, cf, c0, hcf, hcf2, hgp, hbg, hlg, hrng, hset⟩ := h.fastV (by intro e; rw [e] at hx1; simp at hx1)
  obtain ⟨lv, c1, f1, r3, hlp, hlb, hst⟩ := h.looseV
  have hlg1 := hlg _ c1
  obtain ⟨gl, cl, rfl, _, hgl, hcl, hcl2⟩ := r3.shape (by intro e; rw [List.map_eq_nil_iff] at e; rw [e] at hr; simp at hr)
  rw [List.length_map] at c1 hcl
  have hne : gf ≠ gl := fun e => hlg1 (by simp [Value.ownBlock, e])
  have hrl := r3.range rfl (i := r) (by simpa using hr)
  simp only [List.getElem_map] at hrl
  have hb0 : w.cell? ⟨gl, r * 65, none⟩ = some (.int .i64 (d.loose[r]).1) := hrl 0 _ rfl
  have hb1 : w.rangeAt gl (r * 65 + 1) (secC (d.loose[r]).2) := by
    intro i u hu
    have := hrl (i + 1) u (by simpa [looC, secC] using hu)
    rw [show r * 65 + 1 + i = r * 65 + (i + 1) by omega]; exact this
  have hth := (hrng _ hx1).2
  have hon : Only (· = gf) w (w.setCells gf ((d.loose[r]).1 * 64) (secC (d.loose[r]).2)) := Only.setCells (S := (· = gf)) rfl _ _ (Only.refl _ _)
  have hpl := h.lt p h.hp
  obtain ⟨hO2, hE2⟩ := hset _ hx1 _ hx2
  refine ⟨gf, cf, gl, cl, ⟨c0, c1, hb0, hb1, hth⟩, ⟨hcf, hcf2, hcl, hcl2⟩, ⟨?_, ?_, ?_, ?_, ?_⟩, hO2, hE2⟩
  · exact (hon.cell (p := ⟨p, 0, none⟩) hpl (fun e => hgp e.symm)).trans c0
  · exact (hon.cell (p := ⟨p, 1, none⟩) hpl (fun e => hgp e.symm)).trans c1
  · exact (hon.cell (p := ⟨gl, r * 65, none⟩) hgl (fun e => hne e.symm)).trans hb0
  · exact World.rangeAt_setCells_apart hb1 _ _ _ (.inl hne.symm)
  · exact World.there_setCells hth _ _ _
set_option maxRecDepth 100000 in
set_option maxHeartbeats 1000000 in
theorem rdsync_any (w : World) {p n m : Nat} {d : DK} {bs : Nat → Prop} (h : RDAt w p d bs) (hok : d.Ok n m) (hn : 0 < n) (hsound : d.now = applyL d.fast d.loose) :
    Calls Try.prog 19 #[.pointer (some ⟨p, 0, none⟩)] w fun e w' => e = .returned (.int .i64 d.syE) ∧ ∃ bs', RDAt w' p d.syS bs' ∧ DEff w w' bs bs' := by
  have hnl := hok.now
  unfold DK.syE DK.syS DK.may
  cases ho : d.off with
  | true =>
    obtain ⟨fv, lv, ⟨c0, c1, c2, c3⟩, hz1, r1, hz2, hz3, hz4, hz5, hz6⟩ := id h
    rw [ho] at c3
    clear hz1 r1 hz2 hz3 hz4 hz5 hz6 c0 c1 c2
    simp only [if_true]
    rw [if_neg (by omega), if_neg (by omega)]
    go_enter Try.func19, Try.ntmps19
    go_wp2_with fail
    go_ret
    exact ⟨rfl, bs, h, DEff.refl _ _⟩
  | false =>
    simp only [Bool.false_eq_true, if_false]
    have hcc : ¬ ((0 : Int) < 0 ∨ (d.now.length : Int) ≤ 0) := by omega
    rw [if_neg hcc, if_pos rfl, if_pos rfl]
    clear hcc
    have hbF : d.burn.fast = d.fast := by unfold DK.burn; split <;> rfl
    have hbL : d.burn.loose = d.loose := by unfold DK.burn; split <;> rfl
    have hokB := hok.burn
    obtain ⟨fv, lv, ⟨c0, c1, c2, c3⟩, hz1, r1, hz2, hz3, hz4, hz5, hz6⟩ := id h
    rw [ho] at c3
    clear hz1 r1 hz2 hz3 hz4 hz5 hz6 c0 c1 c2
    rw [hsound, ← hbF, ← hbL]
    have hdb := fun w' (h' : RDAt w' p d bs) => rdburn_any w' h'
    generalize d.burn = D at *
    clear hbF hbL hsound hok hnl ho
    cases hoff : D.off with
    | true =>
      simp only [if_true]
      go_enter Try.func19, Try.ntmps19
      go_wp2_with fail
      refine (hdb w h).mono ?_
      rintro e w1 ⟨rfl, hO1, hE1⟩
      rw [hoff]
      clear c3 hdb
      go_wp2_with fail
      go_ret
      exact ⟨rfl, bs, hO1, hE1⟩
    | false =>
      simp only [Bool.false_eq_true, if_false]
      go_enter Try.func19, Try.ntmps19
      go_wp2_with fail
      refine (hdb w h).mono ?_
      rintro e w1 ⟨rfl, hO1, hE1⟩
      rw [hoff]
      clear c3 hdb h
      go_wp2_with fail
      go_loopw [3] (fun iv wr => ∃ r : Nat, r ≤ D.loose.length ∧ iv = .int .i64 r ∧ RDAt wr p { D with fast := applyL D.fast (D.loose.take r) } bs ∧ DEff w wr bs bs) (fun iv _ => D.loose.length - (intOf iv).toNat)
      case atStart => exact ⟨0, by omega, rfl, by rw [List.take_zero]; exact hO1, hE1⟩
      case round =>
        clear hO1 hE1
        obtain ⟨r, hr, rfl, hO, hE⟩ := hrel
        by_cases hlt : r < D.loose.length
        · have hlt8 : (r : Int) < D.loose.length := by omega
          have hat := hokB.ats _ (List.getElem_mem hlt)
          have hFl := applyL_length (D.loose.take r) D.fast
          have hltF : (D.loose[r]).1 < (applyL D.fast (D.loose.take r)).length := by rw [hFl, hokB.fast]; exact hat.1
          have hstep := applyL_snoc D.fast (D.loose.take r) D.loose[r]
          rw [← List.take_succ_eq_append_getElem hlt] at hstep
          obtain ⟨gf, cf, gl, cl, ⟨c0, c1, cx, rx, th⟩, hcaps, ⟨c0', c1', cx', rx', th'⟩, hO2, hE2⟩ := RDAt.round (w := wr.drew) hO (r := r) hlt hltF hat.2
          dsimp only at c0 c1 cx rx th c0' c1' cx' rx' th' hO2 hE2 hcaps
          have hfast := hokB.fast
          generalize applyL D.fast (D.loose.take r) = F at *
          generalize hx : D.loose[r] = x at *
          have hlenc : (secC x.2).length = 64 := by simp [secC, hat.2]
          have honec : ∀ v ∈ secC x.2, v.oneCell' = true := bv_one x.2
          have hiS : (Try.prog.info? 35).map (·.size) = some (secC x.2).length := by rw [hlenc]; exact Try.info_secR2
          have huS := Try.underlying35
          have hx0 : (0 : Int) ≤ (x.1 : Int) := Int.natCast_nonneg _
          have hx8 : (x.1 : Int) < F.length := by omega
          have hr0 : (0 : Int) ≤ (r : Int) := Int.natCast_nonneg _
          have HO := Lib.hid hO2
          have HE := Lib.hid (⟨(hE.only.drew).trans hE2.only (fun _ _ h => h), fun _ h => .inl h⟩ : DEff w _ bs bs)
          have HS := Lib.hid hstep
          have hcc1 : wr.cell? ⟨p, 1, none⟩ = some (.slice (some ⟨gl, 0, none⟩) D.loose.length cl) := c1
          generalize hxc : secC x.2 = xc at *
          clear hO hE hO2 hE2 hstep hFl hat hxc hx
          go_wp2_with fail
          clear hcc1
          go_region_held (fun w' => w'.cell? ⟨p, 0, none⟩ = some (.slice (some ⟨gf, 0, none⟩) F.length cf) ∧ w'.cell? ⟨p, 1, none⟩ = some (.slice (some ⟨gl, 0, none⟩) D.loose.length cl) ∧ w'.cell? ⟨gl, r * 65, none⟩ = some (.int .i64 x.1) ∧ w'.rangeAt gl (r * 65 + 1) xc ∧ w'.there gf (x.1 * 64) 64) (first | exact ⟨c0', c1', cx', rx', th'⟩ | go_keep_ranges) (fail)
          clear c0 c1 cx rx th c0' c1' cx' rx' th' honec
          go_wp2_with fail
          go_roundw
          case rel => exact ⟨r + 1, by omega, rfl, by rw [HS.out]; exact HO.out, HE.out⟩
          case measure => simp [intOf]; omega
        · have hlt8 : ¬ ((r : Int) < D.loose.length) := by omega
          rw [List.take_of_length_le (by omega)] at hO
          obtain ⟨lv2, c1, f1, r3, _, _, hst⟩ := hO.looseV
          obtain ⟨lo, lc, rfl, _, _, hzz⟩ := r3.val
          dsimp only at c1
          rw [List.length_map] at c1
          clear hzz
          obtain ⟨bs2, hO2, hE2⟩ := hst _ (.slice none 0 0) [] (Only.refl _ _) (RW.nil _ _ _ _) (.inr (.inl rfl))
          have hE3 := hE.trans hE2
          have HO := Lib.hid hO2
          have HE := Lib.hid hE3
          clear hst hO2 hE2 hE3 hO hE r3
          go_wp2_with fail
          go_ret
          have HO2 := HO.out
          rw [hoff] at HO2
          exact ⟨rfl, bs2, HO2, HE.out⟩
set_option maxRecDepth 100000 in
set_option maxHeartbeats 1000000 in
theorem rdcrash_any (stay : List Bool) (sv : Value) (w : World) {p n m : Nat} {d : DK} {bs : Nat → Prop} (h : RDAt w p d bs) (hok : d.Ok n m) (hst : BoolSl w sv stay) (hsb : stay ≠ [] → ∀ k, sv.ownBlock = some k → ¬ bs k) :
    Calls Try.prog 20 #[.pointer (some ⟨p, 0, none⟩), sv] w fun e w' => e = .returned (.tuple #[]) ∧ ∃ bs', RDAt w' p (d.crash stay) bs' ∧ DEff w w' bs bs' := by
  obtain ⟨so, sc, rfl, hsc, hsm, hs0⟩ := id hst
  clear hs0
  go_enter Try.func20, Try.ntmps20
  go_upto_region 0 with (fail)
  go_upto_block 0 with (fail)
  go_cut [4] (fun _ wx => RDAt wx p { d with fast := lay d.fast d.loose stay } bs ∧ DEff w wx bs bs)
  case first =>
    go_wp2_with fail
    go_loopw [4] (fun iv wr => ∃ r : Nat, r ≤ d.loose.length ∧ r ≤ stay.length ∧ iv = .int .i64 r ∧ RDAt wr p { d with fast := lay d.fast (d.loose.take r) stay } bs ∧ DEff w wr bs bs) (fun iv _ => d.loose.length - (intOf iv).toNat)
    case atStart => exact ⟨0, by omega, by omega, rfl, by rw [List.take_zero]; exact h, DEff.refl _ _⟩
    case round =>
      clear h
      obtain ⟨r, hr, hr2, rfl, hO, hE⟩ := hrel
      by_cases hlt : r < d.loose.length
      · have hlt8 : (r : Int) < d.loose.length := by omega
        have hr0 : (0 : Int) ≤ (r : Int) := Int.natCast_nonneg _
        by_cases hks : r < stay.length
        · have hks8 : (r : Int) < stay.length := by omega
          have hat := hok.ats _ (List.getElem_mem hlt)
          have hFl := lay_length (d.loose.take r) d.fast stay
          have hltF : (d.loose[r]).1 < (lay d.fast (d.loose.take r) stay).length := by rw [hFl, hok.fast]; exact hat.1
          have hstep := lay_take_succ d.loose d.fast stay r hlt
          rw [dif_pos hks] at hstep
          have hsl2 := hst.only hE.only hsb
          obtain ⟨_, _, hv, _, _, h3⟩ := hsl2
          simp only [Value.slice.injEq] at hv
          obtain ⟨rfl, _, rfl⟩ := hv
          obtain ⟨sb, soff, rfl, hcb⟩ := h3 (by intro e; simp [e] at hks)
          have hcb1 := hcb r hks
          clear hcb h3 hst hsb
          obtain ⟨gf, cf, gl, cl, ⟨c0, c1, cx, rx, th⟩, hcaps, ⟨c0', c1', cx', rx', th'⟩, hO2, hE2⟩ := RDAt.round (w := wr.drew) hO (r := r) hlt hltF hat.2
          dsimp only at c0 c1 cx rx th c0' c1' cx' rx' th' hO2 hE2 hcaps
          have hcc1 : wr.cell? ⟨p, 1, none⟩ = some (.slice (some ⟨gl, 0, none⟩) d.loose.length cl) := c1
          generalize lay d.fast (d.loose.take r) stay = F at *
          cases hb : stay[r] with
          | false =>
            rw [hb, if_neg (by simp)] at hstep
            rw [hb] at hcb1
            have HS := Lib.hid hstep
            have HO := Lib.hid hO
            have HE := Lib.hid hE
            clear hb hstep hO hE hO2 hE2 c0 c1 cx rx th c0' c1' cx' rx' th' hFl hltF hat
            go_wp2_with fail
            go_roundw
            case rel => exact ⟨r + 1, by omega, by omega, rfl, by rw [HS.out]; exact HO.out, HE.out⟩
            case measure => simp [intOf]; omega
          | true =>
            rw [hb, if_pos rfl] at hstep
            rw [hb] at hcb1
            generalize hx : d.loose[r] = x at *
            have hlenc : (secC x.2).length = 64 := by simp [secC, hat.2]
            have honec : ∀ v ∈ secC x.2, v.oneCell' = true := bv_one x.2
            have hiS : (Try.prog.info? 35).map (·.size) = some (secC x.2).length := by rw [hlenc]; exact Try.info_secR2
            have huS := Try.underlying35
            have hx0 : (0 : Int) ≤ (x.1 : Int) := Int.natCast_nonneg _
            have hx8 : (x.1 : Int) < F.length := by omega
            have HO := Lib.hid hO2
            have HE := Lib.hid (⟨(hE.only.drew).trans hE2.only (fun _ _ h => h), fun _ h => .inl h⟩ : DEff w _ bs bs)
            have HS := Lib.hid hstep
            generalize hxc : secC x.2 = xc at *
            clear hb hO hE hO2 hE2 hstep hFl hat hxc hx hltF
            go_wp2_with fail
            clear hcc1 hcb1
            go_region_held (fun w' => w'.cell? ⟨p, 0, none⟩ = some (.slice (some ⟨gf, 0, none⟩) F.length cf) ∧ w'.cell? ⟨p, 1, none⟩ = some (.slice (some ⟨gl, 0, none⟩) d.loose.length cl) ∧ w'.cell? ⟨gl, r * 65, none⟩ = some (.int .i64 x.1) ∧ w'.rangeAt gl (r * 65 + 1) xc ∧ w'.there gf (x.1 * 64) 64) (first | exact ⟨c0', c1', cx', rx', th'⟩ | go_keep_ranges) (fail)
            clear c0 c1 cx rx th c0' c1' cx' rx' th' honec
            go_wp2_with fail
            go_roundw
            case rel => exact ⟨r + 1, by omega, by omega, rfl, by rw [HS.out]; exact HO.out, HE.out⟩
            case measure => simp [intOf]; omega
        · have hks8 : ¬ ((r : Int) < stay.length) := by omega
          have hlay : lay d.fast d.loose stay = lay d.fast (d.loose.take r) stay := lay_short d.loose d.fast stay r (by omega)
          have HL := Lib.hid hlay
          obtain ⟨lv2, c1, f1, r3, hz1, hz2, hz3⟩ := hO.looseV
          obtain ⟨lo, lc, rfl, hz4, hz5, hzz⟩ := r3.val
          dsimp only at c1
          rw [List.length_map] at c1
          clear hzz hlay hz3 r3 hst hsb
          go_wp2_with fail
          go_meet
          exact ⟨by rw [HL.out]; exact hO, hE⟩
      · have hlt8 : ¬ ((r : Int) < d.loose.length) := by omega
        rw [List.take_of_length_le (by omega)] at hO
        obtain ⟨lv2, c1, f1, r3, hz1, hz2, hz3⟩ := hO.looseV
        obtain ⟨lo, lc, rfl, hz4, hz5, hzz⟩ := r3.val
        dsimp only at c1
        rw [List.length_map] at c1
        clear hzz hz3 r3 hst hsb
        go_wp2_with fail
        go_meet
        exact ⟨hO, hE⟩
  case rest =>
    clear hst hsb h
    obtain ⟨hO, hE⟩ := hcut
    obtain ⟨lv2, c1, f1, r3, hz1, hz2, hst⟩ := hO.looseV
    obtain ⟨bs2, hO2, hE2⟩ := hst _ (.slice none 0 0) [] (Only.refl _ _) (RW.nil _ _ _ _) (.inr (.inl rfl))
    obtain ⟨hO3, hE3⟩ := hO2.setOff false
    obtain ⟨hO4, hE4⟩ := hO3.setFuse (n := 0) (by omega) (by omega)
    obtain ⟨fv, lv, ⟨c10, c11, c12, c13⟩, hf1, hz9⟩ := id hO
    have f2 := hf1 2 (by omega)
    have f3 := hf1 3 (by omega)
    have hEE := ((hE.trans hE2).trans hE3).trans hE4
    have HO := Lib.hid hO4
    have HW := Lib.hid hEE
    clear hz1 hz2 hz9 hf1 hst hO2 hO3 hO4 hE hE2 hE3 hE4 hEE hO r3 c10
    go_wp2_with fail
    go_end0
    exact ⟨rfl, bs2, HO.out, HW.out⟩
end Go.Proofs.Ytdhgilpdghohoaa
