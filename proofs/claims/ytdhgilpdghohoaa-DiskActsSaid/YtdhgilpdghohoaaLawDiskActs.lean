/- The law DiskActs. -/
import Derived.Test.YtdhgilpdghohoaaRefSee
import Derived.Test.YtdhgilpdghohoaaRefWrite
import Derived.Test.YtdhgilpdghohoaaRefCrash
import Derived.Test.YtdhgilpdghohoaaOpenActs
import Derived.Test.YtdhgilpdghohoaaLawDiskFuses
import Derived.Deep.RegionHeldLaw
namespace Go.Proofs.Ytdhgilpdghohoaa
open Go.RowKit
def Snd (d : DK) : Prop := d.now = applyL d.fast d.loose
theorem BoolSl.own_lt' {w : World} {v : Value} {l : List Bool} (h : BoolSl w v l) (hne : l ≠ []) : ∀ k, v.ownBlock = some k → k < w.heap.size := by
  obtain ⟨ao, cap, rfl, h1, h2, h3⟩ := h
  obtain ⟨b, off, rfl, hc⟩ := h3 hne
  intro k hk
  simp [Value.ownBlock] at hk; subst hk
  exact World.block_lt_of_cell? w _ (hc 0 (List.length_pos_iff.2 hne))
theorem DEff.not {w w' : World} {bs bs' : Nat → Prop} (h : DEff w w' bs bs') {k : Nat} (hk : k < w.heap.size) (hn : ¬ bs k) : ¬ bs' k := fun e => (h.new k e).elim hn (fun e => by omega)
theorem Snd.new (n : Nat) : Snd (DK.new n) := rfl
theorem Snd.burn {d : DK} (h : Snd d) : Snd d.burn := by unfold DK.burn; split <;> exact h
theorem Snd.wrS {d : DK} (h : Snd d) (at_ : Int) (s : List UInt8) : Snd (d.wrS at_ s) := by
  unfold DK.wrS
  split
  · unfold DK.write
    refine Snd.burn ?_
    show d.now.set _ s = applyL d.fast (d.loose ++ [(_, s)])
    rw [applyL_snoc, ← h]
  · exact h
theorem Snd.syS {d : DK} (h : Snd d) : Snd d.syS := by
  unfold DK.syS
  split
  · split
    · exact h.burn
    · show d.burn.now = applyL d.now []
      rw [DK.burn_now]; rfl
  · exact h
theorem Snd.crash (d : DK) (stay : List Bool) : Snd (d.crash stay) := rfl
theorem see_apply {k : Nat} : ∀ (l : List (Nat × List UInt8)) (f : List (List UInt8)), k < f.length → (applyL f l).getD k [] = seeL f l k
  | [], f, _ => rfl
  | x :: l, f, hk => by
    have ih := see_apply l (f.set x.1 x.2) (by simpa using hk)
    have h1 : applyL f (x :: l) = applyL (f.set x.1 x.2) l := rfl
    have h2 : seeL f (x :: l) k = seeL (f.set x.1 x.2) l k := by
      unfold seeL
      rw [List.foldl_cons]
      congr 1
      by_cases he : x.1 = k
      · subst he; simp [List.getD, hk]
      · rw [if_neg he]; simp [List.getD, List.getElem?_set_ne he]
    rw [h1, h2, ih]
theorem Snd.read {d : DK} {n m : Nat} (h : Snd d) (hok : d.Ok n m) (at_ : Int) : d.readV at_ = d.rreadV at_ := by
  unfold DK.readV DK.rreadV
  by_cases hb : d.may at_ = 0
  · rw [if_pos hb, if_pos hb]
    obtain ⟨_, h2, h3⟩ := DK.may_zero hb
    have h' : d.now = applyL d.fast d.loose := h
    rw [h']
    exact see_apply _ _ (by have := hok.now; have := hok.fast; omega)
  · rw [if_neg hb, if_neg hb]
theorem Snd.image {d : DK} {n m : Nat} (h : Snd d) (hok : d.Ok n m) : imgL d n = d.now.flatten := by
  unfold imgL
  congr 1
  apply List.ext_getElem
  · simp [hok.now]
  · intro k h1 h2
    have hk : k < n := by simpa using h1
    have := see_apply (k := k) d.loose d.fast (by rw [hok.fast]; exact hk)
    rw [← (show d.now = applyL d.fast d.loose from h)] at this
    simp only [List.getElem_map, List.getElem_range]
    rw [← this, List.getD, List.getElem?_eq_getElem h2]; rfl
theorem Snd.len {d : DK} {n m at_ : Nat} (hok : d.Ok n m) (hk : at_ < n) : (d.now.getD at_ []).length = 64 := by
  have hl := hok.now
  rw [List.getD, List.getElem?_eq_getElem (by omega)]
  exact hok.nowS _ (List.getElem_mem (by omega))
theorem DK.readV_len {d : DK} {n m : Nat} (hok : d.Ok n m) (at_ : Int) : (d.readV at_).length = 64 := by
  unfold DK.readV
  by_cases hb : d.may at_ = 0
  · rw [if_pos hb]
    obtain ⟨_, h2, h3⟩ := DK.may_zero hb
    exact Snd.len hok (by have := hok.now; omega)
  · rw [if_neg hb]; exact secL_len 0
theorem DEff.disj {w w' : World} {bs bs' cs : Nat → Prop} (h : DEff w w' bs bs') (hd : ∀ k, bs k → ¬ cs k) (hc : ∀ k, cs k → k < w.heap.size) : ∀ k, bs' k → ¬ cs k := fun k hk hck => by
  rcases h.new k hk with e | e
  · exact hd k e hck
  · have := hc k hck; omega
theorem made_zCR (n : Nat) : madeCells (List.replicate 64 (bv 0)).toArray (n * 64) = (zC n).toArray := made_zC n
def mkR (v u : Value) : Sem Value := Instr.makeSlice 49 v u
theorem mkR_eq (v u : Value) : Instr.makeSlice 49 v u = mkR v u := rfl
theorem run_mkR (w : World) (n : Nat) (h : n ≤ 8192) : (mkR (.int .i64 n) (.int .i64 n)).run Try.prog w = .ok (.slice (some ⟨w.heap.size, 0, none⟩) n n) (w.alloc (.cells (zC n).toArray 35)) := by
  obtain ⟨i, z, hi, hz, hzc, hs, hb⟩ := Try.sec_partsR
  have hb2 : (i.bytes : Int) * n ≤ 281474976710656 := by
    have : i.bytes * n ≤ 1000 * 8192 := Nat.mul_le_mul hb h
    have h2 : ((i.bytes * n : Nat) : Int) ≤ 281474976710656 := by omega
    rwa [Int.natCast_mul] at h2
  have := run_make (P := Try.prog) w _ _ i z Try.underlying49 hi hz .i64 .i64 (n : Int) n (by omega) (by omega) hb2 (by omega)
  unfold mkR
  rw [this, Int.toNat_natCast, hzc, hs, made_zC]
theorem RDAt.fresh (w : World) (n : Nat) (h : n ≤ 8192) : (∃ bs, RDAt ((w.alloc (.cells (zC n).toArray 35)).alloc (.cells #[.slice (some ⟨w.heap.size, 0, none⟩) n n, .slice none 0 0, .int .i64 0, .bool false] 52)) (w.heap.size + 1) (DK.new n) bs ∧ (∀ k, bs k → w.heap.size ≤ k)) ∧
    Below w.heap.size w ((w.alloc (.cells (zC n).toArray 35)).alloc (.cells #[.slice (some ⟨w.heap.size, 0, none⟩) n n, .slice none 0 0, .int .i64 0, .bool false] 52)) := by
  have h1 : RW (w.alloc (.cells (zC n).toArray 35)) 0 35 64 (.slice (some ⟨w.heap.size, 0, none⟩) n n) ((List.replicate n (secL 0)).map secC) := by
    refine ⟨?_, ?_⟩
    · rw [secs_new]
      have := World.ownsRow_lit (base := 0) (e := 35) (size := 64) w (zC n).toArray n (Nat.zero_le _) (by unfold maxLen; omega) (by simp [zC])
      simpa using this
    · intro r hr
      obtain ⟨s, hs, rfl⟩ := List.mem_map.1 hr
      rw [List.eq_of_mem_replicate hs]; simp [secC, secL]
  have hs1 : (w.alloc (.cells (zC n).toArray 35)).heap.size = w.heap.size + 1 := by simp
  have hB : Below w.heap.size w (w.alloc (.cells (zC n).toArray 35)) := (Below.refl _ _).alloc (Nat.le_refl _) _
  rw [← hs1]
  generalize w.alloc (.cells (zC n).toArray 35) = w1 at *
  have l1 := h1.own_lt w.heap.size rfl
  have hk : Below w1.heap.size w1 (w1.alloc (.cells #[.slice (some ⟨w.heap.size, 0, none⟩) n n, .slice none 0 0, .int .i64 0, .bool false] 52)) := (Below.refl _ _).alloc (Nat.le_refl _) _
  refine ⟨⟨_, ⟨_, _, ⟨?_, ?_, ?_, ?_⟩, ?_, h1.keep hk, RW.nil _ _ _ _, ⟨?_, ?_⟩, ?_, ⟨by simpa [DK.new] using h, by simp [DK.new], by simp [DK.new]⟩, rfl⟩, ?_⟩, hB.trans (hk.mono hB.size)⟩
  · exact World.cell?_alloc_new w1 _ _ 0
  · exact World.cell?_alloc_new w1 _ _ 1
  · exact World.cell?_alloc_new w1 _ _ 2
  · exact World.cell?_alloc_new w1 _ _ 3
  · intro j hj; simp
  · intro e; simp [Value.ownBlock] at e; omega
  · intro e; simp [Value.ownBlock] at e
  · intro k hk; simp [Value.ownBlock] at hk ⊢
  · intro k hk
    have := hB.size
    simp [Value.ownBlock] at hk
    omega
attribute [local go_sem ↓] mkR_eq alS_eq stS_eq ldS_eq alS_eqR stS_eqR ldS_eqR
attribute [local go_sem] run_mkR run_alS run_alSR run_guard_sec
set_option maxRecDepth 100000 in
set_option maxHeartbeats 4000000 in
theorem diskActs_walk (n0 : Int) (v : Value) (ys : List ActD) (w : World) (hn : (Lit.int .i64 n0).wf = true) (h : ActsAt w v ys) :
    Calls Try.prog 5 #[.int .i64 n0, v] w fun e w' => e = .returned (.bool true) ∧ Below w.heap.size w w' := by
  have hnb := int_of_wf hn
  obtain ⟨⟨ao, cap, rfl, hlc, hcm, hnil, hcells⟩, hall⟩ := h
  clear hnil hn
  obtain ⟨q, hq, hqe, hqz⟩ := umod n0 6 (by omega) (by omega)
  clear hqz
  rw [show ((6 : Nat) : Int) = 6 from rfl] at hqe
  have hw1 : wrap64 (1 + (q : Int)) = ((q + 1 : Nat) : Int) := by rw [IntWalk.wrap64_in _ (by omega)]; omega
  obtain ⟨n, hnq⟩ : ∃ n, n = q + 1 := ⟨_, rfl⟩
  rw [← hnq] at hw1
  have hn1 : 1 ≤ n ∧ n ≤ 6 := by omega
  have hn8 : n ≤ 8192 := by omega
  clear hq hnq
  go_enter Try.func5, Try.ntmps5
  go_upto_region 2 with (fail)
  rw [hw1]
  clear hw1 hqe
  go_wp2_with fail
  refine (dnew_ok n w hn1.1 hn8).mono ?_
  rintro e w1 ⟨p, rfl, ⟨bs0, hD0, hbs0⟩, hB1⟩
  have hF := RDAt.fresh w1 n hn8
  have hs1 : (w1.alloc (.cells (zC n).toArray 35)).heap.size = w1.heap.size + 1 := by simp
  obtain ⟨⟨cs0, hR0, hcs0⟩, hB2'⟩ := hF
  have hD1 := hD0.keep hB2'
  have hdis0 : ∀ k, bs0 k → ¬ cs0 k := fun k hk hc => by have := hD0.lt k hk; have := hcs0 k hc; omega
  have hB2 := hB1.trans (hB2'.mono hB1.size)
  have hcsB0 : ∀ k, cs0 k → w.heap.size ≤ k := fun k hk => Nat.le_trans hB1.size (hcs0 k hk)
  clear hD0 hB2' hcs0
  go_wp2_with fail
  generalize (w1.alloc (.cells (zC n).toArray 35)).alloc (.cells #[.slice (some ⟨w1.heap.size, 0, none⟩) n n, .slice none 0 0, .int .i64 0, .bool false] 52) = w2 at *
  generalize w1.heap.size + 1 = pr at *
  refine (disks_any w2).mono ?_
  rintro e w3 ⟨rfl, hB3'⟩
  have hD3 := hD1.keep hB3'
  have hR3 := hR0.keep hB3'
  have hB3 := hB2.trans (hB3'.mono hB2.size)
  have hok0 := DK.Ok.new n
  have hsn0 := Snd.new n
  clear hD1 hR0 hB3' hB2 hB1 hs1
  generalize DK.new n = d0 at *
  go_wp2_with fail
  go_loopw [8] (fun iv wr => ∃ (r : Nat) (d : DK) (bs cs : Nat → Prop), r ≤ 50 ∧ r ≤ ys.length ∧ iv = .int .i64 r ∧ DiskAt wr p d bs ∧ RDAt wr pr d cs ∧ d.Ok n r ∧ Snd d ∧ (∀ k, bs k → w.heap.size ≤ k) ∧ (∀ k, cs k → w.heap.size ≤ k) ∧ (∀ k, bs k → ¬ cs k) ∧ Below w.heap.size w wr) (fun iv _ => 50 - (intOf iv).toNat)
  case atStart => exact ⟨0, d0, bs0, cs0, by omega, by omega, rfl, hD3, hR3, hok0, hsn0, hbs0, hcsB0, hdis0, hB3⟩
  case round =>
    clear hD3 hR3 hok0 hsn0 hbs0 hcsB0 hdis0 hB3
    obtain ⟨r, d, bs, cs, hr1, hr2, rfl, hD, hR, hok, hsn, hbsB, hcsB, hdis, hB⟩ := hrel
    by_cases hlt : r < ys.length
    · have hlt8 : (r : Int) < ys.length := by omega
      by_cases hlt2 : r < 50
      · have hlt9 : (r : Int) < 50 := by omega
        obtain ⟨b, off, rfl, hcells2⟩ := hcells (by intro e; simp [e] at hlt)
        obtain ⟨c0, c1, c2, c3, c4, hbw⟩ := actCells hcells2 hlt hB
        have hy := hall _ (List.getElem_mem hlt)
        clear hcells hcells2 hall
        generalize ys[r] = y at *
        obtain ⟨hy1, hy2, hy3, hy4⟩ := hy
        obtain ⟨what, at_, by_, nn, sv, stay⟩ := y
        dsimp only at c0 c1 c2 c3 c4 hy1 hy2 hy3 hy4
        obtain ⟨so, sc, rfl, hz1, hz2, hz3⟩ := id hy4
        clear hz1 hz2 hz3
        have hA : Below wr.heap.size wr (wr.alloc (.cells #[.int .i64 what, .int .i64 at_, .int .u8 by_.toNat, .int .i64 nn, .slice so stay.length sc] 32)) := (Below.refl _ _).alloc (Nat.le_refl _) _
        have hv0 : ∀ j, (wr.alloc (.cells #[.int .i64 what, .int .i64 at_, .int .u8 by_.toNat, .int .i64 nn, .slice so stay.length sc] 32)).cell? ⟨wr.heap.size, j, none⟩ = #[.int .i64 what, .int .i64 at_, .int .u8 by_.toNat, .int .i64 nn, .slice so stay.length sc][j]? := fun j => World.cell?_alloc_new wr _ _ j
        have hvl : wr.heap.size < (wr.alloc (.cells #[.int .i64 what, .int .i64 at_, .int .u8 by_.toNat, .int .i64 nn, .slice so stay.length sc] 32)).heap.size := by simp
        go_upto_region 10 with (fail)
        have hvbs : ¬ bs wr.heap.size := fun e => by have := hD.lt _ e; omega
        have hvcs : ¬ cs wr.heap.size := fun e => by have := hR.lt _ e; omega
        have hD := hD.keep hA
        have hR := hR.keep hA
        have hBw := hB.size
        have hB := hB.trans (hA.mono hB.size)
        clear c0 c1 c2 c3 c4 hA
        generalize wr.alloc (.cells #[.int .i64 what, .int .i64 at_, .int .u8 by_.toNat, .int .i64 nn, .slice so stay.length sc] 32) = wA at *
        generalize wr.heap.size = vb at *
        have c0 : wA.cell? ⟨vb, 0, none⟩ = some (.int .i64 what) := hv0 0
        have c1 : wA.cell? ⟨vb, 1, none⟩ = some (.int .i64 at_) := hv0 1
        have c2 : wA.cell? ⟨vb, 2, none⟩ = some (.int .u8 by_.toNat) := hv0 2
        have c3 : wA.cell? ⟨vb, 3, none⟩ = some (.int .i64 nn) := hv0 3
        have c4 : wA.cell? ⟨vb, 4, none⟩ = some (.slice so stay.length sc) := hv0 4
        have hfew : d.loose.length ≤ 100000 := by have := hok.few; omega
        clear hv0
        obtain ⟨k5, hk5, hke, hkz⟩ := umod what 5 (by omega) (by omega)
        clear hkz
        rw [show ((5 : Nat) : Int) = 5 from rfl] at hke
        go_upto_block 2 with (fail)
        go_cut [10, 11, 12, 13, 51, 52] (fun _ _ _ _ _ _ wx => ∃ (d2 : DK) (bs2 cs2 : Nat → Prop), DiskAt wx p d2 bs2 ∧ RDAt wx pr d2 cs2 ∧ d2.Ok n (r + 1) ∧ Snd d2 ∧ (∀ k, bs2 k → w.heap.size ≤ k) ∧ (∀ k, cs2 k → w.heap.size ≤ k) ∧ (∀ k, bs2 k → ¬ cs2 k) ∧ Below w.heap.size w wx)
        case rest =>
          clear hD hR hok hsn hbsB hcsB hdis hB hfew c0 c1 c2 c3 c4 hvbs hvcs hke
          obtain ⟨d2, bs2, cs2, hD2, hR2, hok2, hsn2, hbsB2, hcsB2, hdis2, hB2⟩ := hcut
          have hpl2 := hR2.lt pr hR2.hp
          have himg := hsn2.image hok2
          obtain ⟨fv2, lv2, ⟨cz0, e1, cz2, e3⟩, hz1, rz, rl, hz4, hz5, hz6, hz7⟩ := id hR2
          obtain ⟨lo2, lc2, rfl, hz8, hz9, hzz⟩ := rl.val
          rw [List.length_map] at e1
          clear hzz hz1 rz rl hz4 hz5 hz6 hz7 hz8 hz9 cz0 cz2
          have HIM := Lib.hid himg
          clear himg
          go_wp2_with fail
          have hD3 := DiskAt.keep (w := wc) hD2 ((Below.refl _ _).drew)
          have hR3 := RDAt.keep (w := wc) hR2 ((Below.refl _ _).drew)
          have hB3 := hB2.drew
          have e1' : wc.drew.cell? ⟨pr, 1, none⟩ = some (.slice lo2 d2.loose.length lc2) := e1
          have e3' : wc.drew.cell? ⟨pr, 3, none⟩ = some (.bool d2.off) := e3
          have hpl3 : pr < wc.drew.heap.size := hpl2
          go_region_held_law (fun w' => w'.cell? ⟨pr, 1, none⟩ = some (.slice lo2 d2.loose.length lc2) ∧ w'.cell? ⟨pr, 3, none⟩ = some (.bool d2.off)) (first | exact ⟨e1', e3'⟩ | go_keep) (first
            | (go_at_call 13; refine (doff_any _ hD3).mono ?_; rintro e wC ⟨rfl, rfl⟩)
            | (go_at_call 16; refine (dloose_any _ hD3).mono ?_; rintro e wC ⟨rfl, rfl⟩)
            | (go_at_call 21; refine (dimage_any _ hD3 hok2 (by omega) hn8).mono ?_; rintro e wC ⟨vi, rfl, hov, hBC⟩; have e1' := (hBC.cell (p := ⟨pr, 1, none⟩) hpl3).trans e1'; have e3' := (hBC.cell (p := ⟨pr, 3, none⟩) hpl3).trans e3'; have hpl3 := Nat.lt_of_lt_of_le hpl3 hBC.size; have hB3 := hB3.trans (hBC.mono hB3.size); have hD3 := hD3.keep hBC; have hR3 := hR3.keep hBC; have hstA := run_str wC hov.bsl)
            | (go_at_call 22; refine (rimage_any _ hR3 hok2 hn8).mono ?_; rintro e wE ⟨rfl, hBC⟩; rw [HIM.out]; have e1' := (hBC.cell (p := ⟨pr, 1, none⟩) hpl3).trans e1'; have e3' := (hBC.cell (p := ⟨pr, 3, none⟩) hpl3).trans e3'; have hpl3 := Nat.lt_of_lt_of_le hpl3 hBC.size; have hB3 := hB3.trans (hBC.mono hB3.size); have hD3 := hD3.keep hBC; have hR3 := hR3.keep hBC; (try (have hov2 := hov.keep hBC; have hstB := run_str wE hov2.bsl))))
          all_goals
            clear e1 e3 e1' e3'
            go_wp2_with fail
            go_roundw
            case rel => exact ⟨r + 1, _, _, _, by omega, by omega, rfl, hD3, hR3, hok2, hsn2, hbsB2, hcsB2, hdis2, hB3⟩
            case measure => simp [intOf]; omega
        case first =>
        have hcase : (k5 : Int) = 0 ∨ (k5 : Int) = 1 ∨ (k5 : Int) = 2 ∨ (k5 : Int) = 3 ∨ (k5 : Int) = 4 := by omega
        rcases hcase with hc | hc | hc | hc | hc
        · rw [hc] at hke
          have hre := hsn.read hok at_
          have hrl := DK.readV_len hok at_
          go_wp2_with fail
          refine (dread_any at_ wA hD).mono ?_
          rintro e w4 ⟨rfl, hB4⟩
          rw [hre] at hrl ⊢
          rw [show d.readE at_ = d.may at_ from rfl]
          have hst := run_stS (w4.alloc (.cells (zC 1).toArray 43)) w4.heap.size 0 (d.rreadV at_) (there_alS w4) hrl
          obtain ⟨hv1, hv2, hv3⟩ := secV_var w4 (d.rreadV at_) hrl
          have hB5 := hB.trans (hB4.mono (Nat.le_trans hBw (Nat.le_of_lt hvl)))
          have c1 := (hB4.cell (p := ⟨vb, 1, none⟩) hvl).trans c1
          have hvl4 := Nat.lt_of_lt_of_le hvl hB4.size
          have c1 := (hv2.cell (p := ⟨vb, 1, none⟩) hvl4).trans c1
          have hD5 := (hD.keep hB4).keep hv2
          have hR5 := (hR.keep hB4).keep hv2
          have hB6 := hB5.trans (hv2.mono hB5.size)
          have hld := run_ldS _ w4.heap.size 0 (d.rreadV at_) hv1 hrl
          clear hD hR hB4 hB5 c0 c2 c3 c4 hre
          go_wp2_with fail
          clear hst
          have hsz7 : w4.heap.size < ((w4.alloc (.cells (zC 1).toArray 43)).setCells w4.heap.size 0 (secC (d.rreadV at_))).heap.size := by omega
          generalize (w4.alloc (.cells (zC 1).toArray 43)).setCells w4.heap.size 0 (secC (d.rreadV at_)) = w5 at *
          generalize w4.heap.size = sb at *
          refine (rdread_any at_ w5 hR5 hok).mono ?_
          rintro e w6 ⟨rfl, hB7⟩
          obtain ⟨hrt, hrb, hrr⟩ := varR w6
          have hst := run_stSR (w6.alloc (.cells (zC 1).toArray 35)) w6.heap.size 0 (d.rreadV at_) hrt hrl
          have hv6 := hrb (d.rreadV at_)
          have hv7 := hrr _ hrl
          have hB8 := hB6.trans (hB7.mono hB6.size)
          have hB2 := hB8.trans (hv6.mono hB8.size)
          have hD2 := (hD5.keep hB7).keep hv6
          have hR2 := (hR5.keep hB7).keep hv6
          have hs6 : sb < w6.heap.size := Nat.lt_of_lt_of_le hsz7 hB7.size
          have hv8 : ((w6.alloc (.cells (zC 1).toArray 35)).setCells w6.heap.size 0 (secC (d.rreadV at_))).rangeAt sb 0 (secC (d.rreadV at_)) := fun j u hu => (hv6.cell (p := ⟨sb, 0 + j, none⟩) hs6).trans ((hB7.cell (p := ⟨sb, 0 + j, none⟩) hsz7).trans (hv1 j u hu))
          have hldA := run_ldS _ sb 0 (d.rreadV at_) hv8 hrl
          have hldB := run_ldSR _ w6.heap.size 0 (d.rreadV at_) hv7 hrl
          have hneq := fun w => run_neq_sec 43 Try.underlying43 (d.rreadV at_) (d.rreadV at_) hrl hrl w
          simp only [beq_self_eq_true, Bool.not_true] at hneq
          clear hD5 hR5 hB6 hB7 hB8 hv1 hrb hrr hrt hld c1 hv6 hv7 hv8
          generalize d.may at_ = M at *
          generalize hW7 : (w6.alloc (.cells (zC 1).toArray 35)).setCells w6.heap.size 0 (secC (d.rreadV at_)) = w7 at *
          have hok2 := hok.more (show r ≤ r + 1 by omega)
          have hsn2 := hsn
          have hbsB2 := hbsB
          have hcsB2 := hcsB
          have hdis2 := hdis
          generalize d.rreadV at_ = rv at *
          go_wp2_with fail
          go_meet
          exact ⟨_, _, _, hD2, hR2, hok2, hsn2, hbsB2, hcsB2, hdis2, hB2⟩
        · rw [hc] at hke
          have hlb := secL_len by_
          have hwr := fun w' cs' (h : RDAt w' pr d cs') => rdwrite_any at_ (secL by_) w' h hok hlb hfew
          go_wp2_with fail
          have hD3 := DiskAt.keep (w := wA) hD ((Below.refl _ _).drew)
          have hR3 := RDAt.keep (w := wA) hR ((Below.refl _ _).drew)
          have hB3 := hB.drew
          have hdis3 := hdis
          have hbsB3 := hbsB
          have hcsB3 := hcsB
          have hvb3 := hvbs
          have hvc3 := hvcs
          have c1' : wA.drew.cell? ⟨vb, 1, none⟩ = some (.int .i64 at_) := c1
          have c2' : wA.drew.cell? ⟨vb, 2, none⟩ = some (.int .u8 by_.toNat) := c2
          have hvl3 : vb < wA.drew.heap.size := hvl
          have hok2 := hok.wrS at_ hlb
          have hsn2 := hsn.wrS at_ (secL by_)
          clear hD hR c0 c3 c4 hy4
          go_region_held_law (fun w' => w'.cell? ⟨vb, 1, none⟩ = some (.int .i64 at_) ∧ w'.cell? ⟨vb, 2, none⟩ = some (.int .u8 by_.toNat)) (first | exact ⟨c1', c2'⟩ | go_keep) (first
            | (go_at_call 12; refine (sector_any by_ _).mono ?_; rintro e wC ⟨rfl, hBC⟩; have c1' := (hBC.cell (p := ⟨vb, 1, none⟩) hvl3).trans c1'; have c2' := (hBC.cell (p := ⟨vb, 2, none⟩) hvl3).trans c2'; have hvl3 := Nat.lt_of_lt_of_le hvl3 hBC.size; have hB3 := hB3.trans (hBC.mono hB3.size); have hD3 := hD3.keep hBC; have hR3 := hR3.keep hBC)
            | (go_at_call 11; refine (dwrite_any at_ (secL by_) _ hD3 hlb hfew).mono ?_; rintro e wC ⟨rfl, bs4, hD4, hE4⟩; have c1' := (hE4.only.cell (p := ⟨vb, 1, none⟩) hvl3 hvb3).trans c1'; have c2' := (hE4.only.cell (p := ⟨vb, 2, none⟩) hvl3 hvb3).trans c2'; have hvb3 := hE4.not hvl3 hvb3; have hvl3 := Nat.lt_of_lt_of_le hvl3 hE4.only.size; have hdis4 := hE4.disj hdis3 (fun k hk => hR3.lt k hk); have hR3 := hR3.only hE4.only (fun k hk hb => hdis3 k hb hk); have hdis3 := hdis4; obtain ⟨hbsB3, hB3⟩ := hE4.own hbsB3 hB3 (Nat.le_refl _); have hD3 := hD4)
            | (go_at_call 18; refine (hwr _ _ hR3).mono ?_; rintro e wC ⟨rfl, cs4, hR4, hE4⟩; have c1' := (hE4.only.cell (p := ⟨vb, 1, none⟩) hvl3 hvc3).trans c1'; have c2' := (hE4.only.cell (p := ⟨vb, 2, none⟩) hvl3 hvc3).trans c2'; have hvc3 := hE4.not hvl3 hvc3; have hvl3 := Nat.lt_of_lt_of_le hvl3 hE4.only.size; have hdis4 := (fun k hk hc => hE4.disj (fun k hk hb => hdis3 k hb hk) (fun k hk => hD3.lt k hk) k hc hk : ∀ k, _ → ¬ cs4 k); have hD3 := hD3.only hE4.only (fun k hk hc => hdis3 k hk hc); have hdis3 := hdis4; obtain ⟨hcsB3, hB3⟩ := hE4.own hcsB3 hB3 (Nat.le_refl _); have hR3 := hR4))
          have hD2 := hD3
          have hR2 := hR3
          have hB2 := hB3
          have hdis2 := hdis3
          have hbsB2 := hbsB3
          have hcsB2 := hcsB3
          clear hD3 hR3 hB3 hdis3 hbsB3 hcsB3 hD4 hR4 hdis4 hwr c1' c2' hB hvb3 hvc3 hvl3 c1 c2
          generalize d.wrE at_ (secL by_) = E at *
          generalize d.wrS at_ (secL by_) = d2 at *
          go_wp2_with fail
          go_meet
          exact ⟨_, _, _, hD2, hR2, hok2, hsn2, hbsB2, hcsB2, hdis2, hB2⟩
        · rw [hc] at hke
          have hsync := fun w' (h : RDAt w' pr d cs) => rdsync_any w' h hok hn1.1 hsn
          go_wp2_with fail
          refine (dsync_any wA hD).mono ?_
          rintro e w4 ⟨rfl, bs4, hD4, hE4⟩
          have hR4 := hR.only hE4.only (fun k hk hb => hdis k hb hk)
          have hdis4 := hE4.disj hdis (fun k hk => hR.lt k hk)
          obtain ⟨hbsB2, hB4⟩ := hE4.own hbsB hB (Nat.le_refl _)
          go_wp2_with fail
          refine (hsync w4 hR4).mono ?_
          rintro e w5 ⟨rfl, cs5, hR2, hE5⟩
          have hD2 := hD4.only hE5.only (fun k hk hc => hdis4 k hk hc)
          have hdis2 : ∀ k, bs4 k → ¬ cs5 k := fun k hk hc => hE5.disj (fun k hk hc => hdis4 k hc hk) (fun k hk => hD4.lt k hk) k hc hk
          obtain ⟨hcsB2, hB2⟩ := hE5.own hcsB hB4 (Nat.le_refl _)
          have hok2 := hok.syS.more (show r ≤ r + 1 by omega)
          have hsn2 := hsn.syS
          clear hD hR hE4 hR4 hdis4 hB4 hD4 hE5 c0 c1 c2 c3 c4 hsync
          generalize d.syE = E at *
          generalize d.syS = d2 at *
          go_wp2_with fail
          go_meet
          exact ⟨_, _, _, hD2, hR2, hok2, hsn2, hbsB2, hcsB2, hdis2, hB2⟩
        · rw [hc] at hke
          have hm1 : (if nn < 0 then 0 else nn) = max nn 0 := by split <;> omega
          have hm2 : (if (0 : Int) < nn then nn else 0) = max nn 0 := by split <;> omega
          have hmb : 0 ≤ max nn 0 ∧ max nn 0 ≤ 9223372036854775807 := by omega
          go_wp2_with fail
          refine (dfuse_any nn wA hD hy3).mono ?_
          rintro e w4 ⟨rfl, hD4, hE4⟩
          have hR4 := hR.only hE4.only (fun k hk hb => hdis k hb hk)
          obtain ⟨hbsB2, hB4⟩ := hE4.own hbsB hB (Nat.le_refl _)
          have c3 := (hE4.only.cell (p := ⟨vb, 3, none⟩) hvl hvbs).trans c3
          have hdis4 := hE4.disj hdis (fun k hk => hR.lt k hk)
          obtain ⟨hR2, hE5⟩ := hR4.setFuse hmb.1 hmb.2
          have hD2 := hD4.only hE5.only (fun k hk hc => hdis4 k hk hc)
          have hdis2 : ∀ k, bs k → ¬ cs k := hdis
          obtain ⟨hcsB2, hB2⟩ := hE5.own hcsB hB4 (Nat.le_refl _)
          obtain ⟨fv3, lv3, ⟨g0, g1, g2, g3⟩, gf, hz4⟩ := id hR4
          have gf2 := gf 2 (by omega)
          have hok2 : DK.Ok { d with fuse := max nn 0 } n (r + 1) := ⟨hok.now, hok.fast, hok.ats, Nat.le_trans hok.few (by omega), hok.nowS, hok.fastS, hmb.1⟩
          have hsn2 : Snd { d with fuse := max nn 0 } := hsn
          have HD := Lib.hid hD2
          have HRR := Lib.hid hR2
          have HBB := Lib.hid hB2
          clear hD hR hE4 hR4 hdis4 hB4 hD4 hE5 c0 c1 c2 c4 gf hz4 g0 g1 g3 hD2 hR2 hB2
          generalize hmx : max nn 0 = mx at *
          clear hmx
          go_wp2_with fail
          have hD2 := HD.out
          have hR2 := HRR.out
          have hB2 := HBB.out
          go_meet
          exact ⟨_, _, _, hD2, hR2, hok2, hsn2, hbsB2, hcsB2, hdis2, hB2⟩
        · rw [hc] at hke
          have hst2 := hy4.keep hB
          have hsb : stay ≠ [] → ∀ k, (Value.slice so stay.length sc).ownBlock = some k → k < w.heap.size := fun hne k hk => hy4.own_lt' hne k hk
          go_wp2_with fail
          refine (dcrash_any stay _ wA hD (by intro e; have := hok.fast; simp [e] at this; omega) (fun x hx => by have := (hok.ats x hx).1; have := hok.fast; omega) hst2 (fun hne k hk hb => by have := hsb hne k hk; have := hbsB k hb; omega)).mono ?_
          rintro e w4 ⟨rfl, bs4, hD4, hE4⟩
          have hR4 := hR.only hE4.only (fun k hk hb => hdis k hb hk)
          have hdis4 := hE4.disj hdis (fun k hk => hR.lt k hk)
          obtain ⟨hbsB2, hB4⟩ := hE4.own hbsB hB (Nat.le_refl _)
          have c4 := (hE4.only.cell (p := ⟨vb, 4, none⟩) hvl hvbs).trans c4
          have hst4 := hy4.keep hB4
          go_wp2_with fail
          refine (rdcrash_any stay _ w4 hR4 hok hst4 (fun hne k hk hb => by have := hsb hne k hk; have := hcsB k hb; omega)).mono ?_
          rintro e w5 ⟨rfl, cs5, hR2, hE5⟩
          have hD2 := hD4.only hE5.only (fun k hk hc => hdis4 k hk hc)
          have hdis2 : ∀ k, bs4 k → ¬ cs5 k := fun k hk hc => hE5.disj (fun k hk hc => hdis4 k hc hk) (fun k hk => hD4.lt k hk) k hc hk
          obtain ⟨hcsB2, hB2⟩ := hE5.own hcsB hB4 (Nat.le_refl _)
          have hok2 := (hok.crash stay).more (show 0 ≤ r + 1 by omega)
          have hsn2 := Snd.crash d stay
          clear hD hR hE4 hR4 hdis4 hB4 hD4 hE5 c0 c1 c2 c3 c4 hst2 hst4
          generalize d.crash stay = d2 at *
          go_wp2_with fail
          go_meet
          exact ⟨_, _, _, hD2, hR2, hok2, hsn2, hbsB2, hcsB2, hdis2, hB2⟩
      · have hlt9 : ¬ ((r : Int) < 50) := by omega
        clear hcells hall
        go_wp2_with fail
        go_ret
        exact ⟨rfl, hB⟩
    · have hlt8 : ¬ ((r : Int) < ys.length) := by omega
      clear hcells hall
      go_wp2_with fail
      go_ret
      exact ⟨rfl, hB⟩
end Go.Proofs.Ytdhgilpdghohoaa
