/- The walk of LogEnds. -/
import Derived.Test.YtbmdcblcefebiaaLogEndP
import Derived.Test.YtbmdcblcefebiaaLawLogFills
import Derived.Deep.DeepCutAuto
import Derived.BigRegion
namespace Go.Proofs.Ytbmdcblcefebiaa
open Go.RowKit
attribute [local go_sem ↓] alS_eq ldS_eq stS_eq cpB_eq
attribute [local go_sem] run_alS run_guard_sec
theorem MsgsAt.bsl {w : World} {v : Value} {ys : List MsgD} (h : MsgsAt w v ys) {y : MsgD} (hy : y ∈ ys) : Bsl w y.v y.l := h.choose_spec.choose_spec.2.2.2.2 y hy
theorem rangeAt_setS {w : World} {b i : Nat} {s : List UInt8} {v : UInt8} (h : w.rangeAt b 0 (secC s)) : (w.setCell ⟨b, i, none⟩ (.int .u8 (v.toNat : Int))).rangeAt b 0 (secC (s.set i v)) := by
  intro j u hu
  rw [Nat.zero_add]
  have hj : j < s.length := by have := (List.getElem?_eq_some_iff.1 hu).1; simpa [secC] using this
  have h0 := h j (bv s[j]) (by simp [secC, hj])
  rw [Nat.zero_add] at h0
  by_cases hji : i = j
  · subst hji
    rw [World.cell?_setCell_same _ _ _ h0]
    rw [← hu]
    simp [secC, hj, bv]
  · rw [World.cell?_setCell_other _ _ _ _ (by simp), h0, ← hu]
    simp [secC, hj, hji]
theorem xvalL (c : UInt8) (b : Nat) (hb : b < 256) : bits BinOp.xor IntKind.u8 (c.toNat : Int) (b : Int) = ((c ^^^ UInt8.ofNat b).toNat : Int) := by
  rw [u8_xor_nat _ _ c.toNat_lt hb, UInt8.toNat_xor, UInt8.toNat_ofNat', Nat.mod_eq_of_lt hb]
theorem fewL_len (ls : List (List UInt8)) (most size : Nat) : (fewL ls most size).length ≤ most ∧ ∀ r ∈ fewL ls most size, r.length ≤ size := by
  unfold fewL
  refine ⟨by rw [List.length_map, List.length_take]; omega, fun r hr => ?_⟩
  obtain ⟨x, _, rfl⟩ := List.mem_map.1 hr
  rw [List.length_take]; omega
theorem allL_le (n : Nat) : ∀ (rs : List (List UInt8)), (∀ r ∈ rs, r.length ≤ n) → (allL rs).length ≤ rs.length * (n + 8)
  | [], _ => by simp [allL]
  | r :: rs, h => by
    have h1 := allL_le n rs (fun x hx => h x (by simp [hx]))
    have h2 := h r (by simp)
    have h3 : allL (r :: rs) = recL r ++ allL rs := by simp [allL]
    rw [h3, List.length_append, recL_len, List.length_cons, Nat.succ_mul]; omega
set_option maxRecDepth 100000 in
set_option maxHeartbeats 4000000 in
theorem logEnds_walk (v : Value) (xs : List MsgD) (which by_ : Int) (w : World) (hv : MsgsAt w v xs) (_hw1 : (Lit.int .i64 which).wf = true) (_hw2 : (Lit.int .i64 by_).wf = true) :
    Calls Try.prog 3 #[v, .int .i64 which, .int .i64 by_] w fun e w' => e = .returned (.bool true) ∧ Below w.heap.size w w' := by
  clear _hw1 _hw2
  have hfw := refFew_any w v xs 5 60 hv (by omega) (by omega)
  obtain ⟨f5, f60⟩ := fewL_len (xs.map (·.l)) 5 60
  generalize fewL (xs.map (·.l)) 5 60 = rs at *
  obtain ⟨ao, cap, rfl, hz1, hz2, hz3, hz4⟩ := hv
  clear hz1 hz2 hz3 hz4
  have hr30 : roomN 30 = 896 := rfl
  go_enter Try.func3, Try.ntmps3
  go_wp2_with fail
  refine hfw.mono ?_
  rintro e w1 ⟨u, zs, rfl, hru, hzl, hzb, hB1⟩
  have hM1 := MsgsAt.of_rw hru (fun y hy => (hzb y hy).1)
  have hown := msgsB_of_rw hru (fun y hy => (hzb y hy).2)
  have hz60 : ∀ z ∈ zs, z.l.length ≤ 60 := fun z hz => f60 z.l (by rw [← hzl]; exact List.mem_map_of_mem hz)
  have hz5 : zs.length ≤ 5 := by have := congrArg List.length hzl; rw [List.length_map] at this; omega
  obtain ⟨uo, uc, rfl, hy1, hy2, hy3, hy4⟩ := id hM1
  clear hy3 hy4 hru hzb hzl f5 f60 hfw
  go_wp2_with fail
  refine (dnew_ok 30 w1 (by omega) (by omega)).mono ?_
  rintro e w2 ⟨p, rfl, ⟨ds, hD, hds⟩, hB2⟩
  go_wp2_with fail
  refine (format_new w2 hD (by omega) (by omega)).mono ?_
  rintro e w3 ⟨lp, rfl, d, bs, hL, hE, hH, hI, hn, hfu⟩
  obtain ⟨hbs3, hBB3⟩ := hE.own hds hB2 (Nat.le_refl _)
  clear hE hD hds hB2
  go_wp2_with fail
  refine (logs_any w3).mono ?_
  rintro e w4 ⟨rfl, hB4⟩
  have hL4 := hL.keep hB4
  have hB14 := hBB3.trans (hB4.mono hBB3.size)
  have hM4 := hM1.keep hB14
  have hml := hM1.lt
  clear hL hB4 hBB3 hM1
  have hall : (allL (zs.map (·.l))).length ≤ 400 := by
    have h1 := allL_le 60 (zs.map (·.l)) (fun r hr => by obtain ⟨z, hz, rfl⟩ := List.mem_map.1 hr; exact hz60 z hz)
    rw [List.length_map] at h1; omega
  have hrp := replace_st w4 hL4 hH hI _ zs hM4 (fun y hy => by have := hz60 y hy; omega) (by omega) (by decide) (by rw [hn, hr30]; omega)
  have HX := Lib.hid (And.intro hn hfu)
  clear hL4 hH hI hn hfu
  go_wp2_with fail
  refine hrp.mono ?_
  rintro e w5 ⟨d2, bs5, hE5, hn5, hc⟩
  obtain ⟨hn, hfu⟩ := HX.out
  rcases hc with ⟨rfl, hL5, hH5, hI5, hf5⟩ | ⟨_, _, _, h0, _⟩
  · have hfu5 := hf5 hfu
    rw [hn] at hn5
    obtain ⟨hbs5, hB15⟩ := hE5.own hbs3 hB14 (Nat.le_refl _)
    have hM5 : MsgsAt w5 (.slice uo zs.length uc) zs := hM4.only hE5.only (fun k hk e => by have := hml k hk; have := hbs3 k e; omega)
    clear hE5 hM4 hrp hB14 hbs3 hf5 hn hfu HX
    by_cases hz0 : zs = []
    · subst hz0
      have HB := Lib.hid (hB1.trans (hB15.mono hB1.size))
      clear hB1 hB15 hM5 hL5 hH5 hI5 hn5 hbs5 hown hml
      go_wp2_with fail
      go_ret
      exact ⟨rfl, HB.out⟩
    · have hzp : 0 < zs.length := List.length_pos_iff.2 hz0
      have hzi : ¬ (zs.length : Int) = 0 := by omega
      have HX := Lib.hid (And.intro hL5 (And.intro hH5 (And.intro hI5 (And.intro hfu5 (And.intro hn5 (And.intro hbs5 hB15))))))
      clear hL5 hH5 hI5 hfu5 hn5 hbs5 hB15 hz0
      obtain ⟨k, hk, hk1, hk2⟩ := umodL which zs.length hzp (by omega)
      clear hk2
      have hki : (k : Int) < zs.length := by omega
      have hk0 : (0 : Int) ≤ k := Int.natCast_nonneg _
      have hkc : (k : Int) ≤ uc := by omega
      have hMk := hM5.take (k := k) (by omega)
      have hllk : (zs.take k).map (·.l) = (zs.map (·.l)).take k := List.map_take
      have hak : (allL ((zs.take k).map (·.l))).length ≤ 400 := by rw [hllk]; exact Nat.le_trans (allL_take_le _ _) hall
      have hAll := fun w' (h : Below w5.heap.size w5 w') => refAll_any w' _ (zs.take k) (hMk.keep h) (fun y hy => by have := hz60 y (List.mem_of_mem_take hy); omega) (by rw [List.length_take]; omega) (by omega)
      generalize hAL : allL ((zs.take k).map (·.l)) = AL at hAll hak
      obtain ⟨ah, hah2⟩ : ∃ ah : Nat, AL.length = ah := ⟨_, rfl⟩
      have hah4 : ah ≤ 400 := by omega
      have HAH := Lib.hid (And.intro hAL hllk)
      clear hAL hak hllk hMk
      unfold strV at hAll
      go_wp2_with fail
      refine (hAll _ (Below.refl _ _)).mono ?_
      rintro e w6 ⟨rfl, hB6⟩
      clear hAll
      have hz18 := hz60
      obtain ⟨g, o, rfl, hcc⟩ : ∃ g o, uo = some ⟨g, o, none⟩ ∧ ∀ j (hj : j < zs.length), w6.cell? ⟨g, o + j, none⟩ = some zs[j].v := by
        obtain ⟨ao', cap', he, h1, h2, hcs, hbb⟩ := hM5.keep hB6
        injection he with e1 e2 e3
        obtain ⟨g, o, hg, hcc⟩ := hcs (fun e => by rw [e] at hzp; simp at hzp)
        exact ⟨g, o, by rw [e1, hg], hcc⟩
      have hM6 := hM5.keep hB6
      have hck : w6.drew.cell? ⟨g, o + k, none⟩ = some zs[k].v := hcc k hk
      have hbk : Bsl w6.drew zs[k].v zs[k].l := (hM6.keep ((Below.refl _ _).drew)).bsl (List.getElem_mem hk)
      have hrl := hz60 zs[k] (List.getElem_mem hk)
      generalize hzk : zs[k] = z at *
      have hcv := run_str _ hbk
      have hrb := fun w => refRBytes_any z.l w (by omega)
      unfold strV at hrb
      have hrl8 := recL_len z.l
      generalize hrx : recL z.l = rx at *
      obtain ⟨S, hS, hS2⟩ : ∃ S : Nat, S = z.l.length + 8 ∧ rx.length = S := ⟨_, rfl, hrl8⟩
      obtain ⟨S4, hS4, hS5⟩ : ∃ S4 : Nat, S4 = z.l.length + 4 ∧ IntKind.i64.wrap ((S : Int) - 4) = (S4 : Int) := ⟨z.l.length + 4, rfl, by rw [IntKind.wrap_i64]; omega⟩
      have hS4b : 4 ≤ S4 ∧ S4 ≤ 64 := by omega
      have hu4 : IntKind.u64.wrap (S4 : Int) = (S4 : Int) := by rw [IntKind.wrap_u64]; omega
      have hn4 : ¬ (S4 : Int) = 0 := by omega
      obtain ⟨x, hx, hx3, hx2⟩ := umodL by_ S4 (by omega) (by omega)
      clear hx3
      obtain ⟨A3, hA3, hA3w⟩ : ∃ A3 : Nat, A3 = 1024 + (ah + (4 + x)) ∧ IntKind.i64.wrap (1024 + (ah : Int) + 4 + (x : Int)) = (A3 : Int) := ⟨1024 + (ah + (4 + x)), rfl, by rw [IntKind.wrap_i64]; omega⟩
      have HA := Lib.hid (And.intro hA3 (And.intro hS4 hx))
      clear hS hrl8 hS4 hA3
      have HRX := Lib.hid (And.intro hzk hrx)
      clear hzk hrx hbk hcc
      have hrr := fun w => refRoom_any 30 w (by omega)
      rw [hr30] at hrr
      go_upto_region 10 with (fail)
      have hgl : g < w6.drew.heap.size := World.block_lt_of_cell? w6.drew _ hck
      have hB6b := hB6
      have HM5 := Lib.hid hM5
      clear hM5 hB6
      go_cut [14] (fun v wx => v = .int .i64 A3 ∧ Below w6.drew.heap.size w6.drew wx)
      case first =>
        go_region_held_law (fun w' => w'.cell? ⟨g, o + k, none⟩ = some z.v) (first | exact hck | go_keep) (first
          | (go_at_call 13; refine (hrr _).mono ?_; rintro e wB ⟨rfl, rfl⟩)
          | (go_at_call 14; refine (hrb _).mono ?_; rintro e w7 ⟨rfl, hB7⟩; have hck : w7.cell? ⟨g, o + k, none⟩ = some z.v := (hB7.cell (p := ⟨g, o + k, none⟩) hgl).trans hck))
        all_goals
          go_wp2_with fail
          go_meet
          exact ⟨rfl, hB7⟩
      case rest =>
        obtain ⟨rfl, hB7⟩ := hcut
        have hBx : Below w5.heap.size w5 wc := hB6b.trans ((Below.of_drew hB7).mono hB6b.size)
        obtain ⟨hL5, hH5, hI5, hfu5, hn5, hbs5, hB15⟩ := HX.out
        obtain ⟨hA3, hS4, hx⟩ := HA.out
        have hsplit := allL_split (zs.map (·.l)) (k := k) (by rw [List.length_map]; exact hk)
        have hzk : (zs.map (·.l))[k]'(by rw [List.length_map]; exact hk) = z.l := by rw [List.getElem_map, HRX.out.1]
        have hahe : (allL ((zs.map (·.l)).take k)).length = ah := by rw [← HAH.out.2, HAH.out.1]; exact hah2
        have hJ : ah + (4 + x) < (allL (zs.map (·.l))).length := by
          rw [hsplit, List.length_append, List.length_append, hahe, hzk, recL_len]; omega
        have hL7 := hL5.keep hBx
        obtain ⟨ds7, hD7, hds7, hst7⟩ := hL7.disk
        have hidx : A3 / 64 = 16 + (ah + (4 + x)) / 64 := by omega
        have hin : A3 / 64 < d2.now.length := by rw [hn5]; omega
        have hm0 := may_in (i := A3 / 64) hH5.on hin
        have hrd := dread_any ((A3 / 64 : Nat) : Int) wc hD7
        have hre : d2.readE ((A3 / 64 : Nat) : Int) = 0 := hm0
        have hrv : d2.readV ((A3 / 64 : Nat) : Int) = d2.now[A3 / 64] := by unfold DK.readV; rw [if_pos hm0, Int.toNat_natCast]; simp [List.getD, hin]
        rw [hre, hrv] at hrd
        have hsl : (d2.now[A3 / 64]).length = 64 := hH5.sec _ (List.getElem_mem hin)
        have hss : d2.now[A3 / 64]? = some d2.now[A3 / 64] := List.getElem?_eq_getElem hin
        generalize d2.now[A3 / 64] = ss at hrd hsl hss
        have HD := Lib.hid (And.intro hBx (And.intro hss (And.intro hidx (And.intro hJ (And.intro hsplit hahe)))))
        have hA3q : ((A3 : Int) / 64) = ((A3 / 64 : Nat) : Int) := by omega
        obtain ⟨Q, hQ⟩ : ∃ Q, A3 / 64 = Q := ⟨_, rfl⟩
        rw [hQ] at hA3q hrd
        have HQ := Lib.hid hQ
        have hA30 : (0 : Int) ≤ A3 := Int.natCast_nonneg _
        have hA3b : (A3 : Int) ≤ 2000 := by have := HA.out; omega
        have HA3Q := Lib.hid hA3q
        clear hA3q
        clear hBx hL5 hH5 hI5 hfu5 hn5 hbs5 hB15 hA3 hS4 hx hsplit hzk hahe hJ hL7 hD7 hidx hin hm0 hre hrv hss hQ hds7 hB7 hck hcv hrb
        clear hst7 hk1 hgl hu4 hn4 hx2 hA3w hS5 hS4b hS2 hrr
        go_wp2_with fail
        rw [HA3Q.out]
        refine hrd.mono ?_
        rintro e w8 ⟨rfl, hB8⟩
        have hst := run_stS (w8.alloc (.cells (zC 1).toArray 39)) w8.heap.size 0 ss (there_alS w8) hsl
        obtain ⟨hv1, hv2, hv3⟩ := secV_var w8 ss hsl
        have hB9 := hB8.trans (hv2.mono hB8.size)
        have hfr9 : ∀ j, ((w8.alloc (.cells (zC 1).toArray 39)).setCells w8.heap.size 0 (secC ss)).frozen? ⟨w8.heap.size, j, none⟩ = false := fun j => by rw [World.frozen?_setCells]; simp
        have hsb : wc.heap.size ≤ w8.heap.size := hB8.size
        clear hB8 hv2 hrd
        go_upto_region 12 with (fail)
        clear hst
        generalize (w8.alloc (.cells (zC 1).toArray 39)).setCells w8.heap.size 0 (secC ss) = w9 at *
        generalize w8.heap.size = sb at *
        obtain ⟨R, hR, hR2⟩ : ∃ R : Nat, A3 % 64 = R ∧ (A3 : Int) % 64 = (R : Int) := ⟨A3 % 64, rfl, by omega⟩
        have hR64 : R < 64 := by omega
        have hRi : (R : Int) < 64 := by omega
        have hRi0 : (0 : Int) ≤ R := Int.natCast_nonneg _
        obtain ⟨q5, hq5, hq5b, hq5c⟩ : ∃ q5 : Nat, q5 < 255 ∧ IntKind.u8.wrap ((IntKind.u64.wrap by_).tmod 255) = (q5 : Int) ∧ IntKind.u8.wrap (1 + (q5 : Int)) = 1 + (q5 : Int) := by
          have h1 : 0 ≤ (IntKind.u64.wrap by_).tmod 255 := by rw [IntKind.wrap_u64]; exact Int.tmod_nonneg _ (by omega)
          have h2 : (IntKind.u64.wrap by_).tmod 255 < 255 := by rw [IntKind.wrap_u64]; exact Int.tmod_lt_of_pos _ (by omega)
          refine ⟨((IntKind.u64.wrap by_).tmod 255).toNat, by omega, ?_, ?_⟩
          · rw [IntKind.wrap_u8]; omega
          · rw [IntKind.wrap_u8]; omega
        have hcR : w9.cell? ⟨sb, R, none⟩ = some (.int .u8 ((ss.getD R 0).toNat : Int)) := by
          have := hv1 R (.int .u8 ((ss.getD R 0).toNat : Int)) (by simp [secC, List.getD, hsl, hR64, bv])
          rw [Nat.zero_add] at this
          exact this
        have hfR : w9.frozen? ⟨sb, R, none⟩ = false := hfr9 R
        obtain ⟨cc, hcc⟩ : ∃ cc, cc = ss.getD R 0 := ⟨_, rfl⟩
        rw [← hcc] at hcR
        have HCC := Lib.hid (And.intro hcc (And.intro hR hq5))
        clear hcc hR hq5
        go_upto_region 13 with (fail)
        have hxv := xvalL cc (q5 + 1) (by have := HCC.out.2.2; omega)
        rw [show (((q5 + 1 : Nat) : Nat) : Int) = 1 + (q5 : Int) by omega] at hxv
        rw [hxv]
        clear hxv hcR hfR
        have hr10 := rangeAt_setS (v := cc ^^^ UInt8.ofNat (q5 + 1)) hv1 (i := R)
        have hl10 : (ss.set R (cc ^^^ UInt8.ofNat (q5 + 1))).length = 64 := by rw [List.length_set]; exact hsl
        have hB10 : Below wc.heap.size wc (w9.setCell ⟨sb, R, none⟩ (.int .u8 ((cc ^^^ UInt8.ofNat (q5 + 1)).toNat : Int))) := hB9.setCell (p := ⟨sb, R, none⟩) hsb _
        generalize w9.setCell ⟨sb, R, none⟩ (.int .u8 ((cc ^^^ UInt8.ofNat (q5 + 1)).toNat : Int)) = w10 at *
        generalize hs10 : ss.set R (cc ^^^ UInt8.ofNat (q5 + 1)) = s10 at *
        have hld := run_ldS w10 sb 0 s10 hr10 hl10
        obtain ⟨hBx, hss, hidx, hJ, hsplit, hahe⟩ := HD.out
        obtain ⟨hL5, hH5, hI5, hfu5, hn5, hbs5, hB15⟩ := HX.out
        have hB510 : Below w5.heap.size w5 w10 := hBx.trans (hB10.mono hBx.size)
        have hL10 := hL5.keep hB510
        obtain ⟨ds10, hD10, hds10, hst10⟩ := hL10.disk
        have hin : Q < d2.now.length := by rw [← HQ.out]; exact (List.getElem?_eq_some_iff.1 hss).1
        obtain ⟨wm1, wm2, wm3⟩ := write_spec (i := Q) s10 hH5.on hH5.fuse.1 hin
        have hwe : d2.wrE (Q : Nat) s10 = 0 ∧ (d2.wrS (Q : Nat) s10).off = false := by
          rcases wm3 with h | ⟨_, _, h⟩
          · exact h
          · omega
        have hwr := dwrite_any (Q : Nat) s10 w10 hD10 hl10 (by rw [hH5.loose]; simp)
        rw [hwe.1] at hwr
        have hbsl := fun k hk => hbs5 k (hds10 k hk)
        have hB110 := hB15.trans (hB510.mono hB15.size)
        have HW := Lib.hid (And.intro hwe.2 (And.intro wm2 (And.intro hs10 (And.intro hbsl (And.intro hB110 (HM5.out.keep hB510))))))
        clear hBx hss hidx hJ hsplit hahe hL5 hH5 hI5 hfu5 hn5 hbs5 hB15 hB510 hL10 hD10 hds10 hst10 wm1 wm2 wm3 hwe hB10 hB9 hv1 hfr9 hs10 hbsl hB110 hin hr10 hl10 hsl hsb
        go_wp2_with fail
        rw [HA3Q.out]
        refine hwr.mono ?_
        rintro e w11 ⟨rfl, ds11, hD11, hE11⟩
        obtain ⟨hoff, wm2, hs10, hbsl, hB110, hM10⟩ := HW.out
        obtain ⟨hss, hidx, hJ, hsplit, hahe⟩ := HD.out.2
        obtain ⟨hL5, hH5, hI5, hfu5, hn5, hbs5, hB15⟩ := HX.out
        obtain ⟨hA3, hS4, hx⟩ := HA.out
        obtain ⟨hcc, hR, hq5⟩ := HCC.out
        obtain ⟨hds11, hB111⟩ := hE11.own hbsl hB110 (Nat.le_refl _)
        have hM11 : MsgsAt w11 (.slice (some ⟨g, o, none⟩) zs.length uc) zs := hM10.only hE11.only (fun k hk e => by have := hml k hk; have := hbsl k e; omega)
        have har : areaN d2.now.length = 14 := by rw [hn5]; rfl
        have hQe : Q = 2 + ((0 + 1) % 2) * areaN d2.now.length + (ah + (4 + x)) / 64 := by rw [har, ← HQ.out, hidx]
        have hRe : R = (ah + (4 + x)) % 64 := by rw [← hR, hA3]; omega
        have hIm := img_set (c := UInt8.ofNat (q5 + 1)) hI5 hJ (x := ss) (by rw [← hQe, ← HQ.out]; exact hss)
        rw [← hQe, ← hRe, ← hcc, hs10, ← wm2] at hIm
        have hc0 : UInt8.ofNat (q5 + 1) ≠ 0 := fun e => by
          have h1 := congrArg UInt8.toNat e
          rw [UInt8.toNat_ofNat', Nat.mod_eq_of_lt (by omega)] at h1
          exact absurd h1 (by simp)
        have hzk2 : (zs.map (·.l))[k]'(by rw [List.length_map]; exact hk) = z.l := by rw [List.getElem_map, HRX.out.1]
        have hrs := recsA_set (zs.map (·.l)) (k := k) (j := 4 + x) (by rw [List.length_map]; exact hk) (fun r hr => by obtain ⟨y, hy, rfl⟩ := List.mem_map.1 hr; have := hz60 y hy; omega) (by omega) (by rw [hzk2]; omega) (UInt8.ofNat (q5 + 1)) hc0
        rw [hahe] at hrs
        have hop := open_img w11 hD11 hoff hIm
        rw [hrs] at hop
        have hnD : (d2.wrS (Q : Nat) s10).now.length = 30 := by rw [wm2, List.length_set]; exact hn5
        have hbl : ((allL (zs.map (·.l))).set (ah + (4 + x)) ((allL (zs.map (·.l))).getD (ah + (4 + x)) 0 ^^^ UInt8.ofNat (q5 + 1))).length = (allL (zs.map (·.l))).length := List.length_set
        have hahl : ah ≤ (allL (zs.map (·.l))).length := by omega
        generalize (allL (zs.map (·.l))).set (ah + (4 + x)) ((allL (zs.map (·.l))).getD (ah + (4 + x)) 0 ^^^ UInt8.ofNat (q5 + 1)) = b2 at *
        have HN := Lib.hid (And.intro hnD (And.intro hbl (And.intro hahl (And.intro hM11 hB111))))
        clear hoff wm2 hs10 hbsl hB110 hM10 hss hidx hJ hsplit hahe hL5 hH5 hI5 hfu5 hn5 hbs5 hB15 hA3 hS4 hx hcc hR hq5 hds11 hB111 hM11 har hQe hRe hIm hc0 hzk2 hrs hnD hbl hahl hD11 hE11 hwr
        go_wp2_with fail
        refine hop.mono ?_
        rintro e w12 ⟨lp2, u2, ys2, rfl, hM2, hys2, hB12, bs12, hL12, _⟩
        obtain ⟨hnD, hbl, hahl, hM11, hB111⟩ := HN.out
        have hyl2 : ys2.length = k := by have := congrArg List.length hys2; rw [List.length_map, List.length_take, List.length_map] at this; omega
        obtain ⟨ao2, cp2, rfl, hz7, hz8, hz9, hz10⟩ := id hM2
        clear hz7 hz8 hz9 hz10
        have hSm := refSame_any w12 _ _ ys2 (zs.take k) hM2 ((hM11.keep hB12).take (by omega))
        have hte : ys2.map (·.l) = (zs.take k).map (·.l) := by rw [hys2, List.map_take]
        rw [decide_eq_true hte] at hSm
        have hlf := fun w' (h : Below w12.heap.size w12 w') => lleft_any w' (hL12.keep h) (by rw [hnD]; omega) (by show (b2.take ah).length ≤ _; rw [List.length_take]; omega)
        have hlv : leftN (d2.wrS (Q : Nat) s10) ⟨1 + 1, (0 + 1) % 2, b2.take ah⟩ = 896 - (ah : Int) := by
          unfold leftN
          rw [hnD, hr30]
          show ((896 : Nat) : Int) - ((b2.take ah).length : Int) = _
          rw [List.length_take, Nat.min_eq_left (by omega)]; rfl
        rw [hlv] at hlf
        have hrr := fun w => refRoom_any 30 w (by omega)
        rw [hr30] at hrr
        have HBF := Lib.hid (hB1.trans ((hB111.trans (hB12.mono hB111.size)).mono hB1.size))
        rw [hyl2] at hSm ⊢
        clear hnD hbl hahl hM11 hB111 hB12 hM2 hys2 hL12 hte hlv hop hyl2
        go_wp2_with fail
        refine hSm.mono ?_
        rintro e w13 ⟨rfl, hB13⟩
        go_wp2_with fail
        refine (hlf _ hB13).mono ?_
        rintro e w14 ⟨rfl, hB14⟩
        have HB14 := Lib.hid (HBF.out.trans ((hB13.trans (hB14.mono hB13.size)).mono HBF.out.size))
        clear hlf hSm hB13 hB14 HBF
        go_wp2_with fail
        refine (hrr _).mono ?_
        rintro e w15 ⟨rfl, rfl⟩
        go_wp2_with fail
        go_ret
        exact ⟨rfl, HB14.out⟩
  · omega
end Go.Proofs.Ytbmdcblcefebiaa
