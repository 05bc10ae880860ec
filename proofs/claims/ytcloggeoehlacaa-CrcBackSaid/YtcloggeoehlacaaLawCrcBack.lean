/- casketlaw09.CrcBack: the walk. -/
import Derived.Test.YtcloggeoehlacaaRefCrc
import Derived.Test.YtcloggeoehlacaaCrcBurst
import Derived.Deep.QuietTactic
import Derived.BigQuiet
import Derived.Lib.QuietBelow
import Derived.Deep.DeepCutAuto
import Derived.Deep.RegionHeldLaw
namespace Go.Proofs.Ytcloggeoehlacaa
open Go.RowKit Crc
theorem xval (c : UInt8) (x : Int) (b : Nat) (hx : x = ((b % 256 : Nat) : Int)) : bits BinOp.xor IntKind.u8 (c.toNat : Int) x = ((c ^^^ UInt8.ofNat b).toNat : Int) := by
  rw [hx, u8_xor_nat _ _ c.toNat_lt (by omega), UInt8.toNat_xor, UInt8.toNat_ofNat']
theorem at_mod (x : Int) (n : Nat) (hn : n ≤ 1000) : ∃ k : Nat, k ≤ n ∧ wrap64 ((IntKind.u64.wrap x).tmod ((n : Int) + 4 - 3)) = (k : Int) := by
  rw [IntKind.wrap_u64]
  have h1 : 0 ≤ x % 18446744073709551616 := by omega
  rw [Int.tmod_eq_emod_of_nonneg h1]
  generalize x % 18446744073709551616 = y at *
  have h2 : 0 ≤ y % ((n : Int) + 4 - 3) := Int.emod_nonneg _ (by omega)
  have h3 : y % ((n : Int) + 4 - 3) < (n : Int) + 4 - 3 := Int.emod_lt_of_pos _ (by omega)
  refine ⟨(y % ((n : Int) + 4 - 3)).toNat, by omega, ?_⟩
  rw [IntWalk.wrap64_in _ (by omega)]
  omega
set_option maxRecDepth 100000 in
set_option maxHeartbeats 400000 in
theorem crcBack_walk (v : Value) (l : List UInt8) (at_ : Int) (by_ : Int) (w : World) (hb : Bsl w v l) (hat : (Lit.int .i64 at_).wf = true) (hby : (Lit.int .u32 by_).wf = true) :
    Calls Try.prog 5 #[v, .int .i64 at_, .int .u32 by_] w fun e w' => e = .returned (.bool true) ∧ Below w.heap.size w w' := by
  have hb' := hb
  obtain ⟨ao, cap, rfl, hlc, hcm, hnil, hca⟩ := hb'
  clear hnil hca
  have bat := bounds_i64 hat
  have bby := bounds_u32 hby
  clear hat hby
  obtain ⟨by_, rfl⟩ := Int.eq_ofNat_of_zero_le bby.1
  go_enter Try.func5, Try.ntmps5
  go_upto_region 1 with (fail)
  go_cut [0] (fun v wx => ∃ m : List UInt8, Bsl wx v m ∧ m.length ≤ 300 ∧ w = wx)
  case first =>
    by_cases h3 : l.length ≤ 300
    · have h3' : (l.length : Int) ≤ 300 := by omega
      go_wp2_with fail
      go_meet
      exact ⟨l, hb, h3, rfl⟩
    · have h3' : 300 < (l.length : Int) := by omega
      have hcap : 300 ≤ (cap : Int) := by omega
      have ht := hb.take (m := 300) (by omega)
      have htl : (l.take 300).length = 300 := by simp; omega
      have HT := Lib.hid htl; clear htl
      generalize l.take 300 = t at *
      go_wp2_with fail
      go_meet
      exact ⟨t, ht, by rw [HT.out]; omega, rfl⟩
  case rest =>
    obtain ⟨m, hm, hml, rfl⟩ := hcut
    clear hb hlc hcm
    go_wp2_with fail
    refine (close_any _ m _ hm (by omega)).mono ?_
    rintro e w1 ⟨v1, rfl, ho1, hb1⟩
    have hcl := closeL_length m
    obtain ⟨g, cap1, hv1, hgb, hgs, hgc, hgm⟩ := ho1.shape (by intro h; rw [h] at hcl; simp at hcl)
    rw [hcl] at hv1
    subst hv1
    have hok := openOk_close m
    have htk := take_close m
    have hbo := burst_open m
    have HB := Lib.hid hbo; clear hbo
    have HCL := Lib.hid hcl
    generalize hclm : closeL m = cl at *
    have hm4 : m.length + 4 ≤ cap1 := by omega
    clear hcl hgc hclm
    go_wp2_with fail
    refine (open_any _ cl _ ho1.bsl (by rw [HCL.out]; omega)).mono ?_
    rw [hok, if_pos rfl, htk]
    rintro e w2 ⟨v2, rfl, ho2, hb2⟩
    clear hok htk
    go_wp2_with fail
    refine (checks_any _).mono ?_
    rintro e w3 ⟨rfl, hb3⟩
    have s1 := run_str w3 (ho2.bsl.keep hb3)
    have s2 := run_str w3 (((hm.keep hb1).keep hb2).keep hb3)
    have B1 : Below w.heap.size w w3 := hb1.trans ((hb2.mono hb1.size).trans (hb3.mono (Nat.le_trans hb1.size hb2.size)))
    have ho3 := (ho1.keep hb2).keep hb3
    obtain ⟨bo, cap0, rfl, _, _, _, _⟩ := hm
    clear hb1 hb2 hb3 ho1 ho2
    by_cases h0 : by_ = 0
    · have h0' : ((by_ : Int) == 0) = true := by simp [h0]
      go_wp2_with fail
      go_ret
      exact ⟨rfl, B1⟩
    · have h0' : ((by_ : Int) == 0) = false := by simp [h0]
      obtain ⟨k, hk, hke⟩ := at_mod at_ m.length (by omega)
      go_wp2_with fail
      rw [hke]
      clear hke
      go_loopw [11] (fun i wr => ∃ j : Nat, j ≤ 4 ∧ i = .int .i64 j ∧ OB wr w.heap.size (.slice (some ⟨g, 0, none⟩) (m.length + 4) cap1) (xa cl k by_ j) ∧ Below w.heap.size w wr) (fun i _ => 4 - (intOf i).toNat)
      case atStart => exact ⟨0, by omega, rfl, ho3, B1⟩
      case round =>
        obtain ⟨j, hj, rfl, hown, hbel⟩ := hrel
        have hxl := xa_length cl k by_ j
        rw [HCL.out] at hxl
        have HXL := Lib.hid hxl
        by_cases hj4 : j < 4
        · have hc := hown.cell hxl.symm (j := k + j) (by omega)
          have hf := hown.free hxl.symm (k + j)
          have hidx : (k : Int) + (j : Int) < (m.length : Int) + 4 := by omega
          clear hxl
          obtain ⟨c, hcc⟩ : ∃ c, c = (xa cl k by_ j).getD (k + j) 0 := ⟨_, rfl⟩
          rw [← hcc] at hc
          have HC := Lib.hid hcc; clear hcc
          have hgs' : g < wr.heap.size := World.block_lt_of_cell? wr _ hc
          have h03 : j = 0 ∨ j = 1 ∨ j = 2 ∨ j = 3 := by omega
          have hc256 : (c.toNat : Int) < 256 := by have := c.toNat_lt; omega
          rcases h03 with h | h | h | h
          · subst h
            rw [Nat.add_zero] at hc hf
            have HX := Lib.hid (xval c ((by_ : Int) % 256) (by_ / 256 ^ 0) (by simp only [Nat.reducePow]; omega))
            go_wp2_with fail
            go_region
            rw [HX.out]
            have hown' := hown.set HXL.out.symm (k) (c ^^^ UInt8.ofNat (by_ / 256 ^ 0))
            have hbel' := hbel.setCell (p := ⟨g, k, none⟩) hgb (.int .u8 ((c ^^^ UInt8.ofNat (by_ / 256 ^ 0)).toNat : Int))
            clear hc hf hown
            generalize wr.setCell ⟨g, k, none⟩ (.int .u8 ((c ^^^ UInt8.ofNat (by_ / 256 ^ 0)).toNat : Int)) = w5 at *
            go_wp2_with fail
            go_roundw
            case rel => exact ⟨1, by omega, by go_num, by rw [HC.out] at hown'; exact hown'.drew, hbel'.drew⟩
            case measure => simp [intOf]
          · subst h
            have HX := Lib.hid (xval c ((by_ : Int) / 256 % 256) (by_ / 256 ^ 1) (by simp only [Nat.reducePow]; omega))
            go_wp2_with fail
            go_region
            rw [HX.out]
            have hown' := hown.set HXL.out.symm (k + 1) (c ^^^ UInt8.ofNat (by_ / 256 ^ 1))
            have hbel' := hbel.setCell (p := ⟨g, k + 1, none⟩) hgb (.int .u8 ((c ^^^ UInt8.ofNat (by_ / 256 ^ 1)).toNat : Int))
            clear hc hf hown
            generalize wr.setCell ⟨g, k + 1, none⟩ (.int .u8 ((c ^^^ UInt8.ofNat (by_ / 256 ^ 1)).toNat : Int)) = w5 at *
            go_wp2_with fail
            go_roundw
            case rel => exact ⟨2, by omega, by go_num, by rw [HC.out] at hown'; exact hown'.drew, hbel'.drew⟩
            case measure => simp [intOf]
          · subst h
            have HX := Lib.hid (xval c ((by_ : Int) / 65536 % 256) (by_ / 256 ^ 2) (by simp only [Nat.reducePow]; omega))
            go_wp2_with fail
            go_region
            rw [HX.out]
            have hown' := hown.set HXL.out.symm (k + 2) (c ^^^ UInt8.ofNat (by_ / 256 ^ 2))
            have hbel' := hbel.setCell (p := ⟨g, k + 2, none⟩) hgb (.int .u8 ((c ^^^ UInt8.ofNat (by_ / 256 ^ 2)).toNat : Int))
            clear hc hf hown
            generalize wr.setCell ⟨g, k + 2, none⟩ (.int .u8 ((c ^^^ UInt8.ofNat (by_ / 256 ^ 2)).toNat : Int)) = w5 at *
            go_wp2_with fail
            go_roundw
            case rel => exact ⟨3, by omega, by go_num, by rw [HC.out] at hown'; exact hown'.drew, hbel'.drew⟩
            case measure => simp [intOf]
          · subst h
            have HX := Lib.hid (xval c ((by_ : Int) / 16777216) (by_ / 256 ^ 3) (by simp only [Nat.reducePow]; omega))
            go_wp2_with fail
            go_region
            rw [HX.out]
            have hown' := hown.set HXL.out.symm (k + 3) (c ^^^ UInt8.ofNat (by_ / 256 ^ 3))
            have hbel' := hbel.setCell (p := ⟨g, k + 3, none⟩) hgb (.int .u8 ((c ^^^ UInt8.ofNat (by_ / 256 ^ 3)).toNat : Int))
            clear hc hf hown
            generalize wr.setCell ⟨g, k + 3, none⟩ (.int .u8 ((c ^^^ UInt8.ofNat (by_ / 256 ^ 3)).toNat : Int)) = w5 at *
            go_wp2_with fail
            go_roundw
            case rel => exact ⟨4, by omega, by go_num, by rw [HC.out] at hown'; exact hown'.drew, hbel'.drew⟩
            case measure => simp [intOf]
        · have hj4' : j = 4 := by omega
          subst hj4'
          have hopen := HB.out k by_ hk (by omega) h0
          generalize xa cl k by_ 4 = x at *
          go_wp2_with fail
          rw [← hxl]
          refine (open_any _ x _ (by rw [← hxl] at hown; exact hown.bsl) (by omega)).mono ?_
          rw [hopen]
          rintro e w6 ⟨v6, rfl, ho6, hb6⟩
          obtain ⟨ao6, cap6, rfl, _, _, _, _⟩ := ho6.bsl
          go_wp2_with fail
          go_ret
          exact ⟨rfl, hbel.trans (hb6.mono hbel.size)⟩
end Go.Proofs.Ytcloggeoehlacaa
