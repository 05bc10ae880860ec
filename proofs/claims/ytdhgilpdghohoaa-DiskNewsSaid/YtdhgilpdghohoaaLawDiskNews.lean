/- The law DiskNews. -/
import Derived.Test.YtdhgilpdghohoaaDiskImage
import Derived.Test.YtdhgilpdghohoaaOpen
import Derived.Deep.RegionHeldLaw
import Derived.Deep.DeepCutAuto
import Derived.IntWalk
import Derived.Laws.BitsLemmas
namespace Go.Proofs.Ytdhgilpdghohoaa
open Go.RowKit
attribute [local go_sem ↓] alS_eq stS_eq ldS_eq blS_eq
attribute [local go_sem] run_alS run_guard_sec
set_option maxRecDepth 100000 in
theorem nread (w : World) : Calls Try.prog 15 #[.pointer none, .int .i64 0] w fun e w' => e = .returned (.tuple #[secV (secL 0), .int .i64 1]) ∧ Below w.heap.size w w' := by
  have hst := run_stS (w.alloc (.cells (zC 1).toArray 43)) w.heap.size 0 (secL 0) (there_alS w) (secL_len 0)
  obtain ⟨hv1, hv2, hv3⟩ := secV_var w (secL 0) (secL_len 0)
  have hl0 := secL_len 0
  have hbl := fun w => run_blS w
  generalize secL 0 = z at *
  have hlc : (secC z).length = 64 := by simp [secC, hl0]
  have HV := Lib.hid hv1
  have HB := Lib.hid hv2
  clear hv1 hv2 hv3
  go_enter Try.func15, Try.ntmps15
  go_wp2_with fail
  refine (nmay 0 _).mono ?_
  rintro e w1 ⟨rfl, rfl⟩
  go_wp2_with fail
  refine bodyPost_ret (results_cell_tmp Try.results15 rfl (run_loadVar_mid _ _ _ _ (secC z) _ HV.out Try.underlying43 rfl (by rw [hlc]; kernel_rfl))) rfl ⟨?_, HB.out⟩
  rfl
set_option maxRecDepth 100000 in
theorem none_any (w : World) : Calls Try.prog 23 #[] w fun e w' => e = .returned (.pointer none) ∧ w = w' := by
  go_enter Try.func23, Try.ntmps23
  go_wp2_with fail
  go_ret
  exact ⟨rfl, rfl⟩
theorem flat64 : ∀ (l : List (List UInt8)), (∀ s ∈ l, s.length = 64) → l.flatten.length = 64 * l.length := by
  intro l
  induction l with
  | nil => intro _; rfl
  | cons a l ih => intro hl; simp only [List.flatten_cons, List.length_append, List.length_cons]; rw [hl a (by simp), ih (fun s hs => hl s (by simp [hs]))]; omega
set_option maxRecDepth 100000 in
set_option maxHeartbeats 1000000 in
theorem diskNews_walk (n : Int) (w : World) (hn : (Lit.int .i64 n).wf = true) :
    Calls Try.prog 6 #[.int .i64 n] w fun e w' => e = .returned (.bool true) ∧ Below w.heap.size w w' := by
  have hnb := int_of_wf hn
  clear hn
  go_enter Try.func6, Try.ntmps6
  go_upto_region 1 with (fail)
  go_cut [15] (fun c wx => c = .bool (decide (40 < n) && decide (n ≤ 8192)) ∧ w = wx)
  case first =>
    by_cases h4 : 40 < n
    · by_cases h8 : n ≤ 8192
      · go_wp2_with fail
        go_meet
        exact ⟨by rw [decide_eq_true (by omega), decide_eq_true (by omega)]; rfl, rfl⟩
      · go_wp2_with fail
        go_meet
        exact ⟨by rw [show decide (n ≤ 8192) = false from decide_eq_false (by omega), Bool.and_false], rfl⟩
    · go_wp2_with fail
      go_meet
      exact ⟨by rw [decide_eq_false (by omega), Bool.false_and], rfl⟩
  case rest =>
  obtain ⟨rfl, rfl⟩ := hcut
  go_upto_if 15 with (fail)
  go_cut [0] (fun v wx => ∃ m : Int, v = .int .i64 m ∧ (-9223372036854775808 ≤ m ∧ m ≤ 9223372036854775807) ∧ w = wx)
  case first =>
    have h0 := Int.tmod_nonneg (a := n) 2
    have h1 := Int.tmod_lt_of_pos n (b := 2) (by omega)
    by_cases h4 : 40 < n ∧ n ≤ 8192
    · have hw : wrap64 (8192 - n.tmod 2) = 8192 - n.tmod 2 := IntWalk.wrap64_in _ (by have := h0 (by omega); omega)
      have hb : -9223372036854775808 ≤ (8192 - n.tmod 2) ∧ (8192 - n.tmod 2) ≤ 9223372036854775807 := by have := h0 (by omega); omega
      have hc : (decide (40 < n) && decide (n ≤ 8192)) = true := by simp [h4]
      obtain ⟨h41, h42⟩ := h4
      rw [hc]
      clear h0 h1
      go_wp2_with fail
      go_meet
      exact ⟨_, rfl, by omega, rfl⟩
    · have hc : (decide (40 < n) && decide (n ≤ 8192)) = false := by simp; omega
      rw [hc]
      clear h0 h1
      go_wp2_with fail
      go_meet
      exact ⟨_, rfl, hnb, rfl⟩
  case rest =>
    obtain ⟨m, rfl, hmb, rfl⟩ := hcut
    clear hnb
    go_wp2_with fail
    refine (none_any w).mono ?_
    rintro e w1 ⟨rfl, rfl⟩
    go_wp2_with fail
    refine (nfuse 1 w).mono ?_
    rintro e w1 ⟨rfl, rfl⟩
    go_wp2_with fail
    refine (none_any w).mono ?_
    rintro e w1 ⟨rfl, rfl⟩
    go_wp2_with fail
    refine (ncrash _ w).mono ?_
    rintro e w1 ⟨rfl, rfl⟩
    go_wp2_with fail
    refine (none_any w).mono ?_
    rintro e w1 ⟨rfl, rfl⟩
    go_wp2_with fail
    refine (nread w).mono ?_
    rintro e w1 ⟨rfl, hB1⟩
    have hst := run_stS (w1.alloc (.cells (zC 1).toArray 43)) w1.heap.size 0 (secL 0) (there_alS w1) (secL_len 0)
    obtain ⟨_, hv2, _⟩ := secV_var w1 (secL 0) (secL_len 0)
    have hB2 := hB1.trans (hv2.mono hB1.size)
    clear hB1 hv2
    go_wp2_with fail
    clear hst
    generalize (w1.alloc (.cells (zC 1).toArray 43)).setCells w1.heap.size 0 (secC (secL 0)) = w2 at *
    refine (disks_any w2).mono ?_
    rintro e w3 ⟨rfl, hB3⟩
    go_wp2_with fail
    refine (none_any w3).mono ?_
    rintro e w1 ⟨rfl, rfl⟩
    go_wp2_with fail
    refine (sector_any 1 w3).mono ?_
    rintro e w4 ⟨rfl, hB4⟩
    go_wp2_with fail
    refine (nwrite 0 (secL 1) (secL_len 1) w4).mono ?_
    rintro e w5 ⟨rfl, hB5⟩
    go_wp2_with fail
    refine (none_any w5).mono ?_
    rintro e w1 ⟨rfl, rfl⟩
    go_wp2_with fail
    refine (nsync w5).mono ?_
    rintro e w1 ⟨rfl, rfl⟩
    go_wp2_with fail
    refine (none_any w5).mono ?_
    rintro e w1 ⟨rfl, rfl⟩
    go_wp2_with fail
    refine (nsize w5).mono ?_
    rintro e w1 ⟨rfl, rfl⟩
    go_wp2_with fail
    refine (none_any w5).mono ?_
    rintro e w1 ⟨rfl, rfl⟩
    go_wp2_with fail
    refine (nloose w5).mono ?_
    rintro e w1 ⟨rfl, rfl⟩
    go_wp2_with fail
    refine (none_any w5).mono ?_
    rintro e w1 ⟨rfl, rfl⟩
    go_wp2_with fail
    refine (noff w5).mono ?_
    rintro e w1 ⟨rfl, rfl⟩
    go_wp2_with fail
    refine (none_any w5).mono ?_
    rintro e w1 ⟨rfl, rfl⟩
    go_wp2_with fail
    refine (nimage w5).mono ?_
    rintro e w1 ⟨rfl, rfl⟩
    have hB6 := ((hB2.trans (hB3.mono hB2.size)).trans (hB4.mono (Nat.le_trans hB2.size hB3.size))).trans (hB5.mono (Nat.le_trans (Nat.le_trans hB2.size hB3.size) hB4.size))
    clear hB2 hB3 hB4 hB5
    by_cases hm : m < 1 ∨ 8192 < m
    · go_wp2_with fail
      refine (dnew_bad m w5 hm).mono ?_
      rintro e w1 ⟨rfl, rfl⟩
      by_cases h1 : m < 1
      · clear hm
        go_wp2_with fail
        go_ret
        exact ⟨rfl, hB6⟩
      · have h2 : 8192 < m := by omega
        clear hm
        go_wp2_with fail
        go_ret
        exact ⟨rfl, hB6⟩
    · obtain ⟨q, rfl⟩ : ∃ q : Nat, m = q := ⟨m.toNat, by omega⟩
      have hq1 : 1 ≤ q := by omega
      have hq2 : q ≤ 8192 := by omega
      clear hm
      have h1 : ¬ ((q : Int) < 1) := by omega
      have h2 : ¬ (8192 < (q : Int)) := by omega
      go_wp2_with fail
      refine (dnew_ok q w5 hq1 hq2).mono ?_
      rintro e w6 ⟨p, rfl, ⟨bs, hO, hbs⟩, hB7⟩
      have hB8 := hB6.trans (hB7.mono hB6.size)
      clear hB6 hB7 hbs
      have hok := DK.Ok.new q
      have hm1 : (DK.new q).may ((q : Int) - 1) = 0 := by unfold DK.may; rw [if_neg (by simp [DK.new]), if_neg (by simp [DK.new]; omega)]
      have hm2 : (DK.new q).may (q : Int) = 1 := by unfold DK.may; rw [if_neg (by simp [DK.new]), if_pos (by simp [DK.new])]
      have hr1 : (DK.new q).readV ((q : Int) - 1) = secL 0 := by
        unfold DK.readV; rw [if_pos hm1, show ((q : Int) - 1).toNat = q - 1 by omega]
        have : q - 1 < q := by omega
        simp [DK.new, List.getD, this]
      have hr2 : (DK.new q).readV (q : Int) = secL 0 := by unfold DK.readV; rw [if_neg (by omega)]
      have hfl : (DK.new q).now.flatten.length = 64 * q := by rw [flat64 _ hok.nowS, hok.now]
      have hsz : (DK.new q).now.length = q := hok.now
      generalize DK.new q = d at *
      go_wp2_with fail
      refine (dread_any ((q : Int) - 1) w6 hO).mono ?_
      rintro e w7 ⟨rfl, hB7⟩
      rw [hr1, show d.readE ((q : Int) - 1) = 0 from hm1]
      have hO7 := hO.keep hB7
      have hst := run_stS (w7.alloc (.cells (zC 1).toArray 43)) w7.heap.size 0 (secL 0) (there_alS w7) (secL_len 0)
      obtain ⟨hv1, hv2, hv3⟩ := secV_var w7 (secL 0) (secL_len 0)
      have hO8 := hO7.keep hv2
      have hB9 := hB8.trans (hB7.mono hB8.size)
      have hB10 := hB9.trans (hv2.mono hB9.size)
      clear hB9 hB8 hB7 hv2 hO hO7
      go_wp2_with fail
      clear hst
      have hsz7 : w7.heap.size < ((w7.alloc (.cells (zC 1).toArray 43)).setCells w7.heap.size 0 (secC (secL 0))).heap.size := by omega
      generalize (w7.alloc (.cells (zC 1).toArray 43)).setCells w7.heap.size 0 (secC (secL 0)) = w8 at *
      generalize w7.heap.size = sb at *
      refine (dread_any (q : Int) w8 hO8).mono ?_
      rintro e w9 ⟨rfl, hB9⟩
      rw [hr2, show d.readE (q : Int) = 1 from hm2]
      have hst := run_stS (w9.alloc (.cells (zC 1).toArray 43)) w9.heap.size 0 (secL 0) (there_alS w9) (secL_len 0)
      obtain ⟨_, hv2, hv4⟩ := secV_var w9 (secL 0) (secL_len 0)
      have hO9 := (hO8.keep hB9).keep hv2
      have hB11 := (hB10.trans (hB9.mono hB10.size))
      have hB12 := hB11.trans (hv2.mono hB11.size)
      have hv9 : w9.rangeAt sb 0 (secC (secL 0)) := fun j v hv => (hB9.cell (p := ⟨sb, 0 + j, none⟩) hsz7).trans (hv1 j v hv)
      have hsz9 : sb < w9.heap.size := Nat.lt_of_lt_of_le hsz7 hB9.size
      have hv10 : ((w9.alloc (.cells (zC 1).toArray 43)).setCells w9.heap.size 0 (secC (secL 0))).rangeAt sb 0 (secC (secL 0)) := fun j v hv => (hv2.cell (p := ⟨sb, 0 + j, none⟩) hsz9).trans (hv9 j v hv)
      have hsz10 : sb < ((w9.alloc (.cells (zC 1).toArray 43)).setCells w9.heap.size 0 (secC (secL 0))).heap.size := by omega
      clear hB11 hB10 hB9 hv2 hO8 hv1 hv9
      go_wp2_with fail
      clear hst
      generalize (w9.alloc (.cells (zC 1).toArray 43)).setCells w9.heap.size 0 (secC (secL 0)) = wA at *
      have heq := fun w => run_equal_sec 43 Try.underlying43 (secL 0) (secL 0) (secL_len 0) (secL_len 0) w
      simp only [beq_self_eq_true, secV] at heq
      have hsec : ∀ w, Calls Try.prog 12 #[.int .u8 0] w fun e w' => e = .returned (.agg (secC (secL 0)).toArray) ∧ Below w.heap.size w w' := fun w => sector_any 0 w
      have hlc : (secC (secL 0)).length = 64 := by simp [secC, secL]
      rw [show (secL 0).map bv = secC (secL 0) from rfl] at heq
      have hmul : wrap64 (64 * (q : Int)) = 64 * (q : Int) := IntWalk.wrap64_in _ (by omega)
      have hmul2 : IntKind.i64.wrap (64 * (q : Int)) = 64 * (q : Int) := by rw [IntKind.wrap_i64]; omega
      have hiS : (Try.prog.info? 43).map (·.size) = some (secC (secL 0)).length := by rw [hlc]; exact Try.info_sec
      have huS := Try.underlying43
      have hv11 : wA.drew.rangeAt sb 0 (secC (secL 0)) := hv10
      generalize secC (secL 0) = cs at *
      have HF := Lib.hid hfl
      have HZ := Lib.hid hsz
      clear hm1 hm2 hr1 hr2 hfl hsz hv4 hv3 hv10
      go_region_held_law (fun w' => w'.rangeAt sb 0 cs) (first | exact hvC | exact hvB | exact hv11 | go_keep_ranges) (first
        | (go_at_call 12; refine (hsec _).mono ?_; rintro e wB ⟨rfl, hBB⟩; have hvB : wB.rangeAt sb 0 cs := (fun j v hv => (hBB.cell (p := ⟨sb, 0 + j, none⟩) hsz10).trans (hv11 j v hv)); have hOB := DiskAt.keep (w := wA.drew) hO9 hBB)
        | (go_at_call 24; refine (dsize_any wB hOB).mono ?_; rintro e wC ⟨rfl, rfl⟩; rw [HZ.out])
        | (go_at_call 21; refine (dimage_any wB hOB hok (by omega) hq2).mono ?_; rintro e wC ⟨v, rfl, hov, hBC⟩; obtain ⟨ao, ca, rfl, _⟩ := hov.bsl; rw [HF.out]; have hvC : wC.rangeAt sb 0 cs := (fun j v hv => (hBC.cell (p := ⟨sb, 0 + j, none⟩) (Nat.lt_of_lt_of_le hsz10 hBB.size)).trans (hvB j v hv))))
      go_wp2_with fail
      go_ret
      have hB13 := hB12.drew.trans (hBB.mono hB12.size)
      exact ⟨rfl, hB13.trans (hBC.mono hB13.size)⟩
end Go.Proofs.Ytdhgilpdghohoaa
