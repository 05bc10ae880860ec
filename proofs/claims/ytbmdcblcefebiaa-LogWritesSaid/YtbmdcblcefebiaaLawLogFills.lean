/- The walk of LogFills. -/
import Derived.Test.YtbmdcblcefebiaaLogE
import Derived.Test.YtbmdcblcefebiaaLogD
namespace Go.Proofs.Ytbmdcblcefebiaa
open Go.RowKit
theorem umodL (x : Int) (m : Nat) (h0 : 0 < m) (h : m ≤ 100000) : ∃ q : Nat, q < m ∧ wrap64 ((IntKind.u64.wrap x).tmod m) = (q : Int) ∧ IntKind.i64.wrap ((IntKind.u64.wrap x).tmod m) = (q : Int) := by
  have h1 : 0 ≤ (IntKind.u64.wrap x).tmod m := by rw [IntKind.wrap_u64]; exact Int.tmod_nonneg _ (by omega)
  have h2 : (IntKind.u64.wrap x).tmod m < m := by rw [IntKind.wrap_u64]; exact Int.tmod_lt_of_pos _ (by omega)
  refine ⟨((IntKind.u64.wrap x).tmod m).toNat, by omega, ?_, ?_⟩
  · rw [IntWalk.wrap64_in _ (by omega)]; omega
  · rw [IntKind.wrap_i64]; omega
theorem allL_rep (x : List UInt8) : ∀ i, (allL (List.replicate i x)).length = i * (recL x).length
  | 0 => by simp [allL]
  | i + 1 => by
    have h : allL (List.replicate (i + 1) x) = recL x ++ allL (List.replicate i x) := by simp [allL, List.replicate_succ]
    rw [h, List.length_append, allL_rep x i, Nat.succ_mul, Nat.add_comm]
theorem allL_rep_succ (x : List UInt8) (i : Nat) : allL (List.replicate (i + 1) x) = allL (List.replicate i x) ++ recL x := by
  unfold allL; rw [List.replicate_succ', List.map_append, List.flatten_append]; simp
theorem div_fact (R S : Nat) (hR : R ≤ 6400) : wrap64 ((R : Int) / (S : Int)) = ((R / S : Nat) : Int) := by
  have h1 : R / S ≤ R := Nat.div_le_self _ _
  rw [← Int.natCast_ediv]
  generalize R / S = k at *
  exact IntWalk.wrap64_in _ (by omega)
theorem mul_fact (i S : Nat) (h : (i + 1) * S ≤ 6400) : wrap64 (((i : Int) + 1) * (S : Int)) = (((i + 1) * S : Nat) : Int) := by
  rw [show ((i : Int) + 1) * (S : Int) = (((i + 1) * S : Nat) : Int) by rw [Int.natCast_mul]; rfl]
  generalize (i + 1) * S = k at *
  exact IntWalk.wrap64_in _ (by omega)
theorem div_fact2 (R S : Nat) (hS : 0 < S) : R / S * S ≤ R ∧ R < R / S * S + S := ⟨Nat.div_mul_le_self _ _, Nat.lt_div_mul_add hS⟩
set_option maxRecDepth 100000 in
set_option maxHeartbeats 4000000 in
theorem logFills_walk (s : Int) (v : Value) (l : List UInt8) (w : World) (_ : (Lit.int .i64 s).wf = true) (hv : Bsl w v l) :
    Calls Try.prog 5 #[.int .i64 s, v] w fun e w' => e = .returned (.bool true) ∧ Below w.heap.size w w' := by
  obtain ⟨n, hn4, hn1, hN⟩ : ∃ n : Nat, 4 ≤ n ∧ n ≤ 19 ∧ wrap64 (4 + wrap64 ((IntKind.u64.wrap s).tmod 16)) = (n : Int) := by
    obtain ⟨q, hq, hq1, hq2⟩ := umodL s 16 (by omega) (by omega)
    have hq3 : wrap64 ((IntKind.u64.wrap s).tmod 16) = (q : Int) := hq1
    exact ⟨4 + q, by omega, by omega, by rw [hq3, IntWalk.wrap64_in _ (by omega)]; omega⟩
  have hv' := hv
  obtain ⟨ao, cap, rfl, hlc, hcm, hz1, hz2⟩ := hv'
  clear hz1 hz2
  obtain ⟨m, hm⟩ : ∃ k, k = min l.length 100 := ⟨_, rfl⟩
  have e1 : (if (100:Int) < (l.length:Int) then 100 else (l.length:Int)) = (m : Int) := by split <;> omega
  have e2 : (if 100 < l.length then (100 : Int) else (l.length:Int)) = (m : Int) := by split <;> omega
  have ta := hv.take (m := m) (by omega)
  have tal : (l.take m).length = m := by simp; omega
  have qa : m ≤ l.length ∧ m ≤ 100 := by omega
  clear hm
  generalize l.take m = x at ta tal
  subst tal
  have r1 : (x.length : Int) ≤ cap := by omega
  have hx100 : x.length ≤ 100 := qa.2

  go_enter Try.func5, Try.ntmps5
  go_wp2_with fail
  refine (dnew_ok n w (by omega) (by omega)).mono ?_
  rintro e w1 ⟨p, rfl, ⟨ds, hD, hds⟩, hB1⟩

  go_wp2_with fail
  refine (format_new w1 hD (by omega) (by omega)).mono ?_
  rintro e w2 ⟨lp, rfl, d, bs, hL, hE, hH, hI, hn, hfu⟩
  obtain ⟨hbs2, hBB2⟩ := hE.own hds hB1 (Nat.le_refl _)
  clear hE hD hds hB1
  go_wp2_with fail
  refine (logs_any w2).mono ?_
  rintro e w3 ⟨rfl, hB3⟩
  have hL3 := hL.keep hB3
  have hBB3 := hBB2.trans (hB3.mono hBB2.size)
  have hv3 := ta.keep hBB3
  have hcv := run_str _ hv3
  obtain ⟨S, hS, hS2⟩ : ∃ S, S = x.length + 8 ∧ (recL x).length = S := ⟨_, rfl, recL_len x⟩
  have hrb := fun w => refRBytes_any x w (by omega)
  have HS := Lib.hid hS
  have hSb : S ≤ 200 := by omega
  have hS0 : ¬ (S : Int) = 0 := by omega
  have hSp : (0 : Int) < S := by omega
  clear hS
  generalize hrx : recL x = rx at *
  have HRX := Lib.hid hrx
  unfold strV at hrb
  clear hL hB3 hBB2 hrx
  go_wp2_with fail
  refine (hrb _).mono ?_
  rintro e w4 ⟨rfl, hB4⟩
  have hL4 := hL3.keep hB4
  have hBB4 := hBB3.trans (hB4.mono hBB3.size)
  clear hrb hcv hB4 hL3 hv3 hBB3
  go_wp2_with fail
  have hrr := fun w => refRoom_any n w (by omega)
  obtain ⟨R, hR⟩ : ∃ R, roomN n = R := ⟨_, rfl⟩
  have hR64 : R ≤ 6400 := by rw [← hR]; exact roomN_le (by omega)
  have HRR := Lib.hid hrr
  rw [hR] at hrr
  have HR := Lib.hid hR
  clear hR
  refine (hrr _).mono ?_
  rintro e w5 ⟨rfl, rfl⟩
  obtain ⟨M, hM, hM2⟩ : ∃ M : Nat, M = R / S ∧ wrap64 ((R : Int) / (S : Int)) = (M : Int) := ⟨R / S, rfl, div_fact R S hR64⟩
  have hSn : 0 < S := by have := HS.out; omega
  have hMS : M * S ≤ R := by rw [hM]; exact (div_fact2 R S hSn).1
  have hMS2 : R < M * S + S := by rw [hM]; exact (div_fact2 R S hSn).2
  have hMb : M ≤ 6400 := by rw [hM]; exact Nat.le_trans (Nat.div_le_self _ _) hR64
  have HM := Lib.hid (And.intro hMS hMS2)
  clear hM hMS hMS2
  go_wp2_with fail
  rw [hM2]
  clear hM2
  go_loopw [12] (fun j wr => ∃ (i : Nat) (di : DK) (bi : Nat → Prop), j = .int .i64 i ∧ i ≤ M ∧ LogAt wr lp p di ⟨1 + i, 0, allL (List.replicate i x)⟩ bi ∧ Hlt di ∧ Img di.now (1 + i) 0 (allL (List.replicate i x)) ∧ di.now.length = n ∧ di.fuse = 0 ∧
    (∀ k, bi k → w.heap.size ≤ k) ∧ Below w.heap.size w wr) (fun j _ => M - (intOf j).toNat)
  case atStart => exact ⟨0, d, bs, rfl, Nat.zero_le _, hL4, hH, hI, hn, hfu, hbs2, hBB4⟩
  case round =>
    clear hL4 hH hI hn hfu hbs2 hBB4
    obtain ⟨i, di, bi, rfl, hi, hLi, hHi, hIi, hni, hfi, hbi, hBi⟩ := hrel
    have hi0 : (0 : Int) ≤ i := Int.natCast_nonneg _
    have hll : (allL (List.replicate i x)).length = i * S := by rw [allL_rep, HRX.out, hS2]
    by_cases hlt : i < M
    · have hlt2 : (i : Int) < M := by omega
      have hstep : (i + 1) * S ≤ M * S := Nat.mul_le_mul_right _ hlt
      have hap := append_st wr hLi hHi hIi _ x (ta.keep hBi) (by omega) (by show 1 + i + 1 ≤ _; omega) (by
        show (allL (List.replicate i x)).length + _ ≤ _
        rw [hni, HR.out, hll]; have := HM.out.1; have := HS.out; rw [Nat.succ_mul] at hstep; omega)
      clear hLi hHi hIi
      go_wp2_with fail
      refine hap.mono ?_
      rintro e w6 ⟨d6, b6, hE6, hn6, hc⟩
      rcases hc with ⟨rfl, hL6, hH6, hI6, hf6⟩ | ⟨_, _, _, h0, _⟩
      · obtain ⟨hbs6, hBB6⟩ := hE6.own hbi hBi (Nat.le_refl _)
        have hadd : allL (List.replicate i x) ++ recL x = allL (List.replicate (i + 1) x) := (allL_rep_succ x i).symm
        rw [hadd, show 1 + i + 1 = 1 + (i + 1) by omega] at hL6 hI6
        have hll6 : (allL (List.replicate (i + 1) x)).length = (i + 1) * S := by rw [allL_rep, HRX.out, hS2]
        have hst6 : (i + 1) * S ≤ R := Nat.le_trans hstep HM.out.1
        obtain ⟨P, hP, hP2⟩ : ∃ P : Nat, P = (i + 1) * S ∧ wrap64 (((i : Int) + 1) * (S : Int)) = (P : Int) := ⟨(i + 1) * S, rfl, mul_fact i S (Nat.le_trans hst6 hR64)⟩
        have hPR : P ≤ R := by rw [hP]; exact hst6
        have hl66 : (allL (List.replicate (i + 1) x)).length ≤ 1000000 := by rw [hll6]; exact Nat.le_trans hst6 (Nat.le_trans hR64 (by decide))
        clear hst6
        have hlf := lleft_any w6 hL6 hH6.n100 hl66
        have hlv : leftN d6 ⟨1 + (i + 1), 0, allL (List.replicate (i + 1) x)⟩ = (R : Int) - (P : Int) := by
          unfold leftN
          rw [hn6, hni, HR.out]
          show (R : Int) - ((allL (List.replicate (i + 1) x)).length : Int) = _
          rw [hll6, hP]
        rw [hlv] at hlf
        have HP := Lib.hid hP
        have HF := Lib.hid (And.intro hL6 (And.intro hH6 (And.intro hI6 (And.intro (hn6.trans hni) (And.intro (hf6 hfi) hbs6)))))
        clear hL6 hH6 hI6 hbs6 hf6 hn6 hni hfi hadd hll6 hlv hP hap hl66 hE6 hbi hBi hstep hll
        go_wp2_with fail
        refine hlf.mono ?_
        rintro e w7 ⟨rfl, hB7⟩
        have HB7 := Lib.hid (And.intro (hBB6.trans (hB7.mono hBB6.size)) hB7)
        clear hlf hB7 hBB6
        go_wp2_with fail
        refine (hrr _).mono ?_
        rintro e w8 ⟨rfl, rfl⟩
        go_wp2_with fail
        go_roundw
        case rel =>
          obtain ⟨hL6, hH6, hI6, hn6, hf6, hbs6⟩ := HF.out
          exact ⟨i + 1, d6, b6, by go_num, hlt, hL6.keep HB7.out.2, hH6, hI6, hn6, hf6, hbs6, HB7.out.1⟩
        case measure => simp [intOf]; omega
      · omega
    · have hiM : i = M := by omega
      subst hiM
      have hng : ¬ (i : Int) < i := by omega
      have hlen8 : (allL (List.replicate i x)).length ≤ 1000000 := by rw [hll]; exact Nat.le_trans HM.out.1 (Nat.le_trans hR64 (by decide))
      have hlv : leftN di ⟨1 + i, 0, allL (List.replicate i x)⟩ = (R : Int) - ((i * S : Nat) : Int) := by
        unfold leftN
        rw [hni, HR.out]
        show (R : Int) - ((allL (List.replicate i x)).length : Int) = _
        rw [hll]
      have hPR : i * S ≤ R := HM.out.1
      generalize hP : i * S = P at *
      have hlf := fun w' (h : Below wr.heap.size wr w') => lleft_any w' (hLi.keep h) hHi.n100 hlen8
      rw [hlv] at hlf
      have htn := fun w' (h : Below wr.heap.size wr w') => lturn_any w' (hLi.keep h)
      have hfull := fun w' (h : Below wr.heap.size wr w') => append_full w' (hLi.keep h) hHi hIi _ x ((ta.keep hBi).keep h) (by omega) (by
        show roomN di.now.length < (allL (List.replicate i x)).length + _
        rw [hni, HR.out, hll]; have := HM.out.2; have := HS.out; omega)
      have hop := fun w' (h : Below wr.heap.size wr w') => (hLi.keep h).disk
      have HX := Lib.hid (And.intro hLi (And.intro hHi (And.intro hIi (And.intro hni (And.intro hfi (And.intro hbi hBi))))))
      have HL := Lib.hid (And.intro hll hP)
      clear hLi hHi hIi hni hfi hbi hBi hll hlv hP hlen8 ta hv
      go_wp2_with fail
      refine (htn _ (Below.refl _ _)).mono ?_
      rintro e w6 ⟨rfl, rfl⟩
      go_wp2_with fail
      refine (hlf _ (Below.refl _ _)).mono ?_
      rintro e w7 ⟨rfl, hB7⟩
      go_wp2_with fail
      refine (hfull _ hB7).mono ?_
      rintro e w8 ⟨rfl, hB8⟩
      have hBB8 := hB7.trans (hB8.mono hB7.size)
      clear hB8 hB7 hfull
      go_wp2_with fail
      refine (htn _ hBB8).mono ?_
      rintro e w9 ⟨rfl, rfl⟩
      go_wp2_with fail
      refine (hlf _ hBB8).mono ?_
      rintro e w10 ⟨rfl, hB10⟩
      have hBB10 := hBB8.trans (hB10.mono hBB8.size)
      clear hB10 hBB8
      clear hlf htn hop
      obtain ⟨hLi, hHi, hIi, hni, hfi, hbi, hBi⟩ := HX.out
      obtain ⟨dsi, hDi, _, _⟩ := (hLi.keep hBB10).disk
      have hop := open_st w10 hDi hHi hIi
      rw [recsA_all _ (fun r hr => by rw [List.eq_of_mem_replicate hr]; omega)] at hop
      clear hLi hHi hIi hni hfi hbi hBi hDi
      go_wp2_with fail
      refine hop.mono ?_
      rintro e w11 ⟨lp2, u, ys, rfl, hM, hys, hB11, bs2, hL2, _⟩
      have hyl : ys.length = i := by have := congrArg List.length hys; simpa using this
      obtain ⟨uo, uc, rfl, hz1, hz2, hz3, hz4⟩ := hM
      clear hz1 hz2 hz3 hz4 hys hL2 hop
      have hBB11 := hBB10.trans (hB11.mono hBB10.size)
      obtain ⟨hLi, hHi, hIi, hni, hfi, hbi, hBi⟩ := HX.out
      have hrp := replace_st w11 (hLi.keep hBB11) hHi hIi (.slice none 0 0) [] (MsgsAt.nil _) (by simp) (by simp) (by show 1 + i + 1 ≤ _; omega) (Nat.zero_le _)
      have hBw : Below w.heap.size w w11 := hBi.trans (hBB11.mono hBi.size)
      have HBW := Lib.hid hBw
      clear hLi hHi hIi hni hfi hbi hBi hBB11 hBB10 hB11 hBw
      rw [hyl]
      clear hyl
      go_wp2_with fail
      refine hrp.mono ?_
      rintro e w12 ⟨d12, b12, hE12, hn12, hc⟩
      obtain ⟨hLi, hHi, hIi, hni, hfi, hbi, hBi⟩ := HX.out
      rcases hc with ⟨rfl, hL12, hH12, hI12, hf12⟩ | ⟨_, _, _, h0, _⟩
      · obtain ⟨hbs12, hBB12⟩ := hE12.own hbi HBW.out (Nat.le_refl _)
        have hlf := lleft_any w12 hL12 hH12.n100 (Nat.zero_le _)
        have hlv : leftN d12 ⟨1 + i + 1, (0 + 1) % 2, allL (([] : List MsgD).map (·.l))⟩ = (R : Int) := by
          unfold leftN
          rw [hn12, hni, HR.out]
          show (R : Int) - ((allL []).length : Int) = _
          simp [allL]
        rw [hlv] at hlf
        clear hLi hHi hIi hni hfi hbi hBi hL12 hH12 hI12 hf12 hE12 hrp hlv hn12 hbs12
        go_wp2_with fail
        refine hlf.mono ?_
        rintro e w13 ⟨rfl, hB13⟩
        have HB13 := Lib.hid (hBB12.trans (hB13.mono hBB12.size))
        clear hB13 hBB12 hlf
        go_wp2_with fail
        refine (hrr _).mono ?_
        rintro e w14 ⟨rfl, rfl⟩
        go_wp2_with fail
        go_ret
        exact ⟨rfl, HB13.out⟩
      · omega
end Go.Proofs.Ytbmdcblcefebiaa
