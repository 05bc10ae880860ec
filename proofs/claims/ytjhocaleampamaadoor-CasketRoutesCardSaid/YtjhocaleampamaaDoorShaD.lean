/- sha2.Sum: the walk. -/
import Derived.Test.YtjhocaleampamaaDoorShaC
import Derived.Test.YtjhocaleampamaaDoorConcat
import Derived.Test.YtjhocaleampamaaDoorRev
import Derived.Laws.Cover3
namespace Go.Proofs.YtjhocaleampamaaDoor
open Go.RowKit Big
set_option linter.unusedVariables false
/-- The table and the words at the start lie as they were laid. -/
def ShaAt (w : World) : Prop := KeysAt w ∧ w.rangeAt 0 0 (nvs .u32 shaStart)
theorem ShaAt.keep {w w' : World} (h : ShaAt w) (hb : Below w.heap.size w w') : ShaAt w' := ⟨h.1.keep hb, rangeAt_only h.2 (Only.of_below (S := fun _ => False) hb) (fun h => h)⟩
theorem be4_eq (x : Nat) : (putLowL 4 x).reverse = be4 x := by
  simp [putLowL, be4, Nat.div_div_eq_div_mul]
theorem be8_eq (x : Nat) : (putLowL 8 x).reverse = be8 x := by
  simp [putLowL, be8, be4, Nat.div_div_eq_div_mul]
def lenV : Value → Nat
  | .slice _ n _ => n
  | _ => 0
def padJ (n : Nat) : Nat := (119 - n % 64) % 64
theorem shaPad_eq (l : List UInt8) : shaPad l = l ++ [128] ++ List.replicate (padJ l.length) 0 ++ be8 (l.length * 8 % 18446744073709551616) := by
  simp [shaPad, padJ]
theorem shaPad_len (l : List UInt8) : (shaPad l).length % 64 = 0 := by
  rw [shaPad_eq]
  simp [padJ, be8, be4]
  omega
def ixW (v i : Value) : Sem Value := Instr.index 99 v i
theorem ixW_eq (v i : Value) : Instr.index 99 v i = ixW v i := rfl
theorem run_ixW (w : World) (H : List Nat) (k : Nat) (hH : H.length = 8) (hk : k < 8) : (ixW (.agg (nvs .u32 H).toArray) (.int .i64 (k : Int))).run Tryd.prog w = .ok (.int .u32 ((H.getD k 0 : Nat) : Int)) w := by
  obtain ⟨i, hi, hs, ha⟩ : ∃ i, Tryd.prog.info? 98 = some i ∧ i.size = 1 ∧ True := by
    have h : (Tryd.prog.info? 98).map (·.size) = some 1 := by kernel_rfl
    cases hi : Tryd.prog.info? 98 with
    | none => rw [hi] at h; cases h
    | some i => rw [hi] at h; exact ⟨i, rfl, by simpa using h, trivial⟩
  have hg : (nvs .u32 H)[k]? = some (.int .u32 ((H[k]?.getD 0 : Nat) : Int)) := by
    simp [nvs, nv, hH, hk]
  have hk1 : (k : Int) < 8 := by omega
  simp [ixW, Instr.index, run_underlying Tryd.underlying99, asIntOf, part, isAgg, run_underlying Tryd.underlying98, Go.sizeOf, typeInfo, hi, hs, hk, hg]
theorem wflat_take {α : Type} (f : α → List UInt8) (l : List α) (k : Nat) (d : α) (h : k < l.length) : ((l.take (k + 1)).map f).flatten = ((l.take k).map f).flatten ++ f (l.getD k d) := by
  rw [List.take_succ_eq_append_getElem h, List.map_append, List.flatten_append]
  simp only [List.map_cons, List.map_nil, List.flatten_cons, List.flatten_nil, List.append_nil, List.getD, List.getElem?_eq_getElem h, Option.getD_some]
theorem be4_len (x : Nat) : (be4 x).length = 4 := rfl
theorem be4_flat_len (l : List Nat) : ((l.map be4).flatten).length = l.length * 4 := by
  induction l with
  | nil => rfl
  | cons x l ih => rw [List.map_cons, List.flatten_cons, List.length_append, be4_len, ih, List.length_cons]; omega
attribute [local go_sem ↓] ixW_eq alT_32 ldT_32 stT_32 alT_8 ldT_8 stT_8 apB_eq
set_option maxRecDepth 100000 in
set_option maxHeartbeats 1000000 in
theorem ssum_any (v : Value) (ls : List (List UInt8)) (w : World) (hp : PartsAt w v ls) (hs : sumL ls ≤ 100000) (hk : ShaAt w) :
    Calls Tryd.prog 13 #[v] w fun e w' => e = .returned (.agg ((sha ls.flatten).map bv).toArray) ∧ Below w.heap.size w w' := by
  obtain ⟨w1, hal1, hA1, hB1, hs1⟩ := big32.made0 w
  have hcc := concat_any v ls w1 (hp.keep hB1) (by omega)
  obtain ⟨R, hR⟩ : ∃ R, R = sha ls.flatten := ⟨_, rfl⟩
  rw [← hR]
  have HR := Lib.hid hR; clear hR
  have hll : ls.flatten.length ≤ 100000 := hs
  generalize ls.flatten = l at *
  clear hs hp
  go_enter Tryd.func13, Tryd.ntmps13
  go_wp2_with fail
  refine hcc.mono ?_
  rintro e w2 ⟨v2, rfl, ho2, hB2⟩
  have hsz2 := hB2.size
  rw [hs1] at hsz2 ho2 hB2
  have hA2 := hA1.under hB2 (by omega)
  have hK2 := (hk.keep hB1)
  have hb128 := Bsl.one w2 128 (by omega)
  have hB2a : Below (w.heap.size + 1) w1 (w2.alloc (.cells #[.int .u8 128] 5)) := hB2.alloc hsz2 _
  have ho2' := ho2.keep ((Below.refl w2.heap.size w2).alloc (Nat.le_refl _) (.cells #[.int .u8 128] 5))
  obtain ⟨v3, w3, hap3, ho3, hB3, hg3, hsz3⟩ := apB_made _ (w.heap.size + 1) 39 v2 _ _ _ ho2' hb128 (by simp; omega) (by simp; omega)
  obtain ⟨ao2, cap2, rfl⟩ := ho2.val'
  have hB13 := hB2a.trans hB3
  clear hB2a ho2 ho2' hA2 hB3 hg3 hsz3 hb128 hB2 hcc
  have hJ : padJ l.length < 64 := by unfold padJ; omega
  have hJ2 : (l.length + 1 + padJ l.length) % 64 = 56 := by unfold padJ; omega
  have hJ3 : ∀ j, j < padJ l.length → ¬ (l.length + 1 + j) % 64 = 56 := fun j hj h => by unfold padJ at hj; omega
  have HP := Lib.hid (shaPad_eq l)
  generalize padJ l.length = J at *
  have HJ := Lib.hid (And.intro hJ2 hJ3)
  clear hJ2 hJ3
  obtain ⟨ao3, cap3, hv3⟩ := ho3.val'
  have HV3 := Lib.hid hv3; clear hv3
  go_wp2_with fail
  go_loopw [3] (fun v wr => ∃ j : Nat, j ≤ J ∧ OB wr (w.heap.size + 1) v (l ++ [128] ++ List.replicate j 0) ∧ Below (w.heap.size + 1) w1 wr) (fun v wr => l.length + 1 + J - lenV v)
  case atStart => exact ⟨0, Nat.zero_le _, by simpa using ho3, hB13⟩
  case round =>
    obtain ⟨j, hj, hoj, hBj⟩ := hrel
    clear ho3 hB13
    obtain ⟨ao4, cap4, rfl⟩ := hoj.val'
    have hln : (l ++ [128] ++ List.replicate j 0 : List UInt8).length = l.length + 1 + j := by simp only [List.length_append, List.length_replicate, List.length_singleton]
    have hszj := hBj.size
    rw [hs1] at hszj
    by_cases hlt : j < J
    · have hne : (((l.length + 1 + j : Nat) : Int) % 64 != 56) = true := by
        have := HJ.out.2 j hlt
        simp; omega
      have hbo := Bsl.one wr 0 (by omega)
      have hoj' := hoj.keep ((Below.refl wr.heap.size wr).alloc (Nat.le_refl _) (.cells #[.int .u8 0] 5))
      have hBj' : Below (w.heap.size + 1) w1 (wr.alloc (.cells #[.int .u8 0] 5)) := hBj.alloc hszj _
      obtain ⟨v5, w5, hap5, ho5, hB5, _, _⟩ := apB_made _ (w.heap.size + 1) 39 _ _ _ _ hoj' hbo (by rw [hln]; simp; omega) (by simp; omega)
      have hB15 := hBj'.trans hB5
      rw [List.append_assoc, show List.replicate j (0 : UInt8) ++ [UInt8.ofNat (Int.toNat 0)] = List.replicate (j + 1) 0 by rw [List.replicate_succ']; rfl] at ho5
      obtain ⟨ao5, cap5, hv5⟩ := ho5.val'
      rw [show (l ++ [128] ++ List.replicate (j + 1) 0 : List UInt8).length = l.length + 1 + (j + 1) by simp only [List.length_append, List.length_replicate, List.length_singleton]] at hv5
      subst hv5
      rw [hln] at hap5 ⊢
      have HO := Lib.hid (And.intro ho5 hB15)
      clear ho5 hB15 hoj hoj' hbo hBj hBj' hB5 hln
      go_wp2_with fail
      go_roundw
      case rel => exact ⟨j + 1, hlt, HO.out⟩
      case measure => simp [lenV]; omega
    · obtain rfl : j = J := by omega
      have hne : (((l.length + 1 + j : Nat) : Int) % 64 != 56) = false := by
        have := HJ.out.1
        simp; omega
      rw [hln]
      have HN := Lib.hid hln; clear hln
      have hx8 : l.length * 8 < 18446744073709551616 := by omega
      have h1j := hB1.trans (hBj.mono (by omega))
      have hKj := hK2.keep (hBj.mono (by rw [hs1]; exact Nat.le_refl _))
      have hAj := hA1.under hBj (by omega)
      have hph := putHigh_any (l.length * 8) 8 wr hx8 (by omega) (by omega)
      go_wp2_with fail
      refine hph.mono ?_
      rintro e w6 ⟨v6, rfl, ho6, hB6⟩
      have hsz6 := hB6.size
      rw [show (8 : Int).toNat = 8 from rfl, be8_eq] at ho6
      have hmod : l.length * 8 % 18446744073709551616 = l.length * 8 := Nat.mod_eq_of_lt hx8
      obtain ⟨v7, w7, hap7, ho7, hB7, _, hsz7⟩ := apB_made w6 (w.heap.size + 1) 39 _ v6 _ _ (hoj.keep hB6) ho6.bsl (by rw [HN.out]; simp [be8, be4]; omega) (by omega)
      rw [← hmod, ← HP.out] at ho7
      have hP64 := shaPad_len l
      have hPl : (shaPad l).length ≤ 200000 := by rw [HP.out, List.length_append, HN.out]; simp [be8, be4]; omega
      have HSH := Lib.hid (show sha l = ((shaBlocks ((shaPad l).length / 64) (shaPad l) shaStart).map be4).flatten from rfl)
      generalize shaPad l = P at *
      have hB17 := (hBj.trans (hB6.mono (by omega))).trans hB7
      have hA7 := (hAj.keep hB6).under hB7 (by omega)
      have hK7 := (hKj.keep hB6)
      have hK7 : ShaAt w7 := hK2.keep (hB17.mono (by rw [hs1]; exact Nat.le_refl _))
      have hld7 := run_ldT big8 w7 0 0 _ hK7.2 rfl
      obtain ⟨wa, w8, hal8, hst8, hAH, hB8, hs8⟩ := big8.made w7 shaStart rfl
      have ho8 := ho7.keep hB8
      have hA8 := hA7.under hB8 hA7.lt
      have hB18 := hB17.trans (hB8.mono (by omega))
      have HB01 := Lib.hid (And.intro hB1 (And.intro hs1 (And.intro hK2 hA1)))
      have how7 := ho7.own_lt
      generalize hp : w7.heap.size = p at *
      obtain ⟨ao7, cap7, rfl⟩ := ho7.val'
      have HOW := Lib.hid how7
      clear how7
      clear hB17 hB8 hA7 hK7 ho7 hB7 hKj hAj h1j hoj hph ho6 hB6 hmod hBj hs8
      have hpn : w.heap.size + 1 ≤ p := by omega
      clear hp
      rw [HN.out] at hap7
      clear HB01
      have hlt0 : ∀ x ∈ shaStart, x < 4294967296 := by decide
      have hPe : sha l = ((shaBlocks (P.length / 64) P shaStart).map be4).flatten := HSH.out
      have HBl := Lib.hid (show shaBlocks (P.length / 64) P shaStart = shaBlocks (P.length / 64) (P.drop (64 * 0)) shaStart by simp)
      have HLT := Lib.hid hlt0
      clear hlt0 hPe hne hj hlt HV3
      go_wp2_with fail
      go_loopw [3] (fun u wr => ∃ (i : Nat) (H : List Nat), 64 * i ≤ P.length ∧ Bsl wr u (P.drop (64 * i)) ∧ (∀ k, u.ownBlock = some k → k < p) ∧ AN .u32 wr p H ∧ H.length = 8 ∧ (∀ x ∈ H, x < 4294967296) ∧ shaBlocks (P.length / 64) P shaStart = shaBlocks (P.length / 64 - i) (P.drop (64 * i)) H ∧ AN .u8 wr w.heap.size (zN 32) ∧ Below (w.heap.size + 1) w1 wr) (fun u _ => lenV u)
      case atStart => exact ⟨0, shaStart, by omega, ho8.bsl, HOW.out, hAH, rfl, HLT.out, HBl.out, hA8, hB18⟩
      case round =>
        obtain ⟨i, H, hi, hbu, hou, hAp, hHl, hHt, heq, hA9, hB9⟩ := hrel
        clear ho8 hAH hA8 hB18 hld7 hal8 hst8
        obtain ⟨aou, capu, rfl⟩ := hbu.val'
        have hdl : (P.drop (64 * i)).length = P.length - 64 * i := List.length_drop
        have hdd : (P.drop (64 * i)).drop 64 = P.drop (64 * (i + 1)) := by rw [List.drop_drop]; congr 1
        by_cases hrem : 64 * i < P.length
        · have hD64 : 64 ≤ (P.drop (64 * i)).length := by rw [hdl]; omega
          have hDmax : (P.drop (64 * i)).length ≤ 200000 := by rw [hdl]; omega
          have hst1 : shaBlocks (P.length / 64 - i) (P.drop (64 * i)) H = shaBlocks (P.length / 64 - (i + 1)) (P.drop (64 * (i + 1))) (shaMix H ((P.drop (64 * i)).take 64)) := by
            rw [show P.length / 64 - i = (P.length / 64 - (i + 1)) + 1 by omega, shaBlocks, hdd]
          rw [← hdd] at hst1
          have HQ := Lib.hid (And.intro (heq.trans hst1) hdd)
          clear heq hst1 hdd
          obtain ⟨bu, ofu, rfl, hcu⟩ : ∃ bu ofu, aou = some ⟨bu, ofu, none⟩ ∧ True := by
            obtain ⟨a, c, e, _, _, _, h4⟩ := hbu
            cases e
            obtain ⟨b, o, e, _⟩ := h4 (by intro e; rw [e] at hD64; simp at hD64)
            exact ⟨b, o, e, trivial⟩
          obtain ⟨hcap1, hcap2⟩ := hbu.len.2
          have h64c : 64 ≤ capu := by omega
          have h64i : (64 : Int) ≤ capu := by omega
          have hbup := hou bu rfl
          have hbt := hbu.take (m := 64) hD64
          have htl : ((P.drop (64 * i)).take 64).length = 64 := by rw [List.length_take]; omega
          have hbd := Bsl_rest hbu (m := 64) hD64
          generalize P.drop (64 * i) = D at *
          have hld : ∀ n, (ldT 99 (.pointer (some ⟨p, 0, none⟩))).run Tryd.prog (wr.drewN n) = .ok (.agg (nvs .u32 H).toArray) (wr.drewN n) := fun n => big8.ld (hAp.drewN n) (by rw [hHl, zN_len])
          have hDpos : (0 : Int) < D.length := by omega
          have HK9 := Lib.hid (hK2.keep (hB9.mono (by rw [hs1]; exact Nat.le_refl _)))
          have HHH := Lib.hid (And.intro hHl hHt)
          clear hHl hHt hdl
          go_wp2_with fail
          refine wp_region_quiet_tail_lit 3 (by kernel_rfl) (by kernel_rfl) ?_
          simp only [List.take_succ_cons, List.take_zero, List.drop_succ_cons, List.drop_zero]
          repeat (quiet_step (fail))
          refine wpQuiet_nil ?_
          rintro _ ⟨nq, rfl⟩
          go_wp2_with fail
          refine (mix_any H _ (D.take 64) _ HHH.out.1 HHH.out.2 (show Bsl (wr.drewN nq) (.slice (some ⟨bu, ofu, none⟩) 64 capu) (D.take 64) from hbt) htl (show KeysAt (wr.drewN nq) from HK9.out.1)).mono ?_
          rintro e w10 ⟨rfl, hB10⟩
          have hml : (shaMix H (D.take 64)).length = 8 := by
            unfold shaMix
            rw [List.length_zipWith, HHH.out.1, shaRounds_len _ _ _ HHH.out.1]; rfl
          have hmt : ∀ x ∈ shaMix H (D.take 64), x < 4294967296 := by
            intro x hx
            unfold shaMix at hx
            obtain ⟨i, hi, rfl⟩ := List.getElem_of_mem hx
            rw [List.getElem_zipWith]
            exact Nat.mod_lt _ (by decide)
          have hAp10 := (hAp.drewN nq).keep hB10
          have hpl := hAp.lt
          obtain ⟨w11, hst11, hA11, ho11, hs11⟩ := big8.put hAp10 (by rw [HHH.out.1, zN_len]) (shaMix H (D.take 64)) (by rw [hml, zN_len])
          have e1 : w.heap.size + 1 ≤ wr.heap.size := by have := hB9.size; rw [hs1] at this; exact this
          have e2 : wr.heap.size ≤ w10.heap.size := hB10.size
          have hbd11 := ((show Bsl (wr.drewN nq) _ (D.drop 64) from hbd).keep hB10).only ho11 (fun k hk e => by
            have : k = bu := by
              by_cases hc : capu = 64
              · rw [if_pos hc] at hk; simpa [Value.ownBlock, eq_comm] using hk
              · rw [if_neg hc] at hk; simpa [Value.ownBlock, eq_comm] using hk
            omega)
          have hB911 : Below (w.heap.size + 1) w1 w11 := ((below_drewN hB9 nq).trans (hB10.mono e1)).trans (ho11.to_below (by omega) (fun k e => by omega))
          have hA911 := (((hA9.drewN nq).keep hB10).only ho11 (by omega))
          have HM := Lib.hid (And.intro hml (And.intro hmt (And.intro hA11 (And.intro hA911 (And.intro hB911 hbd11)))))
          have HB10 := Lib.hid (And.intro hB10 ho11)
          clear hml hmt hA11 hA911 hB911 hB10 ho11 hs11 hAp10 hpl hld hbd11 hbd hbt
          generalize shaMix H (D.take 64) = H2 at *
          go_wp2_with fail
          go_roundw
          case rel =>
            obtain ⟨h1, h2, h3, h4, h5, h6⟩ := HM.out
            obtain ⟨h7, h8⟩ := HQ.out
            refine ⟨i + 1, H2, by omega, by rw [← h8]; exact h6, fun k hk => ?_, h3, h1, h2, by rw [← h8]; exact h7, h4, h5⟩
            have : k = bu := by
              by_cases hc : capu = 64
              · rw [if_pos hc] at hk; simpa [Value.ownBlock, eq_comm] using hk
              · rw [if_neg hc] at hk; simpa [Value.ownBlock, eq_comm] using hk
            omega
          case measure => simp [lenV]; omega
        · have hz : (P.drop (64 * i)).length = 0 := by rw [hdl]; omega
          rw [hz]
          have hfin : sha l = (H.map be4).flatten := by
            rw [HSH.out, heq, show P.length / 64 - i = 0 by omega, shaBlocks]
          have hldH : (ldT 99 (.pointer (some ⟨p, 0, none⟩))).run Tryd.prog wr = .ok (.agg (nvs .u32 H).toArray) wr := big8.ld hAp (by rw [hHl, zN_len])
          have HFIN := Lib.hid (And.intro hfin (And.intro hHl hHt))
          obtain ⟨x0, x1, x2, x3, x4, x5, x6, x7, hHe⟩ := len8 hHl
          have HHE := Lib.hid hHe
          clear hfin heq hHl hHt hHe hbu hou hdl hdd hz HOW HBl HLT hal1 hA1 hap3 hap7 hJ HJ HN hx8 hAp
          go_wp2_with fail
          go_loopw [6, 40] (fun o i w2 => ∃ k : Nat, k ≤ 8 ∧ i = .int .i64 k ∧ OB w2 (w.heap.size + 1) o ((H.take k).map be4).flatten ∧ AN .u8 w2 w.heap.size (zN 32) ∧ Below (w.heap.size + 1) w1 w2) (fun _ i _ => 8 - (intOf i).toNat)
          case atStart => exact ⟨0, Nat.zero_le _, rfl, OB.nil _ _, hA9, hB9⟩
          case round =>
            obtain ⟨k, hk8, rfl, hoo, hAo, hBo⟩ := hrel
            clear hA9 hB9
            by_cases hkl : k < 8
            · have hix := run_ixW wr H k HFIN.out.2.1 hkl
              have hxl := getD_lt HFIN.out.2.2 k
              have hfl := wflat_take be4 H k 0 (by rw [HFIN.out.2.1]; exact hkl)
              have hol := be4_flat_len (H.take k)
              rw [List.length_take, HFIN.out.2.1, Nat.min_eq_left hk8] at hol
              have hph := putHigh_any (H.getD k 0) 4 wr (by omega) (by omega) (by omega)
              rw [show (4 : Int).toNat = 4 from rfl, be4_eq] at hph
              generalize H.getD k 0 = x at *
              have hxw : IntKind.u64.wrap (x : Int) = x := by simp [IntKind.wrap, IntKind.signed, IntKind.bits]; omega
              have hszo := hBo.size
              rw [hs1] at hszo
              have HFL := Lib.hid (And.intro hfl hol)
              clear hfl hol hxl hk8 hPl hP64 hll
              go_wp2_with fail
              refine hph.mono ?_
              rintro e w12 ⟨v12, rfl, ho12, hB12⟩
              obtain ⟨v13, w13, hap13, ho13, hB13, _, _⟩ := apB_made w12 (w.heap.size + 1) 39 _ v12 _ _ (hoo.keep hB12) ho12.bsl (by rw [HFL.out.2, be4_len]; omega) (by have := hB12.size; omega)
              rw [← HFL.out.1] at ho13
              have HO := Lib.hid (And.intro ho13 (And.intro ((hAo.keep hB12).under hB13 (by omega)) ((hBo.trans (hB12.mono hszo)).trans hB13)))
              clear ho13 hB13 hB12 ho12 hoo hAo hBo hph
              go_wp2_with fail
              go_roundw
              case rel => exact ⟨k + 1, by omega, by go_num, HO.out⟩
              case measure => simp [intOf]; omega
            · rw [List.take_of_length_le (by rw [HFIN.out.2.1]; omega), ← HFIN.out.1] at hoo
              have hRl : (sha l).length = 32 := by rw [HFIN.out.1, be4_flat_len, HFIN.out.2.1]
              obtain ⟨g, cap, hvv, hgb, hgs, hgc, hgm⟩ := hoo.shape (by intro e; rw [e] at hRl; simp at hRl)
              subst hvv
              rw [hRl] at hoo hgc ⊢
              have harr := fun w => run_arrayAt (P := Tryd.prog) (w := w) 22 5 32 (some ⟨g, 0, none⟩) 32 cap Tryd.underlying22 (Nat.le_refl _)
              have hgr : wr.rangeAt g 0 (nvs .u8 ((sha l).map UInt8.toNat)) := by
                rw [nvs_bytes]
                intro j u hu
                have hj : j < (sha l).length := by have := (List.getElem?_eq_some_iff.1 hu).1; simpa using this
                rw [Nat.zero_add, hoo.cell hRl.symm hj, ← hu]
                simp [bv, hj, List.getD]
              have hld9 := run_ldT big32 wr g 0 _ hgr (by rw [nvs_len, List.length_map, hRl, nvs_len, zN_len])
              obtain ⟨w14, hst14, hA14, hO14, _⟩ := big32.put hAo rfl ((sha l).map UInt8.toNat) (by rw [List.length_map, hRl, zN_len])
              have hlv := big32.lv hA14 (by rw [List.length_map, hRl, zN_len])
              have hB14 := (hB1.trans (hBo.mono (by omega))).trans (hO14.to_below (by have := hBo.size; omega) (fun k e => by omega))
              rw [nvs_bytes, ← HR.out] at hld9 hst14 hlv
              have HB := Lib.hid hB14
              clear hgr hB14 hO14 hA14 hoo hAo hBo hRl
              go_wp2_with fail
              exact bodyPost_ret (results_cell Tryd.results13 rfl hlv) rfl ⟨rfl, HB.out⟩
end Go.Proofs.YtjhocaleampamaaDoor
