/- sha2: the walk of the mix. -/
import Derived.Test.YtjhocaleampamaaDoorShaB
import Derived.Lib.LazyBuf
namespace Go.Proofs.YtjhocaleampamaaDoor
open Go.RowKit Big
set_option linter.unusedVariables false
/-- The rounds' words lie in their table. -/
def KeysAt (w : World) : Prop := ∀ i, i < 64 → w.cell? ⟨1, i, none⟩ = some (.int .u32 ((shaKeys.getD i 0 : Nat) : Int))
theorem KeysAt.keep {w w' : World} (h : KeysAt w) (hb : Below w.heap.size w w') : KeysAt w' := fun i hi => (hb.cell (p := ⟨1, i, none⟩) (World.block_lt_of_cell? w _ (h i hi))).trans (h i hi)
def cpW (ty : TypeId) (vs : Array Value) : Sem Value := Builtin.copy_ #[129, 129] ty vs
theorem cpW_eq (ty : TypeId) (vs : Array Value) : Builtin.copy_ #[129, 129] ty vs = cpW ty vs := rfl
theorem run_cpW (w : World) (ty : TypeId) (p : Nat) (l : List Nat) (h : AN .u32 w p l) (hl : l.length = 8) :
    (cpW ty #[.slice (some ⟨p, 1, none⟩) 7 7, .slice (some ⟨p, 0, none⟩) 7 8]).run Tryd.prog w = .ok (.int .i64 7) (w.setCells p 1 (nvs .u32 (l.take 7))) := by
  have hsz : (Tryd.prog.info? 98).map (·.size) = some 1 := by kernel_rfl
  have hln : (l.take 7).length = 7 := by rw [List.length_take]; omega
  have := run_copy_cells (P := Tryd.prog) w 129 129 ty 98 p 1 7 7 ⟨p, 0, none⟩ 7 8 (nvs .u32 (l.take 7)) Tryd.underlying129 hsz (by rw [nvs_len, hln]; rfl) (fun j u hu => by
        have hj := (List.getElem?_eq_some_iff.1 hu).1
        rw [nvs_len, hln] at hj
        rw [Addr.add_mid, Nat.zero_add, h.cell (by omega), ← hu]
        simp [nvs, nv, hj, show j < l.length by omega, List.getD]) (fun j hj => by rw [nvs_len, hln] at hj; rw [h.cell (by omega)]; rfl) (fun j hj => by rw [nvs_len, hln] at hj; exact h.free (by omega)) (nvs_one _ _)
  rw [nvs_len, hln] at this
  exact this
theorem shaRound_len (v : List Nat) (k w : Nat) : (shaRound v k w).length = 8 := rfl
theorem shaRounds_len (S : List Nat) (t : Nat) (h : List Nat) (hh : h.length = 8) : (shaRounds S t h).length = 8 := by
  cases t with
  | zero => exact hh
  | succ t => rfl
theorem shaRounds_lt (S : List Nat) (t : Nat) (h : List Nat) (hlt : ∀ x ∈ h, x < 4294967296) : ∀ x ∈ shaRounds S t h, x < 4294967296 := by
  induction t with
  | zero => exact hlt
  | succ t ih =>
    intro x hx
    rw [shaRounds, shaRound] at hx
    simp only [List.mem_cons, List.not_mem_nil, or_false] at hx
    rcases hx with rfl | rfl | rfl | rfl | rfl | rfl | rfl | rfl
    · exact Nat.mod_lt _ (by decide)
    all_goals first | exact getD_lt ih _ | exact Nat.mod_lt _ (by decide)
theorem keys_lt (i : Nat) : shaKeys.getD i 0 < 4294967296 := getD_lt (by decide +kernel) i
theorem len8 {l : List Nat} (h : l.length = 8) : ∃ a0 a1 a2 a3 a4 a5 a6 a7, l = [a0, a1, a2, a3, a4, a5, a6, a7] := by
  match l, h with
  | [a0, a1, a2, a3, a4, a5, a6, a7], _ => exact ⟨_, _, _, _, _, _, _, _, rfl⟩
theorem cpW_made (w : World) (ty : TypeId) (p : Nat) (l : List Nat) (h : AN .u32 w p l) (hl : l.length = 8) :
    ∃ w', (cpW ty #[.slice (some ⟨p, 1, none⟩) 7 7, .slice (some ⟨p, 0, none⟩) 7 8]).run Tryd.prog w = .ok (.int .i64 7) w' ∧ AN .u32 w' p (l.take 1 ++ l.take 7) ∧ Only (· = p) w w' ∧ w'.heap.size = w.heap.size := by
  refine ⟨_, run_cpW w ty p l h hl, ?_, only_setCells _ _ _ _, size_setCells _ _ _ _⟩
  have := h.splice 1 (l.take 7) (by rw [List.length_take]; omega)
  rw [List.length_take, show min 7 l.length = 7 by omega, List.drop_of_length_le (by omega), List.append_nil] at this
  exact this
theorem wordX (v4 v5 v6 v7 T1 kt wt : Nat) (b4 : v4 < 4294967296) (b5 : v5 < 4294967296) (b6 : v6 < 4294967296) :
    (((v7 : Int) + T1 + bits BinOp.xor IntKind.u32 (bits BinOp.and IntKind.u32 v4 v5) (bits BinOp.and IntKind.u32 (bits BinOp.xor IntKind.u32 IntKind.u32.max v4) v6) + kt + wt) % 4294967296) =
      (((v7 + T1 + ((v4 &&& v5) ^^^ ((v4 ^^^ 4294967295) &&& v6)) + kt + wt) % 4294967296 : Nat) : Int) := by
  have h1 : bits BinOp.xor IntKind.u32 IntKind.u32.max (v4 : Int) = ((v4 ^^^ 4294967295 : Nat) : Int) := by
    have := u32_xor_nat 4294967295 v4 (by omega) b4
    rw [Nat.xor_comm] at this; exact this
  have n4 : v4 ^^^ 4294967295 < 4294967296 := Nat.xor_lt_two_pow (n := 32) b4 (by omega)
  have a1 : v4 &&& v5 < 4294967296 := Nat.lt_of_le_of_lt Nat.and_le_left b4
  have a2 : (v4 ^^^ 4294967295) &&& v6 < 4294967296 := Nat.lt_of_le_of_lt Nat.and_le_left n4
  rw [h1, u32_and_nat _ _ b4 b5, u32_and_nat _ _ n4 b6, u32_xor_nat _ _ a1 a2]
  omega
theorem wordY (v0 v1 v2 T2 : Nat) (b0 : v0 < 4294967296) (b1 : v1 < 4294967296) (b2 : v2 < 4294967296) :
    (((T2 : Int) + bits BinOp.xor IntKind.u32 (bits BinOp.xor IntKind.u32 (bits BinOp.and IntKind.u32 v0 v1) (bits BinOp.and IntKind.u32 v0 v2)) (bits BinOp.and IntKind.u32 v1 v2)) % 4294967296) =
      (((T2 + ((v0 &&& v1) ^^^ (v0 &&& v2) ^^^ (v1 &&& v2))) % 4294967296 : Nat) : Int) := by
  have a1 : v0 &&& v1 < 4294967296 := Nat.lt_of_le_of_lt Nat.and_le_left b0
  have a2 : v0 &&& v2 < 4294967296 := Nat.lt_of_le_of_lt Nat.and_le_left b0
  have a3 : v1 &&& v2 < 4294967296 := Nat.lt_of_le_of_lt Nat.and_le_left b1
  rw [u32_and_nat _ _ b0 b1, u32_and_nat _ _ b0 b2, u32_and_nat _ _ b1 b2, u32_xor_nat _ _ a1 a2, u32_xor_nat _ _ (Nat.xor_lt_two_pow (n := 32) a1 a2) a3]
  omega
/-- The words behind k rounds of the last sum. -/
def mixA (L V : List Nat) : Nat → List Nat
  | 0 => L
  | k + 1 => (mixA L V k).set k ((L.getD k 0 + V.getD k 0) % 4294967296)
theorem mixA_len (L V : List Nat) (k : Nat) : (mixA L V k).length = L.length := by
  induction k with
  | zero => rfl
  | succ k ih => rw [mixA, List.length_set, ih]
theorem mixA_get (L V : List Nat) (k j : Nat) (h : k ≤ j) : (mixA L V k).getD j 0 = L.getD j 0 := by
  induction k with
  | zero => rfl
  | succ k ih =>
    rw [mixA, ← ih (by omega)]
    simp only [List.getD]
    rw [List.getElem?_set_ne (by omega)]
theorem mixA_all (L V : List Nat) (hL : L.length = 8) (hV : V.length = 8) : mixA L V 8 = List.zipWith (fun x y => (x + y) % 4294967296) L V := by
  obtain ⟨a0, a1, a2, a3, a4, a5, a6, a7, rfl⟩ := len8 hL
  obtain ⟨b0, b1, b2, b3, b4, b5, b6, b7, rfl⟩ := len8 hV
  rfl
theorem agg_congr {a b : List Nat} (h : a = b) : Ending.returned (.agg (nvs .u32 a).toArray) = .returned (.agg (nvs .u32 b).toArray) := by rw [h]
attribute [local go_sem ↓] alT_64 ldT_64 stT_64 alT_8 ldT_8 stT_8 cpW_eq
set_option maxRecDepth 100000 in
set_option maxHeartbeats 1000000 in
theorem mix_any (L : List Nat) (v : Value) (b : List UInt8) (w : World) (hh : L.length = 8) (hlt : ∀ x ∈ L, x < 4294967296) (hb : Bsl w v b) (hl : b.length = 64) (hk : KeysAt w) :
    Calls Tryd.prog 39 #[.agg (nvs .u32 L).toArray, v] w fun e w' => e = .returned (.agg (nvs .u32 (shaMix L b)).toArray) ∧ Below w.heap.size w w' := by
  have hA0 := AN.new .u32 w L 99
  have hB0 : Below w.heap.size w (w.alloc (.cells (nvs .u32 L).toArray 99)) := (Below.refl _ _).alloc (Nat.le_refl _) _
  have hs0 : (w.alloc (.cells (nvs .u32 L).toArray 99)).heap.size = w.heap.size + 1 := by simp
  generalize hw0 : w.alloc (.cells (nvs .u32 L).toArray 99) = w0 at *
  have hal1 := big8.al w0
  have hA1 := AN.new .u32 w0 (zN 8) 99
  have hB1 : Below w0.heap.size w0 (w0.alloc (.cells (nvs .u32 (zN 8)).toArray 99)) := (Below.refl _ _).alloc (Nat.le_refl _) _
  have hA0 := hA0.keep hB1
  have hB1 := hB0.trans (hB1.mono hB0.size)
  rw [hs0] at hal1 hA1
  obtain ⟨S, hS⟩ : ∃ S, S = shaSched b 64 := ⟨_, rfl⟩
  obtain ⟨M, hM⟩ : ∃ M, M = shaMix L b := ⟨_, rfl⟩
  rw [← hM]
  have HM := Lib.hid hM; clear hM
  have HL := Lib.hid hl; clear hl
  go_enter Tryd.func39, Tryd.ntmps39
  go_wp2_with fail
  have hsc := schedule_any v b (w0.alloc (.cells (nvs .u32 (zN 8)).toArray 99)) (hb.keep hB1) HL.out
  rw [← hS] at hsc
  generalize w0.alloc (.cells (nvs .u32 (zN 8)).toArray 99) = w1 at *
  refine hsc.mono ?_
  rintro e w2 ⟨rfl, hB2⟩
  have hSl : S.length = 64 := by rw [hS, shaSched_len]
  have hSlt : ∀ j, S.getD j 0 < 4294967296 := fun j => by rw [hS]; exact shaSched_get_lt b 64 j
  have hs1 : w.heap.size + 1 < w1.heap.size := hA1.lt
  have hs2 := hB2.size
  obtain ⟨wa, w3, hal3, hst3, hAS, hB3, hs3⟩ := big64.made w2 S (by rw [hSl, zN_len])
  have hA0 := (hA0.keep hB2).keep hB3
  have hA1 := (hA1.keep hB2).keep hB3
  have hB3' := (hB1.trans (hB2.mono hB1.size)).trans (hB3.mono (by omega))
  have hld3 := big8.ld hA0 (by rw [hh, zN_len])
  obtain ⟨wb, w4, hal4, hst4, hAV, hB4, hs4⟩ := big8.made w3 L (by rw [hh, zN_len])
  have hA0 := hA0.keep hB4
  have hA1 := hA1.keep hB4
  have hAS := hAS.keep hB4
  have hB4' := hB3'.trans (hB4.mono (by omega))
  rw [hs3] at hal4 hst4 hAV
  generalize hp : w2.heap.size = p at *
  have HS := Lib.hid hS; clear hS
  clear hB1 hB2 hB3 hB3' hB4 hB0 hsc hs4 hw0 hs0 hp hs3 hal1
  have HSlt := Lib.hid hSlt; clear hSlt
  have HSl := Lib.hid hSl; clear hSl
  have HH := Lib.hid hh; clear hh
  have HLT := Lib.hid hlt; clear hlt
  go_wp2_with fail
  clear hal3 hst3 hal4 hst4 hld3
  go_loopw [14] (fun i wr => ∃ t : Nat, t ≤ 64 ∧ i = .int .i64 t ∧ AN .u32 wr w.heap.size L ∧ AN .u32 wr (w.heap.size + 1) (zN 8) ∧ AN .u32 wr p S ∧ AN .u32 wr (p + 1) (shaRounds S t L) ∧ Below w.heap.size w wr) (fun i _ => 64 - (intOf i).toNat)
  case atStart => exact ⟨0, Nat.zero_le _, rfl, hA0, hA1, hAS, hAV, hB4'⟩
  case round =>
    obtain ⟨t, ht, rfl, hR0, hR1, hRS, hRV, hRB⟩ := hrel
    clear hA0 hA1 hAS hAV hB4'
    by_cases htl : t < 64
    · have hln := shaRounds_len S t L HH.out
      have hvl := shaRounds_lt S t L HLT.out
      have hrd : shaRounds S (t + 1) L = shaRound (shaRounds S t L) (shaKeys.getD t 0) (S.getD t 0) := rfl
      have hkt := (hk.keep (hRB.mono (Nat.le_refl _))) t htl
      have hst := hRS.cell (j := t) (by rw [HSl.out]; exact htl)
      have hwl := HSlt.out t
      have hkl := keys_lt t
      generalize shaRounds S t L = V at *
      obtain ⟨v0, v1, v2, v3, v4, v5, v6, v7, rfl⟩ := len8 hln
      have c0 := hRV.cell (j := 0) (by simp)
      have c1 := hRV.cell (j := 1) (by simp)
      have c2 := hRV.cell (j := 2) (by simp)
      have c3 := hRV.cell (j := 3) (by simp)
      have c4 := hRV.cell (j := 4) (by simp)
      have c5 := hRV.cell (j := 5) (by simp)
      have c6 := hRV.cell (j := 6) (by simp)
      have c7 := hRV.cell (j := 7) (by simp)
      simp only [List.getD_cons_zero, List.getD_cons_succ] at c0 c1 c2 c3 c4 c5 c6 c7
      have b0 : v0 < 4294967296 := hvl _ (by simp)
      have b1 : v1 < 4294967296 := hvl _ (by simp)
      have b2 : v2 < 4294967296 := hvl _ (by simp)
      have b3 : v3 < 4294967296 := hvl _ (by simp)
      have b4 : v4 < 4294967296 := hvl _ (by simp)
      have b5 : v5 < 4294967296 := hvl _ (by simp)
      have b6 : v6 < 4294967296 := hvl _ (by simp)
      have b7 : v7 < 4294967296 := hvl _ (by simp)
      have cA := fun n => quiet_eq (turned_1 v4 (wr.drewN n) b4)
      have hT1 := shaTurned_lt v4 6 11 25 b4
      have hT2 := shaTurned_lt v0 2 13 22 b0
      have HR := Lib.hid hrd; clear hrd hvl hln
      simp only [shaRound, List.getD_cons_zero, List.getD_cons_succ] at HR
      generalize shaTurned v4 6 11 25 = T1 at *
      generalize hT2e : shaTurned v0 2 13 22 = T2 at *
      have HT2 := Lib.hid hT2e; clear hT2e
      generalize shaKeys.getD t 0 = kt at *
      generalize S.getD t 0 = wt at *
      have HV := Lib.hid (And.intro hRV (And.intro hR0 (And.intro hR1 (And.intro hRS hRB))))
      clear hRV hR0 hR1 hRS hRB
      go_wp2_with fail
      go_quiet ((go_at_call 65; with_reducible exact cA _))
      obtain ⟨wq, hwq⟩ : ∃ wq, wq = wr.drewN nq := ⟨_, rfl⟩
      have cq : ∀ a, wq.cell? a = wr.cell? a := fun a => by rw [hwq]; rfl
      rw [← cq] at c0 c1 c2 c3 c4 c5 c6 c7
      have cB := fun n => quiet_eq (turned_2 v0 (wq.drewN n) b0)
      rw [HT2.out] at cB
      rw [← hwq]
      have HX := Lib.hid (wordX v4 v5 v6 v7 T1 kt wt b4 b5 b6)
      have HY := Lib.hid (wordY v0 v1 v2 T2 b0 b1 b2)
      have HQ := Lib.hid hwq
      clear hwq cq cA
      go_wp2_with fail
      go_quiet ((go_at_call 65; with_reducible exact cB _))
      rw [HX.out, HY.out]
      clear HX HY cB c0 c1 c2 c3 c4 c5 c6 c7 hkt hst
      generalize hXe : (v7 + T1 + ((v4 &&& v5) ^^^ ((v4 ^^^ 4294967295) &&& v6)) + kt + wt) % 4294967296 = X at *
      generalize hYe : (T2 + ((v0 &&& v1) ^^^ (v0 &&& v2) ^^^ (v1 &&& v2))) % 4294967296 = Y at *
      have hX : X < 4294967296 := by rw [← hXe]; exact Nat.mod_lt _ (by decide)
      have hY : Y < 4294967296 := by rw [← hYe]; exact Nat.mod_lt _ (by decide)
      clear hXe hYe
      obtain ⟨wz, hwz⟩ : ∃ wz, wz = wq.drewN nq := ⟨_, rfl⟩
      rw [← hwz]
      have HZ := Lib.hid (show AN .u32 wz (p + 1) [v0, v1, v2, v3, v4, v5, v6, v7] ∧ AN .u32 wz w.heap.size L ∧ AN .u32 wz (w.heap.size + 1) (zN 8) ∧ AN .u32 wz p S ∧ Below w.heap.size w wz by
        rw [hwz, HQ.out]
        obtain ⟨h1, h2, h3, h4, h5⟩ := HV.out
        exact ⟨h1, h2, h3, h4, below_drewN (below_drewN h5 _) _⟩)
      clear hwz HQ HV
      go_wp2_with fail
      refine wp_region_quiet_tail_lit 2 (by kernel_rfl) (by kernel_rfl) ?_
      simp only [List.take_succ_cons, List.take_zero, List.drop_succ_cons, List.drop_zero]
      repeat (quiet_step (fail))
      refine wpQuiet_nil ?_
      rintro _ ⟨n8, rfl⟩
      obtain ⟨wc, hcp, hAc, hoc, hsc⟩ := cpW_made (wz.drewN n8) 3 (p + 1) _ (HZ.out.1.drewN n8) rfl
      simp only [List.take_succ_cons, List.take_zero, List.cons_append, List.nil_append] at hAc
      have d0 := hAc.cell (j := 0) (by simp)
      have d4 := hAc.cell (j := 4) (by simp)
      have f0 := hAc.free (j := 0) (by simp)
      have f4 := hAc.free (j := 4) (by simp)
      simp only [List.getD_cons_zero, List.getD_cons_succ] at d0 d4
      have hXY : (((X : Int) + Y) % 4294967296) = (((X + Y) % 4294967296 : Nat) : Int) := by omega
      have hV3 : (((v3 : Int) + X) % 4294967296) = (((v3 + X) % 4294967296 : Nat) : Int) := by omega
      have hN := (hAc.set (j := 0) (by simp) ((X + Y) % 4294967296)).set (j := 4) (by simp) ((v3 + X) % 4294967296)
      rw [← hXY, ← hV3] at hN
      simp only [List.set_cons_zero, List.set_cons_succ] at hN
      have hO : Only (· = p + 1) (wz.drewN n8) ((wc.setCell ⟨p + 1, 0, none⟩ (.int .u32 (((X : Int) + Y) % 4294967296))).setCell ⟨p + 1, 4, none⟩ (.int .u32 (((v3 : Int) + X) % 4294967296))) :=
        (hoc.setCell (p := ⟨p + 1, 0, none⟩) (fun _ => rfl) _).setCell (p := ⟨p + 1, 4, none⟩) (fun _ => rfl) _
      have HF := Lib.hid (show AN .u32 _ (p + 1) (shaRounds S (t + 1) L) ∧ AN .u32 _ w.heap.size L ∧ AN .u32 _ (w.heap.size + 1) (zN 8) ∧ AN .u32 _ p S ∧ Below w.heap.size w _ by
        obtain ⟨h1, h2, h3, h4, h5⟩ := HZ.out
        rw [HR.out]
        exact ⟨hN, (h2.drewN n8).only hO (by omega), (h3.drewN n8).only hO (by omega), (h4.drewN n8).only hO (by omega), (below_drewN h5 n8).trans (hO.to_below (by have := h5.size; exact this) (fun k e => by have := h5.size; omega))⟩)
      clear hN hO hXY hV3 hsc hoc
      go_wp2_with fail
      go_roundw
      case rel => exact ⟨t + 1, by omega, by go_num, HF.out.2.1, HF.out.2.2.1, HF.out.2.2.2.1, HF.out.1, HF.out.2.2.2.2⟩
      case measure => simp [intOf]; omega
    · have htt : t = 64 := by omega
      have hVl := shaRounds_len S 64 L HH.out
      have hVlt := shaRounds_lt S 64 L HLT.out
      rw [htt] at hRV
      have HE := Lib.hid (show M = List.zipWith (fun x y => (x + y) % 4294967296) L (shaRounds S 64 L) by rw [HM.out, HS.out]; rfl)
      generalize shaRounds S 64 L = V at *
      have HVL := Lib.hid hVl
      have HVT := Lib.hid hVlt
      clear htt hVl hVlt
      go_wp2_with fail
      go_loopw [78] (fun i wr => ∃ k : Nat, k ≤ 8 ∧ i = .int .i64 k ∧ AN .u32 wr w.heap.size (mixA L V k) ∧ AN .u32 wr (w.heap.size + 1) (zN 8) ∧ AN .u32 wr (p + 1) V ∧ Below w.heap.size w wr) (fun i _ => 8 - (intOf i).toNat)
      case atStart => exact ⟨0, Nat.zero_le _, rfl, hR0, hR1, hRV, hRB⟩
      case round =>
        obtain ⟨k, hk8, rfl, hQ0, hQ1, hQV, hQB⟩ := hrel
        clear hR0 hR1 hRV hRS hRB
        by_cases hkl : k < 8
        · have c1 := hQ0.cell (j := k) (by rw [mixA_len, HH.out]; exact hkl)
          have c2 := hQV.cell (j := k) (by rw [HVL.out]; exact hkl)
          have f1 := hQ0.free (j := k) (by rw [mixA_len, HH.out]; exact hkl)
          rw [mixA_get _ _ _ _ (Nat.le_refl _)] at c1
          have e1 := getD_lt HLT.out k
          have e2 := getD_lt HVT.out k
          have hnx := hQ0.set (j := k) (by rw [mixA_len, HH.out]; exact hkl) ((L.getD k 0 + V.getD k 0) % 4294967296)
          have HN := Lib.hid (And.intro (show AN .u32 _ w.heap.size (mixA L V (k + 1)) from hnx) (And.intro hQ1 (And.intro hQV hQB)))
          clear hnx hQ0 hQ1 hQV hQB
          generalize L.getD k 0 = x1 at *
          generalize V.getD k 0 = x2 at *
          have hv : (((x1 + x2) % 4294967296 : Nat) : Int) = ((x1 : Int) + x2) % 4294967296 := by omega
          rw [hv] at HN
          clear hv
          go_wp2_with fail
          go_region
          go_wp2_with fail
          go_roundw
          case rel =>
            obtain ⟨h1, h2, h3, h4⟩ := HN.out
            exact ⟨k + 1, by omega, by go_num, h1, h2.set_other (p := ⟨w.heap.size, k, none⟩) (by show w.heap.size ≠ w.heap.size + 1; omega) _, h3.set_other (p := ⟨w.heap.size, k, none⟩) (by show w.heap.size ≠ p + 1; omega) _, (h4.setCell (Nat.le_refl _) _).drew⟩
          case measure => simp [intOf]; omega
        · have hkk : k = 8 := by omega
          rw [hkk, mixA_all L V HH.out HVL.out, ← HE.out] at hQ0
          have hMl : M.length = 8 := by rw [HE.out, List.length_zipWith, HH.out, HVL.out]; rfl
          have hld := big8.ld hQ0 (by rw [hMl, zN_len])
          obtain ⟨we, hst, hAe, hoe, hse⟩ := big8.put hQ1 (zN_len 8 ▸ rfl) M (by rw [hMl, zN_len])
          have hlv := big8.lv hAe (by rw [hMl, zN_len])
          have HB := Lib.hid (hQB.trans (hoe.to_below hQB.size (fun k e => by omega)))
          clear hQ0 hQ1 hQV hQB hAe hoe hse hkk hMl
          go_wp2_with fail
          exact bodyPost_ret (results_cell Tryd.results39 rfl hlv) rfl ⟨rfl, HB.out⟩
end Go.Proofs.YtjhocaleampamaaDoor
