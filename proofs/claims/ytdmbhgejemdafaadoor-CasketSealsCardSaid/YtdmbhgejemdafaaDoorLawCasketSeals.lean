/- caskettop.CasketSeals: the walk. -/
import Derived.Test.YtdmbhgejemdafaaDoorAopen
import Derived.Test.YtdmbhgejemdafaaDoorHkdf
namespace Go.Proofs.YtdmbhgejemdafaaDoor
open Go.RowKit Big
set_option linter.unusedVariables false
theorem strcat2 (a b : List UInt8) : (⟨a.toArray⟩ : ByteArray) ++ ⟨b.toArray⟩ = ⟨(a ++ b).toArray⟩ := ByteArray.mk_append_mk _ _
theorem run_cat2 (a b : List UInt8) (h : a.length + b.length ≤ 9223372036854775807) (w : World) : (Op.stringOp .add ⟨a.toArray⟩ ⟨b.toArray⟩).run Tryd.prog w = .ok (.string ⟨(a ++ b).toArray⟩) w := by
  rw [run_string_add_sum w _ _ (by simp [ByteArray.size]; omega), strcat2]
/-- A use's nonce. -/
def useN (c : UInt8) : List UInt8 := c :: List.replicate 11 0
attribute [local go_sem ↓] apB_eq apZ_eq alT_16b ldT_16b stT_16b alT_64b ldT_64b stT_64b alT_32 ldT_32 stT_32 alT_12 ldT_12 stT_12
set_option maxRecDepth 100000 in
set_option maxHeartbeats 4000000 in
theorem casketSeals_walk (v0 : Value) (l0 : List UInt8) (c : UInt8) (v2 : Value) (l2 : List UInt8) (w : World) (hb0 : Bsl w v0 l0) (hb2 : Bsl w v2 l2) (hsh : ShaAt w) :
    Calls Tryd.prog 3 #[v0, .int .u8 c.toNat, v2] w fun e w' => e = .returned (.bool true) ∧ Below w.heap.size w w' := by
  have hc1 := cut_any v0 l0 60 w hb0 (by omega) (by omega)
  have hcb := c.toNat_lt
  have hci : (c.toNat : Int) < 256 := by omega
  have HB0 := Lib.hid (And.intro hb2 hsh)
  clear hb0 hb2 hsh
  go_enter Tryd.func3, Tryd.ntmps3
  go_wp2_with fail
  refine hc1.mono ?_
  rintro e w1 ⟨v1, rfl, ho1, hB1⟩
  clear hc1
  have hone := Bsl.lit w1 [c] #[.int .u8 (c.toNat : Int)] (0, 0) 1 rfl (by simp) (by omega)
  have hBa : Below w1.heap.size w1 (w1.alloc (.cells #[.int .u8 (c.toNat : Int)] 5)) := (Below.refl _ _).alloc (Nat.le_refl _) _
  have hB2 := hB1.trans (hBa.mono hB1.size)
  rw [List.length_singleton] at hone
  have hl60 : (l0.take (Int.toNat 60)).length ≤ 60 := by rw [List.length_take]; simp; omega
  have hex := expand_any v1 _ _ [c] _ (ho1.keep hBa).bsl hone (by omega) (by simp) (HB0.out.2.keep hB2)
  have hKl := expandL_len (l0.take (Int.toNat 60)) [c]
  generalize expandL (l0.take (Int.toNat 60)) [c] = K at *
  have HKL := Lib.hid hKl
  clear hKl hl60 ho1 hone hB1 hBa
  go_wp2_with fail
  refine hex.mono ?_
  rintro e w3 ⟨v3, rfl, hb3, hB3⟩
  have hB3 := hB2.trans (hB3.mono hB2.size)
  have hsd := stands_any w3 (HB0.out.2.keep hB3)
  obtain ⟨ka, kc, hv3⟩ := hb3.val'
  subst hv3
  clear hex hB2
  go_wp2_with fail
  refine hsd.mono ?_
  rintro e w4 ⟨rfl, hB4⟩
  clear hsd
  have hb4 := hb3.keep hB4
  have hB4 := hB3.trans (hB4.mono hB3.size)
  rw [HKL.out] at hb4 ⊢
  have harr := fun w => run_arrayAt (P := Tryd.prog) (w := w) 28 5 32 ka 32 kc Tryd.underlying28 (Nat.le_refl _)
  obtain ⟨kb, ko, rfl, hkc⟩ : ∃ kb ko, ka = some ⟨kb, ko, none⟩ ∧ ∀ j, j < 32 → w4.cell? ⟨kb, ko + j, none⟩ = some (.int .u8 ((K.getD j 0).toNat : Int)) := by
    obtain ⟨a, c2, e, _, _, _, h4⟩ := hb4
    simp only [Value.slice.injEq] at e
    obtain ⟨rfl, _, rfl⟩ := e
    obtain ⟨b, o, e, hc⟩ := h4 (by intro e; have := HKL.out; rw [e] at this; simp at this)
    cases e
    exact ⟨b, o, rfl, fun j hj => hc j (by rw [HKL.out]; exact hj)⟩
  have hgr : w4.rangeAt kb ko (nvs .u8 (K.map UInt8.toNat)) := by
    rw [nvs_bytes]
    intro j u hu
    have hj : j < K.length := by have := (List.getElem?_eq_some_iff.1 hu).1; simpa using this
    rw [hkc j (by rw [← HKL.out]; exact hj), ← hu]
    simp [bv, hj, List.getD]
  have hld := run_ldT big32 w4 kb ko _ hgr (by rw [nvs_len, List.length_map, HKL.out, nvs_len, zN_len])
  obtain ⟨wa, w5, hal5, hst5, hA5, hC5, hs5⟩ := big32.made w4 (K.map UInt8.toNat) (by rw [List.length_map, HKL.out, zN_len])
  rw [nvs_bytes] at hld hst5
  have hB5 := hB4.trans (hC5.mono hB4.size)
  clear hC5
  have hc2 := cut_any v2 l2 120 w5 (HB0.out.1.keep hB5) (by omega) (by omega)
  have hBl : (l2.take (Int.toNat 120)).length ≤ 120 := by rw [List.length_take]; simp; omega
  generalize l2.take (Int.toNat 120) = B at *
  have hkpos : w.heap.size ≤ w4.heap.size := hB4.size
  generalize hp : w4.heap.size = p at *
  clear hb3 hb4 hgr hkc hB3 hB4
  have HBL := Lib.hid hBl
  go_wp2_with fail
  refine hc2.mono ?_
  rintro e w6 ⟨v6, rfl, ho6, hB6⟩
  have hb6 := ho6.bsl
  have hA6 := hA5.keep hB6
  have hs6 := hB6.size
  have hB6 := hB5.trans (hB6.mono hB5.size)
  obtain ⟨wb, w7, hal7, hst7, hA7, hC7, hs7⟩ := big12.made w6 ((useN c).map UInt8.toNat) (by rw [List.length_map, zN_len]; rfl)
  have hst7 : (stT 29 (.pointer (some ⟨w6.heap.size, 0, none⟩)) (.agg #[.int .u8 (c.toNat : Int), .int .u8 0, .int .u8 0, .int .u8 0, .int .u8 0, .int .u8 0, .int .u8 0, .int .u8 0, .int .u8 0, .int .u8 0, .int .u8 0, .int .u8 0])).run Tryd.prog wb = .ok () w7 := hst7
  rw [hs5] at hs6
  clear hc2 hst5 hal5 hA5 hB5 hs5 ho6 hld harr
  have hA6 := hA6.keep hC7
  have hb7 := hb6.keep hC7
  have hB7 := hB6.trans (hC7.mono hB6.size)
  clear hb6 hB6 hC7
  have hN : (useN c).length = 12 := rfl
  have HN := Lib.hid hN
  clear hN
  generalize hu : useN c = N at *
  have hld0 := big32.ld hA6 (by rw [List.length_map, HKL.out, zN_len])
  have hld1 := big12.ld hA7 (by rw [List.length_map, HN.out, zN_len])
  rw [nvs_bytes] at hld0 hld1
  have hsl := seal_any K N (.slice none 0 0) v6 [] B w7 HKL.out HN.out ⟨none, 0, rfl, by simp, by simp, by simp, fun h => absurd rfl h⟩ hb7 (by simp) (by have := HBL.out; omega)
  generalize hq : w6.heap.size = q at *
  go_wp2_with fail
  refine hsl.mono ?_
  rintro e w8 ⟨v8, rfl, ho8, hC8⟩
  have hb8 := ho8.bsl
  have hA8 := hA6.keep hC8
  have hN8 := hA7.keep hC8
  have hb68 := hb7.keep hC8
  have hB8 := hB7.trans (hC8.mono hB7.size)
  clear hsl ho8 hC8 hld0 hld1 hA6 hA7 hb7 hB7 hst7 hal7 hs7 hs6
  have hld0 := big32.ld hA8 (by rw [List.length_map, HKL.out, zN_len])
  have hld1 := big12.ld hN8 (by rw [List.length_map, HN.out, zN_len])
  rw [nvs_bytes] at hld0 hld1
  have hst := stream_any K N 1 v6 B w8 HKL.out HN.out (by omega) hb68 (by have := HBL.out; omega)
  rw [show ((1 : Nat) : Int) = 1 from rfl] at hst
  have hCl := streamF_len K N 1 (by omega) B
  have hCC := streamF_twice K N 1 (by omega) B
  have hCT : sealL K N [] B = streamF K N 1 B ++ tagA K N [] (streamF K N 1 B) := rfl
  rw [hCT] at hb8
  clear hCT
  generalize streamF K N 1 B = C at *
  go_wp2_with fail
  refine hst.mono ?_
  rintro e w9 ⟨v9, rfl, ho9, hC9⟩
  have hb9 := ho9.bsl
  have hA9 := hA8.keep hC9
  have hN9 := hN8.keep hC9
  have hb69 := hb68.keep hC9
  have hb89 := hb8.keep hC9
  have hB9 := hB8.trans (hC9.mono hB8.size)
  clear hst ho9 hC9 hld0 hld1 hA8 hN8 hb68 hb8 hB8
  have hld0 := big32.ld hA9 (by rw [List.length_map, HKL.out, zN_len])
  have hld1 := big12.ld hN9 (by rw [List.length_map, HN.out, zN_len])
  rw [nvs_bytes] at hld0 hld1
  have hbk := block_any K N 0 w9 HKL.out HN.out (by omega)
  rw [show ((0 : Nat) : Int) = 0 from rfl] at hbk
  have hFl := blockN_len K N 0 (by omega)
  have HT := Lib.hid (show tagA K N [] C = tagI ((blockN K N 0).take 32) (tagB [] C) from rfl)
  have HTL := Lib.hid (tagA_len K N [] C)
  generalize blockN K N 0 = F at *
  go_wp2_with fail
  refine hbk.mono ?_
  rintro e w10 ⟨rfl, hC10⟩
  obtain ⟨wc, w11, hal11, hst11, hF11, hC11, hs11⟩ := big64b.made w10 (F.map UInt8.toNat) (by rw [List.length_map, hFl, zN_len])
  rw [nvs_bytes] at hst11
  have hA11 := (hA9.keep hC10).keep hC11
  have hN11 := (hN9.keep hC10).keep hC11
  have hb611 := (hb69.keep hC10).keep hC11
  have hb811 := (hb89.keep hC10).keep hC11
  have hb911 := (hb9.keep hC10).keep hC11
  have hB10 := hB9.trans (hC10.mono hB9.size)
  have hB11 := hB10.trans (hC11.mono hB10.size)
  clear hbk hC10 hC11 hld0 hld1 hA9 hN9 hb69 hb89 hB9 hB10 hb9
  generalize hr : w10.heap.size = r at *
  have hbel : Below (r + 1) w11 (w11.alloc (.cells #[] 5)) := (Below.refl _ _).alloc (by omega) _
  have hown : OB (w11.alloc (.cells #[] 5)) (r + 1) (.slice (some ⟨w11.heap.size, 0, none⟩) 0 0) [] := World.ownsRow_made w11 #[] 0 (by omega) (by decide) rfl
  obtain ⟨v13, w13, hap, ho13, hB13, _, _⟩ := apB_made _ (r + 1) 22 _ _ _ _ hown (hb911.keep (hbel.mono (by omega))) (by simp; have := HBL.out; omega) (by simp; omega)
  rw [List.nil_append] at ho13
  have hB13 := hbel.trans hB13
  rw [hs11] at hap
  go_wp2_with fail
  have HFF := Lib.hid (And.intro hA11 (And.intro hN11 (And.intro hF11 (And.intro hb611 (And.intro hb811 (And.intro hb911 hB11))))))
  have HF := Lib.hid (And.intro hFl (And.intro hCl (And.intro hCC hs11)))
  clear hA11 hN11 hF11 hb611 hb811 hb911 hB11 hFl hCl hCC hs11 hap hbel hown hal11 hst11
  have hJ : padK16 C.length < 16 := by unfold padK16; omega
  have hJ2 : (C.length + padK16 C.length) % 16 = 0 := by unfold padK16; omega
  have hJ3 : ∀ j, j < padK16 C.length → ¬ (C.length + j) % 16 = 0 := fun j hj h => by unfold padK16 at hj; omega
  have HP := Lib.hid (show padA C = C ++ List.replicate (padK16 C.length) 0 from rfl)
  have hC120 : C.length ≤ 120 := by have := HBL.out; have := HF.out.2.1; omega
  generalize padK16 C.length = J at *
  have HJ := Lib.hid (And.intro hJ2 hJ3)
  clear hJ2 hJ3
  go_loopw [14] (fun v wr => ∃ j : Nat, j ≤ J ∧ OB wr (r + 1) v (C ++ List.replicate j 0) ∧ Below (r + 1) w11 wr) (fun v wr => C.length + J - lenVa v)
  case atStart => exact ⟨0, Nat.zero_le _, by simpa using ho13, hB13⟩
  case round =>
    obtain ⟨j, hj, hoj, hBj⟩ := hrel
    clear ho13 hB13
    have hsz : r + 1 ≤ wr.heap.size := by have := HF.out.2.2.2; have := hBj.size; omega
    obtain ⟨ao4, cap4, rfl⟩ := hoj.val'
    have hln : (C ++ List.replicate j 0 : List UInt8).length = C.length + j := by simp only [List.length_append, List.length_replicate]
    by_cases hlt : j < J
    · have hne : (((C.length + j : Nat) : Int) % 16 != 0) = true := by
        have := HJ.out.2 j hlt
        simp; omega
      have hbo := Bsl.one wr 0 (by omega)
      have hoj' := hoj.keep ((Below.refl wr.heap.size wr).alloc (Nat.le_refl _) (.cells #[.int .u8 0] 5))
      have hBj' : Below (r + 1) w11 (wr.alloc (.cells #[.int .u8 0] 5)) := hBj.alloc hsz _
      obtain ⟨v5, w15, hap5, ho5, hB5, _, _⟩ := apB_made _ (r + 1) 22 _ _ _ _ hoj' hbo (by rw [hln]; simp; omega) (by simp; omega)
      have hB15 := hBj'.trans hB5
      rw [List.append_assoc, show List.replicate j (0 : UInt8) ++ [UInt8.ofNat (Int.toNat 0)] = List.replicate (j + 1) 0 by rw [List.replicate_succ']; rfl] at ho5
      obtain ⟨ao5, cap5, hv5⟩ := ho5.val'
      rw [show (C ++ List.replicate (j + 1) 0 : List UInt8).length = C.length + (j + 1) by simp only [List.length_append, List.length_replicate]] at hv5
      subst hv5
      rw [hln] at hap5 ⊢
      have HO := Lib.hid (And.intro ho5 hB15)
      clear ho5 hB15 hoj hoj' hbo hBj hBj' hB5 hln
      go_wp2_with fail
      go_roundw
      case rel => exact ⟨j + 1, hlt, HO.out⟩
      case measure => simp [lenVa]; omega
    · obtain rfl : j = J := by omega
      have hne : (((C.length + j : Nat) : Int) % 16 != 0) = false := by
        have := HJ.out.1
        simp; omega
      have hCp : (padA C).length = C.length + j := by rw [HP.out]; simp only [List.length_append, List.length_replicate]
      rw [← HP.out] at hoj
      rw [hln]
      clear hln HP
      obtain ⟨v16, w16, hap16, ho16, hD16, _, hs16⟩ := apZ_made wr (r + 1) 22 _ _ 8 hoj (by rw [hCp]; omega) hsz
      obtain ⟨a6, c6, rfl⟩ := HFF.out.2.2.2.1.val'
      have hpl := putLow_any B.length 8 w16 (by have := HBL.out; omega) (by omega) (by omega)
      rw [show (8 : Int).toNat = 8 from rfl] at hpl
      have hB120 := HBL.out
      rw [hCp, show ((8 : Nat) : Int) = 8 from rfl] at hap16
      have hs16' : r + 1 ≤ w16.heap.size := by omega
      go_wp2_with fail
      refine hpl.mono ?_
      rintro e w17 ⟨v17, rfl, ho17, hC17⟩
      have ho167 := ho16.keep hC17
      have hs17 : r + 1 ≤ w17.heap.size := by have := hC17.size; omega
      have hD17 := hD16.trans (hC17.mono hs16')
      obtain ⟨v18, w18, hap18, ho18, hD18, _, hs18⟩ := apB_made w17 (r + 1) 22 v16 v17 _ _ ho167 ho17.bsl (by rw [putLowL_length, List.length_append, hCp, List.length_replicate]; omega) hs17
      have hD18 := hD17.trans hD18
      have hs18' : r + 1 ≤ w18.heap.size := by omega
      have hTB : padA C ++ List.replicate 8 0 ++ putLowL 8 B.length = tagB [] C := by
        unfold tagB
        rw [HF.out.2.1, show padA [] = [] from rfl, List.nil_append]
        rfl
      rw [hTB] at ho18
      have hbt := ho18.bsl
      have hlt2 : (tagB [] C).length ≤ 1000000 := by rw [← hTB]; simp only [List.length_append, putLowL_length, hCp, List.length_replicate]; omega
      have hF32 : (F.take 32).length = 32 := by rw [List.length_take, HF.out.1]; omega
      have hpt := tag_any (F.take 32) v18 (tagB [] C) w18 hF32 hbt hlt2
      rw [← HT.out] at hpt
      have hD : Below w11.heap.size w11 w18 := by rw [HF.out.2.2.2]; exact hBj.trans hD18
      have hA := HFF.out.1.keep hD
      have hN := HFF.out.2.1.keep hD
      have hF := HFF.out.2.2.1.keep hD
      have hb6 := HFF.out.2.2.2.1.keep hD
      have hb8 := HFF.out.2.2.2.2.1.keep hD
      have hb9 := HFF.out.2.2.2.2.2.1.keep hD
      have hB := HFF.out.2.2.2.2.2.2.trans (hD.mono HFF.out.2.2.2.2.2.2.size)
      clear HFF
      have hgr : w18.rangeAt r 0 (nvs .u8 ((F.take 32).map UInt8.toNat)) := by
        intro j u hu
        have hr := hF.range
        refine hr j u ?_
        rw [← hu]
        have hj : j < 32 := by have := (List.getElem?_eq_some_iff.1 hu).1; rw [nvs_len, List.length_map, hF32] at this; exact this
        simp [nvs, hj]
      have hldk := run_ldT big32 w18 r 0 _ hgr (by rw [nvs_len, List.length_map, hF32, nvs_len, zN_len])
      rw [nvs_bytes] at hldk
      rw [List.map_take] at hldk hpt
      have harr := fun w => run_arrayAt (P := Tryd.prog) (w := w) 28 5 32 (some ⟨r, 0, none⟩) 32 64 Tryd.underlying28 (Nat.le_refl _)
      clear hpl hgr hF hD hD18 hD17 hD16 ho16 ho17 ho18 ho167 hC17 hap16 hbt hlt2 hF32 hj hoj hBj
      go_wp2_with fail
      refine hpt.mono ?_
      rintro e w19 ⟨rfl, hC19⟩
      generalize hTT : tagA K N [] C = T at *
      obtain ⟨wd, w20, hal20, hst20, hA20, hC20, hs20⟩ := big16b.made w19 (T.map UInt8.toNat) (by rw [List.length_map, HTL.out, zN_len])
      rw [nvs_bytes] at hst20
      have hA := (hA.keep hC19).keep hC20
      have hN := (hN.keep hC19).keep hC20
      have hb6 := (hb6.keep hC19).keep hC20
      have hb8 := (hb8.keep hC19).keep hC20
      have hb9 := (hb9.keep hC19).keep hC20
      have hB19 := hB.trans (hC19.mono hB.size)
      have hB20 := hB19.trans (hC20.mono hB19.size)
      have hbt := hA20.bsl (n := 16) (cap := 16) HTL.out.symm (Nat.le_refl _) (by omega)
      have hld0 := big32.ld hA (by rw [List.length_map, HKL.out, zN_len])
      have hld1 := big12.ld hN (by rw [List.length_map, HN.out, zN_len])
      rw [nvs_bytes] at hld0 hld1
      have hop := aopen_any K N (.slice none 0 0) v8 [] C w20 HKL.out HN.out ⟨none, 0, rfl, by simp, by simp, by simp, fun h => absurd rfl h⟩ (by rw [hTT]; exact hb8) (by simp) (by omega)
      rw [HF.out.2.2.1] at hop
      clear hpt hldk harr hC19 hC20 hB19 hA20
      generalize w19.heap.size = s at *
      go_wp2_with fail
      refine hop.mono ?_
      rintro e w21 ⟨v21, rfl, ho21, hC21⟩
      have hbt := hbt.keep hC21
      have hb6 := hb6.keep hC21
      have hb8 := hb8.keep hC21
      have hb9 := hb9.keep hC21
      have hb21 := ho21.bsl
      have HBE := Lib.hid (hB20.trans (hC21.mono hB20.size))
      clear hop hC21 hld0 hld1 hA hN hB20 ho21
      have s8 := fun n => run_str (w21.drewN n) (v := v8) hb8
      have s9 := fun n => run_str (w21.drewN n) (v := v9) hb9
      have sT := fun n => run_str (w21.drewN n) (v := .slice (some ⟨s, 0, none⟩) 16 16) hbt
      have sP := fun n => run_str (w21.drewN n) (v := v21) hb21
      have s6 := fun n => run_str (w21.drewN n) (v := .slice a6 B.length c6) hb6
      have hcat := run_cat2 C T (by have := HTL.out; omega)
      clear hb8 hb9 hbt hb21 hb6
      go_wp2_with fail
      go_quiet (fail)
      have HBF := Lib.hid (below_drewN HBE.out nq)
      go_wp2_with fail
      go_ret
      exact ⟨rfl, HBF.out⟩
end Go.Proofs.YtdmbhgejemdafaaDoor
