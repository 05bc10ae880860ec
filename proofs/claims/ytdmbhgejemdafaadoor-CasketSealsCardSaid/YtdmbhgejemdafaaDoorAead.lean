/- aead: the walks of padded, tag and Seal. -/
import Derived.Test.YtdmbhgejemdafaaDoorStream
import Derived.Test.YtdmbhgejemdafaaDoorPolyD
namespace Go.Proofs.YtdmbhgejemdafaaDoor
open Go.RowKit Big
set_option linter.unusedVariables false
def padK16 (n : Nat) : Nat := (16 - n % 16) % 16
/-- Bytes, and noughts up to a multiple of sixteen. -/
def padA (l : List UInt8) : List UInt8 := l ++ List.replicate (padK16 l.length) 0
theorem padA_len (l : List UInt8) : (padA l).length ≤ l.length + 15 := by unfold padA padK16; rw [List.length_append, List.length_replicate]; omega
def lenVa : Value → Nat
  | .slice _ n _ => n
  | _ => 0
attribute [local go_sem ↓] apB_eq
set_option maxRecDepth 100000 in
set_option maxHeartbeats 1000000 in
theorem apad_any (v : Value) (l : List UInt8) (w : World) (hb : Bsl w v l) (hl : l.length ≤ 1000000) :
    Calls Tryd.prog 31 #[v] w fun e w' => ∃ v', e = .returned v' ∧ OB w' w.heap.size v' (padA l) ∧ Below w.heap.size w w' := by
  have hbel : Below w.heap.size w (w.alloc (.cells #[] 5)) := (Below.refl _ _).alloc (Nat.le_refl _) _
  have hown : OB (w.alloc (.cells #[] 5)) w.heap.size (.slice (some ⟨w.heap.size, 0, none⟩) 0 0) [] := World.ownsRow_made w #[] 0 (Nat.le_refl _) (by decide) rfl
  obtain ⟨v3, w3, hap, ho3, hB3, _, _⟩ := apB_made _ w.heap.size 22 _ _ _ _ hown (hb.keep hbel) (by simp; omega) (by simp)
  rw [List.nil_append] at ho3
  have hB3 := hbel.trans hB3
  have hJ : padK16 l.length < 16 := by unfold padK16; omega
  have hJ2 : (l.length + padK16 l.length) % 16 = 0 := by unfold padK16; omega
  have hJ3 : ∀ j, j < padK16 l.length → ¬ (l.length + j) % 16 = 0 := fun j hj h => by unfold padK16 at hj; omega
  have HP := Lib.hid (show padA l = l ++ List.replicate (padK16 l.length) 0 from rfl)
  generalize padK16 l.length = J at *
  have HJ := Lib.hid (And.intro hJ2 hJ3)
  clear hJ2 hJ3 hbel hown
  obtain ⟨ao, cap, rfl⟩ := hb.val'
  go_enter Tryd.func31, Tryd.ntmps31
  go_wp2_with fail
  clear hap
  go_loopw [3] (fun v wr => ∃ j : Nat, j ≤ J ∧ OB wr w.heap.size v (l ++ List.replicate j 0) ∧ Below w.heap.size w wr) (fun v wr => l.length + J - lenVa v)
  case atStart => exact ⟨0, Nat.zero_le _, by simpa using ho3, hB3⟩
  case round =>
    obtain ⟨j, hj, hoj, hBj⟩ := hrel
    clear ho3 hB3
    obtain ⟨ao4, cap4, rfl⟩ := hoj.val'
    have hln : (l ++ List.replicate j 0 : List UInt8).length = l.length + j := by simp only [List.length_append, List.length_replicate]
    by_cases hlt : j < J
    · have hne : (((l.length + j : Nat) : Int) % 16 != 0) = true := by
        have := HJ.out.2 j hlt
        simp; omega
      have hbo := Bsl.one wr 0 (by omega)
      have hoj' := hoj.keep ((Below.refl wr.heap.size wr).alloc (Nat.le_refl _) (.cells #[.int .u8 0] 5))
      have hBj' : Below w.heap.size w (wr.alloc (.cells #[.int .u8 0] 5)) := hBj.alloc hBj.size _
      obtain ⟨v5, w5, hap5, ho5, hB5, _, _⟩ := apB_made _ w.heap.size 22 _ _ _ _ hoj' hbo (by rw [hln]; simp; omega) (by simp; have := hBj.size; omega)
      have hB15 := hBj'.trans hB5
      rw [List.append_assoc, show List.replicate j (0 : UInt8) ++ [UInt8.ofNat (Int.toNat 0)] = List.replicate (j + 1) 0 by rw [List.replicate_succ']; rfl] at ho5
      obtain ⟨ao5, cap5, hv5⟩ := ho5.val'
      rw [show (l ++ List.replicate (j + 1) 0 : List UInt8).length = l.length + (j + 1) by simp only [List.length_append, List.length_replicate]] at hv5
      subst hv5
      rw [hln] at hap5 ⊢
      have HO := Lib.hid (And.intro ho5 hB15)
      clear ho5 hB15 hoj hoj' hbo hBj hBj' hB5 hln
      go_wp2_with fail
      go_roundw
      case rel => exact ⟨j + 1, hlt, HO.out⟩
      case measure => simp [lenVa]; omega
    · obtain rfl : j = J := by omega
      have hne : (((l.length + j : Nat) : Int) % 16 != 0) = false := by
        have := HJ.out.1
        simp; omega
      rw [← HP.out] at hoj
      rw [hln]
      have HO := Lib.hid (And.intro hoj hBj)
      clear hoj hBj hln
      go_wp2_with fail
      go_ret
      rw [← show (padA l).length = l.length + j by rw [HP.out]; simp only [List.length_append, List.length_replicate]]
      exact ⟨_, rfl, HO.out⟩
/-- The bytes that a tag is of. -/
def tagB (wi h : List UInt8) : List UInt8 := padA wi ++ padA h ++ putLowL 8 wi.length ++ putLowL 8 h.length
def tagA (key nonce wi h : List UInt8) : List UInt8 := tagI ((blockN key nonce 0).take 32) (tagB wi h)
theorem tagA_len (key nonce wi h : List UInt8) : (tagA key nonce wi h).length = 16 := tagI_len _ _
attribute [local go_sem ↓] apB_eq alT_16b ldT_16b stT_16b alT_64b ldT_64b stT_64b ldT_32 ldT_12
set_option maxRecDepth 100000 in
set_option maxHeartbeats 2000000 in
theorem atag_any (key nonce : List UInt8) (vw vh : Value) (wi h : List UInt8) (w : World) (hk : key.length = 32) (hn : nonce.length = 12) (hbw : Bsl w vw wi) (hbh : Bsl w vh h) (hl1 : wi.length ≤ 100000) (hl2 : h.length ≤ 100000) :
    Calls Tryd.prog 15 #[.agg (key.map bv).toArray, .agg (nonce.map bv).toArray, vw, vh] w fun e w' => e = .returned (.agg ((tagA key nonce wi h).map bv).toArray) ∧ Below w.heap.size w w' := by
  obtain ⟨w0, hw0, hA0, hB0, hs0⟩ : ∃ w0, w0 = w.alloc (.cells (key.map bv).toArray 28) ∧ AN .u8 w0 w.heap.size (key.map UInt8.toNat) ∧ Below w.heap.size w w0 ∧ w0.heap.size = w.heap.size + 1 :=
    ⟨_, rfl, box_bytes w key _, (Below.refl _ _).alloc (Nat.le_refl _) _, by simp⟩
  obtain ⟨w1, hw1, hA1, hB1, hs1⟩ : ∃ w1, w1 = w0.alloc (.cells (nonce.map bv).toArray 29) ∧ AN .u8 w1 w0.heap.size (nonce.map UInt8.toNat) ∧ Below w0.heap.size w0 w1 ∧ w1.heap.size = w0.heap.size + 1 :=
    ⟨_, rfl, box_bytes w0 nonce _, (Below.refl _ _).alloc (Nat.le_refl _) _, by simp⟩
  have hA0 := hA0.keep hB1
  have hB1 := hB0.trans (hB1.mono hB0.size)
  rw [hs0] at hA1 hs1
  obtain ⟨w2, hal2, hA2, hB2, hs2⟩ := big16b.made0 w1
  have hA0 := hA0.keep hB2
  have hA1 := hA1.keep hB2
  have hB2 := hB1.trans (hB2.mono hB1.size)
  rw [hs1] at hal2 hA2 hs2
  rw [hw1, hw0] at hal2
  have hld0 := big32.ld hA0 (by rw [List.length_map, hk, zN_len])
  have hld1 := big12.ld hA1 (by rw [List.length_map, hn, zN_len])
  rw [nvs_bytes] at hld0 hld1
  have hbk := block_any key nonce 0 w2 hk hn (by omega)
  rw [show ((0 : Nat) : Int) = 0 from rfl] at hbk
  have hbw2 := hbw.keep hB2
  have hbh2 := hbh.keep hB2
  have HBL := Lib.hid (blockN_len key nonce 0 (by omega))
  have HT := Lib.hid (show tagA key nonce wi h = tagI ((blockN key nonce 0).take 32) (tagB wi h) from rfl)
  have HTL := Lib.hid (tagA_len key nonce wi h)
  generalize tagA key nonce wi h = R at *
  generalize blockN key nonce 0 = B at *
  obtain ⟨awo, awc, rfl⟩ := hbw.val'
  obtain ⟨aho, ahc, rfl⟩ := hbh.val'
  clear hw0 hw1 hB0 hB1 hs0 hs1 hk hn
  have HBW := Lib.hid (And.intro hbw hbh)
  clear hbw hbh
  go_enter Tryd.func15, Tryd.ntmps15
  go_wp2_with fail
  refine hbk.mono ?_
  rintro e w3 ⟨rfl, hB3⟩
  have hA2 := hA2.keep hB3
  have hbw3 := hbw2.keep hB3
  have hbh3 := hbh2.keep hB3
  have hs3 : w.heap.size + 1 + 1 + 1 ≤ w3.heap.size := by have := hB3.size; omega
  have hB3 := hB2.trans (hB3.mono hB2.size)
  obtain ⟨wa, w4, hal4, hst4, hA4, hB4, hs4⟩ := big64b.made w3 (B.map UInt8.toNat) (by rw [List.length_map, HBL.out, zN_len])
  rw [nvs_bytes] at hst4
  have hA2 := hA2.keep hB4
  have hbw4 := hbw3.keep hB4
  have hbh4 := hbh3.keep hB4
  have hB04 := hB3.trans (hB4.mono hB3.size)
  have hp1 := apad_any _ wi w4 hbw4 (by omega)
  generalize hq : w3.heap.size = q at *
  clear hbk hld0 hld1 hal2 hs2 hA0 hA1 hbw2 hbh2 hbw3 hbh3 hB2 hB3 hq
  rw [hs4] at hp1
  have hQ4 := Below.refl (q + 1) w4
  have hq4 : q + 1 ≤ w4.heap.size := by omega
  clear hs4 hB4 hbw4 hbh4
  go_wp2_with fail
  refine hp1.mono ?_
  rintro e w5 ⟨v5, rfl, ho5, hB5⟩
  have hB05 := hB04.trans (hB5.mono (by omega))
  have hQ5 := hQ4.trans hB5
  have hq5 : q + 1 ≤ w5.heap.size := by have := hB5.size; omega
  have hp2 := apad_any _ h w5 (HBW.out.2.keep hB05) (by omega)
  clear hp1 hB5 hal4 hst4
  go_wp2_with fail
  refine hp2.mono ?_
  rintro e w6 ⟨v6, rfl, ho6, hB6⟩
  have ho56 := ho5.keep hB6
  have hB06 := hB05.trans (hB6.mono (by have := hB05.size; omega))
  have hQ6 := hQ5.trans (hB6.mono hq5)
  have hq6 : q + 1 ≤ w6.heap.size := by have := hB6.size; omega
  have hl5 := padA_len wi
  have hl6 := padA_len h
  obtain ⟨v7, w7, hap7, ho7, hB7, _, hs7⟩ := apB_made w6 (q + 1) 22 v5 v6 _ _ ho56 ho6.bsl (by omega) hq6
  have hB07 := hB06.trans (hB7.mono (by omega))
  have hQ7 := hQ6.trans hB7
  have hq7 : q + 1 ≤ w7.heap.size := by omega
  have hl7 : (padA wi ++ padA h).length ≤ 300000 := by rw [List.length_append]; omega
  have hp3 := putLow_any wi.length 8 w7 (by omega) (by omega) (by omega)
  rw [show (8 : Int).toNat = 8 from rfl] at hp3
  clear hp2 hB6 hB7 ho5 ho6 ho56
  go_wp2_with fail
  refine hp3.mono ?_
  rintro e w8 ⟨v8, rfl, ho8, hB8⟩
  have ho78 := ho7.keep hB8
  have hB08 := hB07.trans (hB8.mono (by have := hB07.size; omega))
  have hQ8 := hQ7.trans (hB8.mono hq7)
  have hq8 : q + 1 ≤ w8.heap.size := by have := hB8.size; omega
  obtain ⟨v9, w9, hap9, ho9, hB9, _, hs9⟩ := apB_made w8 (q + 1) 22 v7 v8 _ _ ho78 ho8.bsl (by rw [putLowL_length]; omega) hq8
  have hB09 := hB08.trans (hB9.mono (by omega))
  have hQ9 := hQ8.trans hB9
  have hq9 : q + 1 ≤ w9.heap.size := by omega
  have hl9 : (padA wi ++ padA h ++ putLowL 8 wi.length).length ≤ 300008 := by rw [List.length_append, putLowL_length]; omega
  have hp4 := putLow_any h.length 8 w9 (by omega) (by omega) (by omega)
  rw [show (8 : Int).toNat = 8 from rfl] at hp4
  clear hp3 hB8 hB9 ho7 ho8 ho78 hap7
  go_wp2_with fail
  refine hp4.mono ?_
  rintro e w10 ⟨v10, rfl, ho10, hB10⟩
  have ho910 := ho9.keep hB10
  have hB010 := hB09.trans (hB10.mono (by have := hB09.size; omega))
  have hQ10 := hQ9.trans (hB10.mono hq9)
  have hq10 : q + 1 ≤ w10.heap.size := by have := hB10.size; omega
  obtain ⟨v11, w11, hap11, ho11, hB11, _, hs11⟩ := apB_made w10 (q + 1) 22 v9 v10 _ _ ho910 ho10.bsl (by rw [putLowL_length]; omega) hq10
  have hB011 := hB010.trans (hB11.mono (by omega))
  have hQ11 := hQ10.trans hB11
  have hA2 := hA2.under hQ11 (by omega)
  have hA4 := hA4.under hQ11 (by omega)
  have hbt : Bsl w11 v11 (tagB wi h) := ho11.bsl
  have hlt : (tagB wi h).length ≤ 1000000 := by unfold tagB; rw [List.length_append, putLowL_length]; omega
  have hB32 : (B.take 32).length = 32 := by rw [List.length_take, HBL.out]; omega
  have hpt := tag_any (B.take 32) v11 (tagB wi h) w11 hB32 hbt hlt
  rw [← HT.out] at hpt
  have hgr : w11.rangeAt q 0 (nvs .u8 ((B.take 32).map UInt8.toNat)) := by
    intro j u hu
    have hr := hA4.range
    refine hr j u ?_
    rw [← hu]
    have hj : j < 32 := by have := (List.getElem?_eq_some_iff.1 hu).1; rw [nvs_len, List.length_map, hB32] at this; exact this
    simp [nvs, hj]
  have hldk := run_ldT big32 w11 q 0 _ hgr (by rw [nvs_len, List.length_map, hB32, nvs_len, zN_len])
  rw [nvs_bytes] at hldk
  rw [List.map_take] at hldk hpt
  have harr := fun w => run_arrayAt (P := Tryd.prog) (w := w) 28 5 32 (some ⟨q, 0, none⟩) 32 64 Tryd.underlying28 (Nat.le_refl _)
  clear hp4 hB10 hB11 ho9 ho10 ho910 ho11 hap9 hQ4 hQ5 hQ6 hQ7 hQ8 hQ9 hQ10 hQ11 hbt hlt hgr hB32 hl5 hl6 hl7 hl9
  go_wp2_with fail
  refine hpt.mono ?_
  rintro e w12 ⟨rfl, hB12⟩
  have hA2 := hA2.keep hB12
  have hB012 := hB011.trans (hB12.mono (by have := hB011.size; omega))
  obtain ⟨w13, hst13, hA13, hO13, _⟩ := big16b.put hA2 rfl (R.map UInt8.toNat) (by rw [List.length_map, HTL.out, zN_len])
  have hlv := big16b.lv hA13 (by rw [List.length_map, HTL.out, zN_len])
  rw [nvs_bytes] at hst13 hlv
  have HB := Lib.hid (hB012.trans (hO13.to_below hB012.size (fun k e => by omega)))
  clear hpt hB12 hA2 hA13 hO13 hB012 hB011 hA4 hldk hap11
  go_wp2_with fail
  exact bodyPost_ret (results_cell Tryd.results15 rfl hlv) rfl ⟨rfl, HB.out⟩
def sealL (key nonce wi b : List UInt8) : List UInt8 := streamF key nonce 1 b ++ tagA key nonce wi (streamF key nonce 1 b)
set_option maxRecDepth 100000 in
set_option maxHeartbeats 2000000 in
theorem seal_any (key nonce : List UInt8) (vw vb : Value) (wi b : List UInt8) (w : World) (hk : key.length = 32) (hn : nonce.length = 12) (hbw : Bsl w vw wi) (hbb : Bsl w vb b) (hl1 : wi.length ≤ 100000) (hl2 : b.length ≤ 100000) :
    Calls Tryd.prog 7 #[.agg (key.map bv).toArray, .agg (nonce.map bv).toArray, vw, vb] w fun e w' => ∃ v, e = .returned v ∧ OB w' w.heap.size v (sealL key nonce wi b) ∧ Below w.heap.size w w' := by
  obtain ⟨w0, hw0, hA0, hB0, hs0⟩ : ∃ w0, w0 = w.alloc (.cells (key.map bv).toArray 28) ∧ AN .u8 w0 w.heap.size (key.map UInt8.toNat) ∧ Below w.heap.size w w0 ∧ w0.heap.size = w.heap.size + 1 :=
    ⟨_, rfl, box_bytes w key _, (Below.refl _ _).alloc (Nat.le_refl _) _, by simp⟩
  obtain ⟨w1, hw1, hA1, hB1, hs1⟩ : ∃ w1, w1 = w0.alloc (.cells (nonce.map bv).toArray 29) ∧ AN .u8 w1 w0.heap.size (nonce.map UInt8.toNat) ∧ Below w0.heap.size w0 w1 ∧ w1.heap.size = w0.heap.size + 1 :=
    ⟨_, rfl, box_bytes w0 nonce _, (Below.refl _ _).alloc (Nat.le_refl _) _, by simp⟩
  have hA0 := hA0.keep hB1
  have hB1 := hB0.trans (hB1.mono hB0.size)
  rw [hs0] at hA1 hs1
  have HW := Lib.hid (show w1 = (w.alloc (.cells (key.map bv).toArray 28)).alloc (.cells (nonce.map bv).toArray 29) by rw [hw1, hw0])
  clear hw0 hw1
  have hld0 := big32.ld hA0 (by rw [List.length_map, hk, zN_len])
  have hld1 := big12.ld hA1 (by rw [List.length_map, hn, zN_len])
  rw [nvs_bytes, HW.out] at hld0 hld1
  have hst := stream_any key nonce 1 vb b w1 hk hn (by omega) (hbb.keep hB1) (by omega)
  rw [show ((1 : Nat) : Int) = 1 from rfl, HW.out] at hst
  have HS := Lib.hid (show sealL key nonce wi b = streamF key nonce 1 b ++ tagA key nonce wi (streamF key nonce 1 b) from rfl)
  have HL := Lib.hid (And.intro (streamF_len key nonce 1 (by omega) b) (And.intro hk hn))
  have HBW := Lib.hid hbw
  generalize sealL key nonce wi b = R at *
  generalize streamF key nonce 1 b = H at *
  clear hbb hk hn hB0 hs0 hbw
  go_enter Tryd.func7, Tryd.ntmps7
  go_wp2_with fail
  refine hst.mono ?_
  rw [← HW.out]
  rintro e w2 ⟨v2, rfl, ho2, hB2⟩
  have hA0 := hA0.keep hB2
  have hA1 := hA1.keep hB2
  have hs2 := hB2.size
  have hB02 := hB1.trans (hB2.mono hB1.size)
  rw [hs1] at ho2 hs2
  clear hst hld0 hld1 HW hB1 hB2
  have hld0 := big32.ld hA0 (by rw [List.length_map, HL.out.2.1, zN_len])
  have hld1 := big12.ld hA1 (by rw [List.length_map, HL.out.2.2, zN_len])
  rw [nvs_bytes] at hld0 hld1
  have htg := atag_any key nonce vw v2 wi H w2 HL.out.2.1 HL.out.2.2 (HBW.out.keep hB02) ho2.bsl hl1 (by rw [HL.out.1]; exact hl2)
  have HTL := Lib.hid (tagA_len key nonce wi H)
  generalize tagA key nonce wi H = T at *
  go_wp2_with fail
  refine htg.mono ?_
  rintro e w3 ⟨rfl, hB3⟩
  have ho3 := ho2.keep hB3
  have hs3 := hB3.size
  have hB03 := hB02.trans (hB3.mono (by omega))
  obtain ⟨wa, w4, hal4, hst4, hA4, hB4, hs4⟩ := big16b.made w3 (T.map UInt8.toNat) (by rw [List.length_map, HTL.out, zN_len])
  rw [nvs_bytes] at hst4
  have ho4 := ho3.keep hB4
  have hB04 := hB03.trans (hB4.mono (by omega))
  have hbt := hA4.bsl (n := 16) (cap := 16) HTL.out.symm (Nat.le_refl _) (by omega)
  obtain ⟨v5, w5, hap, ho5, hB5, _, _⟩ := apB_made w4 (w.heap.size + 1 + 1) 22 v2 _ H T ho4 hbt (by rw [HL.out.1, HTL.out]; omega) (by omega)
  rw [← HS.out] at ho5
  have HO := Lib.hid (And.intro (ho5.mono (b' := w.heap.size) (by omega)) (hB04.trans (hB5.mono (by omega))))
  clear htg hld0 hld1 hA0 hA1 ho2 hB02 hB3 ho3 hB03 hB4 ho4 hB04 hbt ho5 hB5 hA4 hs4
  generalize w3.heap.size = q at *
  go_wp2_with fail
  go_ret
  exact ⟨_, rfl, HO.out⟩
end Go.Proofs.YtdmbhgejemdafaaDoor
