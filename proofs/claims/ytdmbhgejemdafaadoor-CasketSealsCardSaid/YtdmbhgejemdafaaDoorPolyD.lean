/- poly.Tag: the walk (printed by gentag.py). -/
import Derived.Test.YtdmbhgejemdafaaDoorPolyC
import Derived.Test.YtdmbhgejemdafaaDoorChaC
import Derived.Test.YtdmbhgejemdafaaDoorRegE

namespace Go.Proofs.YtdmbhgejemdafaaDoor
open Go.RowKit Big
set_option linter.unusedVariables false
/-- The number behind all sixteens of bytes. -/
def tagH (r : List Int) : Nat → List UInt8 → List Int → List Int
  | 0, _, h => h
  | n + 1, l, h => if l = [] then h else tagH r n (l.drop 16) (timesI (plusI h (partI (l.take 16))) r)
def lenVt : Value → Nat
  | .slice _ n _ => n
  | _ => 0
def keyR (key : List UInt8) : List Int := loadI (bits .and .u64 (leW (key.take 8)) 1152921487695413247) (bits .and .u64 (leW ((key.drop 8).take 8)) 1152921487695413244) 0
def tagN (key l : List UInt8) : List Int := leastI (tagH (keyR key) l.length l z5)
def tagS (key l : List UInt8) : Int := IntKind.u64.wrap (wordLo (tagN key l) + leW ((key.drop 16).take 8))
def tagT (key l : List UInt8) : Int := IntKind.u64.wrap ((if tagS key l < wordLo (tagN key l) then IntKind.u64.wrap (wordHi (tagN key l) + 1) else wordHi (tagN key l)) + leW (key.drop 24))
/-- The tag of bytes by a key. -/
def tagI (key l : List UInt8) : List UInt8 := putLowL 8 (tagS key l).toNat ++ putLowL 8 (tagT key l).toNat
theorem tagI_len (key l : List UInt8) : (tagI key l).length = 16 := by simp [tagI, putLowL_length]
theorem wrap_u64 (z : Int) : 0 ≤ IntKind.u64.wrap z ∧ IntKind.u64.wrap z < 18446744073709551616 := by
  simp [IntKind.wrap, IntKind.signed, IntKind.bits]; omega
theorem tagH_len (r : List Int) (n : Nat) : ∀ l h, h.length = 5 → (tagH r n l h).length = 5 := by
  induction n with
  | zero => intro l h hh; exact hh
  | succ n ih =>
    intro l h hh
    rw [tagH]
    split
    · exact hh
    · exact ih _ _ (timesI_len _ _)
theorem plusI_len (x y : List Int) (h : x.length = 5) : (plusI x y).length = 5 := plI_len x y h 5
attribute [local go_sem ↓] alT_N ldT_N stT_N alT_16b ldT_16b stT_16b apB_eq
set_option maxRecDepth 100000 in
set_option maxHeartbeats 2000000 in
theorem tag_any (key : List UInt8) (v : Value) (l : List UInt8) (w : World) (hk : key.length = 32) (hb : Bsl w v l) (hl : l.length ≤ 1000000) :
    Calls Tryd.prog 11 #[.agg (key.map bv).toArray, v] w fun e w' => e = .returned (.agg ((tagI key l).map bv).toArray) ∧ Below w.heap.size w w' := by
  obtain ⟨w0, hw0, hA0, hB0, hs0⟩ : ∃ w0, w0 = w.alloc (.cells (key.map bv).toArray 28) ∧ AN .u8 w0 w.heap.size (key.map UInt8.toNat) ∧ Below w.heap.size w w0 ∧ w0.heap.size = w.heap.size + 1 :=
    ⟨_, rfl, box_bytes w key _, (Below.refl _ _).alloc (Nat.le_refl _) _, by simp⟩
  obtain ⟨w1, hal1, hA1, hB1, hs1⟩ := big16b.made0 w0
  have hA0 := hA0.keep hB1
  have hB1 := hB0.trans (hB1.mono hB0.size)
  rw [hs0] at hal1 hA1 hs1
  rw [hw0] at hal1
  have hk32 := hA0.bsl (n := 32) (cap := 32) hk.symm (Nat.le_refl _) (by omega)
  have hk0 := hk32.take (m := 8) (by omega)
  have hk8 := Bsl_sub hk32 (i := 8) (m := 8) (by omega)
  have hl0 : (key.take 8).length = 8 := by rw [List.length_take]; omega
  have hl8 : ((key.drop 8).take 8).length = 8 := by rw [List.length_take, List.length_drop]; omega
  have q1 := low64_any _ _ _ hk0 hl0
  have q2 := low64_any _ _ _ hk8 hl8
  rw [Nat.zero_add, show 32 - 8 = 24 from rfl] at q2
  have HK := Lib.hid hk
  have HR := Lib.hid (show keyR key = loadI (bits .and .u64 (leW (key.take 8)) 1152921487695413247) (bits .and .u64 (leW ((key.drop 8).take 8)) 1152921487695413244) 0 from rfl)
  have hra : 0 ≤ bits BinOp.and IntKind.u64 ((leW (key.take 8) : Nat) : Int) 1152921487695413247 := by
    have h1 := leW_lt (key.take 8)
    rw [hl0] at h1
    have := u64_and_nat (leW (key.take 8)) 1152921487695413247 (by omega) (by omega)
    rw [show ((1152921487695413247 : Nat) : Int) = 1152921487695413247 from rfl] at this
    omega
  have hrb : 0 ≤ bits BinOp.and IntKind.u64 ((leW ((key.drop 8).take 8) : Nat) : Int) 1152921487695413244 := by
    have h1 := leW_lt ((key.drop 8).take 8)
    rw [hl8] at h1
    have := u64_and_nat (leW ((key.drop 8).take 8)) 1152921487695413244 (by omega) (by omega)
    rw [show ((1152921487695413244 : Nat) : Int) = 1152921487695413244 from rfl] at this
    omega
  have q3 := fun w => load_any _ _ 0 w hra hrb (by omega)
  rw [← HR.out] at q3
  have HN := Lib.hid (show tagN key l = leastI (tagH (keyR key) l.length l z5) from rfl)
  have HI := Lib.hid (show tagI key l = putLowL 8 (tagS key l).toNat ++ putLowL 8 (tagT key l).toNat from rfl)
  have HS := Lib.hid (show tagS key l = IntKind.u64.wrap (wordLo (tagN key l) + leW ((key.drop 16).take 8)) from rfl)
  have HT := Lib.hid (show tagT key l = IntKind.u64.wrap ((if tagS key l < wordLo (tagN key l) then IntKind.u64.wrap (wordHi (tagN key l) + 1) else wordHi (tagN key l)) + leW (key.drop 24)) from rfl)
  have HIL := Lib.hid (tagI_len key l)
  have HSR := Lib.hid (And.intro (wrap_u64 (wordLo (tagN key l) + leW ((key.drop 16).take 8))) (wrap_u64 ((if tagS key l < wordLo (tagN key l) then IntKind.u64.wrap (wordHi (tagN key l) + 1) else wordHi (tagN key l)) + leW (key.drop 24))))
  rw [← HS.out, ← HT.out] at HSR
  generalize tagI key l = R at *
  generalize tagS key l = sS at *
  generalize tagT key l = sT at *
  generalize tagN key l = N at *
  have hrl : (keyR key).length = 5 := rfl
  have HRL := Lib.hid hrl
  clear hrl
  generalize keyR key = r at *
  clear hk hra hrb hl0 hl8 hk0 hk8 hw0 hB0 hs0 hk32
  generalize hx0 : leW (key.take 8) = x0 at *
  generalize hx8 : leW ((key.drop 8).take 8) = x8 at *
  clear hx0 hx8
  have hb1 := hb.keep hB1
  go_enter Tryd.func11, Tryd.ntmps11
  go_wp2_with fail
  refine q1.mono ?_
  rintro e w2 ⟨rfl, rfl⟩
  clear q1 hal1
  go_wp2_with fail
  refine q2.mono ?_
  rintro e w2 ⟨rfl, rfl⟩
  clear q2
  go_wp2_with fail
  refine (q3 _).mono ?_
  rintro e w3 ⟨rfl, hB3⟩
  clear q3
  have hA0 := hA0.keep hB3
  have hA1 := hA1.keep hB3
  have hb3 := hb1.keep hB3
  have hB3 := hB1.trans (hB3.mono hB1.size)
  have hs3 : w.heap.size + 2 ≤ w3.heap.size := by have := hA1.lt; omega
  obtain ⟨wa, w4, hal4, hst4, hA4, hB4, hs4⟩ := bigN.madeI w3 r HRL.out
  have hA0 := hA0.keep hB4
  have hA1 := hA1.keep hB4
  have hb4 := hb3.keep hB4
  have hB4 := hB3.trans (hB4.mono hB3.size)
  obtain ⟨w5, hal5, hA5, hB5, hs5⟩ := bigN.made0I w4
  have hA0 := hA0.keep hB5
  have hA1 := hA1.keep hB5
  have hA4 := hA4.keep hB5
  have hb5 := hb4.keep hB5
  have hB5 := hB4.trans (hB5.mono hB4.size)
  rw [hs4] at hal5 hA5 hs5
  have hwl : ∀ k, l ≠ [] → v.ownBlock = some k → k < w.heap.size := fun k hne => hb.own_lt hne k
  generalize hp : w3.heap.size = p at *
  clear hp hs4 hs5 hB1 hB3 hB4
  have HWL := Lib.hid hwl
  clear hwl
  obtain ⟨ao, cap, rfl⟩ := hb.val'
  go_wp2_with fail
  clear hal4 hst4 hal5
  go_loopw [1] (fun u wr => ∃ (f : Nat) (rest : List UInt8) (h : List Int), rest.length ≤ f ∧ rest.length ≤ 1000000 ∧ Bsl wr u rest ∧ (∀ k, rest ≠ [] → u.ownBlock = some k → k < w.heap.size) ∧ h.length = 5 ∧ N = leastI (tagH r f rest h) ∧ AN .u8 wr w.heap.size (key.map UInt8.toNat) ∧ AN .u8 wr (w.heap.size + 1) (zN 16) ∧ AI .u64 wr p r ∧ AI .u64 wr (p + 1) h ∧ Below w.heap.size w wr) (fun u _ => lenVt u)
  case atStart => exact ⟨l.length, l, z5, Nat.le_refl _, hl, hb5, HWL.out, rfl, HN.out, hA0, hA1, hA4, hA5, hB5⟩
  case round =>
    obtain ⟨f, rest, h, hrf, hrm, hbu, hou, hhl, hNe, hK, hZ, hRr, hH, hBl⟩ := hrel
    clear hA0 hA1 hA4 hA5 hB5 hb hb1 hb3 hb4 hb5
    by_cases hre : rest = []
    · subst hre
      have hNf : N = leastI h := by
        rw [hNe]
        cases f with
        | zero => rfl
        | succ f => rw [tagH, if_pos rfl]
      obtain ⟨aou, capu, rfl⟩ := hbu.val'
      rw [List.length_nil]
      have hldh := bigN.ldI hH hhl
      have q4 := fun w => least_any h w hhl
      rw [← hNf] at q4
      have hNl : N.length = 5 := by rw [hNf]; exact leastI_len h hhl
      have HNL := Lib.hid hNl
      clear hNl hNf hNe hhl hbu hou hrf hrm
      go_wp2_with fail
      refine (q4 _).mono ?_
      rintro e w6 ⟨rfl, hB6⟩
      clear q4 hldh
      have hK6 := hK.keep hB6
      have hZ6 := hZ.keep hB6
      have hBl6 := hBl.trans (hB6.mono hBl.size)
      clear hK hZ hRr hH hBl hB6
      go_wp2_with fail
      refine (words_any N w6 HNL.out).mono ?_
      rintro e w7 ⟨rfl, hB7⟩
      have hK7 := hK6.keep hB7
      have hZ7 := hZ6.keep hB7
      have hBl7 := hBl6.trans (hB7.mono hBl6.size)
      clear hK6 hZ6 hBl6 hB7
      have hk32 := hK7.bsl (n := 32) (cap := 32) HK.out.symm (Nat.le_refl _) (by omega)
      have hk16 := Bsl_sub hk32 (i := 16) (m := 8) (by rw [HK.out]; omega)
      have hk24 := Bsl_sub hk32 (i := 24) (m := 8) (by rw [HK.out]; omega)
      have hl16 : ((key.drop 16).take 8).length = 8 := by rw [List.length_take, List.length_drop, HK.out]; omega
      have hl24 : ((key.drop 24).take 8).length = 8 := by rw [List.length_take, List.length_drop, HK.out]; omega
      have q5 := low64_any _ _ _ hk16 hl16
      have q6 := low64_any _ _ _ hk24 hl24
      rw [Nat.zero_add, show 32 - 16 = 16 from rfl] at q5
      rw [Nat.zero_add, show 32 - 24 = 8 from rfl] at q6
      have h24 : (key.drop 24).take 8 = key.drop 24 := List.take_of_length_le (by rw [List.length_drop, HK.out]; exact Nat.le_refl _)
      rw [h24] at q6
      generalize leW ((key.drop 16).take 8) = s0 at *
      generalize leW (key.drop 24) = s1 at *
      generalize wordLo N = lo at *
      generalize wordHi N = hi at *
      clear hk32 hk16 hk24 hl16 hl24 h24
      go_wp2_with fail
      refine q5.mono ?_
      rintro e w8 ⟨rfl, rfl⟩
      clear q5
      go_wp2_with fail
      refine q6.mono ?_
      rintro e w8 ⟨rfl, rfl⟩
      clear q6
      have hsS := HS.out
      have q7 := putLow_any sS.toNat 8 w7 (by have := HSR.out.1; omega) (by omega) (by omega)
      rw [Int.toNat_of_nonneg HSR.out.1.1, show (8 : Int).toNat = 8 from rfl] at q7
      have q8 := fun w => putLow_any sT.toNat 8 w (by have := HSR.out.2; omega) (by omega) (by omega)
      rw [Int.toNat_of_nonneg HSR.out.2.1, show (8 : Int).toNat = 8 from rfl] at q8
      rw [hsS] at q7
      by_cases hlt : sS < lo
      · have hlti := hlt
        have hsT := HT.out
        rw [if_pos hlt] at hsT
        rw [hsS] at hlti
        rw [hsT] at q8
        have HC := Lib.hid (And.intro hsS hsT)
        clear hsS hsT hlt
        go_wp2_with fail
        refine q7.mono ?_
        rintro e w8 ⟨v8, rfl, ho8, hB8⟩
        clear q7
        have hZ8 := hZ7.keep hB8
        have hBl8 := hBl7.trans (hB8.mono hBl7.size)
        have hz8 := hZ7.lt
        have hs78 := hB8.size
        go_wp2_with fail
        refine (q8 w8).mono ?_
        rintro e w9 ⟨v9, rfl, ho9, hB9⟩
        clear q8
        have hs89 := hB9.size
        have ho8 := ho8.keep hB9
        have hZ9 := hZ8.keep hB9
        have hBl9 := hBl8.trans (hB9.mono hBl8.size)
        obtain ⟨v10, w10, hap, ho10, hB10, _, hs10⟩ := apB_made w9 w7.heap.size 22 v8 v9 _ _ ho8 ho9.bsl (by simp [putLowL_length]) (by omega)
        rw [← HC.out.1, ← HC.out.2, ← HI.out] at ho10
        have hZ10 := hZ9.under hB10 hz8
        have hBl10 := hBl9.trans (hB10.mono hBl7.size)
        obtain ⟨g, cap9, hvv, hgb, hgs, hgc, hgm⟩ := ho10.shape (by intro e; have := HIL.out; rw [e] at this; simp at this)
        subst hvv
        rw [HIL.out] at hap ho10 hgc
        have harr := fun w => run_arrayAt (P := Tryd.prog) (w := w) 37 5 16 (some ⟨g, 0, none⟩) 16 cap9 Tryd.underlying37 (Nat.le_refl _)
        have hgr : w10.rangeAt g 0 (nvs .u8 (R.map UInt8.toNat)) := by
          rw [nvs_bytes]
          intro j u hu
          have hj : j < R.length := by have := (List.getElem?_eq_some_iff.1 hu).1; simpa using this
          rw [Nat.zero_add, ho10.cell HIL.out.symm hj, ← hu]
          simp [bv, hj, List.getD]
        have hld9 := run_ldT big16b w10 g 0 _ hgr (by rw [nvs_len, List.length_map, HIL.out, nvs_len, zN_len])
        obtain ⟨w14, hst14, hA14, hO14, _⟩ := big16b.put hZ10 rfl (R.map UInt8.toNat) (by rw [List.length_map, HIL.out, zN_len])
        have hlv := big16b.lv hA14 (by rw [List.length_map, HIL.out, zN_len])
        have hB14 := hBl10.trans (hO14.to_below hBl10.size (fun k e => by omega))
        rw [nvs_bytes] at hld9 hst14 hlv
        have HB := Lib.hid hB14
        clear hgr hB14 hO14 hA14 ho8 ho9 ho10 hZ7 hZ8 hZ9 hZ10 hBl7 hBl8 hBl9 hBl10 hB8 hB9 hB10 hK7
        go_wp2_with fail
        exact bodyPost_ret (results_cell Tryd.results11 rfl hlv) rfl ⟨rfl, HB.out⟩
      · have hlti := hlt
        have hsT := HT.out
        rw [if_neg hlt] at hsT
        rw [hsS] at hlti
        rw [hsT] at q8
        have HC := Lib.hid (And.intro hsS hsT)
        clear hsS hsT hlt
        go_wp2_with fail
        refine q7.mono ?_
        rintro e w8 ⟨v8, rfl, ho8, hB8⟩
        clear q7
        have hZ8 := hZ7.keep hB8
        have hBl8 := hBl7.trans (hB8.mono hBl7.size)
        have hz8 := hZ7.lt
        have hs78 := hB8.size
        go_wp2_with fail
        refine (q8 w8).mono ?_
        rintro e w9 ⟨v9, rfl, ho9, hB9⟩
        clear q8
        have hs89 := hB9.size
        have ho8 := ho8.keep hB9
        have hZ9 := hZ8.keep hB9
        have hBl9 := hBl8.trans (hB9.mono hBl8.size)
        obtain ⟨v10, w10, hap, ho10, hB10, _, hs10⟩ := apB_made w9 w7.heap.size 22 v8 v9 _ _ ho8 ho9.bsl (by simp [putLowL_length]) (by omega)
        rw [← HC.out.1, ← HC.out.2, ← HI.out] at ho10
        have hZ10 := hZ9.under hB10 hz8
        have hBl10 := hBl9.trans (hB10.mono hBl7.size)
        obtain ⟨g, cap9, hvv, hgb, hgs, hgc, hgm⟩ := ho10.shape (by intro e; have := HIL.out; rw [e] at this; simp at this)
        subst hvv
        rw [HIL.out] at hap ho10 hgc
        have harr := fun w => run_arrayAt (P := Tryd.prog) (w := w) 37 5 16 (some ⟨g, 0, none⟩) 16 cap9 Tryd.underlying37 (Nat.le_refl _)
        have hgr : w10.rangeAt g 0 (nvs .u8 (R.map UInt8.toNat)) := by
          rw [nvs_bytes]
          intro j u hu
          have hj : j < R.length := by have := (List.getElem?_eq_some_iff.1 hu).1; simpa using this
          rw [Nat.zero_add, ho10.cell HIL.out.symm hj, ← hu]
          simp [bv, hj, List.getD]
        have hld9 := run_ldT big16b w10 g 0 _ hgr (by rw [nvs_len, List.length_map, HIL.out, nvs_len, zN_len])
        obtain ⟨w14, hst14, hA14, hO14, _⟩ := big16b.put hZ10 rfl (R.map UInt8.toNat) (by rw [List.length_map, HIL.out, zN_len])
        have hlv := big16b.lv hA14 (by rw [List.length_map, HIL.out, zN_len])
        have hB14 := hBl10.trans (hO14.to_below hBl10.size (fun k e => by omega))
        rw [nvs_bytes] at hld9 hst14 hlv
        have HB := Lib.hid hB14
        clear hgr hB14 hO14 hA14 ho8 ho9 ho10 hZ7 hZ8 hZ9 hZ10 hBl7 hBl8 hBl9 hBl10 hB8 hB9 hB10 hK7
        go_wp2_with fail
        exact bodyPost_ret (results_cell Tryd.results11 rfl hlv) rfl ⟨rfl, HB.out⟩
    · obtain ⟨n, hn⟩ : ∃ n, n = min rest.length 16 := ⟨_, rfl⟩
      have hn1 : 1 ≤ n ∧ n ≤ 16 ∧ n ≤ rest.length := by
        have : rest.length ≠ 0 := fun e => hre (List.eq_nil_of_length_eq_zero e)
        omega
      have hmin : (if (16 : Int) < (rest.length : Int) then 16 else (rest.length : Int)) = (n : Int) := by split <;> omega
      have hns : rest.length ≤ 16 → n = rest.length := fun h => by omega
      have hnd : rest.drop n = rest.drop 16 ∧ rest.take n = rest.take 16 := by
        by_cases h16 : 16 ≤ rest.length
        · rw [show n = 16 by omega]; exact ⟨rfl, rfl⟩
        · rw [show n = rest.length by omega, List.drop_of_length_le (Nat.le_refl _), List.drop_of_length_le (by omega), List.take_of_length_le (Nat.le_refl _), List.take_of_length_le (by omega)]
          exact ⟨rfl, rfl⟩
      obtain ⟨aou, capu, rfl⟩ := hbu.val'
      obtain ⟨bu, ofu, rfl, -⟩ : ∃ bu ofu, aou = some ⟨bu, ofu, none⟩ ∧ True := by
        obtain ⟨a, c, e, _, _, _, h4⟩ := hbu
        cases e
        obtain ⟨b, o, e, _⟩ := h4 hre
        exact ⟨b, o, e, trivial⟩
      have hbup := hou bu hre rfl
      obtain ⟨hcap1, hcap2⟩ := hbu.len.2
      have hbt := hbu.take (m := n) hn1.2.2
      have hbd := Bsl_rest hbu (m := n) hn1.2.2
      have htl : (rest.take n).length = n := by rw [List.length_take]; omega
      obtain ⟨f', rfl⟩ : ∃ f', f = f' + 1 := ⟨f - 1, by omega⟩
      have hNn : N = leastI (tagH r f' (rest.drop n) (timesI (plusI h (partI (rest.take n))) r)) := by
        rw [hNe, tagH, if_neg hre, hnd.1, hnd.2]
      have htne : rest.take n ≠ [] := fun e => by rw [e] at htl; simp at htl; omega
      have hpos : (0 : Int) < rest.length := by omega
      have hni : (n : Int) ≤ rest.length := by omega
      have hnc : (n : Int) ≤ capu := by omega
      have HNN := Lib.hid (And.intro hNn (And.intro hns hnd))
      have HH := Lib.hid hhl
      clear hNe hNn hns hnd hn hhl hou hre
      generalize hLr : rest.length = L at *
      have HLR := Lib.hid hLr
      clear hLr
      go_wp2_with fail
      have hld1 := bigN.ldI (show AI .u64 wr.drew (p + 1) h from hH) HH.out
      have hld2 := bigN.ldI (show AI .u64 wr.drew p r from hRr) HRL.out
      refine wp_region_E 8 (fun w' => (ldT 52 (.pointer (some ⟨p + 1, 0, none⟩))).run Tryd.prog w' = .ok (.agg (ivs .u64 h).toArray) w' ∧ (ldT 52 (.pointer (some ⟨p, 0, none⟩))).run Tryd.prog w' = .ok (.agg (ivs .u64 r).toArray) w') (by kernel_rfl) ?_
      have hS0 := And.intro hld1 hld2
      clear hld1 hld2
      refine wpAnyE_take (i := 0) (v := ?v_a0) rfl (by kernel_rfl) (by kernel_rfl) (by kernel_rfl) (by kernel_rfl) (by kernel_rfl) (fun _ _ _ h => h) (Or.inl ⟨by kernel_rfl, ?y_a0⟩) (by assumption) ?r_a0
      case y_a0 => intro wE hSw; obtain ⟨q1, q2⟩ := hSw; go_simp; try with_reducible rfl
      case' r_a0 => ((try simp only [Act.put]); (try simp only [List.setIfInBounds_toArray]); (try simp only [List.set_cons_zero, List.set_cons_succ]))
      refine wpAnyE_take (i := 1) (v := ?v_a1) rfl (by kernel_rfl) (by kernel_rfl) (by kernel_rfl) (by kernel_rfl) (by kernel_rfl) (fun _ _ _ h => h) (Or.inl ⟨by kernel_rfl, ?y_a1⟩) (by assumption) ?r_a1
      case y_a1 => intro wE hSw; obtain ⟨q1, q2⟩ := hSw; go_simp; try with_reducible rfl
      case' r_a1 => ((try simp only [Act.put]); (try simp only [List.setIfInBounds_toArray]); (try simp only [List.set_cons_zero, List.set_cons_succ]))
      refine wpAnyE_take (i := 2) (v := ?v_a2) rfl (by kernel_rfl) (by kernel_rfl) (by kernel_rfl) (by kernel_rfl) (by kernel_rfl) (fun _ _ _ h => h) (Or.inl ⟨by kernel_rfl, ?y_a2⟩) (by assumption) ?r_a2
      case y_a2 => intro wE hSw; obtain ⟨q1, q2⟩ := hSw; go_simp; try with_reducible rfl
      case' r_a2 => ((try simp only [Act.put]); (try simp only [List.setIfInBounds_toArray]); (try simp only [List.set_cons_zero, List.set_cons_succ]))
      refine wpAnyE_take (i := 3) (v := ?v_a3) rfl (by kernel_rfl) (by kernel_rfl) (by kernel_rfl) (by kernel_rfl) (by kernel_rfl) (fun _ _ _ h => h) (Or.inl ⟨by kernel_rfl, ?y_a3⟩) (by assumption) ?r_a3
      case y_a3 => intro wE hSw; obtain ⟨q1, q2⟩ := hSw; go_simp; try with_reducible rfl
      case' r_a3 => ((try simp only [Act.put]); (try simp only [List.setIfInBounds_toArray]); (try simp only [List.set_cons_zero, List.set_cons_succ]))
      refine wpAnyE_take (i := 6) (v := ?v_a6) rfl (by kernel_rfl) (by kernel_rfl) (by kernel_rfl) (by kernel_rfl) (by kernel_rfl) (fun _ _ _ h => h) (Or.inl ⟨by kernel_rfl, ?y_a6⟩) (by assumption) ?r_a6
      case y_a6 => intro wE hSw; obtain ⟨q1, q2⟩ := hSw; go_simp; try with_reducible rfl
      case' r_a6 => ((try simp only [Act.put]); (try simp only [List.setIfInBounds_toArray]); (try simp only [List.set_cons_zero, List.set_cons_succ]))
      refine wpAnyE_ready (rs := [4]) (by kernel_rfl) (by simp) ?_
      refine AllReadyE.cons rfl (fun KA hKA => ?_) AllReadyE.nil
      rw [if_pos (by kernel_rfl)]
      go_simp
      refine (part_any _ (rest.take n) wr.drew (show Bsl wr.drew _ _ from hbt) htne (by omega)).mono ?_
      rintro e w6 ⟨rfl, hB6⟩
      have hH6 := (show AI .u64 wr.drew (p + 1) h from hH).keep hB6
      have hR6 := (show AI .u64 wr.drew p r from hRr).keep hB6
      have hS6 := And.intro (bigN.ldI hH6 HH.out) (bigN.ldI hR6 HRL.out)
      have hpl : (partI (rest.take n)).length = 5 := rfl
      have HPL := Lib.hid hpl
      clear hpl hS0
      try go_simp
      refine hKA _ _ (fun _ => hS6) ?_
      clear hKA KA
      refine wpAnyE_ready (rs := [5]) (by kernel_rfl) (by simp) ?_
      refine AllReadyE.cons rfl (fun KA hKA => ?_) AllReadyE.nil
      rw [if_pos (by kernel_rfl)]
      go_simp
      refine (plus_any h (partI (rest.take n)) w6 HH.out HPL.out).mono ?_
      rintro e w7 ⟨rfl, hB7⟩
      have hH7 := hH6.keep hB7
      have hR7 := hR6.keep hB7
      have hS7 := And.intro (bigN.ldI hH7 HH.out) (bigN.ldI hR7 HRL.out)
      clear hS6
      try go_simp
      refine hKA _ _ (fun _ => hS7) ?_
      clear hKA KA
      refine wpAnyE_ready (rs := [7]) (by kernel_rfl) (by simp) ?_
      refine AllReadyE.cons rfl (fun KA hKA => ?_) AllReadyE.nil
      rw [if_pos (by kernel_rfl)]
      go_simp
      refine (times_any (plusI h (partI (rest.take n))) r w7 (plusI_len _ _ HH.out) HRL.out).mono ?_
      rintro e w8 ⟨rfl, hB8⟩
      have hH8 := hH7.keep hB8
      have hR8 := hR7.keep hB8
      have hS8 := And.intro (bigN.ldI hH8 HH.out) (bigN.ldI hR8 HRL.out)
      have hB68 := (hB6.trans (hB7.mono hB6.size)).trans (hB8.mono (Nat.le_trans hB6.size hB7.size))
      have hK8 := (show AN .u8 wr.drew w.heap.size _ from hK).keep hB68
      have hZ8 := (show AN .u8 wr.drew (w.heap.size + 1) _ from hZ).keep hB68
      have hbd8 := (show Bsl wr.drew _ _ from hbd).keep hB68
      have hBl8 := (hBl.drew).trans (hB68.mono hBl.size)
      have htl5 := timesI_len (plusI h (partI (rest.take n))) r
      obtain ⟨w9, hst9, hH9, hO9, hs9⟩ := bigN.putI hH8 HH.out (timesI (plusI h (partI (rest.take n))) r) htl5
      clear hS7 hB6 hB7 hB8 hH6 hH7 hR6 hR7 hbd hbt hK hZ hBl hH hRr hbu hB68
      try go_simp
      refine hKA _ _ (fun _ => hS8) ?_
      clear hKA KA hS8
      refine wpAnyE_ready (rs := [8]) (by kernel_rfl) (by simp) ?_
      refine AllReadyE.cons rfl (fun KA hKA => ?_) AllReadyE.nil
      rw [if_pos (by kernel_rfl)]
      go_simp
      refine hKA _ _ (fun h => Bool.noConfusion (show true = false from h)) ?_
      clear hKA KA
      refine wpAnyE_done (by kernel_rfl) ?_ _
      have hR9 := hR8.only hO9 (by omega)
      have hK9 := hK8.only hO9 (by omega)
      have hZ9 := hZ8.only hO9 (by omega)
      have hbd9 := hbd8.only hO9 (fun k hk e => by
        have : k = bu := by
          by_cases hc : capu = n
          · rw [if_pos hc] at hk; simpa [Value.ownBlock, eq_comm] using hk
          · rw [if_neg hc] at hk; simpa [Value.ownBlock, eq_comm] using hk
        omega)
      have hBl9 := hBl8.trans (hO9.to_below hBl8.size (fun k e => by omega))
      have HF := Lib.hid (And.intro hbd9 (And.intro hK9 (And.intro hZ9 (And.intro hR9 (And.intro hH9 (And.intro hBl9 htl5))))))
      clear hbd8 hbd9 hK8 hK9 hZ8 hZ9 hR8 hR9 hH8 hH9 hBl8 hBl9 hO9 hs9 hst9 htl5
      generalize hT2 : timesI (plusI h (partI (rest.take n))) r = T2 at *
      clear hT2
      have hnl : n ≤ L := hn1.2.2
      go_wp2_with fail
      go_roundw
      case rel =>
        obtain ⟨h1, h2, h3, h4, h5, h6, h7⟩ := HF.out
        have hdl : (rest.drop n).length = L - n := by rw [List.length_drop, HLR.out]
        refine ⟨f', rest.drop n, T2, by omega, by omega, h1, fun k _ hk => ?_, h7, HNN.out.1, h2, h3, h4, h5, h6⟩
        have : k = bu := by
          by_cases hc : capu = n
          · rw [if_pos hc] at hk; simpa [Value.ownBlock, eq_comm] using hk
          · rw [if_neg hc] at hk; simpa [Value.ownBlock, eq_comm] using hk
        omega
      case measure => simp [lenVt]; omega
end Go.Proofs.YtdmbhgejemdafaaDoor
