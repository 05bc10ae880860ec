/- poly: the walks of times, least, words. -/
import Derived.Test.YtdmbhgejemdafaaDoorPolyA
namespace Go.Proofs.YtdmbhgejemdafaaDoor
open Go.RowKit Big
set_option linter.unusedVariables false
attribute [local go_sem ↓] alT_N ldT_N stT_N
def timP (x y : List Int) (i k : Nat) : Int := if 5 ≤ i + k then IntKind.u64.wrap (IntKind.u64.wrap (x.getD i 0 * y.getD k 0) * 5) else IntKind.u64.wrap (x.getD i 0 * y.getD k 0)
def timK (x y : List Int) (i : Nat) (out : List Int) : Nat → List Int
  | 0 => out
  | k + 1 => (timK x y i out k).set ((i + k) % 5) (IntKind.u64.wrap ((timK x y i out k).getD ((i + k) % 5) 0 + timP x y i k))
def timO (x y : List Int) : Nat → List Int
  | 0 => z5
  | i + 1 => timK x y i (timO x y i) 5
def timesI (x y : List Int) : List Int := carryI (timO x y 5)
theorem timK_len (x y : List Int) (i : Nat) (o : List Int) (h : o.length = 5) (k : Nat) : (timK x y i o k).length = 5 := by
  induction k with
  | zero => exact h
  | succ k ih => rw [timK, List.length_set, ih]
theorem timO_len (x y : List Int) (i : Nat) : (timO x y i).length = 5 := by
  induction i with
  | zero => rfl
  | succ i ih => exact timK_len x y i _ ih 5
theorem timesI_len (x y : List Int) : (timesI x y).length = 5 := carryI_len _ (timO_len x y 5)
set_option maxRecDepth 100000 in
set_option maxHeartbeats 2000000 in
theorem times_any (x y : List Int) (w : World) (hx : x.length = 5) (hy : y.length = 5) :
    Calls Tryd.prog 23 #[.agg (ivs .u64 x).toArray, .agg (ivs .u64 y).toArray] w fun e w' => e = .returned (.agg (ivs .u64 (timesI x y)).toArray) ∧ Below w.heap.size w w' := by
  obtain ⟨w0, hw0, hA0, hB0, hs0⟩ := boxI .u64 w x 52
  obtain ⟨w1, hw1, hA1, hB1, hs1⟩ := boxI .u64 w0 y 52
  obtain ⟨w2, hal, hA2, hB2, hs2⟩ := bigN.made0I w1
  obtain ⟨w3, hal3, hA3, hB3, hs3⟩ := bigN.made0I w2
  have hA0 := ((hA0.keep hB1).keep hB2).keep hB3
  have hA1 := (hA1.keep hB2).keep hB3
  have hA2 := hA2.keep hB3
  have hB3 := ((hB0.trans (hB1.mono hB0.size)).trans (hB2.mono (by omega))).trans (hB3.mono (by omega))
  rw [hs2, hs1, hs0] at hal3 hA3
  rw [hs1, hs0] at hal hA2
  rw [hs0] at hA1
  rw [hw1, hw0] at hal
  have HL := Lib.hid (And.intro hx hy)
  have HR := Lib.hid (show timesI x y = carryI (timO x y 5) from rfl)
  generalize timesI x y = R at *
  clear hw0 hw1 hB0 hB1 hB2 hs0 hs1 hs2 hs3 hx hy
  go_enter Tryd.func23, Tryd.ntmps23
  go_wp2_with fail
  clear hal hal3
  go_loopw [9] (fun i wr => ∃ k : Nat, k ≤ 5 ∧ i = .int .i64 k ∧ AI .u64 wr w.heap.size x ∧ AI .u64 wr (w.heap.size + 1) y ∧ AI .u64 wr (w.heap.size + 1 + 1) z5 ∧ AI .u64 wr (w.heap.size + 1 + 1 + 1) (timO x y k) ∧ Below w.heap.size w wr) (fun i _ => 5 - (intOf i).toNat)
  case atStart => exact ⟨0, Nat.zero_le _, rfl, hA0, hA1, hA2, hA3, hB3⟩
  case round =>
    obtain ⟨i, hi, rfl, hX, hY, hZ, hO, hBl⟩ := hrel
    clear hA0 hA1 hA2 hA3 hB3
    have HO := Lib.hid (And.intro (show timO x y (i + 1) = timK x y i (timO x y i) 5 from rfl) (timK_len x y i (timO x y i) (timO_len x y i)))
    have hOl := timO_len x y i
    by_cases hlt : i < 5
    · have HX := Lib.hid (And.intro hX (And.intro hY (And.intro hZ (And.intro hO hBl))))
      clear hX hY hZ hO hBl
      generalize timO x y i = o at *
      go_wp2_with fail
      go_loopw [12] (fun j wr => ∃ k : Nat, k ≤ 5 ∧ j = .int .i64 k ∧ AI .u64 wr w.heap.size x ∧ AI .u64 wr (w.heap.size + 1) y ∧ AI .u64 wr (w.heap.size + 1 + 1) z5 ∧ AI .u64 wr (w.heap.size + 1 + 1 + 1) (timK x y i o k) ∧ Below w.heap.size w wr) (fun j _ => 5 - (intOf j).toNat)
      case atStart => exact ⟨0, Nat.zero_le _, rfl, HX.out⟩
      case round =>
        obtain ⟨k, hk, rfl, hX, hY, hZ, hO, hBl⟩ := hrel
        by_cases hkl : k < 5
        · have cx := hX.cell (j := i) (by rw [HL.out.1]; exact hlt)
          have cy := hY.cell (j := k) (by rw [HL.out.2]; exact hkl)
          have hm : (i + k) % 5 < 5 := Nat.mod_lt _ (by decide)
          have co := fun n => (hO.drewN n).cell (j := (i + k) % 5) (by rw [HO.out.2 k]; exact hm)
          have fo := fun n => (hO.drewN n).free (j := (i + k) % 5) (by rw [HO.out.2 k]; exact hm)
          have hst := fun n => (hO.drewN n).set (j := (i + k) % 5) (by rw [HO.out.2 k]; exact hm) (IntKind.u64.wrap ((timK x y i o k).getD ((i + k) % 5) 0 + timP x y i k))
          have HP := Lib.hid (show timP x y i k = if 5 ≤ i + k then IntKind.u64.wrap (IntKind.u64.wrap (x.getD i 0 * y.getD k 0) * 5) else IntKind.u64.wrap (x.getD i 0 * y.getD k 0) from rfl)
          have HT := Lib.hid (And.intro (show ∀ n, AI .u64 _ (w.heap.size + 1 + 1 + 1) (timK x y i o (k + 1)) from hst) (And.intro (fun n u => (hX.drewN n).set_other (p := ⟨w.heap.size + 1 + 1 + 1, (i + k) % 5, none⟩) (by show w.heap.size + 1 + 1 + 1 ≠ w.heap.size; omega) u)
            (And.intro (fun n u => (hY.drewN n).set_other (p := ⟨w.heap.size + 1 + 1 + 1, (i + k) % 5, none⟩) (by show w.heap.size + 1 + 1 + 1 ≠ w.heap.size + 1; omega) u) (And.intro (fun n u => (hZ.drewN n).set_other (p := ⟨w.heap.size + 1 + 1 + 1, (i + k) % 5, none⟩) (by show w.heap.size + 1 + 1 + 1 ≠ w.heap.size + 1 + 1; omega) u) (fun n u => (below_drewN hBl n).setCell (p := ⟨w.heap.size + 1 + 1 + 1, (i + k) % 5, none⟩) (by show w.heap.size ≤ w.heap.size + 1 + 1 + 1; omega) u)))))
          clear hst hX hY hZ hO hBl
          generalize timP x y i k = q at *
          generalize x.getD i 0 = a at *
          generalize y.getD k 0 = b at *
          generalize (timK x y i o k).getD ((i + k) % 5) 0 = c at *
          have hii : (i : Int) < 5 := by omega
          have hki : (k : Int) < 5 := by omega
          have hmi : ((i : Int) + k) % 5 < 5 := by omega
          by_cases h5 : 5 ≤ i + k
          · have h5i : (5 : Int) ≤ (i : Int) + k := by omega
            rw [if_pos h5] at HP
            go_wp2_with fail
            go_quiet (fail)
            go_wp2_with fail
            go_roundw
            case rel =>
              obtain ⟨h1, h2, h3, h4, h5⟩ := HT.out
              rw [HP.out] at h1
              exact ⟨k + 1, by omega, by go_num, h2 nq _, h3 nq _, h4 nq _, h1 nq, h5 nq _⟩
            case measure => simp [intOf]; omega
          · have h5i : decide ((5 : Int) ≤ (i : Int) + k) = false := by simp; omega
            rw [if_neg h5] at HP
            go_wp2_with fail
            go_quiet (fail)
            go_wp2_with fail
            go_roundw
            case rel =>
              obtain ⟨h1, h2, h3, h4, h5⟩ := HT.out
              rw [HP.out] at h1
              exact ⟨k + 1, by omega, by go_num, h2 nq _, h3 nq _, h4 nq _, h1 nq, h5 nq _⟩
            case measure => simp [intOf]; omega
        · have hk5 : k = 5 := by omega
          rw [hk5, ← HO.out.1] at hO
          clear hk5
          go_wp2_with fail
          go_roundw
          case rel => exact ⟨i + 1, by omega, by go_num, hX, hY, hZ, hO, hBl⟩
          case measure => simp [intOf]; omega
    · have hi5 : i = 5 := by omega
      rw [hi5] at hO hOl
      clear hi5 HO
      have hcr := fun w => carry_any (timO x y 5) w hOl
      rw [← HR.out] at hcr
      have hRl : R.length = 5 := by rw [HR.out]; exact carryI_len _ hOl
      have hld := bigN.ldI hO hOl
      have HOL := Lib.hid (And.intro hOl hRl)
      generalize timO x y 5 = o at *
      clear hOl hRl
      go_wp2_with fail
      refine (hcr _).mono ?_
      rintro e w5 ⟨rfl, hB5⟩
      have hZ5 := hZ.keep hB5
      have hB5 := hBl.trans (hB5.mono hBl.size)
      obtain ⟨w9, hst9, hA9, hO9, _⟩ := bigN.putI hZ5 rfl R HOL.out.2
      have hlv := bigN.lvI hA9 HOL.out.2
      have HB := Lib.hid (hB5.trans (hO9.to_below hB5.size (fun k e => by omega)))
      clear hX hY hZ hO hBl hZ5 hB5 hA9 hO9 hcr hld
      go_wp2_with fail
      exact bodyPost_ret (results_cell Tryd.results23 rfl hlv) rfl ⟨rfl, HB.out⟩
def lsI (y : List Int) : Nat → List Int
  | 0 => y
  | k + 1 => ((lsI y k).set (k + 1) (IntKind.u64.wrap ((lsI y k).getD (k + 1) 0 + (lsI y k).getD k 0 / 67108864))).set k (bits .and .u64 ((lsI y k).getD k 0) 67108863)
theorem lsI_len (y : List Int) (h : y.length = 5) (k : Nat) : (lsI y k).length = 5 := by
  induction k with
  | zero => exact h
  | succ k ih => rw [lsI, List.length_set, List.length_set, ih]
def leastY (l : List Int) : List Int := lsI (plusI (carryI (carryI l)) [5, 0, 0, 0, 0]) 4
def leastI (l : List Int) : List Int := if (leastY l).getD 4 0 / 67108864 = 0 then carryI (carryI l) else (leastY l).set 4 (bits .and .u64 ((leastY l).getD 4 0) 67108863)
theorem leastI_len (l : List Int) (h : l.length = 5) : (leastI l).length = 5 := by
  unfold leastI
  split
  · exact carryI_len _ (carryI_len _ h)
  · rw [List.length_set]; exact lsI_len _ (plI_len _ _ (carryI_len _ (carryI_len _ h)) 5) 4
set_option maxRecDepth 100000 in
set_option maxHeartbeats 2000000 in
theorem least_any (l : List Int) (w : World) (hl : l.length = 5) :
    Calls Tryd.prog 24 #[.agg (ivs .u64 l).toArray] w fun e w' => e = .returned (.agg (ivs .u64 (leastI l)).toArray) ∧ Below w.heap.size w w' := by
  obtain ⟨w0, hw0, hA0, hB0, hs0⟩ := boxI .u64 w l 52
  obtain ⟨w1, hal, hA1, hB1, hs1⟩ := bigN.made0I w0
  have hA0 := hA0.keep hB1
  have hB1 := hB0.trans (hB1.mono hB0.size)
  rw [hs0] at hal hA1 hs1
  rw [hw0] at hal
  have hld := bigN.ldI hA0 hl
  have c1 := fun w => carry_any l w hl
  have hl1 := carryI_len l hl
  have c2 := fun w => carry_any (carryI l) w hl1
  have hl2 := carryI_len _ hl1
  have c3 := fun w => plus_any (carryI (carryI l)) [5, 0, 0, 0, 0] w hl2 rfl
  have hl3 : (plusI (carryI (carryI l)) [5, 0, 0, 0, 0]).length = 5 := plI_len _ _ hl2 5
  have HY := Lib.hid (show leastY l = lsI (plusI (carryI (carryI l)) [5, 0, 0, 0, 0]) 4 from rfl)
  have HR := Lib.hid (show leastI l = if (leastY l).getD 4 0 / 67108864 = 0 then carryI (carryI l) else (leastY l).set 4 (bits .and .u64 ((leastY l).getD 4 0) 67108863) from rfl)
  have HRL := Lib.hid (leastI_len l hl)
  have HL := Lib.hid (And.intro hl (And.intro hl2 hl3))
  generalize plusI (carryI (carryI l)) [5, 0, 0, 0, 0] = y0 at *
  generalize carryI (carryI l) = x2 at *
  generalize carryI l = x1 at *
  generalize leastI l = R at *
  generalize leastY l = Y at *
  clear hl hl1 hl2 hl3 hw0 hB0 hs0
  go_enter Tryd.func24, Tryd.ntmps24
  go_wp2_with fail
  refine (c1 _).mono ?_
  rintro e w2 ⟨rfl, hB2⟩
  have hA0 := hA0.keep hB2
  have hA1 := hA1.keep hB2
  have hB2 := hB1.trans (hB2.mono hB1.size)
  clear c1 hB1 hal hld
  go_wp2_with fail
  refine (c2 _).mono ?_
  rintro e w3 ⟨rfl, hB3⟩
  have hA0 := hA0.keep hB3
  have hA1 := hA1.keep hB3
  have hB3 := hB2.trans (hB3.mono hB2.size)
  obtain ⟨w4, hst4, hA0, hO4, hs4⟩ := bigN.putI hA0 HL.out.1 x2 HL.out.2.1
  have hA1 := hA1.only hO4 (by omega)
  have hB4 := hB3.trans (hO4.to_below hB3.size (fun k e => by omega))
  have hld4 := bigN.ldI hA0 HL.out.2.1
  clear c2 hB2 hB3 hO4 hs4
  have h5 : (ivs .u64 [5, 0, 0, 0, 0]).toArray = #[.int .u64 5, .int .u64 0, .int .u64 0, .int .u64 0, .int .u64 0] := rfl
  rw [h5] at c3
  clear h5
  go_wp2_with fail
  refine (c3 _).mono ?_
  rintro e w5 ⟨rfl, hB5⟩
  have hA0 := hA0.keep hB5
  have hA1 := hA1.keep hB5
  have hB5' := hB4.trans (hB5.mono hB4.size)
  have hsz5 : w.heap.size + 2 ≤ w5.heap.size := by have := hA1.lt; omega
  obtain ⟨wa, w6, hal6, hst6, hA6, hB6, hs6⟩ := bigN.madeI w5 y0 HL.out.2.2
  have hA0 := hA0.keep hB6
  have hA1 := hA1.keep hB6
  have hB06 := hB5'.trans (hB6.mono hB5'.size)
  have hld6 := bigN.ldI hA0 HL.out.2.1
  clear c3 hB4 hB5 hB5' hs6 hld4 hst4
  generalize w5.heap.size = p at *
  go_wp2_with fail
  have HYL := Lib.hid (lsI_len y0 HL.out.2.2)
  clear hal6 hst6 hld6
  go_loopw [11] (fun i wr => ∃ k : Nat, k ≤ 4 ∧ i = .int .i64 k ∧ AI .u64 wr w.heap.size x2 ∧ AI .u64 wr (w.heap.size + 1) z5 ∧ AI .u64 wr p (lsI y0 k) ∧ Below w.heap.size w wr) (fun i _ => 4 - (intOf i).toNat)
  case atStart => exact ⟨0, Nat.zero_le _, rfl, hA0, hA1, hA6, hB06⟩
  case round =>
    obtain ⟨k, hk, rfl, hX, hZ, hY, hBl⟩ := hrel
    clear hA0 hA1 hA6 hB06
    by_cases hlt : k < 4
    · have hyl := HYL.out k
      have ck := hY.cell (j := k) (by omega)
      have ck1 := hY.cell (j := k + 1) (by omega)
      have fk := hY.free (j := k) (by omega)
      have fk1 := hY.free (j := k + 1) (by omega)
      have hst := (hY.set (j := k + 1) (by omega) (IntKind.u64.wrap ((lsI y0 k).getD (k + 1) 0 + (lsI y0 k).getD k 0 / 67108864))).set (j := k) (by rw [List.length_set]; omega) (bits .and .u64 ((lsI y0 k).getD k 0) 67108863)
      have HT := Lib.hid (And.intro (show AI .u64 _ p (lsI y0 (k + 1)) from hst) (And.intro (fun u v => ((hX.set_other (p := ⟨p, k + 1, none⟩) (by show p ≠ w.heap.size; omega) u).set_other (p := ⟨p, k, none⟩) (by show p ≠ w.heap.size; omega) v))
        (And.intro (fun u v => ((hZ.set_other (p := ⟨p, k + 1, none⟩) (by show p ≠ w.heap.size + 1; omega) u).set_other (p := ⟨p, k, none⟩) (by show p ≠ w.heap.size + 1; omega) v)) (fun u v => ((hBl.setCell (p := ⟨p, k + 1, none⟩) (by show w.heap.size ≤ p; omega) u).setCell (p := ⟨p, k, none⟩) (by show w.heap.size ≤ p; omega) v)))))
      clear hst hX hZ hY hBl hyl
      generalize (lsI y0 k).getD (k + 1) 0 = a at *
      generalize (lsI y0 k).getD k 0 = b at *
      have hki : (k : Int) + 1 < 5 := by omega
      have hki0 : (k : Int) < 5 := by omega
      go_wp2_with fail
      go_region
      go_wp2_with fail
      go_roundw
      case rel =>
        obtain ⟨h1, h2, h3, h4⟩ := HT.out
        exact ⟨k + 1, by omega, by go_num, h2 _ _, h3 _ _, h1, (h4 _ _).drew⟩
      case measure => simp [intOf]; omega
    · have hk4 : k = 4 := by omega
      rw [hk4, ← HY.out] at hY
      have hYl : Y.length = 5 := by rw [HY.out]; exact HYL.out 4
      have c4 := hY.cell (j := 4) (by omega)
      have f4 := hY.free (j := 4) (by omega)
      clear hk4
      by_cases hz : Y.getD 4 0 / 67108864 = 0
      · have hzb : (Y.getD 4 0 / 67108864 == 0) = true := by rw [hz]; rfl
        have hRe : R = x2 := by rw [HR.out, if_pos hz]
        have hld := bigN.ldI hX HL.out.2.1
        obtain ⟨w9, hst9, hA9, hO9, _⟩ := bigN.putI hZ rfl R HRL.out
        have hlv := bigN.lvI hA9 HRL.out
        rw [← hRe] at hld
        have HB := Lib.hid (hBl.trans (hO9.to_below hBl.size (fun k e => by omega)))
        clear hX hZ hY hBl hA9 hO9 hRe hz hYl
        generalize Y.getD 4 0 = y4 at *
        go_wp2_with fail
        exact bodyPost_ret (results_cell Tryd.results24 rfl hlv) rfl ⟨rfl, HB.out⟩
      · have hzb : (Y.getD 4 0 / 67108864 == 0) = false := by simpa using hz
        have hRe : R = Y.set 4 (bits .and .u64 (Y.getD 4 0) 67108863) := by rw [HR.out, if_neg hz]
        have hst := hY.set (j := 4) (by omega) (bits .and .u64 (Y.getD 4 0) 67108863)
        rw [← hRe] at hst
        have hZ2 := hZ.set_other (p := ⟨p, 4, none⟩) (by show p ≠ w.heap.size + 1; omega) (.int .u64 (bits .and .u64 (Y.getD 4 0) 67108863))
        have hB2 := hBl.setCell (p := ⟨p, 4, none⟩) (by show w.heap.size ≤ p; omega) (.int .u64 (bits .and .u64 (Y.getD 4 0) 67108863))
        have hld := bigN.ldI hst HRL.out
        obtain ⟨w9, hst9, hA9, hO9, _⟩ := bigN.putI hZ2 rfl R HRL.out
        have hlv := bigN.lvI hA9 HRL.out
        have HB := Lib.hid (hB2.trans (hO9.to_below hB2.size (fun k e => by omega)))
        clear hX hZ hY hBl hA9 hO9 hRe hz hYl hst hZ2 hB2
        generalize Y.getD 4 0 = y4 at *
        go_wp2_with fail
        exact bodyPost_ret (results_cell Tryd.results24 rfl hlv) rfl ⟨rfl, HB.out⟩
def wordLo (x : List Int) : Int := bits .or .u64 (bits .or .u64 (x.getD 0 0) (IntKind.u64.wrap (x.getD 1 0 * 67108864))) (IntKind.u64.wrap (x.getD 2 0 * 4503599627370496))
def wordHi (x : List Int) : Int := bits .or .u64 (bits .or .u64 (x.getD 2 0 / 4096) (IntKind.u64.wrap (x.getD 3 0 * 16384))) (IntKind.u64.wrap (x.getD 4 0 * 1099511627776))
set_option maxRecDepth 100000 in
set_option maxHeartbeats 1000000 in
theorem words_any (x : List Int) (w : World) (hx : x.length = 5) :
    Calls Tryd.prog 25 #[.agg (ivs .u64 x).toArray] w fun e w' => e = .returned (.tuple #[.int .u64 (wordLo x), .int .u64 (wordHi x)]) ∧ Below w.heap.size w w' := by
  obtain ⟨w0, hw0, hA0, hB0, hs0⟩ := boxI .u64 w x 52
  have c0 := hA0.cell (j := 0) (by omega)
  have c1 := hA0.cell (j := 1) (by omega)
  have c2 := hA0.cell (j := 2) (by omega)
  have c3 := hA0.cell (j := 3) (by omega)
  have c4 := hA0.cell (j := 4) (by omega)
  have HW := Lib.hid (show wordLo x = bits .or .u64 (bits .or .u64 (x.getD 0 0) (IntKind.u64.wrap (x.getD 1 0 * 67108864))) (IntKind.u64.wrap (x.getD 2 0 * 4503599627370496)) ∧ wordHi x = bits .or .u64 (bits .or .u64 (x.getD 2 0 / 4096) (IntKind.u64.wrap (x.getD 3 0 * 16384))) (IntKind.u64.wrap (x.getD 4 0 * 1099511627776)) from ⟨rfl, rfl⟩)
  rw [hw0] at c0 c1 c2 c3 c4 hB0
  clear hA0 hs0
  generalize wordLo x = a at *
  generalize wordHi x = b at *
  generalize x.getD 0 0 = x0 at *
  generalize x.getD 1 0 = x1 at *
  generalize x.getD 2 0 = x2 at *
  generalize x.getD 3 0 = x3 at *
  generalize x.getD 4 0 = x4 at *
  clear hw0
  go_enter Tryd.func25, Tryd.ntmps25
  go_wp2_with fail
  go_ret2
  rw [HW.out.1, HW.out.2]
  exact ⟨rfl, hB0⟩
end Go.Proofs.YtdmbhgejemdafaaDoor
