/- poly: the walks of load, plus, carry, times, least, words. -/
import Derived.Test.YtdmbhgejemdafaaDoorBigI
import Derived.Test.YtdmbhgejemdafaaDoorQTail
namespace Go.Proofs.YtdmbhgejemdafaaDoor
open Go.RowKit Big
set_option linter.unusedVariables false
def z5 : List Int := [0, 0, 0, 0, 0]
theorem bigN : BigT 52 (ivs .u64 z5) := BigT.of (by kernel_rfl) ⟨_, Tryd.underlying52, rfl⟩
theorem alT_N : Instr.alloc 52 true (.tuple #[]) = alT 52 := rfl
theorem ldT_N (v : Value) : Instr.loadAt 52 v = ldT 52 v := rfl
theorem stT_N (v u : Value) : Instr.storeAt 52 v u = stT 52 v u := rfl
attribute [local go_sem ↓] alT_N ldT_N stT_N
/-- Numbers of five words. -/
def five (l : List Int) : Prop := l.length = 5
def loadI (a b c : Int) : List Int := [bits .and .u64 a 67108863, bits .and .u64 (a / 67108864) 67108863,
  bits .and .u64 (bits .or .u64 (a / 4503599627370496) (IntKind.u64.wrap (b * 4096))) 67108863, bits .and .u64 (b / 16384) 67108863, bits .or .u64 (b / 1099511627776) (IntKind.u64.wrap (c * 16777216))]
set_option maxRecDepth 100000 in
set_option maxHeartbeats 1000000 in
theorem load_any (a b c : Int) (w : World) (ha : 0 ≤ a) (hb : 0 ≤ b) (hc : 0 ≤ c) :
    Calls Tryd.prog 20 #[.int .u64 a, .int .u64 b, .int .u64 c] w fun e w' => e = .returned (.agg (ivs .u64 (loadI a b c)).toArray) ∧ Below w.heap.size w w' := by
  obtain ⟨w1, hal, hA, hB, hs⟩ := bigN.made0I w
  obtain ⟨w2, hst, hA2, hO2, hs2⟩ := bigN.putI hA rfl (loadI a b c) rfl
  have hlv := bigN.lvI hA2 rfl
  have HB := Lib.hid (hB.trans (hO2.to_below hB.size (fun k e => by omega)))
  have he : (ivs .u64 (loadI a b c)).toArray = #[.int .u64 (bits .and .u64 a 67108863), .int .u64 (bits .and .u64 (a / 67108864) 67108863),
    .int .u64 (bits .and .u64 (bits .or .u64 (a / 4503599627370496) (IntKind.u64.wrap (b * 4096))) 67108863), .int .u64 (bits .and .u64 (b / 16384) 67108863), .int .u64 (bits .or .u64 (b / 1099511627776) (IntKind.u64.wrap (c * 16777216)))] := rfl
  rw [he] at hst hlv ⊢
  clear he hA hA2 hO2 hB hs hs2
  go_enter Tryd.func20, Tryd.ntmps20
  go_wp2_with fail
  exact bodyPost_ret (results_cell Tryd.results20 rfl hlv) rfl ⟨rfl, HB.out⟩
def carI (p : List Int × Int) : Nat → List Int × Int
  | 0 => p
  | i + 1 => (((carI p i).1.set i (IntKind.u64.wrap ((carI p i).1.getD i 0 + (carI p i).2))).set i (bits .and .u64 (IntKind.u64.wrap ((carI p i).1.getD i 0 + (carI p i).2)) 67108863), IntKind.u64.wrap ((carI p i).1.getD i 0 + (carI p i).2) / 67108864)
def carO (p : List Int × Int) : Nat → List Int × Int
  | 0 => p
  | k + 1 => ((carI (carO p k) 5).1, IntKind.u64.wrap ((carI (carO p k) 5).2 * 5))
def carryI (l : List Int) : List Int := (carO (l, 0) 2).1.set 0 (IntKind.u64.wrap ((carO (l, 0) 2).1.getD 0 0 + (carO (l, 0) 2).2))
theorem carI_len (p : List Int × Int) (h : p.1.length = 5) (i : Nat) : (carI p i).1.length = 5 := by
  induction i with
  | zero => exact h
  | succ i ih => simp only [carI, List.length_set]; exact ih
theorem carO_len (p : List Int × Int) (h : p.1.length = 5) (i : Nat) : (carO p i).1.length = 5 := by
  induction i with
  | zero => exact h
  | succ i ih => simp only [carO]; exact carI_len _ ih 5
theorem carryI_len (l : List Int) (h : l.length = 5) : (carryI l).length = 5 := by unfold carryI; rw [List.length_set, carO_len (l, 0) h 2]
set_option maxRecDepth 100000 in
set_option maxHeartbeats 1000000 in
theorem carry_any (l : List Int) (w : World) (hl : l.length = 5) :
    Calls Tryd.prog 35 #[.agg (ivs .u64 l).toArray] w fun e w' => e = .returned (.agg (ivs .u64 (carryI l)).toArray) ∧ Below w.heap.size w w' := by
  obtain ⟨w0, hw0, hA0, hB0, hs0⟩ := boxI .u64 w l 52
  obtain ⟨w1, hal, hA1, hB1, hs1⟩ := bigN.made0I w0
  have hA0 := hA0.keep hB1
  have hB1 := hB0.trans (hB1.mono hB0.size)
  rw [hs0] at hal hA1 hs1
  rw [hw0] at hal
  have hlen := carO_len (l, 0) hl
  have HR := Lib.hid (show carryI l = (carO (l, 0) 2).1.set 0 (IntKind.u64.wrap ((carO (l, 0) 2).1.getD 0 0 + (carO (l, 0) 2).2)) from rfl)
  have HRL := Lib.hid (carryI_len l hl)
  generalize carryI l = R at *
  have HL := Lib.hid hlen
  clear hlen hw0 hB0 hs0 hs1 hl
  go_enter Tryd.func35, Tryd.ntmps35
  go_wp2_with fail
  clear hal
  go_loopw [3, 5] (fun o i wr => ∃ k : Nat, k ≤ 2 ∧ i = .int .i64 k ∧ o = .int .u64 (carO (l, 0) k).2 ∧ AI .u64 wr w.heap.size (carO (l, 0) k).1 ∧ AI .u64 wr (w.heap.size + 1) z5 ∧ Below w.heap.size w wr) (fun _ i _ => 2 - (intOf i).toNat)
  case atStart => exact ⟨0, Nat.zero_le _, rfl, rfl, hA0, hA1, hB1⟩
  case round =>
    obtain ⟨k, hk, rfl, rfl, hX, hZ, hBl⟩ := hrel
    clear hA0 hA1 hB1
    have hXl := HL.out k
    have HN := Lib.hid (show carO (l, 0) (k + 1) = ((carI (carO (l, 0) k) 5).1, IntKind.u64.wrap ((carI (carO (l, 0) k) 5).2 * 5)) from rfl)
    by_cases hlt : k < 2
    · generalize carO (l, 0) k = q at *
      have hql := carI_len q hXl
      have HQ := Lib.hid hql
      clear hql hXl
      go_wp2_with fail
      go_loopw [3, 7] (fun o i wr => ∃ j : Nat, j ≤ 5 ∧ i = .int .i64 j ∧ o = .int .u64 (carI q j).2 ∧ AI .u64 wr w.heap.size (carI q j).1 ∧ AI .u64 wr (w.heap.size + 1) z5 ∧ Below w.heap.size w wr) (fun _ i _ => 5 - (intOf i).toNat)
      case atStart => exact ⟨0, Nat.zero_le _, rfl, rfl, hX, hZ, hBl⟩
      case round =>
        obtain ⟨j, hj, rfl, rfl, hX, hZ, hBl⟩ := hrel
        by_cases hjl : j < 5
        · have hXl := HQ.out j
          have hcl := hX.cell (j := j) (by rw [hXl]; exact hjl)
          have hfr := hX.free (j := j) (by rw [hXl]; exact hjl)
          have hst := (hX.set (j := j) (by rw [hXl]; exact hjl) (IntKind.u64.wrap ((carI q j).1.getD j 0 + (carI q j).2))).set (j := j) (by rw [List.length_set, hXl]; exact hjl) (bits .and .u64 (IntKind.u64.wrap ((carI q j).1.getD j 0 + (carI q j).2)) 67108863)
          have HS := Lib.hid (show carI q (j + 1) = (((carI q j).1.set j (IntKind.u64.wrap ((carI q j).1.getD j 0 + (carI q j).2))).set j (bits .and .u64 (IntKind.u64.wrap ((carI q j).1.getD j 0 + (carI q j).2)) 67108863), IntKind.u64.wrap ((carI q j).1.getD j 0 + (carI q j).2) / 67108864) from rfl)
          have HT := Lib.hid (And.intro hst (And.intro (fun u v => ((hZ.set_other (p := ⟨w.heap.size, j, none⟩) (by show w.heap.size ≠ w.heap.size + 1; omega) u).set_other (p := ⟨w.heap.size, j, none⟩) (by show w.heap.size ≠ w.heap.size + 1; omega) v)) (fun u v => ((hBl.setCell (p := ⟨w.heap.size, j, none⟩) (Nat.le_refl _) u).setCell (p := ⟨w.heap.size, j, none⟩) (Nat.le_refl _) v))))
          clear hst hX hZ hBl hXl
          generalize carI q j = r at *
          obtain ⟨r1, r2⟩ := r
          simp only at *
          generalize r1.getD j 0 = x at *
          have hji : (j : Int) < 5 := by omega
          go_wp2_with fail
          go_roundw
          case rel => exact ⟨j + 1, by omega, by go_num, by rw [HS.out], by rw [HS.out]; exact HT.out.1, HT.out.2.1 _ _, HT.out.2.2 _ _⟩
          case measure => simp [intOf]; omega
        · have hj5 : j = 5 := by omega
          rw [hj5] at hX ⊢
          have HX := Lib.hid (And.intro hX (And.intro hZ hBl))
          clear hX hZ hBl hj5
          generalize carI q 5 = r at *
          obtain ⟨r1, r2⟩ := r
          simp only at *
          go_wp2_with fail
          go_roundw
          case rel => exact ⟨k + 1, by omega, by go_num, by rw [HN.out], by rw [HN.out]; exact HX.out.1, HX.out.2⟩
          case measure => simp [intOf]; omega
    · have hk2 : k = 2 := by omega
      rw [hk2] at hX hXl ⊢
      clear HN hk2
      generalize carO (l, 0) 2 = r at *
      obtain ⟨r1, r2⟩ := r
      simp only at *
      have hcl := hX.cell (j := 0) (by rw [hXl]; omega)
      have hfr := hX.free (j := 0) (by rw [hXl]; omega)
      have hst := hX.set (j := 0) (by rw [hXl]; omega) (IntKind.u64.wrap (r1.getD 0 0 + r2))
      rw [← HR.out] at hst
      have hZ2 := hZ.set_other (p := ⟨w.heap.size, 0, none⟩) (by show w.heap.size ≠ w.heap.size + 1; omega) (.int .u64 (IntKind.u64.wrap (r1.getD 0 0 + r2)))
      have hB2 := hBl.setCell (p := ⟨w.heap.size, 0, none⟩) (Nat.le_refl _) (.int .u64 (IntKind.u64.wrap (r1.getD 0 0 + r2)))
      have hld := bigN.ldI hst HRL.out
      obtain ⟨w9, hst9, hA9, hO9, _⟩ := bigN.putI hZ2 rfl R HRL.out
      have hlv := bigN.lvI hA9 HRL.out
      have HB := Lib.hid (hB2.trans (hO9.to_below hB2.size (fun k e => by omega)))
      clear hX hXl hst hZ hZ2 hBl hB2 hA9 hO9
      generalize r1.getD 0 0 = x at *
      go_wp2_with fail
      exact bodyPost_ret (results_cell Tryd.results35 rfl hlv) rfl ⟨rfl, HB.out⟩
/-- Word by word the sum. -/
def plI (x y : List Int) : Nat → List Int
  | 0 => x
  | k + 1 => (plI x y k).set k (IntKind.u64.wrap ((plI x y k).getD k 0 + y.getD k 0))
def plusI (x y : List Int) : List Int := plI x y 5
theorem plI_len (x y : List Int) (h : x.length = 5) (k : Nat) : (plI x y k).length = 5 := by
  induction k with
  | zero => exact h
  | succ k ih => rw [plI, List.length_set, ih]
set_option maxRecDepth 100000 in
set_option maxHeartbeats 1000000 in
theorem plus_any (x y : List Int) (w : World) (hx : x.length = 5) (hy : y.length = 5) :
    Calls Tryd.prog 21 #[.agg (ivs .u64 x).toArray, .agg (ivs .u64 y).toArray] w fun e w' => e = .returned (.agg (ivs .u64 (plusI x y)).toArray) ∧ Below w.heap.size w w' := by
  obtain ⟨w0, hw0, hA0, hB0, hs0⟩ := boxI .u64 w x 52
  obtain ⟨w1, hw1, hA1, hB1, hs1⟩ := boxI .u64 w0 y 52
  obtain ⟨w2, hal, hA2, hB2, hs2⟩ := bigN.made0I w1
  have hA0 := (hA0.keep hB1).keep hB2
  have hA1 := hA1.keep hB2
  have hB2 := (hB0.trans (hB1.mono hB0.size)).trans (hB2.mono (by omega))
  rw [hs1, hs0] at hal hA2
  rw [hs0] at hA1
  rw [hw1, hw0] at hal
  have HL := Lib.hid (And.intro (plI_len x y hx) hy)
  have HR := Lib.hid (show plusI x y = plI x y 5 from rfl)
  generalize plusI x y = R at *
  clear hw0 hw1 hB0 hB1 hs0 hs1 hs2 hx hy
  go_enter Tryd.func21, Tryd.ntmps21
  go_wp2_with fail
  clear hal
  go_loopw [6] (fun i wr => ∃ k : Nat, k ≤ 5 ∧ i = .int .i64 k ∧ AI .u64 wr w.heap.size (plI x y k) ∧ AI .u64 wr (w.heap.size + 1) y ∧ AI .u64 wr (w.heap.size + 1 + 1) z5 ∧ Below w.heap.size w wr) (fun i _ => 5 - (intOf i).toNat)
  case atStart => exact ⟨0, Nat.zero_le _, rfl, hA0, hA1, hA2, hB2⟩
  case round =>
    obtain ⟨k, hk, rfl, hX, hY, hZ, hBl⟩ := hrel
    clear hA0 hA1 hA2 hB2
    by_cases hlt : k < 5
    · have c1 := hX.cell (j := k) (by rw [HL.out.1]; exact hlt)
      have f1 := hX.free (j := k) (by rw [HL.out.1]; exact hlt)
      have c2 := hY.cell (j := k) (by rw [HL.out.2]; exact hlt)
      have hst := hX.set (j := k) (by rw [HL.out.1]; exact hlt) (IntKind.u64.wrap ((plI x y k).getD k 0 + y.getD k 0))
      have HT := Lib.hid (And.intro (show AI .u64 _ w.heap.size (plI x y (k + 1)) from hst) (And.intro (fun u => hY.set_other (p := ⟨w.heap.size, k, none⟩) (by show w.heap.size ≠ w.heap.size + 1; omega) u) (And.intro (fun u => hZ.set_other (p := ⟨w.heap.size, k, none⟩) (by show w.heap.size ≠ w.heap.size + 1 + 1; omega) u) (fun u => hBl.setCell (p := ⟨w.heap.size, k, none⟩) (Nat.le_refl _) u))))
      clear hX hY hZ hBl hst
      generalize (plI x y k).getD k 0 = a at *
      generalize y.getD k 0 = b at *
      have hki : (k : Int) < 5 := by omega
      go_wp2_with fail
      go_region
      go_wp2_with fail
      go_roundw
      case rel =>
        obtain ⟨h1, h2, h3, h4⟩ := HT.out
        exact ⟨k + 1, by omega, by go_num, h1, h2 _, h3 _, (h4 _).drew⟩
      case measure => simp [intOf]; omega
    · have hk5 : k = 5 := by omega
      rw [hk5, ← HR.out] at hX
      have hRl : R.length = 5 := by rw [HR.out, HL.out.1]
      have hld := bigN.ldI hX hRl
      obtain ⟨w9, hst9, hA9, hO9, _⟩ := bigN.putI hZ rfl R hRl
      have hlv := bigN.lvI hA9 hRl
      have HB := Lib.hid (hBl.trans (hO9.to_below hBl.size (fun k e => by omega)))
      clear hX hY hZ hBl hA9 hO9 hRl hk5
      go_wp2_with fail
      exact bodyPost_ret (results_cell Tryd.results21 rfl hlv) rfl ⟨rfl, HB.out⟩
end Go.Proofs.YtdmbhgejemdafaaDoor
