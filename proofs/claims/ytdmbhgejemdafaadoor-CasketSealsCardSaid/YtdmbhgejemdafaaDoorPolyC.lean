/- poly: the walk of part. -/
import Derived.Test.YtdmbhgejemdafaaDoorPolyB
import Derived.Test.YtdmbhgejemdafaaDoorChaB
import Derived.Lib.LazyBuf
namespace Go.Proofs.YtdmbhgejemdafaaDoor
open Go.RowKit Big
set_option linter.unusedVariables false
theorem big17 : BigT 71 (nvs .u8 (zN 17)) := BigT.of (by kernel_rfl) ⟨_, Tryd.underlying71, rfl⟩
theorem alT_17 : Instr.alloc 71 true (.tuple #[]) = alT 71 := rfl
def cpB (ty : TypeId) (vs : Array Value) : Sem Value := Builtin.copy_ #[22, 22] ty vs
theorem cpB_eq (ty : TypeId) (vs : Array Value) : Builtin.copy_ #[22, 22] ty vs = cpB ty vs := rfl
/-- Bytes are copied to the front of an array. -/
theorem cpB_made (w : World) (ty : TypeId) (s n cap : Nat) (v : Value) (l : List UInt8) (x : List Nat) (hb : Bsl w v l) (hne : l ≠ []) (h : AN .u8 w s x) (hl : l.length ≤ n) (hn : n ≤ x.length) :
    ∃ w', (cpB ty #[.slice (some ⟨s, 0, none⟩) n cap, v]).run Tryd.prog w = .ok (.int .i64 l.length) w' ∧ AN .u8 w' s (l.map UInt8.toNat ++ x.drop l.length) ∧ Only (· = s) w w' ∧ w'.heap.size = w.heap.size := by
  obtain ⟨ao, cap2, rfl, h1, h2, h3, h4⟩ := hb
  obtain ⟨b, off, rfl, hc⟩ := h4 hne
  have hsz : (Tryd.prog.info? 5).map (·.size) = some 1 := by kernel_rfl
  have hmin : Nat.min l.length n = l.length := Nat.min_eq_left hl
  have hrun := run_copy_cells (P := Tryd.prog) w 22 22 ty 5 s 0 n cap ⟨b, off, none⟩ l.length cap2 (nvs .u8 (l.map UInt8.toNat)) Tryd.underlying22 hsz (by rw [nvs_len, List.length_map, hmin]) (fun j u hu => by
      have hj := (List.getElem?_eq_some_iff.1 hu).1
      rw [nvs_len, List.length_map] at hj
      rw [Addr.add_mid, hc j hj, ← hu]
      simp [nvs, nv, hj, List.getD]) (fun j hj => by rw [nvs_len, List.length_map] at hj; rw [Nat.zero_add, h.cell (by omega)]; rfl) (fun j hj => by rw [nvs_len, List.length_map] at hj; rw [Nat.zero_add]; exact h.free (by omega)) (nvs_one _ _)
  rw [nvs_len, List.length_map] at hrun
  have hsp := h.splice 0 (l.map UInt8.toNat) (by rw [List.length_map]; omega)
  rw [List.take_zero, List.nil_append, List.length_map, Nat.zero_add] at hsp
  exact ⟨_, hrun, hsp, only_setCells _ _ _ _, size_setCells _ _ _ _⟩
/-- Sixteen bytes and a 1 behind them, in seventeen. -/
def wide17 (l : List UInt8) : List UInt8 := l ++ (1 :: List.replicate (16 - l.length) 0)
theorem wide17_len (l : List UInt8) (h : l.length ≤ 16) : (wide17 l).length = 17 := by simp [wide17]; omega
def partI (l : List UInt8) : List Int := loadI (leW ((wide17 l).take 8)) (leW (((wide17 l).drop 8).take 8)) ((wide17 l).getD 16 0).toNat
theorem wide17_eq (l : List UInt8) (h : l.length ≤ 16) : (l.map UInt8.toNat ++ (zN 17).drop l.length).set l.length 1 = (wide17 l).map UInt8.toNat := by
  rw [List.set_append_right _ _ (by simp)]
  unfold wide17 zN
  rw [List.drop_replicate, show 17 - l.length = (16 - l.length) + 1 by omega, List.replicate_succ]
  simp
attribute [local go_sem ↓] alT_N ldT_N stT_N alT_17 cpB_eq
set_option maxRecDepth 100000 in
set_option maxHeartbeats 1000000 in
theorem part_any (v : Value) (l : List UInt8) (w : World) (hb : Bsl w v l) (hne : l ≠ []) (hl : l.length ≤ 16) :
    Calls Tryd.prog 22 #[v] w fun e w' => e = .returned (.agg (ivs .u64 (partI l)).toArray) ∧ Below w.heap.size w w' := by
  obtain ⟨w1, hal1, hA1, hB1, hs1⟩ := bigN.made0I w
  obtain ⟨w2, hal2, hA2, hB2, hs2⟩ := big17.made0 w1
  have hA1 := hA1.keep hB2
  have hB2 := hB1.trans (hB2.mono hB1.size)
  rw [hs1] at hal2 hA2
  have HSZ := Lib.hid hs2
  clear hs2 hs1 hB1
  obtain ⟨w3, hcp, hA3, hO3, hs3⟩ := cpB_made w2 3 (w.heap.size + 1) 17 17 v l (zN 17) (hb.keep hB2) hne hA2 (by omega) (by rw [zN_len]; exact Nat.le_refl _)
  obtain ⟨ao, cap, rfl⟩ := hb.val'
  have hlen : (l.map UInt8.toNat ++ (zN 17).drop l.length).length = 17 := by simp [zN]; omega
  have c3 := hA3.cell (j := l.length) (by rw [hlen]; omega)
  have f3 := hA3.free (j := l.length) (by rw [hlen]; omega)
  have hA4 := hA3.set (j := l.length) (by rw [hlen]; omega) 1
  rw [wide17_eq l hl] at hA4
  have hA1 := hA1.only hO3 (by omega)
  have hA1 := hA1.set_other (p := ⟨w.heap.size + 1, l.length, none⟩) (by show w.heap.size + 1 ≠ w.heap.size; omega) (.int .u8 ((1 : Nat) : Int))
  have hB4 := (hB2.trans (hO3.to_below hB2.size (fun k e => by omega))).setCell (p := ⟨w.heap.size + 1, l.length, none⟩) (by show w.heap.size ≤ w.heap.size + 1; omega) (.int .u8 ((1 : Nat) : Int))
  rw [show ((1 : Nat) : Int) = 1 from rfl] at hA4 hA1 hB4
  have hli : (l.length : Int) < 17 := by omega
  have hb8 := (hA4.bsl (n := 17) (cap := 17) (wide17_len l hl).symm (Nat.le_refl _) (by omega))
  have h8a := hb8.take (m := 8) (by rw [wide17_len l hl]; omega)
  have h8b := Bsl_sub hb8 (i := 8) (m := 8) (by rw [wide17_len l hl]; omega)
  have hc16 := hA4.cell (j := 16) (by rw [List.length_map, wide17_len l hl]; omega)
  have hg16 : ((wide17 l).map UInt8.toNat).getD 16 0 = ((wide17 l).getD 16 0).toNat := by
    have := wide17_len l hl
    simp [List.getD, show 16 < (wide17 l).length by omega]
  rw [hg16] at hc16
  have hw16 := ((wide17 l).getD 16 0).toNat_lt
  have hlo := leW_lt ((wide17 l).take 8)
  have hhi := leW_lt (((wide17 l).drop 8).take 8)
  have hll : ((wide17 l).take 8).length = 8 := by rw [List.length_take, wide17_len l hl]; omega
  have hlh : (((wide17 l).drop 8).take 8).length = 8 := by rw [List.length_take, List.length_drop, wide17_len l hl]; omega
  have q1 := low64_any _ _ _ h8a hll
  have q2 := low64_any _ _ _ h8b hlh
  have HP := Lib.hid (show partI l = loadI (leW ((wide17 l).take 8)) (leW (((wide17 l).drop 8).take 8)) ((wide17 l).getD 16 0).toNat from rfl)
  generalize partI l = R at *
  generalize leW ((wide17 l).take 8) = a at *
  generalize leW (((wide17 l).drop 8).take 8) = b at *
  generalize ((wide17 l).getD 16 0).toNat = c at *
  clear hA2 hA3 hO3 hb8 h8a h8b hg16 hlo hhi hll hlh hb hlen hs3
  go_enter Tryd.func22, Tryd.ntmps22
  go_wp2_with fail
  refine q1.mono ?_
  rintro e w4 ⟨rfl, rfl⟩
  generalize w3.setCell ⟨w.heap.size + 1, l.length, none⟩ (.int .u8 1) = w4 at *
  clear hal1 hal2 hcp q1 c3 f3 hA4 hB2
  rw [show 0 + 8 = 8 from rfl, show 17 - 8 = 9 from rfl] at q2
  go_wp2_with fail
  refine q2.mono ?_
  rintro e w5 ⟨rfl, rfl⟩
  clear q2
  have hci : (c : Int) < 256 := by omega
  have hlo := load_any a b c w4 (by omega) (by omega) (by omega)
  rw [← HP.out] at hlo
  have HRL := Lib.hid (show R.length = 5 by rw [HP.out]; rfl)
  go_wp2_with fail
  refine hlo.mono ?_
  rintro e w6 ⟨rfl, hB6⟩
  have hB06 := hB4.trans (hB6.mono hB4.size)
  have hA6 := hA1.keep hB6
  obtain ⟨w7, hst7, hA7, hO7, _⟩ := bigN.putI hA6 rfl R HRL.out
  have hlv := bigN.lvI hA7 HRL.out
  have HB := Lib.hid (hB06.trans (hO7.to_below hB06.size (fun k e => by omega)))
  clear hA1 hA6 hA7 hO7 hB06 hB6 hB4 hlo
  go_wp2_with fail
  exact bodyPost_ret (results_cell Tryd.results22 rfl hlv) rfl ⟨rfl, HB.out⟩
end Go.Proofs.YtdmbhgejemdafaaDoor
