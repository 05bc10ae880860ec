/- casketlaw22: blind, wide, says. -/
import Derived.Test.YtanghmpphlmpkaaMsgFR
import Derived.Test.YtanghmpphlmpkaaMsgRD

namespace Go.Proofs.Ytanghmpphlmpkaa
open Go.RowKit
set_option linter.unusedVariables false
attribute [local go_sem ↓] alT_B ldT_B stT_B cpS_eq
theorem bvK_len (l : List UInt8) : ((padK l).map bv).length = 32 := by rw [List.length_map, padK_len]
theorem bvK_one (l : List UInt8) : ∀ u ∈ (padK l).map bv, u.oneCell' = true := bv_one _
set_option maxRecDepth 100000 in
set_option maxHeartbeats 1000000 in
theorem blind_any (l : List UInt8) (w : World) : Calls Try.prog 20 #[.string ⟨l.toArray⟩] w fun e w' => e = .returned (.agg ((padK l).map bv).toArray) ∧ Below w.heap.size w w' := by
  have hal := fun w => run_alT bigB w
  have ht1 := there_new w zK 35
  have hA1 : Below w.heap.size w (w.alloc (.cells zK.toArray 35)) := (Below.refl _ _).alloc (Nat.le_refl _) _
  have hs1 : (w.alloc (.cells zK.toArray 35)).heap.size = w.heap.size + 1 := by simp
  rw [zK_len] at ht1
  have ht2 := there_new (w.alloc (.cells zK.toArray 35)) zK 35
  have hr2 := rangeAt_alloc_new (w.alloc (.cells zK.toArray 35)) zK 35
  have hA2 : Below (w.alloc (.cells zK.toArray 35)).heap.size (w.alloc (.cells zK.toArray 35)) ((w.alloc (.cells zK.toArray 35)).alloc (.cells zK.toArray 35)) := (Below.refl _ _).alloc (Nat.le_refl _) _
  have ht1 := there_only ht1 (Only.of_below (S := fun _ => False) hA2) (fun h => h)
  rw [zK_len, hs1] at ht2
  rw [hs1] at hr2
  have hB2 := hA1.trans (hA2.mono hA1.size)
  have hcp := fun ty => run_cpS ((w.alloc (.cells zK.toArray 35)).alloc (.cells zK.toArray 35)) ty (w.heap.size + 1) 0 l ht2
  have hr3 := range_cpK (l := l) hr2
  have ho3 := Only.setCells1 (b := w.heap.size + 1) ((l.take 32).map bv) 0 ((w.alloc (.cells zK.toArray 35)).alloc (.cells zK.toArray 35))
  have ht3 := there_only ht1 ho3 (by omega)
  have hB3 := Go.Proofs.Ytanghmpphlmpkaa.Below.setCells (b := w.heap.size + 1) (B := w.heap.size) (by omega) ((l.take 32).map bv) 0 hB2
  have hld := run_ldT bigB (((w.alloc (.cells zK.toArray 35)).alloc (.cells zK.toArray 35)).setCells (w.heap.size + 1) 0 ((l.take 32).map bv)) (w.heap.size + 1) 0 _ hr3 (by rw [bvK_len, zK_len])
  have hst := run_stT bigB (((w.alloc (.cells zK.toArray 35)).alloc (.cells zK.toArray 35)).setCells (w.heap.size + 1) 0 ((l.take 32).map bv)) w.heap.size 0 ((padK l).map bv) (by rw [bvK_len]; exact ht3) (by rw [bvK_len, zK_len]) (bvK_one l)
  have hlv := run_lvT bigB _ w.heap.size 0 _ (World.rangeAt_setCells_same (((w.alloc (.cells zK.toArray 35)).alloc (.cells zK.toArray 35)).setCells (w.heap.size + 1) 0 ((l.take 32).map bv)) w.heap.size 0 ((padK l).map bv) (by rw [bvK_len]; exact ht3)) (by rw [bvK_len, zK_len])
  have HB := Lib.hid (Go.Proofs.Ytanghmpphlmpkaa.Below.setCells (Nat.le_refl w.heap.size) ((padK l).map bv) 0 hB3)
  clear ht1 ht2 hr2 hr3 ho3 ht3 hA1 hA2 hB2 hB3 hs1
  generalize hpp : (padK l).map bv = pp at *
  generalize hlt : (l.take 32).map bv = lt at *
  have HP := Lib.hid hpp
  clear hpp hlt
  generalize hzz : zK.toArray = zz at *
  clear hzz
  go_enter Try.func20, Try.ntmps20
  go_wp2_with fail
  refine bodyPost_ret (results_cell Try.results20 rfl hlv) rfl ?_
  exact ⟨rfl, HB.out⟩
set_option maxRecDepth 100000 in
set_option maxHeartbeats 1000000 in
theorem wide_any (l : List UInt8) (w : World) : Calls Try.prog 15 #[.string ⟨l.toArray⟩] w fun e w' => e = .returned (.string ⟨(padK l).toArray⟩) ∧ Below w.heap.size w w' := by
  have hlen := padK_len l
  go_enter Try.func15, Try.ntmps15
  go_wp2_with fail
  refine (blind_any l w).mono ?_
  rintro e w1 ⟨rfl, hB1⟩
  generalize hpp : padK l = p at *
  have hal := run_alT bigB w1
  have hst := run_stT bigB (w1.alloc (.cells zK.toArray 35)) w1.heap.size 0 (p.map bv) (by rw [List.length_map, hlen, ← zK_len]; exact there_new _ _ _) (by rw [List.length_map, hlen, zK_len]) (bv_one _)
  obtain ⟨hr2, hB2, hs2, _⟩ := var_new w1 zK (p.map bv) 35 (by rw [List.length_map, hlen, zK_len])
  generalize hw2 : (w1.alloc (.cells zK.toArray 35)).setCells w1.heap.size 0 (p.map bv) = w2 at *
  have hbs := Bsl.of_range hr2 (n := 32) hlen.symm (by omega)
  have hcv := run_str _ hbs
  have HB := Lib.hid (hB1.trans (hB2.mono hB1.size))
  have HP := Lib.hid hpp
  clear hpp hw2 hB1 hB2 hr2 hbs hs2
  go_wp2_with fail
  go_ret
  exact ⟨by rw [HP.out]; rfl, HB.out⟩
theorem says_bytes : bytesM (mv0 2 2 3).m = [2, 2, 0, 0, 0, 0, 0, 0, 0, 3, 0] := by decide +kernel
theorem says_ok : okM (mv0 2 2 3).m = true := by decide +kernel
theorem says_none : readM [] = none := by decide +kernel
attribute [local go_sem ↓] alT_M stT_M blM_eq
theorem built_says : Try.prog.built 41 [(0, .int .i64 2), (1, .int .i64 2), (2, .int .i64 3)] = some (mv0 2 2 3).C.toArray := by kernel_rfl
theorem run_blM_says (w : World) : (blM #[(0, .int .i64 2), (1, .int .i64 2), (2, .int .i64 3)]).run Try.prog w = .ok (.agg (mv0 2 2 3).C.toArray) w := run_build (P := Try.prog) w _ _ _ built_says
set_option maxRecDepth 100000 in
set_option maxHeartbeats 1000000 in
theorem says_any (w : World) : Calls Try.prog 10 #[] w fun e w' => e = .returned (.bool true) ∧ Below w.heap.size w w' := by
  have hbl := run_blM_says w
  have hx := mvAt_zero w 2 2 3 (by unfold i64; omega) (by unfold i64; omega) (by unfold i64; omega)
  have hw := mwrite_any (mv0 2 2 3) w hx
  rw [says_bytes, says_ok] at hw
  have hrd := fun w => mread_any (.slice none 0 0) [] w ⟨none, 0, rfl, by simp, by omega, fun _ => rfl, by simp⟩ (by simp)
  rw [says_none] at hrd
  clear hx
  generalize hcx : (mv0 2 2 3).C = cx at *
  clear hcx
  go_enter Try.func10, Try.ntmps10
  go_wp2_with fail
  refine hw.mono ?_
  rintro e w1 ⟨h1, hB1⟩
  rcases h1 with ⟨_, v, rfl, hob⟩ | ⟨h1, _⟩
  rotate_left
  · cases h1
  clear hw hbl
  go_wp2_with fail
  refine (hrd w1).mono ?_
  rintro e w2 ⟨h2, hB2⟩
  rcases h2 with ⟨x, h2, _⟩ | ⟨_, rfl⟩
  · cases h2
  clear hrd
  have hcl := mv0_len 0 0 0
  have hco := mv0_one 0 0 0
  generalize hcz : (mv0 0 0 0).C = cz at *
  have hal := run_alT bigM w2
  have hst := run_stT bigM (w2.alloc (.cells zM.toArray 41)) w2.heap.size 0 cz (by rw [hcl, ← zM_len]; exact there_new _ _ _) (by rw [hcl, zM_len]) hco
  obtain ⟨hr3, hB3, hs3, _⟩ := var_new w2 zM cz 41 (by rw [hcl, zM_len])
  have hB23 := hB2.trans (hB3.mono hB2.size)
  have hcv := run_str _ (hob.bsl.keep hB23)
  have HB := Lib.hid (hB1.trans (hB23.mono hB1.size))
  clear hcz hB1 hB2 hB3 hob hr3 hs3 hcl hco hB23
  go_wp2_with fail
  generalize (w2.alloc (.cells zM.toArray 41)).setCells w2.heap.size 0 cz = w3 at *
  go_ret
  exact ⟨rfl, HB.out⟩
end Go.Proofs.Ytanghmpphlmpkaa
