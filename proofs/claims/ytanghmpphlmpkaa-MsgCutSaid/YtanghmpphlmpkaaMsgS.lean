/- The document's key and Same. -/
import Derived.Test.YtanghmpphlmpkaaMsgFR
import Derived.Lib.QuietBelow
import Derived.Lib.AppendStr
import Derived.BigQuiet
import Derived.Deep.QuietTactic
namespace Go.Proofs.Ytanghmpphlmpkaa
open Go.RowKit
set_option linter.unusedVariables false
def mkB (v u : Value) : Sem Value := Instr.makeSlice 30 v u
theorem mkB_eq (v u : Value) : Instr.makeSlice 30 v u = mkB v u := rfl
theorem run_mkB (w : World) : (mkB (.int .i64 32) (.int .i64 32)).run Try.prog w = .ok (.slice (some ⟨w.heap.size, 0, none⟩) 32 32) (w.alloc (.cells zK.toArray 5)) := by
  obtain ⟨i0, hi, hz0, hz1, hz2⟩ := info_parts Try.info_u8
  have := run_make (P := Try.prog) w _ _ i0 _ Try.underlying30 hi hz0 .i64 .i64 32 32 (by omega) (by omega) (by rw [hz2]; omega) (by omega)
  unfold mkB
  rw [this, hz1, show madeCells (Value.int .u8 0).cells (Int.toNat 32 * 1) = zK.toArray by kernel_rfl]
  rfl
attribute [local go_sem ↓] mkB_eq
attribute [local go_sem] run_mkB
set_option maxRecDepth 100000 in
set_option maxHeartbeats 1000000 in
theorem fkey_any (l : List UInt8) (w : World) (hl : l.length ≤ 1000000) : Calls Try.prog 37 #[.string ⟨l.toArray⟩] w fun e w' => e = .returned (.string ⟨(padK l).toArray⟩) ∧ Below w.heap.size w w' := by
  have hA : Below w.heap.size w (w.alloc (.cells zK.toArray 5)) := (Below.refl _ _).alloc (Nat.le_refl _) _
  have hb : Bsl (w.alloc (.cells zK.toArray 5)) (.slice (some ⟨w.heap.size, 0, none⟩) 32 32) z32 := Bsl.of_range (rangeAt_alloc_new w zK 5) z32_len.symm (by rw [z32_len]; omega)
  have hcv := run_str _ hb
  have hex : (⟨(l ++ z32).toArray⟩ : ByteArray).extract 0 32 = ⟨(padK l).toArray⟩ := by
    rw [strI_extract]
    have : ((l ++ z32).take 32).drop 0 = padK l := by
      rw [List.drop_zero, List.take_append]
      unfold padK z32
      rw [List.take_replicate]
      congr 2
      rw [List.length_take]; omega
    rw [this]
  have hlen : (⟨(l ++ z32).toArray⟩ : ByteArray).size = l.length + 32 := by simp [ByteArray.size, z32]
  have hl0 : (0 : Int) ≤ l.length := Int.natCast_nonneg _
  have hcat := run_cat l z32 (by rw [z32_len]; omega) (w.alloc (.cells zK.toArray 5))
  have hle : ¬ (l.length : Int) + 32 < 32 := by omega
  clear hb
  go_enter Try.func37, Try.ntmps37
  go_wp2_with fail
  go_ret
  exact ⟨rfl, hA⟩
/-- Two of the document's messages, the same but for the noughts behind a key. -/
def FSame (x y : MD) : Prop := x.kind = y.kind ∧ x.frm = y.frm ∧ x.ask = y.ask ∧ x.err = y.err ∧ x.hold = y.hold ∧ x.level = y.level ∧ padK x.row.key = padK y.row.key ∧ x.row.set = y.row.set ∧ x.ats = y.ats ∧ x.digs = y.digs ∧ x.rows = y.rows
theorem FSame.of {x y : MD} (h : x.pad = y.pad) : FSame x y := by
  unfold MD.pad at h
  injection h with h1 h2 h3 h4 h5 h6 h7 h8 h9 h10
  injection h7 with h7 h11
  exact ⟨h1, h2, h3, h4, h5, h6, h7, h11, h8, h9, h10⟩
theorem srec_cell {w w' : World} {g o : Nat} {cs : List Value} (h : w.rangeAt g o cs) (hb : Below w.heap.size w w') (j : Nat) (v : Value) (hv : cs[j]? = some v) : w'.cell? ⟨g, o + j, none⟩ = some v := (rangeAt_keep h hb) j v hv
attribute [local go_sem ↓] ldT_F
set_option maxRecDepth 100000 in
set_option maxHeartbeats 1000000 in
theorem fsame_any (x y : FV) (w : World) (hx : x.At w) (hy : y.At w) (hxy : FSame x.m y.m) (hl : x.m.row.key.length ≤ 1000000 ∧ y.m.row.key.length ≤ 1000000) :
    Calls Try.prog 13 #[.agg x.C.toArray, .agg y.C.toArray] w fun e w' => e = .returned (.bool true) ∧ Below w.heap.size w w' := by
  obtain ⟨⟨k, f, a, er, ho, lv, ⟨key, set⟩, ats, digs, rows⟩, av, dv, rv⟩ := x
  obtain ⟨⟨k2, f2, a2, er2, ho2, lv2, ⟨key2, set2⟩, ats2, digs2, rows2⟩, av2, dv2, rv2⟩ := y
  obtain ⟨h1, h2, h3, h4, h5, h6, hkey, h8, h9, h10, h11⟩ := hxy
  dsimp only at h1 h2 h3 h4 h5 h6 h8 h9 h10 h11 hkey hl
  subst h1 h2 h3 h4 h5 h6 h8 h9 h10 h11
  obtain ⟨xa, xd, xr, _, _⟩ := hx
  obtain ⟨ya, yd, yr, _, _⟩ := hy
  dsimp only at xa xd xr ya yd yr
  obtain ⟨xao, xac, rfl, xaa⟩ := xa.rec
  obtain ⟨xdo, xdc, rfl, xdd⟩ := xd.rec
  obtain ⟨xro, xrc, rfl, xrr⟩ := xr.rec
  obtain ⟨yao, yac, rfl, yaa⟩ := ya.rec
  obtain ⟨ydo, ydc, rfl, ydd⟩ := yd.rec
  obtain ⟨yro, yrc, rfl, yrr⟩ := yr.rec
  unfold FV.C
  dsimp only
  have hla : (ats.length : Int) ≤ 9223372036854775807 := by obtain ⟨_, ao, cap, e, l1, l2, _⟩ := xa; rw [List.length_map] at l1; omega
  have hld : (digs.length : Int) ≤ 9223372036854775807 := by obtain ⟨_, ao, cap, e, l1, l2, _⟩ := xd; rw [List.length_map] at l1; omega
  have hlr : (rows.length : Int) ≤ 9223372036854775807 := by obtain ⟨_, ao, cap, e, l1, l2, _⟩ := xr; rw [List.length_map] at l1; omega
  clear xa xd xr ya yd yr
  have bx := rangeAt_alloc_new w [.int .i64 k, .int .i64 f, .int .i64 a, .int .i64 er, .int .i64 ho, .int .i64 lv, .string ⟨key.toArray⟩, .string ⟨set.toArray⟩, .slice xao ats.length xac, .slice xdo digs.length xdc, .slice xro rows.length xrc] 28
  have hA1 : Below w.heap.size w (w.alloc (.cells [Value.int .i64 k, .int .i64 f, .int .i64 a, .int .i64 er, .int .i64 ho, .int .i64 lv, .string ⟨key.toArray⟩, .string ⟨set.toArray⟩, .slice xao ats.length xac, .slice xdo digs.length xdc, .slice xro rows.length xrc].toArray 28)) := (Below.refl _ _).alloc (Nat.le_refl _) _
  have hs1 : (w.alloc (.cells [Value.int .i64 k, .int .i64 f, .int .i64 a, .int .i64 er, .int .i64 ho, .int .i64 lv, .string ⟨key.toArray⟩, .string ⟨set.toArray⟩, .slice xao ats.length xac, .slice xdo digs.length xdc, .slice xro rows.length xrc].toArray 28)).heap.size = w.heap.size + 1 := by simp
  generalize hcx : [Value.int .i64 k, .int .i64 f, .int .i64 a, .int .i64 er, .int .i64 ho, .int .i64 lv, .string ⟨key.toArray⟩, .string ⟨set.toArray⟩, .slice xao ats.length xac, .slice xdo digs.length xdc, .slice xro rows.length xrc] = cx at *
  generalize hcy : [Value.int .i64 k, .int .i64 f, .int .i64 a, .int .i64 er, .int .i64 ho, .int .i64 lv, .string ⟨key2.toArray⟩, .string ⟨set.toArray⟩, .slice yao ats.length yac, .slice ydo digs.length ydc, .slice yro rows.length yrc] = cy at *
  have hCX := Lib.hid (And.intro hcx hcy)
  clear hcx hcy
  go_enter Try.func13, Try.ntmps13
  go_wp2_with fail
  generalize hw1 : w.alloc (.cells cx.toArray 28) = w1 at *
  have by2 := rangeAt_alloc_new w1 cy 28
  have hA2 : Below w1.heap.size w1 (w1.alloc (.cells cy.toArray 28)) := (Below.refl _ _).alloc (Nat.le_refl _) _
  have bx2 := rangeAt_keep bx hA2
  have hB2 := hA1.trans (hA2.mono hA1.size)
  generalize w1.alloc (.cells cy.toArray 28) = w2 at *
  rw [hs1] at by2
  obtain ⟨hcx, hcy⟩ := hCX.out
  have HB2 := Lib.hid hB2
  have HXY := Lib.hid (And.intro bx2 by2)
  rw [← hcx] at bx2
  rw [← hcy] at by2
  clear bx hA1 hA2 hw1 hs1 hB2 hcx hcy
  have x0 : w2.cell? ⟨w.heap.size, 0, none⟩ = some (.int .i64 k) := by simpa using bx2 0 _ rfl
  have x1 : w2.cell? ⟨w.heap.size, 1, none⟩ = some (.int .i64 f) := by simpa using bx2 1 _ rfl
  have x2 : w2.cell? ⟨w.heap.size, 2, none⟩ = some (.int .i64 a) := by simpa using bx2 2 _ rfl
  have x3 : w2.cell? ⟨w.heap.size, 3, none⟩ = some (.int .i64 er) := by simpa using bx2 3 _ rfl
  have x4 : w2.cell? ⟨w.heap.size, 4, none⟩ = some (.int .i64 ho) := by simpa using bx2 4 _ rfl
  have x5 : w2.cell? ⟨w.heap.size, 5, none⟩ = some (.int .i64 lv) := by simpa using bx2 5 _ rfl
  have x6 : w2.cell? ⟨w.heap.size, 6, none⟩ = some (.string ⟨key.toArray⟩) := by simpa using bx2 6 _ rfl
  have x7 : w2.cell? ⟨w.heap.size, 7, none⟩ = some (.string ⟨set.toArray⟩) := by simpa using bx2 7 _ rfl
  have x8 : w2.cell? ⟨w.heap.size, 8, none⟩ = some (.slice xao ats.length xac) := by simpa using bx2 8 _ rfl
  have x9 : w2.cell? ⟨w.heap.size, 9, none⟩ = some (.slice xdo digs.length xdc) := by simpa using bx2 9 _ rfl
  have x10 : w2.cell? ⟨w.heap.size, 10, none⟩ = some (.slice xro rows.length xrc) := by simpa using bx2 10 _ rfl
  have y0 : w2.cell? ⟨w.heap.size + 1, 0, none⟩ = some (.int .i64 k) := by simpa using by2 0 _ rfl
  have y1 : w2.cell? ⟨w.heap.size + 1, 1, none⟩ = some (.int .i64 f) := by simpa using by2 1 _ rfl
  have y2 : w2.cell? ⟨w.heap.size + 1, 2, none⟩ = some (.int .i64 a) := by simpa using by2 2 _ rfl
  have y3 : w2.cell? ⟨w.heap.size + 1, 3, none⟩ = some (.int .i64 er) := by simpa using by2 3 _ rfl
  have y4 : w2.cell? ⟨w.heap.size + 1, 4, none⟩ = some (.int .i64 ho) := by simpa using by2 4 _ rfl
  have y5 : w2.cell? ⟨w.heap.size + 1, 5, none⟩ = some (.int .i64 lv) := by simpa using by2 5 _ rfl
  have y6 : w2.cell? ⟨w.heap.size + 1, 6, none⟩ = some (.string ⟨key2.toArray⟩) := by simpa using by2 6 _ rfl
  have y7 : w2.cell? ⟨w.heap.size + 1, 7, none⟩ = some (.string ⟨set.toArray⟩) := by simpa using by2 7 _ rfl
  have y8 : w2.cell? ⟨w.heap.size + 1, 8, none⟩ = some (.slice yao ats.length yac) := by simpa using by2 8 _ rfl
  have y9 : w2.cell? ⟨w.heap.size + 1, 9, none⟩ = some (.slice ydo digs.length ydc) := by simpa using by2 9 _ rfl
  have y10 : w2.cell? ⟨w.heap.size + 1, 10, none⟩ = some (.slice yro rows.length yrc) := by simpa using by2 10 _ rfl
  have u0 := cell_regrown x0
  have u1 := cell_regrown x1
  have u2 := cell_regrown x2
  have u3 := cell_regrown x3
  have u4 := cell_regrown x4
  have u5 := cell_regrown x5
  have u6 := cell_regrown x6
  have u7 := cell_regrown x7
  have u8 := cell_regrown x8
  have u9 := cell_regrown x9
  have u10 := cell_regrown x10
  have v0 := cell_regrown y0
  have v1 := cell_regrown y1
  have v2 := cell_regrown y2
  have v3 := cell_regrown y3
  have v4 := cell_regrown y4
  have v5 := cell_regrown y5
  have v6 := cell_regrown y6
  have v7 := cell_regrown y7
  have v8 := cell_regrown y8
  have v9 := cell_regrown y9
  have v10 := cell_regrown y10
  have cK : ∀ d os, Calls Try.prog 37 #[.string ⟨key.toArray⟩] (Sort.grow (redrawn w2 d) os) fun e w'' => e = .returned (.string ⟨(padK key).toArray⟩) ∧ ∃ p : Regrown, w'' = Sort.grow (redrawn w2 p.d) p.os := fun d os => Calls.regrown_of (fkey_any key _ hl.1)
  have cL : ∀ d os, Calls Try.prog 37 #[.string ⟨key2.toArray⟩] (Sort.grow (redrawn w2 d) os) fun e w'' => e = .returned (.string ⟨(padK key).toArray⟩) ∧ ∃ p : Regrown, w'' = Sort.grow (redrawn w2 p.d) p.os := fun d os => Calls.regrown_of (by rw [hkey]; exact fkey_any key2 _ hl.2)
  clear x0 x1 x2 x3 x4 x5 x6 x7 x8 x9 x10 y0 y1 y2 y3 y4 y5 y6 y7 y8 y9 y10 bx2 by2
  refine wp_region_quiet_below (by kernel_rfl) (by kernel_rfl) ?_
  repeat (quiet_step (first | (go_at_call 37; with_reducible exact cK _ _) | (go_at_call 37; with_reducible exact cL _ _)))
  refine wpQuiet_nil ?_
  intro wx hwx
  clear u0 u1 u2 u3 u4 u5 u6 u7 u8 u9 u10 v0 v1 v2 v3 v4 v5 v6 v7 v8 v9 v10 cK cL
  obtain ⟨⟨d3, os3⟩, rfl⟩ := hwx
  have hb3 := below_regrown w2 d3 os3
  generalize Sort.grow (redrawn w2 d3) os3 = w3 at *
  obtain ⟨hcx, hcy⟩ := hCX.out
  obtain ⟨bx2, by2⟩ := HXY.out
  rw [← hcx] at bx2
  rw [← hcy] at by2
  have bx3 := rangeAt_keep bx2 hb3
  have by3 := rangeAt_keep by2 hb3
  clear bx2 by2 hcx hcy
  have x8 : w3.cell? ⟨w.heap.size, 8, none⟩ = some (.slice xao ats.length xac) := by simpa using bx3 8 _ rfl
  have x9 : w3.cell? ⟨w.heap.size, 9, none⟩ = some (.slice xdo digs.length xdc) := by simpa using bx3 9 _ rfl
  have x10 : w3.cell? ⟨w.heap.size, 10, none⟩ = some (.slice xro rows.length xrc) := by simpa using bx3 10 _ rfl
  have y8 : w3.cell? ⟨w.heap.size + 1, 8, none⟩ = some (.slice yao ats.length yac) := by simpa using by3 8 _ rfl
  have y9 : w3.cell? ⟨w.heap.size + 1, 9, none⟩ = some (.slice ydo digs.length ydc) := by simpa using by3 9 _ rfl
  have y10 : w3.cell? ⟨w.heap.size + 1, 10, none⟩ = some (.slice yro rows.length yrc) := by simpa using by3 10 _ rfl
  have HB := Lib.hid (HB2.out.trans (hb3.mono HB2.out.size))
  clear bx3 by3 hb3
  have HRR := Lib.hid (And.intro xrr yrr)
  have HDD := Lib.hid (And.intro xdd ydd)
  clear xrr yrr xdd ydd
  go_wp2_with fail
  go_loopw [5] (fun j wr => ∃ k : Nat, k ≤ ats.length ∧ j = .int .i64 k ∧ Below w3.heap.size w3 wr) (fun j _ => ats.length - (intOf j).toNat)
  case atStart => exact ⟨0, Nat.zero_le _, rfl, Below.refl _ _⟩
  case round =>
    obtain ⟨j, hj, rfl, hBr⟩ := hrel
    have x8 := (hBr.cell (p := ⟨w.heap.size, 8, none⟩) (World.block_lt_of_cell? _ _ x8)).trans x8
    have y8 := (hBr.cell (p := ⟨w.heap.size + 1, 8, none⟩) (World.block_lt_of_cell? _ _ y8)).trans y8
    by_cases hlt : j < ats.length
    · have hlt2 : (j : Int) < ats.length := by omega
      have hj0 : (0 : Int) ≤ j := Int.natCast_nonneg _
      obtain ⟨g1, o1, rfl, hc1⟩ := xaa (fun e => by rw [e] at hlt; simp at hlt)
      obtain ⟨g2, o2, rfl, hc2⟩ := yaa (fun e => by rw [e] at hlt; simp at hlt)
      have hW := HB.out.trans (hBr.mono HB.out.size)
      have e1 := rangeAt_keep (hc1 j hlt) hW 0 (.int .i64 ats[j]) rfl
      have e2 := rangeAt_keep (hc2 j hlt) hW 0 (.int .i64 ats[j]) rfl
      rw [Nat.add_zero, Nat.mul_one] at e1 e2
      generalize ats[j] = n at *
      have HBr := Lib.hid hBr
      clear hBr hW hc1 hc2
      go_upto_region 6 with (fail)
      go_region
      go_wp2_with fail
      go_roundw
      case rel => exact ⟨j + 1, hlt, by go_num, HBr.out.drew⟩
      case measure => simp [intOf]; omega
    · have hje : j = ats.length := by omega
      subst hje
      have HB := Lib.hid (HB.out.trans (hBr.mono HB.out.size))
      have x9 := (hBr.cell (p := ⟨w.heap.size, 9, none⟩) (World.block_lt_of_cell? _ _ x9)).trans x9
      have y9 := (hBr.cell (p := ⟨w.heap.size + 1, 9, none⟩) (World.block_lt_of_cell? _ _ y9)).trans y9
      have x10 := (hBr.cell (p := ⟨w.heap.size, 10, none⟩) (World.block_lt_of_cell? _ _ x10)).trans x10
      have y10 := (hBr.cell (p := ⟨w.heap.size + 1, 10, none⟩) (World.block_lt_of_cell? _ _ y10)).trans y10
      clear hBr xaa yaa hj
      go_wp2_with fail
      clear x8 y8
      generalize wr = w3 at *
      go_loopw [6] (fun j wr => ∃ k : Nat, k ≤ digs.length ∧ j = .int .i64 k ∧ Below w3.heap.size w3 wr) (fun j _ => digs.length - (intOf j).toNat)
      case atStart => exact ⟨0, Nat.zero_le _, rfl, Below.refl _ _⟩
      case round =>
        obtain ⟨j, hj, rfl, hBr⟩ := hrel
        have x9 := (hBr.cell (p := ⟨w.heap.size, 9, none⟩) (World.block_lt_of_cell? _ _ x9)).trans x9
        have y9 := (hBr.cell (p := ⟨w.heap.size + 1, 9, none⟩) (World.block_lt_of_cell? _ _ y9)).trans y9
        by_cases hlt : j < digs.length
        · have hlt2 : (j : Int) < digs.length := by omega
          have hj0 : (0 : Int) ≤ j := Int.natCast_nonneg _
          obtain ⟨xdd, ydd⟩ := HDD.out
          obtain ⟨g1, o1, rfl, hc1⟩ := xdd (fun e => by rw [e] at hlt; simp at hlt)
          obtain ⟨g2, o2, rfl, hc2⟩ := ydd (fun e => by rw [e] at hlt; simp at hlt)
          have hW := HB.out.trans (hBr.mono HB.out.size)
          have e1 := rangeAt_keep (hc1 j hlt) hW 0 (.string ⟨digs[j].toArray⟩) rfl
          have e2 := rangeAt_keep (hc2 j hlt) hW 0 (.string ⟨digs[j].toArray⟩) rfl
          rw [Nat.add_zero, Nat.mul_one] at e1 e2
          generalize digs[j] = n at *
          have HBr := Lib.hid hBr
          clear hBr hW hc1 hc2
          go_upto_region 11 with (fail)
          go_region
          go_wp2_with fail
          go_roundw
          case rel => exact ⟨j + 1, hlt, by go_num, HBr.out.drew⟩
          case measure => simp [intOf]; omega
        · have hje : j = digs.length := by omega
          subst hje
          have HB := Lib.hid (HB.out.trans (hBr.mono HB.out.size))
          have x10 := (hBr.cell (p := ⟨w.heap.size, 10, none⟩) (World.block_lt_of_cell? _ _ x10)).trans x10
          have y10 := (hBr.cell (p := ⟨w.heap.size + 1, 10, none⟩) (World.block_lt_of_cell? _ _ y10)).trans y10
          clear hBr hj
          go_wp2_with fail
          clear x9 y9
          generalize wr = w3 at *
          go_loopw [7] (fun j wr => ∃ k : Nat, k ≤ rows.length ∧ j = .int .i64 k ∧ Below w3.heap.size w3 wr) (fun j _ => rows.length - (intOf j).toNat)
          case atStart => exact ⟨0, Nat.zero_le _, rfl, Below.refl _ _⟩
          case round =>
            obtain ⟨j, hj, rfl, hBr⟩ := hrel
            have x10 := (hBr.cell (p := ⟨w.heap.size, 10, none⟩) (World.block_lt_of_cell? _ _ x10)).trans x10
            have y10 := (hBr.cell (p := ⟨w.heap.size + 1, 10, none⟩) (World.block_lt_of_cell? _ _ y10)).trans y10
            by_cases hlt : j < rows.length
            · have hlt2 : (j : Int) < rows.length := by omega
              have hj0 : (0 : Int) ≤ j := Int.natCast_nonneg _
              obtain ⟨xrr, yrr⟩ := HRR.out
              obtain ⟨g1, o1, rfl, hc1⟩ := xrr (fun e => by rw [e] at hlt; simp at hlt)
              obtain ⟨g2, o2, rfl, hc2⟩ := yrr (fun e => by rw [e] at hlt; simp at hlt)
              have hW := HB.out.trans (hBr.mono HB.out.size)
              have hr1 := rangeAt_keep (hc1 j hlt) hW
              have hr2 := rangeAt_keep (hc2 j hlt) hW
              generalize rows[j] = n at *
              have e1 := run_ldT bigF wr.drew g1 (o1 + j * 2) (rrC n) hr1 rfl
              have e2 := run_ldT bigF wr.drew g2 (o2 + j * 2) (rrC n) hr2 rfl
              unfold rrC at e1 e2
              clear hr1 hr2
              have HBr := Lib.hid hBr
              clear hBr hW hc1 hc2
              go_upto_region 16 with (fail)
              go_region
              go_wp2_with fail
              go_roundw
              case rel => exact ⟨j + 1, hlt, by go_num, HBr.out.drew⟩
              case measure => simp [intOf]; omega
            · have hje : j = rows.length := by omega
              subst hje
              have HB := Lib.hid (HB.out.trans (hBr.mono HB.out.size))
              clear hBr hj
              go_wp2_with fail
              go_ret
              exact ⟨rfl, HB.out⟩
end Go.Proofs.Ytanghmpphlmpkaa
