/- casketlaw22.from. -/
import Derived.Test.YtanghmpphlmpkaaMsgT2
import Derived.Deep.RegionLaw
namespace Go.Proofs.Ytanghmpphlmpkaa
open Go.RowKit
set_option linter.unusedVariables false
attribute [local go_sem ↓] alT_X ldT_X stT_X blX_eq bsT_F
theorem builtX_all (k f a er hd lv : Int) (s1 s2 : ByteArray) (ao : Option Addr) (n c : Nat) :
    Try.prog.built 28 [(0, .int .i64 k), (1, .int .i64 f), (2, .int .i64 a), (3, .int .i64 er), (4, .int .i64 hd), (5, .int .i64 lv), (6, .agg #[.string s1, .string s2]), (7, .slice ao n c)] = some #[.int .i64 k, .int .i64 f, .int .i64 a, .int .i64 er, .int .i64 hd, .int .i64 lv, .string s1, .string s2, .slice ao n c, .slice none 0 0, .slice none 0 0] := by kernel_rfl
theorem run_blX_all (w : World) (k f a er hd lv : Int) (s1 s2 : ByteArray) (ao : Option Addr) (n c : Nat) :
    (blX #[(0, .int .i64 k), (1, .int .i64 f), (2, .int .i64 a), (3, .int .i64 er), (4, .int .i64 hd), (5, .int .i64 lv), (6, .agg #[.string s1, .string s2]), (7, .slice ao n c)]).run Try.prog w = .ok (.agg #[.int .i64 k, .int .i64 f, .int .i64 a, .int .i64 er, .int .i64 hd, .int .i64 lv, .string s1, .string s2, .slice ao n c, .slice none 0 0, .slice none 0 0]) w := run_build (P := Try.prog) w _ _ _ (builtX_all k f a er hd lv s1 s2 ao n c)
theorem Rd.only' {S : Nat → Prop} {w w' : World} {sz : Nat} {v : Value} {rs : List (List Value)} (h : Rd w sz v rs) (ho : Only S w w') (hn : rs ≠ [] → ∀ k, v.ownBlock = some k → ¬ S k) : Rd w' sz v rs := by
  obtain ⟨h1, ao, cap, rfl, h3, h4, h5⟩ := h
  refine ⟨h1, ao, cap, rfl, h3, h4, fun hne => ?_⟩
  obtain ⟨g, o, rfl, hr⟩ := h5 hne
  exact ⟨g, o, rfl, fun i hi => rangeAt_only (hr i hi) ho (hn hne g rfl)⟩
theorem Rd.own_ltI {w : World} {v : Value} {l : List Int} (h : Rd w 1 v (l.map intC)) (hne : l.map intC ≠ []) : ∀ k, v.ownBlock = some k → k < w.heap.size := by
  intro k hk
  obtain ⟨ao, cap, rfl, hc⟩ := h.ints
  obtain ⟨g, o, rfl, hcc⟩ := hc (fun e => hne (by rw [e]; rfl))
  have h0 : 0 < l.length := List.length_pos_iff.2 (fun e => hne (by rw [e]; rfl))
  have h1 := World.block_lt_of_cell? w _ (hcc 0 h0)
  have h2 : g = k := Option.some.inj hk
  rw [← h2]; exact h1
set_option maxRecDepth 100000 in
set_option maxHeartbeats 4000000 in
theorem from_any (x : MV) (w : World) (hx : x.At w) :
    Calls Try.prog 14 #[.agg x.C.toArray] w fun e w' => ∃ y : FV, e = .returned (.agg y.C.toArray) ∧ y.m = x.m ∧ y.At w' ∧ Below w.heap.size w w' := by
  have hK := hx.K32
  have hlen := MV.C_len hx
  have hbx : (w.alloc (.cells x.C.toArray 41)).rangeAt w.heap.size 0 x.C := rangeAt_alloc_new _ _ _
  have hA1 : Below w.heap.size w (w.alloc (.cells x.C.toArray 41)) := (Below.refl _ _).alloc (Nat.le_refl _) _
  have hs1 : (w.alloc (.cells x.C.toArray 41)).heap.size = w.heap.size + 1 := by simp
  have hal0 := fun w => run_alT bigX w
  have hzl : (fv0 0 0 0).C.length = 11 := rfl
  obtain ⟨hrow, hats, hdigs, hrows, hys, hmr, hbig⟩ := id hx
  obtain ⟨ao, ac, hav, haa⟩ := hats.rec
  obtain ⟨do_, dc, hdv, hdd⟩ := hdigs.rec
  obtain ⟨ro, rc, hrv, hrr⟩ := hrows.rec
  obtain ⟨so, sc, hsv⟩ := hrow.2.shape
  have hHX := Lib.hid hx
  clear hx
  have hdn : x.m.digs.length ≤ 1000 := hbig.2.2.2.2.1
  have hrn : x.ys.length ≤ 1000 := by have := hbig.2.2.2.2.2.1; rw [hmr, List.length_map] at this; exact this
  generalize hcx : x.C = cx at *
  generalize hcz : (fv0 0 0 0).C = cz at *
  have HCX := Lib.hid hcx
  have HCZ := Lib.hid hcz
  clear hcx hcz
  go_enter Try.func14, Try.ntmps14
  go_wp2_with fail
  generalize hw1 : w.alloc (.cells cx.toArray 41) = w1 at *
  have hA2 : Below w1.heap.size w1 (w1.alloc (.cells cz.toArray 28)) := (Below.refl _ _).alloc (Nat.le_refl _) _
  have hs2 : (w1.alloc (.cells cz.toArray 28)).heap.size = w.heap.size + 2 := by simp; omega
  have hbx2 := rangeAt_keep hbx hA2
  have ty2 := there_new w1 cz 28
  rw [hzl, hs1] at ty2
  have hB2 := hA1.trans (hA2.mono hA1.size)
  clear hbx hA1 hA2 hw1
  generalize w1.alloc (.cells cz.toArray 28) = w2 at *
  rw [← HCX.out] at hbx2
  obtain ⟨⟨c0, c1, c2, c3, c4, c5⟩, hrg, c39, c40, c41⟩ := MV.range hbx2 hK.1
  obtain ⟨hkr, c38⟩ := RV.range hrg hK.1
  have hkb : Bsl w2.drew (.slice (some ⟨w.heap.size, 6, none⟩) 32 32) x.m.row.key := Bsl.of_range hkr hK.1.symm (by show x.m.row.key.length ≤ _; rw [hK.1]; omega)
  have hsb : Bsl w2.drew x.sv x.m.row.set := (hrow.2.keep hB2).keep (Below.refl _ _).drew
  rw [hav] at c39
  rw [hdv] at c40
  rw [hrv] at c41
  change w2.cell? ⟨w.heap.size, 38, none⟩ = some x.sv at c38
  rw [show x.sv = _ from hsv] at c38 hsb
  have hbl := fun w => run_blX_all w x.m.kind x.m.frm x.m.ask x.m.err x.m.hold x.m.level ⟨x.m.row.key.toArray⟩ ⟨x.m.row.set.toArray⟩ ao x.m.ats.length ac
  change Bsl w2.drew (.slice so x.m.row.set.length sc) x.m.row.set at hsb
  change w2.cell? ⟨w.heap.size, 38, none⟩ = some (.slice so x.m.row.set.length sc) at c38
  refine wp_region_E 25 (fun w' => w'.cell? ⟨w.heap.size, 0, none⟩ = some (.int .i64 x.m.kind) ∧ w'.cell? ⟨w.heap.size, 1, none⟩ = some (.int .i64 x.m.frm) ∧ w'.cell? ⟨w.heap.size, 2, none⟩ = some (.int .i64 x.m.ask) ∧ w'.cell? ⟨w.heap.size, 3, none⟩ = some (.int .i64 x.m.err) ∧ w'.cell? ⟨w.heap.size, 4, none⟩ = some (.int .i64 x.m.hold) ∧ w'.cell? ⟨w.heap.size, 5, none⟩ = some (.int .i64 x.m.level) ∧ w'.cell? ⟨w.heap.size, 38, none⟩ = some (.slice so x.m.row.set.length sc) ∧ w'.cell? ⟨w.heap.size, 39, none⟩ = some (.slice ao x.m.ats.length ac) ∧ Bsl w' (.slice (some ⟨w.heap.size, 6, none⟩) 32 32) x.m.row.key ∧ Bsl w' (.slice so x.m.row.set.length sc) x.m.row.set) (by kernel_rfl) ?_
  have hS0 := And.intro c0 (And.intro c1 (And.intro c2 (And.intro c3 (And.intro c4 (And.intro c5 (And.intro c38 (And.intro c39 (And.intro hkb hsb))))))))
  have HCC := Lib.hid (And.intro c40 c41)
  have hlt2 : w.heap.size < w2.drew.heap.size := (show w.heap.size < w2.heap.size by omega)
  have hSk := Lib.hid (fun (w' : World) (hb : Below w2.drew.heap.size w2.drew w') => And.intro ((hb.cell (p := ⟨w.heap.size, 0, none⟩) hlt2).trans c0) (And.intro ((hb.cell (p := ⟨w.heap.size, 1, none⟩) hlt2).trans c1) (And.intro ((hb.cell (p := ⟨w.heap.size, 2, none⟩) hlt2).trans c2) (And.intro ((hb.cell (p := ⟨w.heap.size, 3, none⟩) hlt2).trans c3) (And.intro ((hb.cell (p := ⟨w.heap.size, 4, none⟩) hlt2).trans c4) (And.intro ((hb.cell (p := ⟨w.heap.size, 5, none⟩) hlt2).trans c5) (And.intro ((hb.cell (p := ⟨w.heap.size, 38, none⟩) hlt2).trans c38) (And.intro ((hb.cell (p := ⟨w.heap.size, 39, none⟩) hlt2).trans c39) (And.intro (hkb.keep hb) (hsb.keep hb))))))))))
  clear c0 c1 c2 c3 c4 c5 c38 c39 c40 c41 hkb hsb hkr hrg
  refine wpAnyE_take (i := 0) (v := ?v_a0) rfl (by kernel_rfl) (by kernel_rfl) (by kernel_rfl) (by kernel_rfl) (by kernel_rfl) (fun _ _ _ h => h) (Or.inl ⟨by kernel_rfl, ?y_a0⟩) (by assumption) ?r_a0
  case y_a0 => intro wE hSw; obtain ⟨q0, q1, q2, q3, q4, q5, q38, q39, hk, hs⟩ := hSw; have hcv1 := run_str wE hk; have hcv2 := run_str wE hs; clear hk hs; go_simp; try with_reducible rfl
  case' r_a0 => ((try simp only [Act.put]); (try simp only [List.setIfInBounds_toArray]); (try simp only [List.set_cons_zero, List.set_cons_succ]))
  refine wpAnyE_take (i := 1) (v := ?v_a1) rfl (by kernel_rfl) (by kernel_rfl) (by kernel_rfl) (by kernel_rfl) (by kernel_rfl) (fun _ _ _ h => h) (Or.inl ⟨by kernel_rfl, ?y_a1⟩) (by assumption) ?r_a1
  case y_a1 => intro wE hSw; obtain ⟨q0, q1, q2, q3, q4, q5, q38, q39, hk, hs⟩ := hSw; have hcv1 := run_str wE hk; have hcv2 := run_str wE hs; clear hk hs; go_simp; try with_reducible rfl
  case' r_a1 => ((try simp only [Act.put]); (try simp only [List.setIfInBounds_toArray]); (try simp only [List.set_cons_zero, List.set_cons_succ]))
  refine wpAnyE_take (i := 2) (v := ?v_a2) rfl (by kernel_rfl) (by kernel_rfl) (by kernel_rfl) (by kernel_rfl) (by kernel_rfl) (fun _ _ _ h => h) (Or.inl ⟨by kernel_rfl, ?y_a2⟩) (by assumption) ?r_a2
  case y_a2 => intro wE hSw; obtain ⟨q0, q1, q2, q3, q4, q5, q38, q39, hk, hs⟩ := hSw; have hcv1 := run_str wE hk; have hcv2 := run_str wE hs; clear hk hs; go_simp; try with_reducible rfl
  case' r_a2 => ((try simp only [Act.put]); (try simp only [List.setIfInBounds_toArray]); (try simp only [List.set_cons_zero, List.set_cons_succ]))
  refine wpAnyE_take (i := 3) (v := ?v_a3) rfl (by kernel_rfl) (by kernel_rfl) (by kernel_rfl) (by kernel_rfl) (by kernel_rfl) (fun _ _ _ h => h) (Or.inl ⟨by kernel_rfl, ?y_a3⟩) (by assumption) ?r_a3
  case y_a3 => intro wE hSw; obtain ⟨q0, q1, q2, q3, q4, q5, q38, q39, hk, hs⟩ := hSw; have hcv1 := run_str wE hk; have hcv2 := run_str wE hs; clear hk hs; go_simp; try with_reducible rfl
  case' r_a3 => ((try simp only [Act.put]); (try simp only [List.setIfInBounds_toArray]); (try simp only [List.set_cons_zero, List.set_cons_succ]))
  refine wpAnyE_take (i := 4) (v := ?v_a4) rfl (by kernel_rfl) (by kernel_rfl) (by kernel_rfl) (by kernel_rfl) (by kernel_rfl) (fun _ _ _ h => h) (Or.inl ⟨by kernel_rfl, ?y_a4⟩) (by assumption) ?r_a4
  case y_a4 => intro wE hSw; obtain ⟨q0, q1, q2, q3, q4, q5, q38, q39, hk, hs⟩ := hSw; have hcv1 := run_str wE hk; have hcv2 := run_str wE hs; clear hk hs; go_simp; try with_reducible rfl
  case' r_a4 => ((try simp only [Act.put]); (try simp only [List.setIfInBounds_toArray]); (try simp only [List.set_cons_zero, List.set_cons_succ]))
  refine wpAnyE_take (i := 5) (v := ?v_a5) rfl (by kernel_rfl) (by kernel_rfl) (by kernel_rfl) (by kernel_rfl) (by kernel_rfl) (fun _ _ _ h => h) (Or.inl ⟨by kernel_rfl, ?y_a5⟩) (by assumption) ?r_a5
  case y_a5 => intro wE hSw; obtain ⟨q0, q1, q2, q3, q4, q5, q38, q39, hk, hs⟩ := hSw; have hcv1 := run_str wE hk; have hcv2 := run_str wE hs; clear hk hs; go_simp; try with_reducible rfl
  case' r_a5 => ((try simp only [Act.put]); (try simp only [List.setIfInBounds_toArray]); (try simp only [List.set_cons_zero, List.set_cons_succ]))
  refine wpAnyE_take (i := 6) (v := ?v_a6) rfl (by kernel_rfl) (by kernel_rfl) (by kernel_rfl) (by kernel_rfl) (by kernel_rfl) (fun _ _ _ h => h) (Or.inl ⟨by kernel_rfl, ?y_a6⟩) (by assumption) ?r_a6
  case y_a6 => intro wE hSw; obtain ⟨q0, q1, q2, q3, q4, q5, q38, q39, hk, hs⟩ := hSw; have hcv1 := run_str wE hk; have hcv2 := run_str wE hs; clear hk hs; go_simp; try with_reducible rfl
  case' r_a6 => ((try simp only [Act.put]); (try simp only [List.setIfInBounds_toArray]); (try simp only [List.set_cons_zero, List.set_cons_succ]))
  refine wpAnyE_take (i := 7) (v := ?v_a7) rfl (by kernel_rfl) (by kernel_rfl) (by kernel_rfl) (by kernel_rfl) (by kernel_rfl) (fun _ _ _ h => h) (Or.inl ⟨by kernel_rfl, ?y_a7⟩) (by assumption) ?r_a7
  case y_a7 => intro wE hSw; obtain ⟨q0, q1, q2, q3, q4, q5, q38, q39, hk, hs⟩ := hSw; have hcv1 := run_str wE hk; have hcv2 := run_str wE hs; clear hk hs; go_simp; try with_reducible rfl
  case' r_a7 => ((try simp only [Act.put]); (try simp only [List.setIfInBounds_toArray]); (try simp only [List.set_cons_zero, List.set_cons_succ]))
  refine wpAnyE_take (i := 8) (v := ?v_a8) rfl (by kernel_rfl) (by kernel_rfl) (by kernel_rfl) (by kernel_rfl) (by kernel_rfl) (fun _ _ _ h => h) (Or.inl ⟨by kernel_rfl, ?y_a8⟩) (by assumption) ?r_a8
  case y_a8 => intro wE hSw; obtain ⟨q0, q1, q2, q3, q4, q5, q38, q39, hk, hs⟩ := hSw; have hcv1 := run_str wE hk; have hcv2 := run_str wE hs; clear hk hs; go_simp; try with_reducible rfl
  case' r_a8 => ((try simp only [Act.put]); (try simp only [List.setIfInBounds_toArray]); (try simp only [List.set_cons_zero, List.set_cons_succ]))
  refine wpAnyE_take (i := 9) (v := ?v_a9) rfl (by kernel_rfl) (by kernel_rfl) (by kernel_rfl) (by kernel_rfl) (by kernel_rfl) (fun _ _ _ h => h) (Or.inl ⟨by kernel_rfl, ?y_a9⟩) (by assumption) ?r_a9
  case y_a9 => intro wE hSw; obtain ⟨q0, q1, q2, q3, q4, q5, q38, q39, hk, hs⟩ := hSw; have hcv1 := run_str wE hk; have hcv2 := run_str wE hs; clear hk hs; go_simp; try with_reducible rfl
  case' r_a9 => ((try simp only [Act.put]); (try simp only [List.setIfInBounds_toArray]); (try simp only [List.set_cons_zero, List.set_cons_succ]))
  refine wpAnyE_take (i := 10) (v := ?v_a10) rfl (by kernel_rfl) (by kernel_rfl) (by kernel_rfl) (by kernel_rfl) (by kernel_rfl) (fun _ _ _ h => h) (Or.inl ⟨by kernel_rfl, ?y_a10⟩) (by assumption) ?r_a10
  case y_a10 => intro wE hSw; obtain ⟨q0, q1, q2, q3, q4, q5, q38, q39, hk, hs⟩ := hSw; have hcv1 := run_str wE hk; have hcv2 := run_str wE hs; clear hk hs; go_simp; try with_reducible rfl
  case' r_a10 => ((try simp only [Act.put]); (try simp only [List.setIfInBounds_toArray]); (try simp only [List.set_cons_zero, List.set_cons_succ]))
  refine wpAnyE_take (i := 11) (v := ?v_a11) rfl (by kernel_rfl) (by kernel_rfl) (by kernel_rfl) (by kernel_rfl) (by kernel_rfl) (fun _ _ _ h => h) (Or.inl ⟨by kernel_rfl, ?y_a11⟩) (by assumption) ?r_a11
  case y_a11 => intro wE hSw; obtain ⟨q0, q1, q2, q3, q4, q5, q38, q39, hk, hs⟩ := hSw; have hcv1 := run_str wE hk; have hcv2 := run_str wE hs; clear hk hs; go_simp; try with_reducible rfl
  case' r_a11 => ((try simp only [Act.put]); (try simp only [List.setIfInBounds_toArray]); (try simp only [List.set_cons_zero, List.set_cons_succ]))
  refine wpAnyE_take (i := 12) (v := ?v_a12) rfl (by kernel_rfl) (by kernel_rfl) (by kernel_rfl) (by kernel_rfl) (by kernel_rfl) (fun _ _ _ h => h) (Or.inl ⟨by kernel_rfl, ?y_a12⟩) (by assumption) ?r_a12
  case y_a12 => intro wE hSw; obtain ⟨q0, q1, q2, q3, q4, q5, q38, q39, hk, hs⟩ := hSw; have hcv1 := run_str wE hk; have hcv2 := run_str wE hs; clear hk hs; go_simp; try with_reducible rfl
  case' r_a12 => ((try simp only [Act.put]); (try simp only [List.setIfInBounds_toArray]); (try simp only [List.set_cons_zero, List.set_cons_succ]))
  refine wpAnyE_take (i := 13) (v := ?v_a13) rfl (by kernel_rfl) (by kernel_rfl) (by kernel_rfl) (by kernel_rfl) (by kernel_rfl) (fun _ _ _ h => h) (Or.inl ⟨by kernel_rfl, ?y_a13⟩) (by assumption) ?r_a13
  case y_a13 => intro wE hSw; obtain ⟨q0, q1, q2, q3, q4, q5, q38, q39, hk, hs⟩ := hSw; have hcv1 := run_str wE hk; have hcv2 := run_str wE hs; clear hk hs; go_simp; try with_reducible rfl
  case' r_a13 => ((try simp only [Act.put]); (try simp only [List.setIfInBounds_toArray]); (try simp only [List.set_cons_zero, List.set_cons_succ]))
  refine wpAnyE_take (i := 14) (v := ?v_a14) rfl (by kernel_rfl) (by kernel_rfl) (by kernel_rfl) (by kernel_rfl) (by kernel_rfl) (fun _ _ _ h => h) (Or.inl ⟨by kernel_rfl, ?y_a14⟩) (by assumption) ?r_a14
  case y_a14 => intro wE hSw; obtain ⟨q0, q1, q2, q3, q4, q5, q38, q39, hk, hs⟩ := hSw; have hcv1 := run_str wE hk; have hcv2 := run_str wE hs; clear hk hs; go_simp; try with_reducible rfl
  case' r_a14 => ((try simp only [Act.put]); (try simp only [List.setIfInBounds_toArray]); (try simp only [List.set_cons_zero, List.set_cons_succ]))
  refine wpAnyE_take (i := 15) (v := ?v_a15) rfl (by kernel_rfl) (by kernel_rfl) (by kernel_rfl) (by kernel_rfl) (by kernel_rfl) (fun _ _ _ h => h) (Or.inl ⟨by kernel_rfl, ?y_a15⟩) (by assumption) ?r_a15
  case y_a15 => intro wE hSw; obtain ⟨q0, q1, q2, q3, q4, q5, q38, q39, hk, hs⟩ := hSw; have hcv1 := run_str wE hk; have hcv2 := run_str wE hs; clear hk hs; go_simp; try with_reducible rfl
  case' r_a15 => ((try simp only [Act.put]); (try simp only [List.setIfInBounds_toArray]); (try simp only [List.set_cons_zero, List.set_cons_succ]))
  refine wpAnyE_take (i := 16) (v := ?v_a16) rfl (by kernel_rfl) (by kernel_rfl) (by kernel_rfl) (by kernel_rfl) (by kernel_rfl) (fun _ _ _ h => h) (Or.inl ⟨by kernel_rfl, ?y_a16⟩) (by assumption) ?r_a16
  case y_a16 => intro wE hSw; obtain ⟨q0, q1, q2, q3, q4, q5, q38, q39, hk, hs⟩ := hSw; have hcv1 := run_str wE hk; have hcv2 := run_str wE hs; clear hk hs; go_simp; try with_reducible rfl
  case' r_a16 => ((try simp only [Act.put]); (try simp only [List.setIfInBounds_toArray]); (try simp only [List.set_cons_zero, List.set_cons_succ]))
  refine wpAnyE_take (i := 17) (v := ?v_a17) rfl (by kernel_rfl) (by kernel_rfl) (by kernel_rfl) (by kernel_rfl) (by kernel_rfl) (fun _ _ _ h => h) (Or.inl ⟨by kernel_rfl, ?y_a17⟩) (by assumption) ?r_a17
  case y_a17 => intro wE hSw; obtain ⟨q0, q1, q2, q3, q4, q5, q38, q39, hk, hs⟩ := hSw; have hcv1 := run_str wE hk; have hcv2 := run_str wE hs; clear hk hs; go_simp; try with_reducible rfl
  case' r_a17 => ((try simp only [Act.put]); (try simp only [List.setIfInBounds_toArray]); (try simp only [List.set_cons_zero, List.set_cons_succ]))
  refine wpAnyE_take (i := 18) (v := ?v_a18) rfl (by kernel_rfl) (by kernel_rfl) (by kernel_rfl) (by kernel_rfl) (by kernel_rfl) (fun _ _ _ h => h) (Or.inl ⟨by kernel_rfl, ?y_a18⟩) (by assumption) ?r_a18
  case y_a18 => intro wE hSw; obtain ⟨q0, q1, q2, q3, q4, q5, q38, q39, hk, hs⟩ := hSw; have hcv1 := run_str wE hk; have hcv2 := run_str wE hs; clear hk hs; go_simp; try with_reducible rfl
  case' r_a18 => ((try simp only [Act.put]); (try simp only [List.setIfInBounds_toArray]); (try simp only [List.set_cons_zero, List.set_cons_succ]))
  refine wpAnyE_take (i := 19) (v := ?v_a19) rfl (by kernel_rfl) (by kernel_rfl) (by kernel_rfl) (by kernel_rfl) (by kernel_rfl) (fun _ _ _ h => h) (Or.inl ⟨by kernel_rfl, ?y_a19⟩) (by assumption) ?r_a19
  case y_a19 => intro wE hSw; obtain ⟨q0, q1, q2, q3, q4, q5, q38, q39, hk, hs⟩ := hSw; have hcv1 := run_str wE hk; have hcv2 := run_str wE hs; clear hk hs; go_simp; try with_reducible rfl
  case' r_a19 => ((try simp only [Act.put]); (try simp only [List.setIfInBounds_toArray]); (try simp only [List.set_cons_zero, List.set_cons_succ]))
  refine wpAnyE_take (i := 20) (v := ?v_a20) rfl (by kernel_rfl) (by kernel_rfl) (by kernel_rfl) (by kernel_rfl) (by kernel_rfl) (fun _ _ _ h => h) (Or.inl ⟨by kernel_rfl, ?y_a20⟩) (by assumption) ?r_a20
  case y_a20 => intro wE hSw; obtain ⟨q0, q1, q2, q3, q4, q5, q38, q39, hk, hs⟩ := hSw; have hcv1 := run_str wE hk; have hcv2 := run_str wE hs; clear hk hs; go_simp; try with_reducible rfl
  case' r_a20 => ((try simp only [Act.put]); (try simp only [List.setIfInBounds_toArray]); (try simp only [List.set_cons_zero, List.set_cons_succ]))
  refine wpAnyE_take (i := 21) (v := ?v_a21) rfl (by kernel_rfl) (by kernel_rfl) (by kernel_rfl) (by kernel_rfl) (by kernel_rfl) (fun _ _ _ h => h) (Or.inl ⟨by kernel_rfl, ?y_a21⟩) (by assumption) ?r_a21
  case y_a21 => intro wE hSw; obtain ⟨q0, q1, q2, q3, q4, q5, q38, q39, hk, hs⟩ := hSw; have hcv1 := run_str wE hk; have hcv2 := run_str wE hs; clear hk hs; go_simp; try with_reducible rfl
  case' r_a21 => ((try simp only [Act.put]); (try simp only [List.setIfInBounds_toArray]); (try simp only [List.set_cons_zero, List.set_cons_succ]))
  refine wpAnyE_take (i := 22) (v := ?v_a22) rfl (by kernel_rfl) (by kernel_rfl) (by kernel_rfl) (by kernel_rfl) (by kernel_rfl) (fun _ _ _ h => h) (Or.inl ⟨by kernel_rfl, ?y_a22⟩) (by assumption) ?r_a22
  case y_a22 => intro wE hSw; obtain ⟨q0, q1, q2, q3, q4, q5, q38, q39, hk, hs⟩ := hSw; have hcv1 := run_str wE hk; have hcv2 := run_str wE hs; clear hk hs; go_simp; try with_reducible rfl
  case' r_a22 => ((try simp only [Act.put]); (try simp only [List.setIfInBounds_toArray]); (try simp only [List.set_cons_zero, List.set_cons_succ]))
  refine wpAnyE_take (i := 23) (v := ?v_a23) rfl (by kernel_rfl) (by kernel_rfl) (by kernel_rfl) (by kernel_rfl) (by kernel_rfl) (fun _ _ _ h => h) (Or.inl ⟨by kernel_rfl, ?y_a23⟩) (by assumption) ?r_a23
  case y_a23 => intro wE hSw; obtain ⟨q0, q1, q2, q3, q4, q5, q38, q39, hk, hs⟩ := hSw; have hcv1 := run_str wE hk; have hcv2 := run_str wE hs; clear hk hs; go_simp; try with_reducible rfl
  case' r_a23 => ((try simp only [Act.put]); (try simp only [List.setIfInBounds_toArray]); (try simp only [List.set_cons_zero, List.set_cons_succ]))
  refine wpAnyE_ready (rs := [24]) (by kernel_rfl) (by simp) ?_
  refine AllReadyE.cons rfl (fun KA hKA => ?_) AllReadyE.nil
  rw [if_pos (by kernel_rfl)]
  go_simp
  have hA3 : Below w2.drew.heap.size w2.drew (w2.alloc (.cells cz.toArray 28)).drew := ((Below.refl _ _).alloc (Nat.le_refl _) _ : Below w2.drew.heap.size w2.drew (w2.drew.alloc (.cells cz.toArray 28)))
  refine hKA _ _ (fun _ => hSk.out _ hA3) ?_
  clear hKA KA hS0
  obtain ⟨x0, hx0⟩ : ∃ x0 : FV, x0 = ⟨⟨x.m.kind, x.m.frm, x.m.ask, x.m.err, x.m.hold, x.m.level, x.m.row, x.m.ats, [], []⟩, .slice ao x.m.ats.length ac, .slice none 0 0, .slice none 0 0⟩ := ⟨_, rfl⟩
  have hx0C : x0.C = [.int .i64 x.m.kind, .int .i64 x.m.frm, .int .i64 x.m.ask, .int .i64 x.m.err, .int .i64 x.m.hold, .int .i64 x.m.level, .string ⟨x.m.row.key.toArray⟩, .string ⟨x.m.row.set.toArray⟩, .slice ao x.m.ats.length ac, .slice none 0 0, .slice none 0 0] := by rw [hx0]; rfl
  have hx0l : x0.C.length = cz.length := by rw [hx0C, hzl]; rfl
  have hone0 : ∀ u ∈ x0.C, u.oneCell' = true := by
    rw [hx0C]
    intro u hu
    simp only [List.mem_cons, List.not_mem_nil, or_false] at hu
    rcases hu with rfl | rfl | rfl | rfl | rfl | rfl | rfl | rfl | rfl | rfl | rfl <;> rfl
  have ht3 := there_new w2.drew cz 28
  have hst0 := run_stT bigX (w2.drew.alloc (.cells cz.toArray 28)) (w.heap.size + 2) 0 x0.C (by rw [hx0l, ← hs2]; exact ht3) (by rw [hx0l, hzl]; rfl) hone0
  obtain ⟨hq3, hB3, hs3, htq3⟩ := var_new w2.drew cz x0.C 28 hx0l
  rw [hzl] at htq3
  have hs2d : w2.drew.heap.size = w.heap.size + 2 := hs2
  rw [hs2d] at hq3 hB3 hs3 htq3
  have hB3w := hB2.trans ((Below.of_drew hB3).mono (show w.heap.size ≤ w.heap.size + 2 by omega))
  have hst : (stT 28 (.pointer (some ⟨w.heap.size + 2, 0, none⟩)) (.agg x0.C.toArray)).run Try.prog (w2.alloc (.cells cz.toArray 28)).drew = .ok () ((w2.drew.alloc (.cells cz.toArray 28)).setCells (w.heap.size + 2) 0 x0.C) := hst0
  clear hst0
  generalize hW3 : (w2.drew.alloc (.cells cz.toArray 28)).setCells (w.heap.size + 2) 0 x0.C = w3 at *
  rw [hx0C] at hst
  refine wpAnyE_ready (rs := [25]) (by kernel_rfl) (by simp) ?_
  refine AllReadyE.cons rfl (fun KB hKB => ?_) AllReadyE.nil
  rw [if_pos (by kernel_rfl)]
  go_simp
  refine hKB _ _ (fun h => Bool.noConfusion (show true = false from h)) ?_
  clear hKB KB
  refine wpAnyE_done (by kernel_rfl) ?_ _
  clear hst ht3 hA3 hSk hbl hal0

  have ty3 : w3.there (w.heap.size + 1) 0 11 := there_only ty2 (Only.of_below (S := fun _ => False) (show Below w2.heap.size w2 w3 from hs2.symm ▸ Below.of_drew hB3)) (fun h => h)
  have hbx3 := rangeAt_keep hbx2 (show Below w2.heap.size w2 w3 from hs2.symm ▸ Below.of_drew hB3)
  have c40 : w3.cell? ⟨w.heap.size, 40, none⟩ = some (.slice do_ x.m.digs.length dc) := by have := (MV.range hbx3 hK.1).2.2.2.1; rwa [hdv] at this
  have c41 : w3.cell? ⟨w.heap.size, 41, none⟩ = some (.slice ro x.ys.length rc) := by have := (MV.range hbx3 hK.1).2.2.2.2; rwa [hrv] at this
  have hs3w : w3.heap.size = w.heap.size + 3 := by omega
  clear hbx2 hbx3 hB3 hW3 HCC hlt2 hs2 hs2d ty2 hB2
  obtain ⟨it, zz, hti, htz, hzc, hsz1, hby⟩ := Try.str_parts
  obtain ⟨q, hq⟩ : ∃ q, w.heap.size + 2 = q := ⟨_, rfl⟩
  have hql : q < w3.heap.size := by omega
  rw [hq] at hq3 htq3 hs3
  go_wp2_with fail
  rw [hq]
  have haR := (hats.keep hB3w)
  rw [hav] at haR
  go_loopw [4] (fun j wr => ∃ (i : Nat) (ds : List (List UInt8)) (dvv : Value), i ≤ x.m.digs.length ∧ j = .int .i64 i ∧ ds = x.m.digs.take i ∧ RW wr w3.heap.size 9 1 dvv (ds.map strC) ∧
    wr.rangeAt q 0 (FV.C ⟨⟨x.m.kind, x.m.frm, x.m.ask, x.m.err, x.m.hold, x.m.level, x.m.row, x.m.ats, ds, []⟩, .slice ao x.m.ats.length ac, dvv, .slice none 0 0⟩) ∧ wr.there q 0 11 ∧ Only (fun k => k = q) w3 wr) (fun j _ => x.m.digs.length - (intOf j).toNat)
  case atStart => exact ⟨0, [], .slice none 0 0, Nat.zero_le _, rfl, by simp, RW.nil _ _ _ _, hx0 ▸ hq3, htq3, Only.refl _ _⟩
  case round =>
    obtain ⟨i, ds, dvv, hi, rfl, hds, hR, hqr, htr, hEr⟩ := hrel
    have hszr := hEr.size
    have c40r := (hEr.cell (p := ⟨w.heap.size, 40, none⟩) (show w.heap.size < w3.heap.size by omega) (show ¬ w.heap.size = q by omega)).trans c40
    have c41r := (hEr.cell (p := ⟨w.heap.size, 41, none⟩) (show w.heap.size < w3.heap.size by omega) (show ¬ w.heap.size = q by omega)).trans c41
    have hi0 : (0 : Int) ≤ i := Int.natCast_nonneg _
    have hdsl : ds.length = i := by rw [hds, List.length_take]; omega
    obtain ⟨ro3, rc3, hvv, hz1, hz2, hz3⟩ := hR.val
    clear hz1 hz2 hz3
    rw [List.length_map] at hvv
    subst hvv
    by_cases hlt : i < x.m.digs.length
    · have hlt2 : (i : Int) < x.m.digs.length := by omega
      obtain ⟨ga, oa, rfl, hcl⟩ := hdd (fun e => by rw [e] at hlt; simp at hlt)
      have hBw : Below w.heap.size w wr := hB3w.trans (hEr.to_below (by omega) (fun k hk => by omega))
      have hcell := rangeAt_keep (hcl i hlt) hBw
      have hd32 := hK.2.1 x.m.digs[i] (List.getElem_mem hlt)
      have hf : ds ++ [x.m.digs[i]] = x.m.digs.take (i + 1) := by rw [hds, List.take_succ_eq_append_getElem hlt]
      have hgal : ga < w.heap.size := World.block_lt_of_cell? w ⟨ga, oa + i * 32 + 0, none⟩ (hcl i hlt 0 (bv (x.m.digs[i].getD 0 0)) (by rw [List.getElem?_map, List.getElem?_eq_getElem (by omega)]; simp [List.getD, List.getElem?_eq_getElem (show 0 < x.m.digs[i].length by omega)]))
      generalize x.m.digs[i] = dg at *
      have hbd : Bsl wr.drew (.slice (some ⟨ga, oa + i * 32, none⟩) 32 32) dg := Bsl.of_range hcell hd32.symm (by omega)
      have c9 : wr.drew.cell? ⟨q, 9, none⟩ = some (.slice ro3 ds.length rc3) := by have := hqr 9 (.slice ro3 ds.length rc3) rfl; simpa using this
      have f9 := there_cell htr 9 (by omega)
      have hlm : (ds.map strC).length + 1 ≤ 100000000 := by rw [List.length_map, hdsl]; have := hbig.2.2.2.2.1; omega
      have hA : Below wr.drew.heap.size wr.drew (wr.alloc (.cells #[.string ⟨dg.toArray⟩] 9)).drew := ((Below.refl _ _).alloc (Nat.le_refl _) _ : Below wr.drew.heap.size wr.drew (wr.drew.alloc (.cells #[.string ⟨dg.toArray⟩] 9)))
      have hsrcA : (wr.alloc (.cells #[.string ⟨dg.toArray⟩] 9)).drew.rangeAt wr.heap.size 0 [.string ⟨dg.toArray⟩] := rangeAt_alloc_new wr.drew [.string ⟨dg.toArray⟩] 9
      have hRA := (hR.drew).keep hA
      have hqlr : q < wr.drew.heap.size := (show q < wr.heap.size by omega)
      have hblr : w.heap.size < wr.drew.heap.size := (show w.heap.size < wr.heap.size by omega)
      have hge2 : w3.heap.size ≤ (wr.alloc (.cells #[.string ⟨dg.toArray⟩] 9)).drew.heap.size := Nat.le_trans hszr hA.size
      have hROq : ∀ k, (Value.slice ro3 ds.length rc3).ownBlock = some k → ¬ k = q := fun k hk e => by have := hR.own_ge k hk; omega
      have HX := Lib.hid (And.intro hqr (And.intro htr (And.intro hEr (And.intro hR (And.intro hds (And.intro hf hBw))))))
      have c40d : wr.drew.cell? ⟨w.heap.size, 40, none⟩ = some (.slice (some ⟨ga, oa, none⟩) x.m.digs.length dc) := c40r
      clear hqr htr hEr hR hds hcell hcl hBw c41r haR
      rw [hdsl] at c9 hRA hROq
      go_upto_region 5 with (fail)
      clear c40r
      refine wp_region_E 11 (fun w' => w'.cell? ⟨q, 9, none⟩ = some (.slice ro3 i rc3) ∧ w'.cell? ⟨w.heap.size, 40, none⟩ = some (.slice (some ⟨ga, oa, none⟩) x.m.digs.length dc) ∧ Bsl w' (.slice (some ⟨ga, oa + i * 32, none⟩) 32 32) dg) (by kernel_rfl) ?_
      have hS0 := And.intro c9 (And.intro c40d hbd)
      refine wpAnyE_take (i := 0) (v := ?v_c0) rfl (by kernel_rfl) (by kernel_rfl) (by kernel_rfl) (by kernel_rfl) (by kernel_rfl) (fun _ _ _ h => h) (Or.inl ⟨by kernel_rfl, ?y_c0⟩) (by assumption) ?r_c0
      case y_c0 => intro wE hSw; obtain ⟨q0, q1, hk⟩ := hSw; have hcv1 := run_str wE hk; clear hk; go_simp; try with_reducible rfl
      case' r_c0 => ((try simp only [Act.put]); (try simp only [List.setIfInBounds_toArray]); (try simp only [List.set_cons_zero, List.set_cons_succ]))
      refine wpAnyE_take (i := 1) (v := ?v_c1) rfl (by kernel_rfl) (by kernel_rfl) (by kernel_rfl) (by kernel_rfl) (by kernel_rfl) (fun _ _ _ h => h) (Or.inl ⟨by kernel_rfl, ?y_c1⟩) (by assumption) ?r_c1
      case y_c1 => intro wE hSw; obtain ⟨q0, q1, hk⟩ := hSw; have hcv1 := run_str wE hk; clear hk; go_simp; try with_reducible rfl
      case' r_c1 => ((try simp only [Act.put]); (try simp only [List.setIfInBounds_toArray]); (try simp only [List.set_cons_zero, List.set_cons_succ]))
      refine wpAnyE_take (i := 2) (v := ?v_c2) rfl (by kernel_rfl) (by kernel_rfl) (by kernel_rfl) (by kernel_rfl) (by kernel_rfl) (fun _ _ _ h => h) (Or.inl ⟨by kernel_rfl, ?y_c2⟩) (by assumption) ?r_c2
      case y_c2 => intro wE hSw; obtain ⟨q0, q1, hk⟩ := hSw; have hcv1 := run_str wE hk; clear hk; go_simp; try with_reducible rfl
      case' r_c2 => ((try simp only [Act.put]); (try simp only [List.setIfInBounds_toArray]); (try simp only [List.set_cons_zero, List.set_cons_succ]))
      refine wpAnyE_take (i := 3) (v := ?v_c3) rfl (by kernel_rfl) (by kernel_rfl) (by kernel_rfl) (by kernel_rfl) (by kernel_rfl) (fun _ _ _ h => h) (Or.inl ⟨by kernel_rfl, ?y_c3⟩) (by assumption) ?r_c3
      case y_c3 => intro wE hSw; obtain ⟨q0, q1, hk⟩ := hSw; have hcv1 := run_str wE hk; clear hk; go_simp; try with_reducible rfl
      case' r_c3 => ((try simp only [Act.put]); (try simp only [List.setIfInBounds_toArray]); (try simp only [List.set_cons_zero, List.set_cons_succ]))
      refine wpAnyE_take (i := 4) (v := ?v_c4) rfl (by kernel_rfl) (by kernel_rfl) (by kernel_rfl) (by kernel_rfl) (by kernel_rfl) (fun _ _ _ h => h) (Or.inl ⟨by kernel_rfl, ?y_c4⟩) (by assumption) ?r_c4
      case y_c4 => intro wE hSw; obtain ⟨q0, q1, hk⟩ := hSw; have hcv1 := run_str wE hk; clear hk; go_simp; try with_reducible rfl
      case' r_c4 => ((try simp only [Act.put]); (try simp only [List.setIfInBounds_toArray]); (try simp only [List.set_cons_zero, List.set_cons_succ]))
      refine wpAnyE_take (i := 5) (v := ?v_c5) rfl (by kernel_rfl) (by kernel_rfl) (by kernel_rfl) (by kernel_rfl) (by kernel_rfl) (fun _ _ _ h => h) (Or.inl ⟨by kernel_rfl, ?y_c5⟩) (by assumption) ?r_c5
      case y_c5 => intro wE hSw; obtain ⟨q0, q1, hk⟩ := hSw; have hcv1 := run_str wE hk; clear hk; go_simp; try with_reducible rfl
      case' r_c5 => ((try simp only [Act.put]); (try simp only [List.setIfInBounds_toArray]); (try simp only [List.set_cons_zero, List.set_cons_succ]))
      refine wpAnyE_take (i := 6) (v := ?v_c6) rfl (by kernel_rfl) (by kernel_rfl) (by kernel_rfl) (by kernel_rfl) (by kernel_rfl) (fun _ _ _ h => h) (Or.inl ⟨by kernel_rfl, ?y_c6⟩) (by assumption) ?r_c6
      case y_c6 => intro wE hSw; obtain ⟨q0, q1, hk⟩ := hSw; have hcv1 := run_str wE hk; clear hk; go_simp; try with_reducible rfl
      case' r_c6 => ((try simp only [Act.put]); (try simp only [List.setIfInBounds_toArray]); (try simp only [List.set_cons_zero, List.set_cons_succ]))
      refine wpAnyE_take (i := 7) (v := ?v_c7) rfl (by kernel_rfl) (by kernel_rfl) (by kernel_rfl) (by kernel_rfl) (by kernel_rfl) (fun _ _ _ h => h) (Or.inl ⟨by kernel_rfl, ?y_c7⟩) (by assumption) ?r_c7
      case y_c7 => intro wE hSw; obtain ⟨q0, q1, hk⟩ := hSw; have hcv1 := run_str wE hk; clear hk; go_simp; try with_reducible rfl
      case' r_c7 => ((try simp only [Act.put]); (try simp only [List.setIfInBounds_toArray]); (try simp only [List.set_cons_zero, List.set_cons_succ]))
      refine wpAnyE_ready (rs := [8]) (by kernel_rfl) (by simp) ?_
      refine AllReadyE.cons rfl (fun KC hKC => ?_) AllReadyE.nil
      rw [if_pos (by kernel_rfl)]
      go_simp
      refine hKC _ _ (fun _ => ⟨(hA.cell (p := ⟨q, 9, none⟩) hqlr).trans c9, (hA.cell (p := ⟨w.heap.size, 40, none⟩) hblr).trans c40d, hbd.keep hA⟩) ?_
      clear hKC KC hS0
      refine wpAnyE_ready (rs := [9]) (by kernel_rfl) (by simp) ?_
      refine AllReadyE.cons rfl (fun KD hKD => ?_) AllReadyE.nil
      refine step_appr rfl _ _ 25 rfl it zz Try.underlying25 hti htz hsz1 hby hzc (by omega) hRA hsrcA rfl (by intro u hu; simp at hu; subst hu; rfl) hlm hge2 (by rfl) (by rfl) ?_
      intro v18 w18 hR18 hg18 hn18
      have hqn : some q ≠ (Value.slice ro3 i rc3).ownBlock := fun e => hROq q e.symm rfl
      have hbn : some w.heap.size ≠ (Value.slice ro3 i rc3).ownBlock := fun e => by have := hRA.own_ge _ e.symm; omega
      have ho18 : Only (fun k => (Value.slice ro3 i rc3).ownBlock = some k) wr.drew w18 := (Only.of_below (S := fun k => (Value.slice ro3 i rc3).ownBlock = some k) hA).trans (Only.of_grown (S := fun k => (Value.slice ro3 i rc3).ownBlock = some k) hg18 (fun q h => h)) (fun _ _ h => h)
      have c9' := (ho18.cell (p := ⟨q, 9, none⟩) hqlr (fun e => hqn e.symm)).trans c9
      have f9' := (ho18.frozen (p := ⟨q, 9, none⟩) hqlr (fun e => hqn e.symm)).trans f9
      have hS1 := And.intro c9' (And.intro ((ho18.cell (p := ⟨w.heap.size, 40, none⟩) hblr (fun e => hbn e.symm)).trans c40d) (hbd.only' ho18 (fun _ k hk e => by have h1 : k = ga := (Option.some.inj hk).symm; have := hRA.own_ge k e; omega)))
      refine hKD _ _ (fun _ => hS1) ?_
      clear hKD KD
      ((simp only [Act.put]); (try simp only [List.setIfInBounds_toArray]); (try simp only [List.set_cons_zero, List.set_cons_succ]))
      refine wpAnyE_take (i := 10) (v := ?v_d10) rfl (by kernel_rfl) (by kernel_rfl) (by kernel_rfl) (by kernel_rfl) (by kernel_rfl) (fun _ _ _ h => h) (Or.inl ⟨by kernel_rfl, ?y_d10⟩) (by assumption) ?r_d10
      case y_d10 => intro wE hSw; obtain ⟨q0, q1, hk⟩ := hSw; have hcv1 := run_str wE hk; clear hk; go_simp; try with_reducible rfl
      case' r_d10 => ((try simp only [Act.put]); (try simp only [List.setIfInBounds_toArray]); (try simp only [List.set_cons_zero, List.set_cons_succ]))
      obtain ⟨ao8, cap8, hv18, hz1, hz2, hz3⟩ := hR18.val
      clear hz1 hz2 hz3
      simp only [List.length_append, List.length_map, List.length_cons, List.length_nil, Nat.zero_add, hdsl] at hv18
      subst hv18
      refine wpAnyE_ready (rs := [11]) (by kernel_rfl) (by simp) ?_
      refine AllReadyE.cons rfl (fun KE hKE => ?_) AllReadyE.nil
      rw [if_pos (by kernel_rfl)]
      go_simp
      refine hKE _ _ (fun h => Bool.noConfusion (show true = false from h)) ?_
      clear hKE KE
      refine wpAnyE_done (by kernel_rfl) ?_ _
      obtain ⟨hqr, htr, hEr, hR, hds, hf, hBw⟩ := HX.out
      have ho18' := Only.of_drew ho18
      have ho19 := Only.set1 w18 q 9 (.slice ao8 (i + 1) cap8)
      have hqr18 := rangeAt_only hqr ho18' (fun e => hqn e.symm)
      have hq19 := Fset (y := ⟨⟨x.m.kind, x.m.frm, x.m.ask, x.m.err, x.m.hold, x.m.level, x.m.row, x.m.ats, ds ++ [dg], []⟩, .slice ao x.m.ats.length ac, .slice ao8 (i + 1) cap8, .slice none 0 0⟩) hqr18 (j := 9) (v := .slice ao8 (i + 1) cap8) rfl
      have ht19 := there_set (there_only htr ho18' (fun e => hqn e.symm)) 9 (.slice ao8 (i + 1) cap8)
      have hsz18 := ho18'.size
      have hR19 := hR18.only ho19 (fun k hk e => hn18.elim (fun h => hROq k (h.symm.trans hk) e) (fun h => by have h2 := Option.some.inj (h.symm.trans hk); have h4 := hA.size; have h5 : k = q := e; rw [← h2] at h5; omega))
      have hE19 : Only (fun k => k = q) w3 (w18.setCell ⟨q, 9, none⟩ (.slice ao8 (i + 1) cap8)) := (hEr.trans ho18' (fun k hk e => by have := hRA.own_ge k e; omega)).trans ho19 (fun _ _ e => e)
      rw [show (ds.map strC) ++ [_] = (ds ++ [dg]).map strC by rw [List.map_append]; rfl] at hR19
      have HF := Lib.hid (And.intro hf (And.intro hR19 (And.intro hq19 (And.intro ht19 hE19))))
      clear hR19 hq19 ht19 hE19 hqr18 ho19 ho18' ho18 hR18 hg18 hn18 hqr htr hEr hR hds hf hBw hRA hsrcA hA hS1 c9' f9' hbd c9 f9 c40d HX
      go_wp2_with fail
      go_roundw
      case rel => exact ⟨i + 1, _, _, hlt, by go_num, HF.out.1, HF.out.2⟩
      case measure => simp [intOf]; omega
    · have hie : i = x.m.digs.length := by omega
      subst hie
      have hds2 : ds = x.m.digs := by rw [hds, List.take_of_length_le (Nat.le_refl _)]
      have hB4 : Below w.heap.size w wr := hB3w.trans (hEr.to_below (by omega) (fun k hk => by omega))
      have haR4 := hats.keep hB4
      rw [hav] at haR4
      have hql4 : q < wr.heap.size := by omega
      have hbl4 : w.heap.size < wr.heap.size := by omega
      have HD := Lib.hid (And.intro hds2 (And.intro haR4 hR))
      have ty4 := there_only ty3 hEr (show ¬ w.heap.size + 1 = q by omega)
      have HM := Lib.hid (And.intro hqr (And.intro htr (And.intro hB4 ty4)))
      clear ty4 ty3
      have hRge := hR.own_ge
      have hRlt := hR.own_lt
      clear hds haR4 hds2 haR hB4 hEr htr hqr hR hdd hdn hlt
      go_wp2_with fail
      generalize wr = w4 at *
      clear hti htz hzc hsz1 hby
      obtain ⟨it, zz, hti, htz, hzc, hsz1, hby⟩ := Try.row_parts
      go_loopw [5] (fun j wr => ∃ (i : Nat) (rs : List RwD) (dvv : Value), i ≤ x.ys.length ∧ j = .int .i64 i ∧ rs = (x.ys.take i).map RV.d ∧ RW wr w4.heap.size 23 2 dvv (rs.map rrC) ∧
        wr.rangeAt q 0 (FV.C ⟨⟨x.m.kind, x.m.frm, x.m.ask, x.m.err, x.m.hold, x.m.level, x.m.row, x.m.ats, ds, rs⟩, .slice ao x.m.ats.length ac, .slice ro3 ds.length rc3, dvv⟩) ∧ wr.there q 0 11 ∧ Only (fun k => k = q) w4 wr) (fun j _ => x.ys.length - (intOf j).toNat)
      case atStart => exact ⟨0, [], .slice none 0 0, Nat.zero_le _, rfl, by simp, RW.nil _ _ _ _, HM.out.1, HM.out.2.1, Only.refl _ _⟩
      case round =>
        obtain ⟨i, rs, dvv, hi, rfl, hrs, hR, hqr, htr, hEr⟩ := hrel
        have hszr := hEr.size
        have c41q := (hEr.cell (p := ⟨w.heap.size, 41, none⟩) hbl4 (show ¬ w.heap.size = q by omega)).trans c41r
        have hi0 : (0 : Int) ≤ i := Int.natCast_nonneg _
        have hrsl : rs.length = i := by rw [hrs, List.length_map, List.length_take]; omega
        obtain ⟨ro4, rc4, hvv, hz1, hz2, hz3⟩ := hR.val
        clear hz1 hz2 hz3
        rw [List.length_map] at hvv
        subst hvv
        by_cases hlt : i < x.ys.length
        · have hlt2 : (i : Int) < x.ys.length := by omega
          obtain ⟨ga, oa, rfl, hcl⟩ := hrr (fun e => by rw [e] at hlt; simp at hlt)
          have hBw : Below w.heap.size w wr := HM.out.2.2.1.trans (hEr.to_below (by omega) (fun k hk => by omega))
          have hcell := rangeAt_keep (hcl i hlt) hBw
          have hyA := hys x.ys[i] (List.getElem_mem hlt)
          have hf : rs ++ [x.ys[i].d] = (x.ys.take (i + 1)).map RV.d := by rw [hrs, List.take_succ_eq_append_getElem hlt, List.map_append]; rfl
          have hgal : ga < w.heap.size := World.block_lt_of_cell? w ⟨ga, oa + i * 33 + 32, none⟩ ((RV.range (hcl i hlt) hyA.1).2)
          generalize x.ys[i] = y at *
          obtain ⟨hkr, csv⟩ := RV.range hcell hyA.1
          have hbd : Bsl wr.drew (.slice (some ⟨ga, oa + i * 33, none⟩) 32 32) y.key := Bsl.of_range hkr hyA.1.symm (by rw [hyA.1]; omega)
          have hbs : Bsl wr.drew y.sv y.set := (hyA.2.keep hBw).keep (Below.refl _ _).drew
          obtain ⟨yo, yc, hyv⟩ := hyA.2.shape
          have hsvl := hyA.2.own_lt
          rw [hyv] at csv hbs hsvl
          have c10 : wr.drew.cell? ⟨q, 10, none⟩ = some (.slice ro4 rs.length rc4) := by have := hqr 10 (.slice ro4 rs.length rc4) rfl; simpa using this
          have f10 := there_cell htr 10 (by omega)
          have hlm : (rs.map rrC).length + 1 ≤ 100000000 := by rw [List.length_map, hrsl]; omega
          have hbT := run_bsT bigF Try.underlying26 wr.drew [.string ⟨y.key.toArray⟩, .string ⟨y.set.toArray⟩] rfl (by decide) (by decide)
          have hA : Below wr.drew.heap.size wr.drew (wr.alloc (.cells #[.string ⟨y.key.toArray⟩, .string ⟨y.set.toArray⟩] 23)).drew := ((Below.refl _ _).alloc (Nat.le_refl _) _ : Below wr.drew.heap.size wr.drew (wr.drew.alloc (.cells #[.string ⟨y.key.toArray⟩, .string ⟨y.set.toArray⟩] 23)))
          have hsrcA : (wr.alloc (.cells #[.string ⟨y.key.toArray⟩, .string ⟨y.set.toArray⟩] 23)).drew.rangeAt wr.heap.size 0 [.string ⟨y.key.toArray⟩, .string ⟨y.set.toArray⟩] := rangeAt_alloc_new wr.drew [.string ⟨y.key.toArray⟩, .string ⟨y.set.toArray⟩] 23
          have hRA := (hR.drew).keep hA
          have hqlr : q < wr.drew.heap.size := (show q < wr.heap.size by omega)
          have hblr : w.heap.size < wr.drew.heap.size := (show w.heap.size < wr.heap.size by omega)
          have hge2 : w4.heap.size ≤ (wr.alloc (.cells #[.string ⟨y.key.toArray⟩, .string ⟨y.set.toArray⟩] 23)).drew.heap.size := Nat.le_trans hszr hA.size
          have hROq : ∀ k, (Value.slice ro4 rs.length rc4).ownBlock = some k → ¬ k = q := fun k hk e => by have := hR.own_ge k hk; omega
          have HX := Lib.hid (And.intro hqr (And.intro htr (And.intro hEr (And.intro hR (And.intro hrs (And.intro hf hBw))))))
          have c41d : wr.drew.cell? ⟨w.heap.size, 41, none⟩ = some (.slice (some ⟨ga, oa, none⟩) x.ys.length rc) := c41q
          have csvd : wr.drew.cell? ⟨ga, oa + i * 33 + 32, none⟩ = some (.slice yo y.set.length yc) := csv
          have hgad : ga < wr.drew.heap.size := by omega
          clear hqr htr hEr hR hrs hcell hcl hBw hkr csv hyv hyA
          rw [hrsl] at c10 hRA hROq
          go_upto_region 9 with (fail)
          clear c41q
          refine wp_region_E 20 (fun w' => w'.cell? ⟨q, 10, none⟩ = some (.slice ro4 i rc4) ∧ w'.cell? ⟨w.heap.size, 41, none⟩ = some (.slice (some ⟨ga, oa, none⟩) x.ys.length rc) ∧ w'.cell? ⟨ga, oa + i * 33 + 32, none⟩ = some (.slice yo y.set.length yc) ∧ Bsl w' (.slice (some ⟨ga, oa + i * 33, none⟩) 32 32) y.key ∧ Bsl w' (.slice yo y.set.length yc) y.set) (by kernel_rfl) ?_
          have hS0 := And.intro c10 (And.intro c41d (And.intro csvd (And.intro hbd hbs)))
          refine wpAnyE_take (i := 0) (v := ?v_e0) rfl (by kernel_rfl) (by kernel_rfl) (by kernel_rfl) (by kernel_rfl) (by kernel_rfl) (fun _ _ _ h => h) (Or.inl ⟨by kernel_rfl, ?y_e0⟩) (by assumption) ?r_e0
          case y_e0 => intro wE hSw; obtain ⟨q0, q1, q2, hk, hs⟩ := hSw; have hcv1 := run_str wE hk; have hcv2 := run_str wE hs; clear hk hs; go_simp; try with_reducible rfl
          case' r_e0 => ((try simp only [Act.put]); (try simp only [List.setIfInBounds_toArray]); (try simp only [List.set_cons_zero, List.set_cons_succ]))
          refine wpAnyE_take (i := 1) (v := ?v_e1) rfl (by kernel_rfl) (by kernel_rfl) (by kernel_rfl) (by kernel_rfl) (by kernel_rfl) (fun _ _ _ h => h) (Or.inl ⟨by kernel_rfl, ?y_e1⟩) (by assumption) ?r_e1
          case y_e1 => intro wE hSw; obtain ⟨q0, q1, q2, hk, hs⟩ := hSw; have hcv1 := run_str wE hk; have hcv2 := run_str wE hs; clear hk hs; go_simp; try with_reducible rfl
          case' r_e1 => ((try simp only [Act.put]); (try simp only [List.setIfInBounds_toArray]); (try simp only [List.set_cons_zero, List.set_cons_succ]))
          refine wpAnyE_take (i := 2) (v := ?v_e2) rfl (by kernel_rfl) (by kernel_rfl) (by kernel_rfl) (by kernel_rfl) (by kernel_rfl) (fun _ _ _ h => h) (Or.inl ⟨by kernel_rfl, ?y_e2⟩) (by assumption) ?r_e2
          case y_e2 => intro wE hSw; obtain ⟨q0, q1, q2, hk, hs⟩ := hSw; have hcv1 := run_str wE hk; have hcv2 := run_str wE hs; clear hk hs; go_simp; try with_reducible rfl
          case' r_e2 => ((try simp only [Act.put]); (try simp only [List.setIfInBounds_toArray]); (try simp only [List.set_cons_zero, List.set_cons_succ]))
          refine wpAnyE_take (i := 3) (v := ?v_e3) rfl (by kernel_rfl) (by kernel_rfl) (by kernel_rfl) (by kernel_rfl) (by kernel_rfl) (fun _ _ _ h => h) (Or.inl ⟨by kernel_rfl, ?y_e3⟩) (by assumption) ?r_e3
          case y_e3 => intro wE hSw; obtain ⟨q0, q1, q2, hk, hs⟩ := hSw; have hcv1 := run_str wE hk; have hcv2 := run_str wE hs; clear hk hs; go_simp; try with_reducible rfl
          case' r_e3 => ((try simp only [Act.put]); (try simp only [List.setIfInBounds_toArray]); (try simp only [List.set_cons_zero, List.set_cons_succ]))
          refine wpAnyE_take (i := 4) (v := ?v_e4) rfl (by kernel_rfl) (by kernel_rfl) (by kernel_rfl) (by kernel_rfl) (by kernel_rfl) (fun _ _ _ h => h) (Or.inl ⟨by kernel_rfl, ?y_e4⟩) (by assumption) ?r_e4
          case y_e4 => intro wE hSw; obtain ⟨q0, q1, q2, hk, hs⟩ := hSw; have hcv1 := run_str wE hk; have hcv2 := run_str wE hs; clear hk hs; go_simp; try with_reducible rfl
          case' r_e4 => ((try simp only [Act.put]); (try simp only [List.setIfInBounds_toArray]); (try simp only [List.set_cons_zero, List.set_cons_succ]))
          refine wpAnyE_take (i := 5) (v := ?v_e5) rfl (by kernel_rfl) (by kernel_rfl) (by kernel_rfl) (by kernel_rfl) (by kernel_rfl) (fun _ _ _ h => h) (Or.inl ⟨by kernel_rfl, ?y_e5⟩) (by assumption) ?r_e5
          case y_e5 => intro wE hSw; obtain ⟨q0, q1, q2, hk, hs⟩ := hSw; have hcv1 := run_str wE hk; have hcv2 := run_str wE hs; clear hk hs; go_simp; try with_reducible rfl
          case' r_e5 => ((try simp only [Act.put]); (try simp only [List.setIfInBounds_toArray]); (try simp only [List.set_cons_zero, List.set_cons_succ]))
          refine wpAnyE_take (i := 6) (v := ?v_e6) rfl (by kernel_rfl) (by kernel_rfl) (by kernel_rfl) (by kernel_rfl) (by kernel_rfl) (fun _ _ _ h => h) (Or.inl ⟨by kernel_rfl, ?y_e6⟩) (by assumption) ?r_e6
          case y_e6 => intro wE hSw; obtain ⟨q0, q1, q2, hk, hs⟩ := hSw; have hcv1 := run_str wE hk; have hcv2 := run_str wE hs; clear hk hs; go_simp; try with_reducible rfl
          case' r_e6 => ((try simp only [Act.put]); (try simp only [List.setIfInBounds_toArray]); (try simp only [List.set_cons_zero, List.set_cons_succ]))
          refine wpAnyE_take (i := 7) (v := ?v_e7) rfl (by kernel_rfl) (by kernel_rfl) (by kernel_rfl) (by kernel_rfl) (by kernel_rfl) (fun _ _ _ h => h) (Or.inl ⟨by kernel_rfl, ?y_e7⟩) (by assumption) ?r_e7
          case y_e7 => intro wE hSw; obtain ⟨q0, q1, q2, hk, hs⟩ := hSw; have hcv1 := run_str wE hk; have hcv2 := run_str wE hs; clear hk hs; go_simp; try with_reducible rfl
          case' r_e7 => ((try simp only [Act.put]); (try simp only [List.setIfInBounds_toArray]); (try simp only [List.set_cons_zero, List.set_cons_succ]))
          refine wpAnyE_take (i := 8) (v := ?v_e8) rfl (by kernel_rfl) (by kernel_rfl) (by kernel_rfl) (by kernel_rfl) (by kernel_rfl) (fun _ _ _ h => h) (Or.inl ⟨by kernel_rfl, ?y_e8⟩) (by assumption) ?r_e8
          case y_e8 => intro wE hSw; obtain ⟨q0, q1, q2, hk, hs⟩ := hSw; have hcv1 := run_str wE hk; have hcv2 := run_str wE hs; clear hk hs; go_simp; try with_reducible rfl
          case' r_e8 => ((try simp only [Act.put]); (try simp only [List.setIfInBounds_toArray]); (try simp only [List.set_cons_zero, List.set_cons_succ]))
          refine wpAnyE_take (i := 9) (v := ?v_e9) rfl (by kernel_rfl) (by kernel_rfl) (by kernel_rfl) (by kernel_rfl) (by kernel_rfl) (fun _ _ _ h => h) (Or.inl ⟨by kernel_rfl, ?y_e9⟩) (by assumption) ?r_e9
          case y_e9 => intro wE hSw; obtain ⟨q0, q1, q2, hk, hs⟩ := hSw; have hcv1 := run_str wE hk; have hcv2 := run_str wE hs; clear hk hs; go_simp; try with_reducible rfl
          case' r_e9 => ((try simp only [Act.put]); (try simp only [List.setIfInBounds_toArray]); (try simp only [List.set_cons_zero, List.set_cons_succ]))
          refine wpAnyE_take (i := 10) (v := ?v_e10) rfl (by kernel_rfl) (by kernel_rfl) (by kernel_rfl) (by kernel_rfl) (by kernel_rfl) (fun _ _ _ h => h) (Or.inl ⟨by kernel_rfl, ?y_e10⟩) (by assumption) ?r_e10
          case y_e10 => intro wE hSw; obtain ⟨q0, q1, q2, hk, hs⟩ := hSw; have hcv1 := run_str wE hk; have hcv2 := run_str wE hs; clear hk hs; go_simp; try with_reducible rfl
          case' r_e10 => ((try simp only [Act.put]); (try simp only [List.setIfInBounds_toArray]); (try simp only [List.set_cons_zero, List.set_cons_succ]))
          refine wpAnyE_take (i := 11) (v := ?v_e11) rfl (by kernel_rfl) (by kernel_rfl) (by kernel_rfl) (by kernel_rfl) (by kernel_rfl) (fun _ _ _ h => h) (Or.inl ⟨by kernel_rfl, ?y_e11⟩) (by assumption) ?r_e11
          case y_e11 => intro wE hSw; obtain ⟨q0, q1, q2, hk, hs⟩ := hSw; have hcv1 := run_str wE hk; have hcv2 := run_str wE hs; clear hk hs; go_simp; try with_reducible rfl
          case' r_e11 => ((try simp only [Act.put]); (try simp only [List.setIfInBounds_toArray]); (try simp only [List.set_cons_zero, List.set_cons_succ]))
          refine wpAnyE_take (i := 12) (v := ?v_e12) rfl (by kernel_rfl) (by kernel_rfl) (by kernel_rfl) (by kernel_rfl) (by kernel_rfl) (fun _ _ _ h => h) (Or.inl ⟨by kernel_rfl, ?y_e12⟩) (by assumption) ?r_e12
          case y_e12 => intro wE hSw; obtain ⟨q0, q1, q2, hk, hs⟩ := hSw; have hcv1 := run_str wE hk; have hcv2 := run_str wE hs; clear hk hs; go_simp; try with_reducible rfl
          case' r_e12 => ((try simp only [Act.put]); (try simp only [List.setIfInBounds_toArray]); (try simp only [List.set_cons_zero, List.set_cons_succ]))
          refine wpAnyE_take (i := 13) (v := ?v_e13) rfl (by kernel_rfl) (by kernel_rfl) (by kernel_rfl) (by kernel_rfl) (by kernel_rfl) (fun _ _ _ h => h) (Or.inl ⟨by kernel_rfl, ?y_e13⟩) (by assumption) ?r_e13
          case y_e13 => intro wE hSw; obtain ⟨q0, q1, q2, hk, hs⟩ := hSw; have hcv1 := run_str wE hk; have hcv2 := run_str wE hs; clear hk hs; go_simp; try with_reducible rfl
          case' r_e13 => ((try simp only [Act.put]); (try simp only [List.setIfInBounds_toArray]); (try simp only [List.set_cons_zero, List.set_cons_succ]))
          refine wpAnyE_take (i := 14) (v := ?v_e14) rfl (by kernel_rfl) (by kernel_rfl) (by kernel_rfl) (by kernel_rfl) (by kernel_rfl) (fun _ _ _ h => h) (Or.inl ⟨by kernel_rfl, ?y_e14⟩) (by assumption) ?r_e14
          case y_e14 => intro wE hSw; obtain ⟨q0, q1, q2, hk, hs⟩ := hSw; have hcv1 := run_str wE hk; have hcv2 := run_str wE hs; clear hk hs; go_simp; try with_reducible rfl
          case' r_e14 => ((try simp only [Act.put]); (try simp only [List.setIfInBounds_toArray]); (try simp only [List.set_cons_zero, List.set_cons_succ]))
          refine wpAnyE_take (i := 15) (v := ?v_e15) rfl (by kernel_rfl) (by kernel_rfl) (by kernel_rfl) (by kernel_rfl) (by kernel_rfl) (fun _ _ _ h => h) (Or.inl ⟨by kernel_rfl, ?y_e15⟩) (by assumption) ?r_e15
          case y_e15 => intro wE hSw; obtain ⟨q0, q1, q2, hk, hs⟩ := hSw; have hcv1 := run_str wE hk; have hcv2 := run_str wE hs; clear hk hs; go_simp; try with_reducible rfl
          case' r_e15 => ((try simp only [Act.put]); (try simp only [List.setIfInBounds_toArray]); (try simp only [List.set_cons_zero, List.set_cons_succ]))
          refine wpAnyE_take (i := 16) (v := ?v_e16) rfl (by kernel_rfl) (by kernel_rfl) (by kernel_rfl) (by kernel_rfl) (by kernel_rfl) (fun _ _ _ h => h) (Or.inl ⟨by kernel_rfl, ?y_e16⟩) (by assumption) ?r_e16
          case y_e16 => intro wE hSw; obtain ⟨q0, q1, q2, hk, hs⟩ := hSw; have hcv1 := run_str wE hk; have hcv2 := run_str wE hs; clear hk hs; go_simp; try with_reducible rfl
          case' r_e16 => ((try simp only [Act.put]); (try simp only [List.setIfInBounds_toArray]); (try simp only [List.set_cons_zero, List.set_cons_succ]))
          refine wpAnyE_ready (rs := [17]) (by kernel_rfl) (by simp) ?_
          refine AllReadyE.cons rfl (fun KG hKG => ?_) AllReadyE.nil
          rw [if_pos (by kernel_rfl)]
          go_simp
          refine hKG _ _ (fun _ => ⟨(hA.cell (p := ⟨q, 10, none⟩) hqlr).trans c10, (hA.cell (p := ⟨w.heap.size, 41, none⟩) hblr).trans c41d, (hA.cell (p := ⟨ga, oa + i * 33 + 32, none⟩) hgad).trans csvd, hbd.keep hA, hbs.keep hA⟩) ?_
          clear hKG KG hS0
          refine wpAnyE_ready (rs := [18]) (by kernel_rfl) (by simp) ?_
          refine AllReadyE.cons rfl (fun KH hKH => ?_) AllReadyE.nil
          refine step_appr rfl _ _ 26 rfl it zz Try.underlying26 hti htz hsz1 hby hzc (by omega) hRA hsrcA rfl (by intro u hu; simp at hu; rcases hu with rfl | rfl <;> rfl) hlm hge2 (by rfl) (by rfl) ?_
          intro v18 w18 hR18 hg18 hn18
          have hqn : some q ≠ (Value.slice ro4 i rc4).ownBlock := fun e => hROq q e.symm rfl
          have hbn : some w.heap.size ≠ (Value.slice ro4 i rc4).ownBlock := fun e => by have := hRA.own_ge _ e.symm; omega
          have hgn : some ga ≠ (Value.slice ro4 i rc4).ownBlock := fun e => by have := hRA.own_ge _ e.symm; omega
          have ho18 : Only (fun k => (Value.slice ro4 i rc4).ownBlock = some k) wr.drew w18 := (Only.of_below (S := fun k => (Value.slice ro4 i rc4).ownBlock = some k) hA).trans (Only.of_grown (S := fun k => (Value.slice ro4 i rc4).ownBlock = some k) hg18 (fun q h => h)) (fun _ _ h => h)
          have c10' := (ho18.cell (p := ⟨q, 10, none⟩) hqlr (fun e => hqn e.symm)).trans c10
          have f10' := (ho18.frozen (p := ⟨q, 10, none⟩) hqlr (fun e => hqn e.symm)).trans f10
          have hS1 := And.intro c10' (And.intro ((ho18.cell (p := ⟨w.heap.size, 41, none⟩) hblr (fun e => hbn e.symm)).trans c41d) (And.intro ((ho18.cell (p := ⟨ga, oa + i * 33 + 32, none⟩) hgad (fun e => hgn e.symm)).trans csvd) (And.intro (hbd.only' ho18 (fun _ k hk e => by have h1 : k = ga := (Option.some.inj hk).symm; have := hRA.own_ge k e; omega)) (hbs.only' ho18 (fun hne k hk e => by have h1 := hsvl hne k hk; have := hRA.own_ge k e; omega)))))
          refine hKH _ _ (fun _ => hS1) ?_
          clear hKH KH
          ((simp only [Act.put]); (try simp only [List.setIfInBounds_toArray]); (try simp only [List.set_cons_zero, List.set_cons_succ]))
          refine wpAnyE_take (i := 19) (v := ?v_h19) rfl (by kernel_rfl) (by kernel_rfl) (by kernel_rfl) (by kernel_rfl) (by kernel_rfl) (fun _ _ _ h => h) (Or.inl ⟨by kernel_rfl, ?y_h19⟩) (by assumption) ?r_h19
          case y_h19 => intro wE hSw; obtain ⟨q0, q1, q2, hk, hs⟩ := hSw; have hcv1 := run_str wE hk; have hcv2 := run_str wE hs; clear hk hs; go_simp; try with_reducible rfl
          case' r_h19 => ((try simp only [Act.put]); (try simp only [List.setIfInBounds_toArray]); (try simp only [List.set_cons_zero, List.set_cons_succ]))
          obtain ⟨ao8, cap8, hv18, hz1, hz2, hz3⟩ := hR18.val
          clear hz1 hz2 hz3
          simp only [List.length_append, List.length_map, List.length_cons, List.length_nil, Nat.zero_add, hrsl] at hv18
          subst hv18
          refine wpAnyE_ready (rs := [20]) (by kernel_rfl) (by simp) ?_
          refine AllReadyE.cons rfl (fun KI hKI => ?_) AllReadyE.nil
          rw [if_pos (by kernel_rfl)]
          go_simp
          refine hKI _ _ (fun h => Bool.noConfusion (show true = false from h)) ?_
          clear hKI KI
          refine wpAnyE_done (by kernel_rfl) ?_ _
          obtain ⟨hqr, htr, hEr, hR, hrs, hf, hBw⟩ := HX.out
          have ho18' := Only.of_drew ho18
          have ho19 := Only.set1 w18 q 10 (.slice ao8 (i + 1) cap8)
          have hqr18 := rangeAt_only hqr ho18' (fun e => hqn e.symm)
          have hq19 := Fset (y := ⟨⟨x.m.kind, x.m.frm, x.m.ask, x.m.err, x.m.hold, x.m.level, x.m.row, x.m.ats, ds, rs ++ [y.d]⟩, .slice ao x.m.ats.length ac, .slice ro3 ds.length rc3, .slice ao8 (i + 1) cap8⟩) hqr18 (j := 10) (v := .slice ao8 (i + 1) cap8) rfl
          have ht19 := there_set (there_only htr ho18' (fun e => hqn e.symm)) 10 (.slice ao8 (i + 1) cap8)
          have hsz18 := ho18'.size
          have hR19 := hR18.only ho19 (fun k hk e => hn18.elim (fun h => hROq k (h.symm.trans hk) e) (fun h => by have h2 := Option.some.inj (h.symm.trans hk); have h4 := hA.size; have h5 : k = q := e; rw [← h2] at h5; omega))
          have hE19 : Only (fun k => k = q) w4 (w18.setCell ⟨q, 10, none⟩ (.slice ao8 (i + 1) cap8)) := (hEr.trans ho18' (fun k hk e => by have := hRA.own_ge k e; omega)).trans ho19 (fun _ _ e => e)
          rw [show (rs.map rrC) ++ [_] = (rs ++ [y.d]).map rrC by rw [List.map_append]; rfl] at hR19
          have HF := Lib.hid (And.intro hf (And.intro hR19 (And.intro hq19 (And.intro ht19 hE19))))
          clear hR19 hq19 ht19 hE19 hqr18 ho19 ho18' ho18 hR18 hg18 hn18 hqr htr hEr hR hrs hf hBw hRA hsrcA hA hS1 c10' f10' hbd hbs c10 f10 c41d csvd HX hbT
          go_wp2_with fail
          go_roundw
          case rel => exact ⟨i + 1, _, _, hlt, by go_num, HF.out.1, HF.out.2⟩
          case measure => simp [intOf]; omega
        · have hie2 : i = x.ys.length := by omega
          subst hie2
          have hrs2 : rs = x.m.rows := by rw [hrs, List.take_of_length_le (Nat.le_refl _), hmr]
          obtain ⟨hds2, haR4, hRd⟩ := HD.out
          have haR5 := haR4.only' hEr (fun hne k hk e => by have h1 := hats.own_ltI hne k (by rw [hav]; exact hk); omega)
          have hRd5 := hRd.only hEr (fun k hk e => by have h1 := hRd.own_ge k hk; omega)
          have hB5 : Below w.heap.size w wr := HM.out.2.2.1.trans (hEr.to_below (by omega) (fun k hk => by omega))
          have ht5 : wr.there (w.heap.size + 1) 0 11 := there_only HM.out.2.2.2 hEr (show ¬ w.heap.size + 1 = q by omega)
          obtain ⟨y, hy⟩ : ∃ y : FV, y = ⟨⟨x.m.kind, x.m.frm, x.m.ask, x.m.err, x.m.hold, x.m.level, x.m.row, x.m.ats, ds, rs⟩, .slice ao x.m.ats.length ac, .slice ro3 ds.length rc3, .slice ro4 rs.length rc4⟩ := ⟨_, rfl⟩
          have hym : y.m = x.m := by rw [hy, hds2, hrs2]
          have yav : y.av = .slice ao x.m.ats.length ac := by rw [hy]
          have ydv : y.dv = .slice ro3 ds.length rc3 := by rw [hy]
          have yrv : y.rv = .slice ro4 rs.length rc4 := by rw [hy]
          have hyA : y.At wr := by
            unfold FV.At
            rw [yav, ydv, yrv, hym, ← hds2, ← hrs2]
            exact ⟨haR5, hRd5.rd, hR.rd, hbig.2.1, hbig.1⟩
          rw [← hy] at hqr
          have hlx : y.C.length = cz.length := by rw [hzl]; rfl
          have hox := FV.C_one hyA
          have hld := run_ldT bigX wr q 0 y.C hqr rfl
          have hst := run_stT bigX wr (w.heap.size + 1) 0 y.C (by rw [hlx, hzl]; exact ht5) rfl hox
          have hlv := run_lvT bigX _ (w.heap.size + 1) 0 y.C (World.rangeAt_setCells_same wr (w.heap.size + 1) 0 y.C (by rw [hlx, hzl]; exact ht5)) rfl
          have hoF := Only.setCells1 (b := w.heap.size + 1) y.C 0 wr
          have hyF : y.At (wr.setCells (w.heap.size + 1) 0 y.C) := by
            have h1 := haR5.only' hoF (fun hne k hk e => by have h1 := hats.own_ltI hne k (by rw [hav]; exact hk); omega)
            have h2 := (hRd5.only hoF (fun k hk e => by have h1 := hRd5.own_ge k hk; omega)).rd
            have h3 := (hR.only hoF (fun k hk e => by have h1 := hR.own_ge k hk; omega)).rd
            unfold FV.At
            rw [yav, ydv, yrv, hym, ← hds2, ← hrs2]
            exact ⟨h1, h2, h3, hbig.2.1, hbig.1⟩
          have HF := Lib.hid (And.intro hym (And.intro hyF (Go.Proofs.Ytanghmpphlmpkaa.Below.setCells (show w.heap.size ≤ w.heap.size + 1 by omega) y.C 0 hB5)))
          clear yav ydv yrv hym hyF hyA hy hqr htr hoF hox hlx hR hEr hRd5 haR5 ht5 hB5 hRd haR4 hds2 hrs2 hrs hrr
          generalize hyc : y.C = yC at *
          have HYC := Lib.hid hyc
          clear hyc
          go_wp2_with fail
          refine bodyPost_ret (results_cell Try.results14 rfl hlv) rfl ?_
          exact ⟨y, by rw [HYC.out], HF.out⟩
end Go.Proofs.Ytanghmpphlmpkaa

