/- The walk of the writer's nodes. -/
import Derived.Test.YtjhocaleampamaaDoorMsgK
namespace Go.Proofs.YtjhocaleampamaaDoor
open Go.RowKit
set_option linter.unusedVariables false
attribute [local go_sem ↓] alT_32 ldT_32 stT_32
theorem Rd.rec {w : World} {sz : Nat} {v : Value} {α : Type} {f : α → List Value} {xs : List α} (h : Rd w sz v (xs.map f)) : ∃ ao cap, v = .slice ao xs.length cap ∧ (xs ≠ [] → ∃ g o, ao = some ⟨g, o, none⟩ ∧ ∀ i (hi : i < xs.length), w.rangeAt g (o + i * sz) (f xs[i])) := by
  obtain ⟨_, ao, cap, rfl, _, _, h5⟩ := h
  refine ⟨ao, cap, by rw [List.length_map], fun hne => ?_⟩
  obtain ⟨g, o, rfl, hr⟩ := h5 (by simpa using hne)
  refine ⟨g, o, rfl, fun i hi => ?_⟩
  have h1 := hr i (by simpa using hi)
  rwa [List.getElem_map] at h1
set_option maxRecDepth 100000 in
set_option maxHeartbeats 1000000 in
theorem wnodes_any (x : MV) (w0 w : World) {B p : Nat} {l : List UInt8} {bad : Bool} {g : Option Nat} (hx : x.At w0) (hb0 : Below w0.heap.size w0 w) (hB0 : w0.heap.size ≤ B) (h : WrAt w B p l bad g) (hl : l.length ≤ 1000) :
    Calls Tryd.prog 55 #[.pointer (some ⟨p, 0, none⟩), .agg x.C.toArray] w fun e w' => e = .returned (.tuple #[]) ∧ ∃ g', WrAt w' B p (l ++ (smallL x.m.level ++ (manyB numL x.m.ats ++ manyB (fun v => v) x.m.digs))) (bad || !(inK x.m.level 0 4 && listK x.m.ats && decide (x.m.digs.length ≤ 255))) g' ∧ WEff w w' p g g' := by
  have hK := hx.K32
  have hlen := MV.C_len hx
  have hone := MV.C_one hx
  have hu := Tryd.underlying45
  have hi : (Tryd.prog.info? 45).map (·.size) = some x.C.length := by rw [hlen, ← zM_len]; exact bigM.size
  have hbx : (w.alloc (.cells x.C.toArray 45)).rangeAt w.heap.size 0 x.C := rangeAt_alloc_new _ _ _
  have hA : Below w.heap.size w (w.alloc (.cells x.C.toArray 45)) := (Below.refl _ _).alloc (Nat.le_refl _) _
  have hsz : (w.alloc (.cells x.C.toArray 45)).heap.size = w.heap.size + 1 := by simp
  obtain ⟨⟨_, _, _, _, _, c5⟩, _, c39, c40, _⟩ := MV.range hbx hx.1.1
  obtain ⟨hrow, hats, hdigs, _, _, _, hbig⟩ := hx
  obtain ⟨⟨_, _, _, _, _, bl⟩, ba, _, bn, bd, _⟩ := hbig
  obtain ⟨ao, ac, hav⟩ := hats.shape
  obtain ⟨do_, dc, hdv, hdc⟩ := hdigs.rec
  rw [List.length_map] at hav
  have hh := h.keep hA
  have hge := h.ge
  have hpl := h.lt
  rw [hav] at c39 hats
  rw [hdv] at c40
  have hb1 := hb0.trans (hA.mono hb0.size)
  generalize hcs : x.C = cs at *
  go_enter Tryd.func55, Tryd.ntmps55
  generalize hW1 : w.alloc (.cells cs.toArray 45) = W1 at *
  have hbp : ¬ (w.heap.size = p ∨ g = some w.heap.size) := fun e => e.elim (fun e => by omega) (fun e => by have := (hge.2 _ e).2; omega)
  have hng : ∀ (w3 : World) (g3 : Option Nat), WEff W1 w3 p g g3 → ¬ (w.heap.size = p ∨ g3 = some w.heap.size) := fun w3 g3 hE3 e => e.elim (fun e => hbp (.inl e)) (fun e => hE3.new.elim (fun e2 => hbp (.inr (e2.symm.trans e))) (fun ⟨m, e2, e4⟩ => by have e5 : m = w.heap.size := Option.some.inj (e2.symm.trans e); omega))
  go_wp2_with fail
  refine (wsmall_any x.m.level 4 _ hh bl.1 bl.2 (by omega) (by omega)).mono ?_
  rintro e w2 ⟨rfl, g2, hW2, hE2⟩
  have hl2 : (l ++ smallL x.m.level).length ≤ 1001 := by have := smallL_len x.m.level; simp; omega
  have c39 := (hE2.only.cell (p := ⟨w.heap.size, 39, none⟩) (show w.heap.size < W1.heap.size by omega) hbp).trans c39
  have c40 := (hE2.only.cell (p := ⟨w.heap.size, 40, none⟩) (show w.heap.size < W1.heap.size by omega) hbp).trans c40
  have hb2 := hb1.trans ((hE2.below hh).mono hB0)
  clear c5
  go_wp2_with fail
  refine (wlist_any x.m.ats _ w0 w2 hats ba bn hb2 hB0 hW2 (by omega)).mono ?_
  rintro e w3 ⟨rfl, g3, hW3, hE3⟩
  have hl3 : (l ++ smallL x.m.level ++ manyB numL x.m.ats).length ≤ 10002 := by
    have h1 := flat_le numL x.m.ats 8 (fun x _ => numL_len x)
    have h2 := smallL_len x.m.ats.length
    have h3 : (manyB numL x.m.ats).length ≤ 8001 := by unfold manyB; rw [List.length_append]; omega
    rw [List.length_append]; omega
  have c40 := (hE3.only.cell (p := ⟨w.heap.size, 40, none⟩) (show w.heap.size < w2.heap.size by have := hE2.only.size; omega) (hng _ _ hE2)).trans c40
  have hE3 := hE2.trans hE3
  clear c39 hW2 hE2
  go_wp2_with fail
  refine (wsmall_any x.m.digs.length 255 w3 hW3 (by omega) (by omega) (by omega) (by omega)).mono ?_
  rintro e w4 ⟨rfl, g4, hW4, hE4⟩
  have c40 := (hE4.only.cell (p := ⟨w.heap.size, 40, none⟩) (show w.heap.size < w3.heap.size by have := hE3.only.size; omega) (hng _ _ hE3)).trans c40
  have hE4 := hE3.trans hE4
  clear hW3 hE3
  have hdl : (x.m.digs.length : Int) ≤ 1000 := by omega
  have HH := Lib.hid hh
  clear hh hats hb2
  go_wp2_with fail
  generalize hL0 : l ++ smallL x.m.level ++ manyB numL x.m.ats = l0 at *
  have HL0 := Lib.hid hL0
  clear hL0
  go_loopw [22] (fun j wr => ∃ k : Nat, k ≤ x.m.digs.length ∧ j = .int .i64 k ∧ ∃ gk, WrAt wr B p (l0 ++ smallL x.m.digs.length ++ ((x.m.digs.take k).map fun v => v).flatten) (((bad || !inK x.m.level 0 4) || !listK x.m.ats) || !inK x.m.digs.length 0 255) gk ∧ WEff W1 wr p g gk) (fun j _ => x.m.digs.length - (intOf j).toNat)
  case atStart => exact ⟨0, Nat.zero_le _, rfl, g4, by simpa using hW4, hE4⟩
  case round =>
    obtain ⟨k, hk, rfl, gk, hWk, hEk⟩ := hrel
    clear hW4 hE4 c40
    by_cases hlt : k < x.m.digs.length
    · have hlt2 : (k : Int) < x.m.digs.length := by omega
      have hk0 : (0 : Int) ≤ k := Int.natCast_nonneg _
      obtain ⟨gd, od, rfl, hcl⟩ := hdc (fun e => by rw [e] at hlt; simp at hlt)
      have hBk := hEk.below HH.out
      have hrng := rangeAt_keep (hcl k hlt) (hb1.trans (hBk.mono hB0))
      have hf := flat_take (fun v : List UInt8 => v) x.m.digs k hlt
      have h32 := hK.2.1 _ (List.getElem_mem hlt)
      have hlk : (l0 ++ smallL x.m.digs.length ++ ((x.m.digs.take k).map fun v => v).flatten).length ≤ 60000 := by
        have h1 := flat_le (fun v : List UInt8 => v) (x.m.digs.take k) 32 (fun y hy => by rw [hK.2.1 y (List.mem_of_mem_take hy)]; exact Nat.le_refl _)
        rw [List.length_take] at h1
        have h2 := smallL_len x.m.digs.length
        rw [List.length_append, List.length_append]; omega
      generalize x.m.digs[k] = dg at *
      have hld := run_ldT big32 wr gd (od + k * 32) (dg.map bv) hrng (by simp [h32, zK_len])
      have hal := run_alT big32 wr
      have hst := run_stT big32 (wr.alloc (.cells zK.toArray 22)) wr.heap.size 0 (dg.map bv) (by have := there_new wr zK 22; rw [zK_len] at this; simpa [h32] using this) (by simp [h32, zK_len]) (bv_one dg)
      obtain ⟨hv1, hv2, hv3, _⟩ := var_new wr zK (dg.map bv) 22 (by simp [h32, zK_len])
      have HF := Lib.hid hf
      clear hf hcl hdc hBk hrng
      go_wp2_with fail
      have hWn := hWk.keep hv2
      have hEn : WEff W1 ((wr.alloc (.cells zK.toArray 22)).setCells wr.heap.size 0 (dg.map bv)) p g gk := hEk.trans (WEff.of_below hv2)
      have hkb : Bsl ((wr.alloc (.cells zK.toArray 22)).setCells wr.heap.size 0 (dg.map bv)) (.slice (some ⟨wr.heap.size, 0, none⟩) 32 32) dg := Bsl.of_range hv1 h32.symm (by omega)
      generalize (wr.alloc (.cells zK.toArray 22)).setCells wr.heap.size 0 (dg.map bv) = wn at *
      clear hld hal hst hv1 hv2 hv3
      obtain ⟨ob, hO, hc, hf, hb⟩ := hWn
      go_region_law (first
        | (go_simp; go_at_call 54; refine (ofixed_any _ dg _ (OutAt.keep (w := wn) hO (Below.refl _ _).drew) (hkb.keep (w := wn) (Below.refl _ _).drew) (by omega)).mono ?_; rintro e w5 ⟨rfl, g5, hO5, hE5⟩))
      have hE5 := OutEff.of_drew hE5
      have hW5 := WrAt.out hc hf hO5 hE5 hb
      have HW := Lib.hid (And.intro hW5 (hEn.trans (WEff.of_out hE5)))
      clear hO hc hf hb hO5 hE5 hW5 hEn hkb hWk hEk
      go_wp2_with fail
      go_roundw
      case rel =>
        refine ⟨k + 1, hlt, by go_num, g5, ?_, HW.out.2⟩
        rw [HF.out, ← List.append_assoc]
        exact HW.out.1
      case measure => simp [intOf]; omega
    · have hke : k = x.m.digs.length := by omega
      subst hke
      rw [List.take_of_length_le (Nat.le_refl _)] at hWk
      have hKd : inK (x.m.digs.length : Int) 0 255 = decide (x.m.digs.length ≤ 255) := by unfold inK; exact decide_eq_decide.2 ⟨fun h => by omega, fun h => by omega⟩
      have hbq : (bad || !inK x.m.level 0 4 || !listK x.m.ats || !inK x.m.digs.length 0 255) = (bad || !(inK x.m.level 0 4 && listK x.m.ats && decide (x.m.digs.length ≤ 255))) := by rw [hKd, Bool.not_and, Bool.not_and, Bool.or_assoc, Bool.or_assoc, Bool.or_assoc]
      rw [hbq, ← HL0.out, show l ++ smallL x.m.level ++ manyB numL x.m.ats ++ smallL x.m.digs.length ++ (x.m.digs.map fun v => v).flatten = l ++ (smallL x.m.level ++ (manyB numL x.m.ats ++ manyB (fun v => v) x.m.digs)) by unfold manyB; simp only [List.append_assoc]] at hWk
      have HW := Lib.hid (And.intro hWk hEk)
      clear hWk hEk hdc hKd hbq
      have HA := Lib.hid hA
      clear hA
      go_wp2_with fail
      go_end0
      exact ⟨rfl, gk, HW.out.1, (WEff.of_below HA.out).trans HW.out.2⟩
end Go.Proofs.YtjhocaleampamaaDoor
