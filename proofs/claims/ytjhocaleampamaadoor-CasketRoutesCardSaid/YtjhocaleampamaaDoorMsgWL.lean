/- The walks of the writer's list and nodes. -/
import Derived.Test.YtjhocaleampamaaDoorMsgWR
namespace Go.Proofs.YtjhocaleampamaaDoor
open Go.RowKit
set_option linter.unusedVariables false
theorem Rd.cells {w : World} {sz : Nat} {v : Value} {rs : List (List Value)} (h : Rd w sz v rs) (hne : rs ≠ []) : ∃ g o cap, v = .slice (some ⟨g, o, none⟩) rs.length cap ∧ ∀ i (hi : i < rs.length), w.rangeAt g (o + i * sz) rs[i] := by
  obtain ⟨_, ao, cap, rfl, _, _, h5⟩ := h
  obtain ⟨g, o, rfl, hr⟩ := h5 hne
  exact ⟨g, o, cap, rfl, hr⟩
theorem Rd.ints {w : World} {v : Value} {l : List Int} (h : Rd w 1 v (l.map intC)) : ∃ ao cap, v = .slice ao l.length cap ∧ (l ≠ [] → ∃ g o, ao = some ⟨g, o, none⟩ ∧ ∀ i (hi : i < l.length), w.cell? ⟨g, o + i, none⟩ = some (.int .i64 l[i])) := by
  obtain ⟨_, ao, cap, rfl, _, _, h5⟩ := h
  refine ⟨ao, cap, by rw [List.length_map], fun hne => ?_⟩
  obtain ⟨g, o, rfl, hr⟩ := h5 (by simpa using hne)
  refine ⟨g, o, rfl, fun i hi => ?_⟩
  have h1 := hr i (by simpa using hi) 0 (.int .i64 l[i]) (by simp [intC])
  simpa using h1
theorem flat_take {α : Type} (f : α → List UInt8) (l : List α) (k : Nat) (h : k < l.length) : ((l.take (k + 1)).map f).flatten = ((l.take k).map f).flatten ++ f l[k] := by
  rw [List.take_succ_eq_append_getElem h, List.map_append, List.flatten_append]
  simp only [List.map_cons, List.map_nil, List.flatten_cons, List.flatten_nil, List.append_nil]
theorem flat_le {α : Type} (f : α → List UInt8) (l : List α) (n : Nat) (h : ∀ x ∈ l, (f x).length ≤ n) : ((l.map f).flatten).length ≤ l.length * n := by
  induction l with
  | nil => simp
  | cons x t ih =>
    have h1 := ih (fun y hy => h y (List.mem_cons_of_mem _ hy))
    have h2 := h x (by simp)
    simp only [List.map_cons, List.flatten_cons, List.length_append, List.length_cons]
    rw [Nat.add_mul]; omega
theorem numL_len (n : Int) : (numL n).length ≤ 8 := by unfold numL; split <;> simp [putLowL_length]
theorem smallL_len (n : Int) : (smallL n).length ≤ 1 := by unfold smallL; split <;> simp
theorem all_take {α : Type} (f : α → Bool) (l : List α) (k : Nat) (h : k < l.length) : (l.take (k + 1)).all f = ((l.take k).all f && f l[k]) := by
  rw [List.take_succ_eq_append_getElem h, List.all_append]
  simp only [List.all_cons, List.all_nil, Bool.and_true]
set_option maxRecDepth 100000 in
set_option maxHeartbeats 1000000 in
theorem wlist_any (at2 : List Int) (v : Value) (w0 w : World) {B p : Nat} {l : List UInt8} {bad : Bool} {g : Option Nat} (hv : Rd w0 1 v (at2.map intC)) (hi : ∀ n ∈ at2, i64 n) (hn : at2.length ≤ 1000) (hb0 : Below w0.heap.size w0 w) (hB0 : w0.heap.size ≤ B) (h : WrAt w B p l bad g) (hl : l.length ≤ 1000000) :
    Calls Tryd.prog 56 #[.pointer (some ⟨p, 0, none⟩), v] w fun e w' => e = .returned (.tuple #[]) ∧ ∃ g', WrAt w' B p (l ++ manyB numL at2) (bad || !listK at2) g' ∧ WEff w w' p g g' := by
  obtain ⟨ao, cap, rfl, hcc⟩ := hv.ints
  have hlen : (at2.length : Int) ≤ 1000 := by omega
  have hE0 := h
  go_enter Tryd.func56, Tryd.ntmps56
  go_wp2_with fail
  refine (wsmall_any at2.length 255 w h (by omega) (by omega) (by omega) (by omega)).mono ?_
  rintro e w1 ⟨rfl, g1, hW1, hE1⟩
  have hl1 : (l ++ smallL at2.length).length ≤ 1000001 := by have := smallL_len at2.length; simp; omega
  have hB1 := hE1.below h
  have HE0 := Lib.hid hE0
  clear hE0 h
  go_wp2_with fail
  go_loopw [12] (fun j wr => ∃ k : Nat, k ≤ at2.length ∧ j = .int .i64 k ∧ ∃ gk, WrAt wr B p (l ++ smallL at2.length ++ ((at2.take k).map numL).flatten) ((bad || !inK at2.length 0 255) || !((at2.take k).all fun n => inK n 0 255)) gk ∧ WEff w wr p g gk) (fun j _ => at2.length - (intOf j).toNat)
  case atStart => exact ⟨0, Nat.zero_le _, rfl, g1, by simpa using hW1, hE1⟩
  case round =>
    obtain ⟨k, hk, rfl, gk, hWk, hEk⟩ := hrel
    clear hW1 hE1
    by_cases hlt : k < at2.length
    · have hlt2 : (k : Int) < at2.length := by omega
      have hk0 : (0 : Int) ≤ k := Int.natCast_nonneg _
      obtain ⟨ga, oa, rfl, hcl⟩ := hcc (fun e => by rw [e] at hlt; simp at hlt)
      have hBk := hEk.below HE0.out
      have hcell := ((hb0.trans (hBk.mono hB0)).cell (p := ⟨ga, oa + k, none⟩) (World.block_lt_of_cell? w0 _ (hcl k hlt))).trans (hcl k hlt)
      have hf := flat_take numL at2 k hlt
      have ha := all_take (fun n => inK n 0 255) at2 k hlt
      have hi64 := hi _ (List.getElem_mem hlt)
      have hlk : (l ++ smallL at2.length ++ ((at2.take k).map numL).flatten).length ≤ 2000000 := by
        have h1 := flat_le numL (at2.take k) 8 (fun x _ => numL_len x)
        rw [List.length_take] at h1
        rw [List.length_append]; omega
      generalize at2[k] = n at *
      have HF := Lib.hid (And.intro hf ha)
      generalize l ++ smallL at2.length = l1 at *
      clear hf ha hcl hcc hBk hB1
      go_wp2_with fail
      refine (wnum_any n 255 _ hWk hi64.1 hi64.2 (by omega)).mono ?_
      rintro e w2 ⟨rfl, g2, hW2, hE2⟩
      have HW := Lib.hid (And.intro hW2 (hEk.trans hE2))
      clear hW2 hE2 hWk hEk
      go_wp2_with fail
      go_roundw
      case rel =>
        obtain ⟨hf, ha⟩ := HF.out
        refine ⟨k + 1, hlt, by go_num, g2, ?_, HW.out.2⟩
        rw [hf, ha, ← List.append_assoc]
        have := HW.out.1
        rw [show (bad || !inK at2.length 0 255 || !((at2.take k).all (fun n => inK n 0 255) && inK n 0 255)) = (bad || !inK at2.length 0 255 || !(at2.take k).all (fun n => inK n 0 255) || !inK n 0 255) by rw [Bool.not_and, Bool.or_assoc (bad || _)]]
        exact this
      case measure => simp [intOf]; omega
    · have hke : k = at2.length := by omega
      subst hke
      rw [List.take_of_length_le (Nat.le_refl _)] at hWk
      have hK : inK (at2.length : Int) 0 255 = decide (at2.length ≤ 255) := by unfold inK; exact decide_eq_decide.2 ⟨fun h => by omega, fun h => by omega⟩
      have hbq : (bad || !inK at2.length 0 255 || !(at2.all fun n => inK n 0 255)) = (bad || !listK at2) := by unfold listK; rw [hK, Bool.not_and, Bool.or_assoc]
      rw [hbq, show l ++ smallL at2.length ++ (at2.map numL).flatten = l ++ manyB numL at2 by unfold manyB; rw [List.append_assoc]] at hWk
      have HW := Lib.hid (And.intro hWk hEk)
      clear hWk hEk hcc hB1 hK hbq
      go_wp2_with fail
      go_end0
      exact ⟨rfl, gk, HW.out⟩
end Go.Proofs.YtjhocaleampamaaDoor
