/- envelope.bound: the walk (printed by genbound.py). -/
import Derived.Test.YtembfelckbmgiaaDoorEnvA
import Derived.Test.YtembfelckbmgiaaDoorLVar
import Derived.Test.YtembfelckbmgiaaDoorRegE
namespace Go.Proofs.YtembfelckbmgiaaDoor
open Go.RowKit Big
set_option linter.unusedVariables false
def zH : List Value := [.int .i64 0, .int .i64 0, .int .i64 0, .int .i64 0, .slice none 0 0]
theorem bigH : BigT 35 zH := BigT.of (by kernel_rfl) ⟨_, Tryd.underlying35, rfl⟩
theorem alT_H : Instr.alloc 35 true (.tuple #[]) = alT 35 := rfl
theorem ldT_H (v : Value) : Instr.loadAt 35 v = ldT 35 v := rfl
theorem stT_H (v u : Value) : Instr.storeAt 35 v u = stT 35 v u := rfl
theorem headC_one (c : Nat) : ∀ u ∈ headC c, u.oneCell' = true := by
  intro u hu
  simp only [headC, List.mem_cons, List.not_mem_nil, or_false] at hu
  rcases hu with h | h | h | h | h <;> (subst h; rfl)
/-- What an envelope's bytes begin with. -/
def boundL (key : List UInt8) (c : Nat) : List UInt8 := key ++ numL 1 ++ numL (c : Int) ++ numL 1 ++ numL (c : Int) ++ bytesL []
theorem numL_len (n : Nat) : (numL (n : Int)).length = 8 := by unfold numL; rw [if_pos (by omega), List.length_reverse, putLowL_length]
theorem boundL_len (key : List UInt8) (c : Nat) : (boundL key c).length = key.length + 36 := by
  unfold boundL
  have h1 := numL_len 1
  have h2 := numL_len c
  rw [show ((1 : Nat) : Int) = 1 from rfl] at h1
  simp only [List.length_append, h1, h2, bytesL_length]
  simp
theorem EnvAt.head {w : World} {p c : Nat} {key : List UInt8} {sv : Value} (h : EnvAt w p key c sv) : (ldT 35 (.pointer (some ⟨p, 32, none⟩))).run Tryd.prog w = .ok (.agg (headC c).toArray) w :=
  run_ldT bigH w p 32 _ (fun j v hv => h.at j v (by rw [List.getElem?_append_left (by exact (List.getElem?_eq_some_iff.1 hv).1)]; exact hv)) rfl
theorem EnvAt.bsl {w : World} {p c : Nat} {key : List UInt8} {sv : Value} (h : EnvAt w p key c sv) : Bsl w (.slice (some ⟨p, 0, none⟩) 32 32) key := by
  refine ⟨some ⟨p, 0, none⟩, 32, by rw [h.len], by rw [h.len]; omega, by omega, by simp, fun _ => ⟨p, 0, rfl, fun j hj => ?_⟩⟩
  exact h.key j _ (by simp [bv, hj, List.getD])
attribute [local go_sem ↓] ldT_E alT_H ldT_H stT_H
set_option maxRecDepth 100000 in
set_option maxHeartbeats 20000000 in
theorem bound_any (key : List UInt8) (c : Nat) (sv : Value) (w : World) (hk : key.length = 32) (hc : 1 ≤ c ∧ c ≤ 1000) :
    Calls Tryd.prog 17 #[.agg (envC key c sv).toArray] w fun e w' => ∃ p g, e = .returned (.pointer (some ⟨p, 0, none⟩)) ∧ OutAt w' w.heap.size p 0 (boundL key c) false g ∧ Below w.heap.size w w' := by
  obtain ⟨w0, hw0, hE0, hB0, hs0⟩ : ∃ w0, w0 = w.alloc (.cells (envC key c sv).toArray 38) ∧ EnvAt w0 w.heap.size key c sv ∧ Below w.heap.size w w0 ∧ w0.heap.size = w.heap.size + 1 :=
    ⟨_, rfl, EnvAt.box w key c sv hk _, (Below.refl _ _).alloc (Nat.le_refl _) _, by simp⟩
  obtain ⟨w1, w2, hal1, hst1, hL2, hB2, hs2⟩ := bigH.madeV w0 (headC c) rfl (headC_one c)
  have hE2 := hE0.keep hB2
  have hld := hE0.head
  have hB2 := hB0.trans (hB2.mono hB0.size)
  rw [hs0] at hal1 hst1 hL2 hs2
  obtain ⟨w3, hw3, hO3, hB3, hs3⟩ : ∃ w3, w3 = w2.alloc (.cells #[.slice none 0 0, .bool false] 74) ∧ OutAt w3 w2.heap.size w2.heap.size 0 [] false none ∧ Below w2.heap.size w2 w3 ∧ w3.heap.size = w2.heap.size + 1 :=
    ⟨_, rfl, OutAt.fresh w2 w2.heap.size _ (Nat.le_refl _), (Below.refl _ _).alloc (Nat.le_refl _) _, by simp⟩
  have hE3 := hE2.keep hB3
  have hL3 := hL2.keep hB3
  have hB3 := hB2.trans (hB3.mono hB2.size)
  rw [hs2] at hO3 hs3
  rw [hw0] at hal1 hld
  have hH := Lib.hid (show boundL key c = key ++ numL 1 ++ numL (c : Int) ++ numL 1 ++ numL (c : Int) ++ bytesL [] from rfl)
  have HLN := Lib.hid (And.intro hk (And.intro (numL_len 1) (numL_len c)))
  generalize boundL key c = R at *
  clear hE0 hE2 hL2 hB0 hB2 hs0
  go_enter Tryd.func17, Tryd.ntmps17
  have hfa : ∀ w', Below (w.heap.size + 1 + 1) w3 w' → w'.cell? ⟨w.heap.size + 1, 0, none⟩ = some (.int .i64 1) ∧ w'.cell? ⟨w.heap.size + 1, 1, none⟩ = some (.int .i64 (c : Int)) ∧ w'.cell? ⟨w.heap.size + 1, 2, none⟩ = some (.int .i64 1) ∧ w'.cell? ⟨w.heap.size + 1, 3, none⟩ = some (.int .i64 (c : Int)) ∧ w'.cell? ⟨w.heap.size + 1, 4, none⟩ = some (.slice none 0 0) := fun w' hB => by
    have hc := fun j v (hv : (headC c)[j]? = some v) => (hB.cell (p := ⟨w.heap.size + 1, j, none⟩) (by show w.heap.size + 1 < w.heap.size + 1 + 1; omega)).trans (hL3.cell hv)
    exact ⟨hc 0 _ rfl, hc 1 _ rfl, hc 2 _ rfl, hc 3 _ rfl, hc 4 _ rfl⟩
  have hbk := hE3.bsl
  have HX := Lib.hid (And.intro hB3 (And.intro hE3 hL3))
  clear hB3 hE3 hL3
  go_wp2_with fail
  rw [← hw3]
  clear hw3
  generalize hP : w.heap.size + 1 + 1 = P at *
  refine wp_region_El 21 (fun w' => Below P w3 w') #[false, false, false, false, false, false, false, false, false, false, false, false, false, false, false, false, false, false, false, false, false, false] (by kernel_rfl) (by kernel_rfl) ?_
  have hS0 : Below P w3 w3.drew := (Below.refl _ _).drew
  have hO4 : OutAt w3.drew P P 0 [] false none := hO3
  have hPs : P ≤ w3.heap.size := by omega
  refine wpAnyE_take (i := 0) (v := ?v_a0) rfl (by kernel_rfl) (by kernel_rfl) (by kernel_rfl) (by kernel_rfl) (by kernel_rfl) (fun _ _ _ h => h) (Or.inl ⟨by kernel_rfl, ?y_a0⟩) (by assumption) ?r_a0
  case y_a0 => intro wE hSw; obtain ⟨q0, q1, q2, q3, q4⟩ := hfa wE hSw; go_simp; try with_reducible rfl
  case' r_a0 => ((try simp only [Act.put, List.getElem_toArray, List.getElem_cons_zero]); (try simp only [List.setIfInBounds_toArray]); (try simp only [List.set_cons_zero, List.set_cons_succ]))
  refine wpAnyE_take (i := 1) (v := ?v_a1) rfl (by kernel_rfl) (by kernel_rfl) (by kernel_rfl) (by kernel_rfl) (by kernel_rfl) (fun _ _ _ h => h) (Or.inl ⟨by kernel_rfl, ?y_a1⟩) (by assumption) ?r_a1
  case y_a1 => intro wE hSw; obtain ⟨q0, q1, q2, q3, q4⟩ := hfa wE hSw; go_simp; try with_reducible rfl
  case' r_a1 => ((try simp only [Act.put, List.getElem_toArray, List.getElem_cons_zero, List.getElem_cons_succ]); (try simp only [List.setIfInBounds_toArray]); (try simp only [List.set_cons_zero, List.set_cons_succ]))
  refine wpAnyE_take (i := 2) (v := ?v_a2) rfl (by kernel_rfl) (by kernel_rfl) (by kernel_rfl) (by kernel_rfl) (by kernel_rfl) (fun _ _ _ h => h) (Or.inl ⟨by kernel_rfl, ?y_a2⟩) (by assumption) ?r_a2
  case y_a2 => intro wE hSw; obtain ⟨q0, q1, q2, q3, q4⟩ := hfa wE hSw; go_simp; try with_reducible rfl
  case' r_a2 => ((try simp only [Act.put, List.getElem_toArray, List.getElem_cons_zero, List.getElem_cons_succ]); (try simp only [List.setIfInBounds_toArray]); (try simp only [List.set_cons_zero, List.set_cons_succ]))
  refine wpAnyE_take (i := 4) (v := ?v_a4) rfl (by kernel_rfl) (by kernel_rfl) (by kernel_rfl) (by kernel_rfl) (by kernel_rfl) (fun _ _ _ h => h) (Or.inl ⟨by kernel_rfl, ?y_a4⟩) (by assumption) ?r_a4
  case y_a4 => intro wE hSw; obtain ⟨q0, q1, q2, q3, q4⟩ := hfa wE hSw; go_simp; try with_reducible rfl
  case' r_a4 => ((try simp only [Act.put, List.getElem_toArray, List.getElem_cons_zero, List.getElem_cons_succ]); (try simp only [List.setIfInBounds_toArray]); (try simp only [List.set_cons_zero, List.set_cons_succ]))
  refine wpAnyE_take (i := 5) (v := ?v_a5) rfl (by kernel_rfl) (by kernel_rfl) (by kernel_rfl) (by kernel_rfl) (by kernel_rfl) (fun _ _ _ h => h) (Or.inl ⟨by kernel_rfl, ?y_a5⟩) (by assumption) ?r_a5
  case y_a5 => intro wE hSw; obtain ⟨q0, q1, q2, q3, q4⟩ := hfa wE hSw; go_simp; try with_reducible rfl
  case' r_a5 => ((try simp only [Act.put, List.getElem_toArray, List.getElem_cons_zero, List.getElem_cons_succ]); (try simp only [List.setIfInBounds_toArray]); (try simp only [List.set_cons_zero, List.set_cons_succ]))
  refine wpAnyE_take (i := 7) (v := ?v_a7) rfl (by kernel_rfl) (by kernel_rfl) (by kernel_rfl) (by kernel_rfl) (by kernel_rfl) (fun _ _ _ h => h) (Or.inl ⟨by kernel_rfl, ?y_a7⟩) (by assumption) ?r_a7
  case y_a7 => intro wE hSw; obtain ⟨q0, q1, q2, q3, q4⟩ := hfa wE hSw; go_simp; try with_reducible rfl
  case' r_a7 => ((try simp only [Act.put, List.getElem_toArray, List.getElem_cons_zero, List.getElem_cons_succ]); (try simp only [List.setIfInBounds_toArray]); (try simp only [List.set_cons_zero, List.set_cons_succ]))
  refine wpAnyE_take (i := 8) (v := ?v_a8) rfl (by kernel_rfl) (by kernel_rfl) (by kernel_rfl) (by kernel_rfl) (by kernel_rfl) (fun _ _ _ h => h) (Or.inl ⟨by kernel_rfl, ?y_a8⟩) (by assumption) ?r_a8
  case y_a8 => intro wE hSw; obtain ⟨q0, q1, q2, q3, q4⟩ := hfa wE hSw; go_simp; try with_reducible rfl
  case' r_a8 => ((try simp only [Act.put, List.getElem_toArray, List.getElem_cons_zero, List.getElem_cons_succ]); (try simp only [List.setIfInBounds_toArray]); (try simp only [List.set_cons_zero, List.set_cons_succ]))
  refine wpAnyE_take (i := 10) (v := ?v_a10) rfl (by kernel_rfl) (by kernel_rfl) (by kernel_rfl) (by kernel_rfl) (by kernel_rfl) (fun _ _ _ h => h) (Or.inl ⟨by kernel_rfl, ?y_a10⟩) (by assumption) ?r_a10
  case y_a10 => intro wE hSw; obtain ⟨q0, q1, q2, q3, q4⟩ := hfa wE hSw; go_simp; try with_reducible rfl
  case' r_a10 => ((try simp only [Act.put, List.getElem_toArray, List.getElem_cons_zero, List.getElem_cons_succ]); (try simp only [List.setIfInBounds_toArray]); (try simp only [List.set_cons_zero, List.set_cons_succ]))
  refine wpAnyE_take (i := 11) (v := ?v_a11) rfl (by kernel_rfl) (by kernel_rfl) (by kernel_rfl) (by kernel_rfl) (by kernel_rfl) (fun _ _ _ h => h) (Or.inl ⟨by kernel_rfl, ?y_a11⟩) (by assumption) ?r_a11
  case y_a11 => intro wE hSw; obtain ⟨q0, q1, q2, q3, q4⟩ := hfa wE hSw; go_simp; try with_reducible rfl
  case' r_a11 => ((try simp only [Act.put, List.getElem_toArray, List.getElem_cons_zero, List.getElem_cons_succ]); (try simp only [List.setIfInBounds_toArray]); (try simp only [List.set_cons_zero, List.set_cons_succ]))
  refine wpAnyE_take (i := 12) (v := ?v_a12) rfl (by kernel_rfl) (by kernel_rfl) (by kernel_rfl) (by kernel_rfl) (by kernel_rfl) (fun _ _ _ h => h) (Or.inl ⟨by kernel_rfl, ?y_a12⟩) (by assumption) ?r_a12
  case y_a12 => intro wE hSw; obtain ⟨q0, q1, q2, q3, q4⟩ := hfa wE hSw; go_simp; try with_reducible rfl
  case' r_a12 => ((try simp only [Act.put, List.getElem_toArray, List.getElem_cons_zero, List.getElem_cons_succ]); (try simp only [List.setIfInBounds_toArray]); (try simp only [List.set_cons_zero, List.set_cons_succ]))
  refine wpAnyE_take (i := 14) (v := ?v_a14) rfl (by kernel_rfl) (by kernel_rfl) (by kernel_rfl) (by kernel_rfl) (by kernel_rfl) (fun _ _ _ h => h) (Or.inl ⟨by kernel_rfl, ?y_a14⟩) (by assumption) ?r_a14
  case y_a14 => intro wE hSw; obtain ⟨q0, q1, q2, q3, q4⟩ := hfa wE hSw; go_simp; try with_reducible rfl
  case' r_a14 => ((try simp only [Act.put, List.getElem_toArray, List.getElem_cons_zero, List.getElem_cons_succ]); (try simp only [List.setIfInBounds_toArray]); (try simp only [List.set_cons_zero, List.set_cons_succ]))
  refine wpAnyE_take (i := 15) (v := ?v_a15) rfl (by kernel_rfl) (by kernel_rfl) (by kernel_rfl) (by kernel_rfl) (by kernel_rfl) (fun _ _ _ h => h) (Or.inl ⟨by kernel_rfl, ?y_a15⟩) (by assumption) ?r_a15
  case y_a15 => intro wE hSw; obtain ⟨q0, q1, q2, q3, q4⟩ := hfa wE hSw; go_simp; try with_reducible rfl
  case' r_a15 => ((try simp only [Act.put, List.getElem_toArray, List.getElem_cons_zero, List.getElem_cons_succ]); (try simp only [List.setIfInBounds_toArray]); (try simp only [List.set_cons_zero, List.set_cons_succ]))
  refine wpAnyE_take (i := 16) (v := ?v_a16) rfl (by kernel_rfl) (by kernel_rfl) (by kernel_rfl) (by kernel_rfl) (by kernel_rfl) (fun _ _ _ h => h) (Or.inl ⟨by kernel_rfl, ?y_a16⟩) (by assumption) ?r_a16
  case y_a16 => intro wE hSw; obtain ⟨q0, q1, q2, q3, q4⟩ := hfa wE hSw; go_simp; try with_reducible rfl
  case' r_a16 => ((try simp only [Act.put, List.getElem_toArray, List.getElem_cons_zero, List.getElem_cons_succ]); (try simp only [List.setIfInBounds_toArray]); (try simp only [List.set_cons_zero, List.set_cons_succ]))
  refine wpAnyE_take (i := 18) (v := ?v_a18) rfl (by kernel_rfl) (by kernel_rfl) (by kernel_rfl) (by kernel_rfl) (by kernel_rfl) (fun _ _ _ h => h) (Or.inl ⟨by kernel_rfl, ?y_a18⟩) (by assumption) ?r_a18
  case y_a18 => intro wE hSw; obtain ⟨q0, q1, q2, q3, q4⟩ := hfa wE hSw; go_simp; try with_reducible rfl
  case' r_a18 => ((try simp only [Act.put, List.getElem_toArray, List.getElem_cons_zero, List.getElem_cons_succ]); (try simp only [List.setIfInBounds_toArray]); (try simp only [List.set_cons_zero, List.set_cons_succ]))
  refine wpAnyE_take (i := 19) (v := ?v_a19) rfl (by kernel_rfl) (by kernel_rfl) (by kernel_rfl) (by kernel_rfl) (by kernel_rfl) (fun _ _ _ h => h) (Or.inl ⟨by kernel_rfl, ?y_a19⟩) (by assumption) ?r_a19
  case y_a19 => intro wE hSw; obtain ⟨q0, q1, q2, q3, q4⟩ := hfa wE hSw; go_simp; try with_reducible rfl
  case' r_a19 => ((try simp only [Act.put, List.getElem_toArray, List.getElem_cons_zero, List.getElem_cons_succ]); (try simp only [List.setIfInBounds_toArray]); (try simp only [List.set_cons_zero, List.set_cons_succ]))
  refine wpAnyE_ready (rs := [3]) (by kernel_rfl) (by simp) ?_
  refine AllReadyE.cons rfl (fun KA hKA => ?_) AllReadyE.nil
  rw [if_pos (by kernel_rfl)]
  go_simp
  refine (ofixed_any (.slice (some ⟨w.heap.size, 0, none⟩) 32 32) key w3.drew hO4 (show Bsl w3.drew _ _ from hbk) (by simp; omega)).mono ?_
  rintro e w5 ⟨rfl, g5, hO5, hE5⟩
  have hS5 : Below P w3 w5 := hS0.trans (hE5.below (by have := hS0.size; omega) (Nat.le_refl _) (fun k hk => (hO4.gB k hk).1))
  try go_simp
  refine hKA _ _ (fun _ => hS5) ?_
  clear hKA KA
  refine wpAnyE_ready (rs := [6]) (by kernel_rfl) (by simp) ?_
  refine AllReadyE.cons rfl (fun KA hKA => ?_) AllReadyE.nil
  rw [if_pos (by kernel_rfl)]
  go_simp
  refine (onum_any 1 w5 hO5 (by omega) (by omega) (by simp only [List.length_append, List.length_nil]; have := HLN.out; simp only [show ((1 : Nat) : Int) = 1 from rfl] at this; omega)).mono ?_
  rintro e w6 ⟨rfl, g6, hO6, hE6⟩
  rw [show (false || decide ((1 : Int) < 0)) = false by simp; try omega] at hO6
  have hS6 : Below P w3 w6 := hS5.trans (hE6.below (by have := hS5.size; omega) (Nat.le_refl _) (fun k hk => (hO5.gB k hk).1))
  try go_simp
  refine hKA _ _ (fun _ => hS6) ?_
  clear hKA KA
  refine wpAnyE_ready (rs := [9]) (by kernel_rfl) (by simp) ?_
  refine AllReadyE.cons rfl (fun KA hKA => ?_) AllReadyE.nil
  rw [if_pos (by kernel_rfl)]
  go_simp
  refine (onum_any c w6 hO6 (by omega) (by omega) (by simp only [List.length_append, List.length_nil]; have := HLN.out; simp only [show ((1 : Nat) : Int) = 1 from rfl] at this; omega)).mono ?_
  rintro e w7 ⟨rfl, g7, hO7, hE7⟩
  rw [show (false || decide ((c : Int) < 0)) = false by simp; try omega] at hO7
  have hS7 : Below P w3 w7 := hS6.trans (hE7.below (by have := hS6.size; omega) (Nat.le_refl _) (fun k hk => (hO6.gB k hk).1))
  try go_simp
  refine hKA _ _ (fun _ => hS7) ?_
  clear hKA KA
  refine wpAnyE_ready (rs := [13]) (by kernel_rfl) (by simp) ?_
  refine AllReadyE.cons rfl (fun KA hKA => ?_) AllReadyE.nil
  rw [if_pos (by kernel_rfl)]
  go_simp
  refine (onum_any 1 w7 hO7 (by omega) (by omega) (by simp only [List.length_append, List.length_nil]; have := HLN.out; simp only [show ((1 : Nat) : Int) = 1 from rfl] at this; omega)).mono ?_
  rintro e w8 ⟨rfl, g8, hO8, hE8⟩
  rw [show (false || decide ((1 : Int) < 0)) = false by simp; try omega] at hO8
  have hS8 : Below P w3 w8 := hS7.trans (hE8.below (by have := hS7.size; omega) (Nat.le_refl _) (fun k hk => (hO7.gB k hk).1))
  try go_simp
  refine hKA _ _ (fun _ => hS8) ?_
  clear hKA KA
  refine wpAnyE_ready (rs := [17]) (by kernel_rfl) (by simp) ?_
  refine AllReadyE.cons rfl (fun KA hKA => ?_) AllReadyE.nil
  rw [if_pos (by kernel_rfl)]
  go_simp
  refine (onum_any c w8 hO8 (by omega) (by omega) (by simp only [List.length_append, List.length_nil]; have := HLN.out; simp only [show ((1 : Nat) : Int) = 1 from rfl] at this; omega)).mono ?_
  rintro e w9 ⟨rfl, g9, hO9, hE9⟩
  rw [show (false || decide ((c : Int) < 0)) = false by simp; try omega] at hO9
  have hS9 : Below P w3 w9 := hS8.trans (hE9.below (by have := hS8.size; omega) (Nat.le_refl _) (fun k hk => (hO8.gB k hk).1))
  try go_simp
  refine hKA _ _ (fun _ => hS9) ?_
  clear hKA KA
  refine wpAnyE_ready (rs := [20]) (by kernel_rfl) (by simp) ?_
  refine AllReadyE.cons rfl (fun KA hKA => ?_) AllReadyE.nil
  rw [if_pos (by kernel_rfl)]
  go_simp
  refine (obytes_any (.slice none 0 0) [] w9 hO9 ⟨none, 0, rfl, by simp, by simp, by simp, fun h => absurd rfl h⟩ (fun k hk => by simp [Value.ownBlock] at hk) (by simp only [List.length_append, List.length_nil]; have := HLN.out; simp only [show ((1 : Nat) : Int) = 1 from rfl] at this; omega)).mono ?_
  rintro e w10 ⟨rfl, g10, hO10, hE10⟩
  have hS10 : Below P w3 w10 := hS9.trans (hE10.below (by have := hS9.size; omega) (Nat.le_refl _) (fun k hk => (hO9.gB k hk).1))
  try go_simp
  refine hKA _ _ (fun _ => hS10) ?_
  clear hKA KA
  have HF := Lib.hid (And.intro hO10 hS10)
  clear hS0 hO4 hO5 hO6 hO7 hO8 hO9 hE5 hE6 hE7 hE8 hE9 hE10 hS5 hS6 hS7 hS8 hS9 hO10 hS10 hfa hbk hO3
  refine wpAnyE_ready (rs := [21]) (by kernel_rfl) (by simp) ?_
  refine AllReadyE.cons rfl (fun KA hKA => ?_) AllReadyE.nil
  rw [if_pos (by kernel_rfl)]
  go_simp
  refine hKA _ _ (fun h => Bool.noConfusion (show true = false from h)) ?_
  clear hKA KA
  refine wpAnyE_done (by kernel_rfl) ?_ _
  go_wp2_with fail
  go_ret
  obtain ⟨hO, hS⟩ := HF.out
  refine ⟨P, g10, rfl, ?_, HX.out.1.trans (hS.mono (by omega))⟩
  rw [hH.out]
  rw [List.nil_append] at hO
  exact ⟨by omega, hO.2.1, by obtain ⟨_, _, sv, h1, h2, h3, h4, h5, h6⟩ := hO; exact ⟨sv, h1, h2, h3, h4, h5.mono (by omega), h6⟩⟩
end Go.Proofs.YtembfelckbmgiaaDoor
