/- envelope.Write: the walk (printed by genwrite.py). -/
import Derived.Test.YtembfelckbmgiaaDoorEnvB
namespace Go.Proofs.YtembfelckbmgiaaDoor
open Go.RowKit Big
set_option linter.unusedVariables false
set_option linter.unusedSimpArgs false
attribute [local go_sem ↓] ldT_E
set_option maxRecDepth 100000 in
set_option maxHeartbeats 8000000 in
theorem write_any (key : List UInt8) (c : Nat) (sv : Value) (s : List UInt8) (w : World) (hk : key.length = 32) (hc : 1 ≤ c ∧ c ≤ 1000) (hb : Bsl w sv s) (hs : 16 ≤ s.length ∧ s.length ≤ 8192) :
    Calls Tryd.prog 8 #[.agg (envC key c sv).toArray] w fun e w' => ∃ v, e = .returned (.tuple #[v, .int .i64 0]) ∧ OB w' w.heap.size v (boundL key c ++ bytesL s) ∧ Below w.heap.size w w' := by
  obtain ⟨w0, hw0, hE0, hB0, hs0⟩ : ∃ w0, w0 = w.alloc (.cells (envC key c sv).toArray 38) ∧ EnvAt w0 w.heap.size key c sv ∧ Below w.heap.size w w0 ∧ w0.heap.size = w.heap.size + 1 :=
    ⟨_, rfl, EnvAt.box w key c sv hk _, (Below.refl _ _).alloc (Nat.le_refl _) _, by simp⟩
  have hld := hE0.ld
  rw [hw0] at hld
  have hrt := eright_any key c sv s w0 hk hc (hb.keep hB0) hs
  have hbl := boundL_len key c
  have hbn := fun w' => bound_any key c sv w' hk hc
  generalize boundL key c = R at *
  go_enter Tryd.func8, Tryd.ntmps8
  go_wp2_with fail
  rw [← hw0]
  refine hrt.mono ?_
  rintro e w1 ⟨rfl, hB1⟩
  have hE1 := hE0.keep hB1
  have hs1 := hB1.size
  have hB1 := hB0.trans (hB1.mono hB0.size)
  have hb1 := hb.keep hB1
  have hfa : ∀ w', Below (w.heap.size + 1) w1 w' → (ldT 38 (.pointer (some ⟨w.heap.size, 0, none⟩))).run Tryd.prog w' = .ok (.agg (envC key c sv).toArray) w' ∧ w'.cell? ⟨w.heap.size, 37, none⟩ = some sv ∧ (∀ B, B ≤ w'.heap.size → Bsl w' sv s) := fun w' hB => by
    have hE := hE1.only (Only.ge hB) (by omega)
    refine ⟨hE.ld, hE.cs.2.2.2.2.2, fun _ _ => ?_⟩
    exact hb1.only' (Only.ge hB) (fun hne k hk => by have := hb.own_lt hne k hk; omega)
  have HX := Lib.hid (And.intro hB1 (And.intro hbl hs))
  clear hrt hld hw0 hE0 hE1 hB0 hB1 hb1 hbl hs
  go_wp2_with fail
  rw [hs0] at hs1
  refine wp_region_El 9 (fun w' => Below (w.heap.size + 1) w1 w') #[false, false, false, false, false, false, false, false, false, false] (by kernel_rfl) (by kernel_rfl) ?_
  have hS0 : Below (w.heap.size + 1) w1 w1.drew := (Below.refl _ _).drew
  refine wpAnyE_take (i := 0) (v := ?v_a0) rfl (by kernel_rfl) (by kernel_rfl) (by kernel_rfl) (by kernel_rfl) (by kernel_rfl) (fun _ _ _ h => h) (Or.inl ⟨by kernel_rfl, ?y_a0⟩) (by assumption) ?r_a0
  case y_a0 => intro wE hSw; obtain ⟨q0, q1, q2⟩ := hfa wE hSw; go_simp; try with_reducible rfl
  case' r_a0 => ((try simp only [Act.put, List.getElem_toArray, List.getElem_cons_zero, List.getElem_cons_succ]); (try simp only [List.setIfInBounds_toArray]); (try simp only [List.set_cons_zero, List.set_cons_succ]))
  refine wpAnyE_take (i := 2) (v := ?v_a2) rfl (by kernel_rfl) (by kernel_rfl) (by kernel_rfl) (by kernel_rfl) (by kernel_rfl) (fun _ _ _ h => h) (Or.inl ⟨by kernel_rfl, ?y_a2⟩) (by assumption) ?r_a2
  case y_a2 => intro wE hSw; obtain ⟨q0, q1, q2⟩ := hfa wE hSw; go_simp; try with_reducible rfl
  case' r_a2 => ((try simp only [Act.put, List.getElem_toArray, List.getElem_cons_zero, List.getElem_cons_succ]); (try simp only [List.setIfInBounds_toArray]); (try simp only [List.set_cons_zero, List.set_cons_succ]))
  refine wpAnyE_take (i := 3) (v := ?v_a3) rfl (by kernel_rfl) (by kernel_rfl) (by kernel_rfl) (by kernel_rfl) (by kernel_rfl) (fun _ _ _ h => h) (Or.inl ⟨by kernel_rfl, ?y_a3⟩) (by assumption) ?r_a3
  case y_a3 => intro wE hSw; obtain ⟨q0, q1, q2⟩ := hfa wE hSw; go_simp; try with_reducible rfl
  case' r_a3 => ((try simp only [Act.put, List.getElem_toArray, List.getElem_cons_zero, List.getElem_cons_succ]); (try simp only [List.setIfInBounds_toArray]); (try simp only [List.set_cons_zero, List.set_cons_succ]))
  refine wpAnyE_ready (rs := [1]) (by kernel_rfl) (by simp) ?_
  refine AllReadyE.cons rfl (fun KA hKA => ?_) AllReadyE.nil
  rw [if_pos (by kernel_rfl)]
  go_simp
  refine (hbn w1.drew).mono ?_
  rintro e w2 ⟨P, g, rfl, hO2, hB2⟩
  have hS2 : Below (w.heap.size + 1) w1 w2 := hS0.trans (hB2.mono hs1)
  try go_simp
  refine hKA _ _ (fun _ => hS2) ?_
  clear hKA KA
  have hs2 := hS2.size
  have hbs2 := (hfa w2 hS2).2.2 0 (Nat.zero_le _)
  refine wpAnyE_ready (rs := [4]) (by kernel_rfl) (by simp) ?_
  refine AllReadyE.cons rfl (fun KA hKA => ?_) AllReadyE.nil
  rw [if_pos (by kernel_rfl)]
  go_simp
  refine (obytes_far sv s w2 hO2 hbs2 (fun hne k hk => ⟨fun e => by have := hb.own_lt hne k hk; have := hO2.1; rw [World.size_drew] at this; omega, fun e => by have := hb.own_lt hne k hk; have := (hO2.gB k e).1; rw [World.size_drew] at this; omega⟩) (by have := HX.out; omega)).mono ?_
  rintro e w3 ⟨rfl, g3, hO3, hE3⟩
  have hS3 : Below (w.heap.size + 1) w1 w3 := hS2.trans (hE3.below (by omega) (by have := hO2.1; rw [World.size_drew] at this; omega) (fun k hk => by have := (hO2.gB k hk).1; rw [World.size_drew] at this; omega))
  try go_simp
  refine hKA _ _ (fun _ => hS3) ?_
  clear hKA KA
  have hs3 := hS3.size
  refine wpAnyE_ready (rs := [5]) (by kernel_rfl) (by simp) ?_
  refine AllReadyE.cons rfl (fun KA hKA => ?_) AllReadyE.nil
  rw [if_pos (by kernel_rfl)]
  go_simp
  refine (odone_any w3 hO3 (by rw [List.length_append, bytesL_length]; have := HX.out; omega)).mono ?_
  rintro e w4 ⟨v4, rfl, ho4, hB4⟩
  have hS4 : Below (w.heap.size + 1) w1 w4 := hS3.trans (hB4.mono (by omega))
  try go_simp
  refine hKA _ _ (fun _ => hS4) ?_
  clear hKA KA
  refine wpAnyE_take (i := 6) (v := ?v_a6) rfl (by kernel_rfl) (by kernel_rfl) (by kernel_rfl) (by kernel_rfl) (by kernel_rfl) (fun _ _ _ h => h) (Or.inl ⟨by kernel_rfl, ?y_a6⟩) (by assumption) ?r_a6
  case y_a6 => intro wE hSw; obtain ⟨q0, q1, q2⟩ := hfa wE hSw; go_simp; try with_reducible rfl
  case' r_a6 => ((try simp only [Act.put, List.getElem_toArray, List.getElem_cons_zero, List.getElem_cons_succ]); (try simp only [List.setIfInBounds_toArray]); (try simp only [List.set_cons_zero, List.set_cons_succ]))
  refine wpAnyE_take (i := 7) (v := ?v_a7) rfl (by kernel_rfl) (by kernel_rfl) (by kernel_rfl) (by kernel_rfl) (by kernel_rfl) (fun _ _ _ h => h) (Or.inl ⟨by kernel_rfl, ?y_a7⟩) (by assumption) ?r_a7
  case y_a7 => intro wE hSw; obtain ⟨q0, q1, q2⟩ := hfa wE hSw; go_simp; try with_reducible rfl
  case' r_a7 => ((try simp only [Act.put, List.getElem_toArray, List.getElem_cons_zero, List.getElem_cons_succ]); (try simp only [List.setIfInBounds_toArray]); (try simp only [List.set_cons_zero, List.set_cons_succ]))
  have HF := Lib.hid (And.intro (ho4.mono (b' := w.heap.size) (by omega)) (HX.out.1.trans (hS4.mono (by omega))))
  refine wpAnyE_ready (rs := [8]) (by kernel_rfl) (by simp) ?_
  refine AllReadyE.cons rfl (fun KA hKA => ?_) AllReadyE.nil
  rw [if_pos (by kernel_rfl)]
  go_simp
  refine hKA _ _ (fun _ => hS4) ?_
  clear hKA KA hS0 hS2 hS3 hO2 hO3 hE3 hB2 hB4 hbn hfa hbs2
  refine wpAnyE_ready (rs := [9]) (by kernel_rfl) (by simp) ?_
  refine AllReadyE.cons rfl (fun KA hKA => ?_) AllReadyE.nil
  rw [if_pos (by kernel_rfl)]
  go_simp
  refine hKA _ _ (fun h => Bool.noConfusion (show true = false from h)) ?_
  clear hKA KA hS4
  refine wpAnyE_done (by kernel_rfl) ?_ _
  go_wp2_with fail
  go_ret2
  exact ⟨_, rfl, HF.out⟩
end Go.Proofs.YtembfelckbmgiaaDoor
