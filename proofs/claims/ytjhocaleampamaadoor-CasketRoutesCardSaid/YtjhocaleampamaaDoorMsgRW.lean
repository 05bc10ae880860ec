/- The walks of msg.row and msg.list. -/
import Derived.Test.YtjhocaleampamaaDoorMsgR
namespace Go.Proofs.YtjhocaleampamaaDoor
open Go.RowKit
set_option linter.unusedVariables false
attribute [local go_sem ↓] alT_R ldT_R stT_R cpK_eq
theorem Only.setCells1 {b : Nat} (vs : List Value) (o : Nat) (w : World) : Only (· = b) w (w.setCells b o vs) := Only.setCells (S := (· = b)) rfl vs o (Only.refl _ _)
set_option maxRecDepth 100000 in
set_option maxHeartbeats 1000000 in
theorem mrow_any (w : World) {p : Nat} {gi : Option Nat} {d : IK} (h : InAt w p gi d) (hl : d.b.length ≤ 1000000) :
    Calls Tryd.prog 58 #[.pointer (some ⟨p, 0, none⟩)] w fun e w' => ∃ (y : RV) (d2 : IK), e = .returned (.agg y.C.toArray) ∧ y.At w' ∧ (∀ k, y.sv.ownBlock = some k → w.heap.size ≤ k ∧ k < w'.heap.size) ∧ y.set.length ≤ d.b.length ∧ InAt w' p gi d2 ∧ Stp d pRow d2 y.d ∧ Only (· = p) w w' := by
  have hpl := h.lt
  have hgl : ∀ k, gi = some k → k < w.heap.size := by obtain ⟨_, _, _, _, _, _, _, h3, _⟩ := h; exact h3
  have hA1 : Below w.heap.size w (w.alloc (.cells zR.toArray 41)) := (Below.refl _ _).alloc (Nat.le_refl _) _
  have hA2 : Below (w.alloc (.cells zR.toArray 41)).heap.size (w.alloc (.cells zR.toArray 41)) ((w.alloc (.cells zR.toArray 41)).alloc (.cells zR.toArray 41)) := (Below.refl _ _).alloc (Nat.le_refl _) _
  have hal1 := run_alT bigR w
  have hal2 := run_alT bigR (w.alloc (.cells zR.toArray 41))
  have ht1 := there_new w zR 41
  have ht2 := there_new (w.alloc (.cells zR.toArray 41)) zR 41
  have hr2 := rangeAt_alloc_new (w.alloc (.cells zR.toArray 41)) zR 41
  have hs1 : (w.alloc (.cells zR.toArray 41)).heap.size = w.heap.size + 1 := by simp
  have hs2 : ((w.alloc (.cells zR.toArray 41)).alloc (.cells zR.toArray 41)).heap.size = w.heap.size + 2 := by simp
  rw [zR_len] at ht1 ht2
  have ht1 := there_only ht1 (Only.of_below (S := fun _ => False) hA2) (fun h => h)
  have hB2 := hA1.trans (hA2.mono hA1.size)
  go_enter Tryd.func58, Tryd.ntmps58
  go_wp2_with fail
  have hI2 := h.keep hB2
  clear hal1 hal2 hA1 hA2 h
  generalize (w.alloc (.cells zR.toArray 41)).alloc (.cells zR.toArray 41) = w2 at *
  have hbne : ¬ w.heap.size + 1 = p := by omega
  have hbg : ∀ k, gi = some k → ¬ k = w.heap.size + 1 := fun k hk e => by have := hgl k hk; omega
  have hd : (d.fixS 32).b.length ≤ d.b.length := (Stp.fix d 32).1
  rw [hs1] at hr2 ht2
  go_region_law (first
    | (go_simp; go_at_call 59; refine (ifixed_any 32 w2.drew (hI2.keep ((Below.refl _ _).drew)) hl).mono ?_; rintro e w3 ⟨v3, rfl, hv3, hI3, hE3⟩; have hE3 := Only.of_drew hE3; have ht3 := there_only ht2 hE3 hbne; have hcp := fun ty => run_cpK w3 ty (w.heap.size + 1) 0 v3 (d.fixL 32) hv3.bsl (there_part ht3 (by omega)); obtain ⟨so3, sc3, hsv3⟩ := hv3.bsl.shape; rw [hsv3] at hcp))
  all_goals
    rw [← List.map_take]
    have hr3 := rangeAt_only hr2 hE3 hbne
    have hr4 := range_cp (xs := []) (cs := [.slice none 0 0]) (l := d.fixL 32) (by rw [List.nil_append]; exact hr3)
    rw [List.nil_append] at hr4
    have ht4 := World.there_setCells ht3 (w.heap.size + 1) 0 ((d.fixL 32).take 32 |>.map bv)
    have htr4 := World.there_setCells (there_only ht1 hE3 (by omega)) (w.heap.size + 1) 0 ((d.fixL 32).take 32 |>.map bv)
    have ho4 := Only.setCells1 (b := w.heap.size + 1) ((d.fixL 32).take 32 |>.map bv) 0 w3
    have hI4 := hI3.only ho4 (fun e => hbne e.symm) hbg
    have hB24 : Only (fun k => k = p ∨ k = w.heap.size + 1) w2 (w3.setCells (w.heap.size + 1) 0 ((d.fixL 32).take 32 |>.map bv)) := (hE3.mono (fun _ _ e => .inl e)).trans ho4 (fun _ _ e => .inr e)
    clear hr2 ht2 hr3 ht3 hcp hv3 hsv3 hI3 hI2 ho4 hE3 hs1 ht1
    change w3.setCells (w.heap.size + 1) [].length ((d.fixL 32).take 32 |>.map bv) |>.rangeAt _ _ _ at hr4
    rw [List.length_nil] at hr4
    generalize w3.setCells (w.heap.size + 1) 0 ((d.fixL 32).take 32 |>.map bv) = w4 at *
    go_wp2_with fail
    refine (ibytes_any 1048576 w4 hI4 (by omega)).mono ?_
    rintro e w5 ⟨v5, rfl, hv5, hI5, hE5⟩
    obtain ⟨so5, sc5, rfl⟩ := hv5.bsl.shape
    have hr5 := rangeAt_only hr4 hE5 hbne
    have ht5 := there_only ht4 hE5 hbne
    have htr5 := there_only htr4 hE5 (by omega)
    have hbl := bytL_le (d.fixS 32) 1048576
    have hSt := Stp.row d
    have hpk := padK_len (d.fixL 32)
    have hbs := hv5.bsl
    have hge5 := hv5.own_ge
    have hlt5 := hv5.own_lt
    have hs4 := hB24.size
    generalize hbv : (d.fixS 32).bytL 1048576 = l5 at *
    generalize hpv : padK (d.fixL 32) = k5 at *
    have c32 : w5.cell? ⟨w.heap.size + 1, 32, none⟩ = some (.slice none 0 0) := by
      have := (rangeAt_app hr5).2 0 _ rfl
      simpa [hpk] using this
    have f32 := (ht5 32 (by omega)).2
    rw [Nat.zero_add] at f32
    have hr6 := rangeAt_set hr5 32 (.slice so5 l5.length sc5)
    rw [List.set_append_right _ _ (by rw [List.length_map]; omega), List.length_map, hpk] at hr6
    have ht6 := there_set ht5 32 (.slice so5 l5.length sc5)
    have ho6 : Only (· = w.heap.size + 1) w5 (w5.setCell ⟨w.heap.size + 1, 32, none⟩ (.slice so5 l5.length sc5)) := Only.setCell (S := (· = w.heap.size + 1)) (Only.refl _ _) (p := ⟨w.heap.size + 1, 32, none⟩) (fun _ => rfl) _
    have htr6 := there_only htr5 ho6 (by omega)
    have hI6 := hI5.only ho6 (fun e => hbne e.symm) hbg
    have hb6 := hbs.only ho6 (fun k hk e => by have := hge5 k hk; omega)
    have hyA : RV.At (w5.setCell ⟨w.heap.size + 1, 32, none⟩ (.slice so5 l5.length sc5)) ⟨k5, .slice so5 l5.length sc5, l5⟩ := ⟨hpk, hb6⟩
    have hC : RV.C ⟨k5, .slice so5 l5.length sc5, l5⟩ = k5.map bv ++ [.slice so5 l5.length sc5] := rfl
    have hlen := RV.C_len hyA
    have hone := RV.C_one hyA
    rw [show (List.map bv k5 ++ List.set [Value.slice none 0 0] (32 - 32) (.slice so5 l5.length sc5)) = k5.map bv ++ [.slice so5 l5.length sc5] from rfl, ← hC] at hr6
    have hon6 : Only (fun k => k = p ∨ k = w.heap.size + 1) w2 (w5.setCell ⟨w.heap.size + 1, 32, none⟩ (.slice so5 l5.length sc5)) := (hB24.trans hE5 (fun _ _ e => .inl e)).trans ho6 (fun _ _ e => .inr e)
    generalize hY : (⟨k5, .slice so5 l5.length sc5, l5⟩ : RV) = y at *
    have hld := run_ldT bigR (w5.setCell ⟨w.heap.size + 1, 32, none⟩ (.slice so5 l5.length sc5)) (w.heap.size + 1) 0 y.C hr6 (by rw [hlen, zR_len])
    have hst := run_stT bigR (w5.setCell ⟨w.heap.size + 1, 32, none⟩ (.slice so5 l5.length sc5)) w.heap.size 0 y.C (by rw [hlen]; exact htr6) (by rw [hlen, zR_len]) hone
    have hsame := World.rangeAt_setCells_same (w5.setCell ⟨w.heap.size + 1, 32, none⟩ (.slice so5 l5.length sc5)) w.heap.size 0 y.C (by rw [hlen]; exact htr6)
    have ho7 := Only.setCells1 (b := w.heap.size) y.C 0 (w5.setCell ⟨w.heap.size + 1, 32, none⟩ (.slice so5 l5.length sc5))
    have hlv := run_lvT bigR _ w.heap.size 0 y.C hsame (by rw [hlen, zR_len])
    have hI7 := hI6.only ho7 (by omega) (fun k hk e => by have := hgl k hk; omega)
    have hyB : ∀ k, y.sv.ownBlock = some k → w.heap.size ≤ k ∧ k < ((w5.setCell ⟨w.heap.size + 1, 32, none⟩ (.slice so5 l5.length sc5)).setCells w.heap.size 0 y.C).heap.size := fun k hk => by
      rw [← hY] at hk; have h1 := hge5 k hk; have h2 := hlt5 k hk; have h3 := ho6.size; have h4 := ho7.size; omega
    have hyA7 : y.At ((w5.setCell ⟨w.heap.size + 1, 32, none⟩ (.slice so5 l5.length sc5)).setCells w.heap.size 0 y.C) := ⟨hyA.1, hyA.2.only ho7 (fun k hk e => by rw [← hY] at hk; have := hge5 k hk; omega)⟩
    have hon7 : Only (· = p) w ((w5.setCell ⟨w.heap.size + 1, 32, none⟩ (.slice so5 l5.length sc5)).setCells w.heap.size 0 y.C) := by
      have h1 : Only (fun k => k = p ∨ k = w.heap.size + 1 ∨ k = w.heap.size) w2 ((w5.setCell ⟨w.heap.size + 1, 32, none⟩ (.slice so5 l5.length sc5)).setCells w.heap.size 0 y.C) := (hon6.mono (fun _ _ e => e.elim .inl (fun e => .inr (.inl e)))).trans ho7 (fun _ _ e => .inr (.inr e))
      have h2 := (Only.of_below (S := (· = p)) hB2).trans h1
      exact h2 (fun i hi e => e.elim id (fun e => e.elim (fun e => by omega) (fun e => by omega)))
    have HF := Lib.hid (And.intro hyA7 (And.intro hyB (And.intro hI7 hon7)))
    have HY := Lib.hid hY
    clear hC hY hyA7 hyB hI7 hon7 hon6 hr6 hsame ho7 hyA hb6 hbs hI6 hI5 hE5 hB24 hr5 hr4 ht4 htr4 ht5 htr5 ht6 htr6 ho6 hI4 hlt5 hv5 hge5
    go_wp2_with fail
    refine bodyPost_ret (results_cell Tryd.results58 rfl hlv) rfl ?_
    refine ⟨y, _, rfl, HF.out.1, HF.out.2.1, ?_, HF.out.2.2.1, ?_, HF.out.2.2.2⟩
    · rw [← HY.out]; show l5.length ≤ _; omega
    · rw [← HY.out]; exact hSt
end Go.Proofs.YtjhocaleampamaaDoor
