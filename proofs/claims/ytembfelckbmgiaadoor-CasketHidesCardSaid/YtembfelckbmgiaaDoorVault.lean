/- vault.draw: the walk (printed by genvault.py). -/
import Derived.Test.YtembfelckbmgiaaDoorStream
import Derived.Test.YtembfelckbmgiaaDoorRev
import Derived.Test.YtembfelckbmgiaaDoorOps
namespace Go.Proofs.YtembfelckbmgiaaDoor
open Go.RowKit Big
set_option linter.unusedVariables false
def mkV (v u : Value) : Sem Value := Instr.makeSlice 27 v u
theorem mkV_eq (v u : Value) : Instr.makeSlice 27 v u = mkV v u := rfl
set_option maxRecDepth 100000 in
theorem mkV_made (w : World) (n : Nat) (h : n ≤ 100000) : ∃ w', (mkV (.int .i64 n) (.int .i64 n)).run Tryd.prog w = .ok (.slice (some ⟨w.heap.size, 0, none⟩) n n) w' ∧ OB w' w.heap.size (.slice (some ⟨w.heap.size, 0, none⟩) n n) (List.replicate n 0) ∧ Below w.heap.size w w' ∧ w'.heap.size = w.heap.size + 1 := by
  refine ⟨w.alloc (.cells ((List.replicate n (0 : UInt8)).map bv).toArray 5), ?_, ?_, (Below.refl _ _).alloc (Nat.le_refl _) _, by simp⟩
  · obtain ⟨i0, hi, hz0, hz1, hz2⟩ := info_parts Tryd.info_u8
    have hb2 : (i0.bytes : Int) * n ≤ 281474976710656 := by rw [hz2]; omega
    have := run_make (P := Tryd.prog) w _ _ i0 (.int .u8 0) Tryd.underlying27 hi hz0 .i64 .i64 (n : Int) n (by omega) (by omega) hb2 (by omega)
    unfold mkV
    rw [this, Int.toNat_natCast, hz1, Nat.mul_one]
    congr 3
    apply Array.ext'
    have := toList_madeCells_one (.int .u8 0) n
    rw [show (Value.int .u8 0).cells = #[.int .u8 0] from rfl, this]
    simp [bv]
  · have := World.ownsRow_lit (base := w.heap.size) (e := 5) (size := 1) w ((List.replicate n (0 : UInt8)).map bv).toArray n (Nat.le_refl _) (by unfold maxLen; omega) (by simp)
    unfold OB; simpa using this
theorem Only.ge {B : Nat} {w w' : World} (h : Below B w w') : Only (fun k => B ≤ k) w w' := ⟨h.os, h.tape, h.output, h.size, fun k _ hn => h.block k (by omega)⟩
theorem OB.under {B base : Nat} {w w' : World} {v : Value} {l : List UInt8} (h : OB w base v l) (hb : Below B w w') (hlt : ∀ k, v.ownBlock = some k → k < B) : OB w' base v l := h.only (Only.ge hb) (fun k hk => by have := hlt k hk; omega)
/-- A number's bytes, the highest first. -/
def beL (k x : Nat) : List UInt8 := (putLowL k x).reverse
theorem beL_len (k x : Nat) : (beL k x).length = k := by unfold beL; rw [List.length_reverse, putLowL_length]
/-- What an ideal vault draws. -/
def drawL (K : List UInt8) (kind n m : Nat) : List UInt8 := beL 8 n ++ streamF K (beL 4 kind ++ beL 8 n) 0 (List.replicate m 0)
theorem drawL_len (K : List UInt8) (kind n m : Nat) : (drawL K kind n m).length = m + 8 := by unfold drawL; rw [List.length_append, beL_len, streamF_len _ _ _ (by omega), List.length_replicate]; omega
attribute [local go_sem ↓] alT_12 ldT_12 stT_12 ldT_32 apB_eq mkV_eq
set_option maxRecDepth 100000 in
set_option maxHeartbeats 2000000 in
theorem draw_any (K : List UInt8) (p kind n m : Nat) (w : World) (hK : K.length = 32) (hr : w.rangeAt p 1 (nvs .u8 (K.map UInt8.toNat))) (hp : p < w.heap.size) (hkd : kind ≤ 100) (hn : n ≤ 100000) (hm : m ≤ 1000) :
    Calls Tryd.prog 28 #[.pointer (some ⟨p, 0, none⟩), .int .i64 kind, .int .i64 n, .int .i64 ((m + 8 : Nat) : Int)] w fun e w' => ∃ v', e = .returned v' ∧ OB w' w.heap.size v' (drawL K kind n m) ∧ Below w.heap.size w w' := by
  have hkp : ∀ w' : World, Below w.heap.size w w' → (ldT 25 (.pointer (some ⟨p, 1, none⟩))).run Tryd.prog w' = .ok (.agg (K.map bv).toArray) w' := fun w' hB => by
    have := run_ldT big32 w' p 1 _ (rangeAt_only hr (Only.of_below (S := fun _ => False) hB) (fun h => h)) (by rw [nvs_len, List.length_map, hK, nvs_len, zN_len])
    rwa [nvs_bytes] at this
  have hc1 := putHigh_any n 8 w (by omega) (by omega) (by omega)
  have HD := Lib.hid (show drawL K kind n m = beL 8 n ++ streamF K (beL 4 kind ++ beL 8 n) 0 (List.replicate m 0) from rfl)
  have HL := Lib.hid (show (beL 4 kind ++ beL 8 n).length = 12 by rw [List.length_append, beL_len, beL_len])
  have HK := Lib.hid (And.intro hkp hK)
  have hu1 : IntKind.u64.wrap (n : Int) = n := by rw [IntKind.wrap_u64]; omega
  have hu2 : IntKind.u64.wrap (kind : Int) = kind := by rw [IntKind.wrap_u64]; omega
  have hm8 : ((m + 8 : Nat) : Int) - 8 = m := by omega
  have hwm : IntKind.i64.wrap (m : Int) = m := by rw [IntKind.wrap_i64]; omega
  generalize drawL K kind n m = R at *
  clear hr hkp hK
  go_enter Tryd.func28, Tryd.ntmps28
  go_wp2_with fail
  refine hc1.mono ?_
  rintro e w1 ⟨v1, rfl, ho1, hB1⟩
  rw [show (8 : Int).toNat = 8 from rfl, show (putLowL 8 n).reverse = beL 8 n from rfl] at ho1
  have hs1 := hB1.size
  have hc2 := putHigh_any kind 4 w1 (by omega) (by omega) (by omega)
  clear hc1
  go_wp2_with fail
  refine hc2.mono ?_
  rintro e w2 ⟨v2, rfl, ho2, hB2⟩
  rw [show (4 : Int).toNat = 4 from rfl, show (putLowL 4 kind).reverse = beL 4 kind from rfl] at ho2
  have ho12 := ho1.keep hB2
  have hs2 := hB2.size
  have hB02 := hB1.trans (hB2.mono hs1)
  obtain ⟨v3, w3, hap, ho3, hB3, _, hs3⟩ := apB_made w2 w1.heap.size 27 v2 v1 _ _ ho2 ho12.bsl (by rw [beL_len, beL_len]; omega) hs2
  have ho13 := ho12.under hB3 ho1.own_lt
  have hB03 := hB02.trans (hB3.mono hs1)
  clear hc2 ho1 ho2 ho12 hB1 hB2 hB02 hB3
  obtain ⟨N, hN⟩ : ∃ N, N = beL 4 kind ++ beL 8 n := ⟨_, rfl⟩
  rw [← hN] at ho3
  have HN := Lib.hid hN
  have HNL := Lib.hid (show N.length = 12 by rw [hN]; exact HL.out)
  clear hN
  obtain ⟨g, c3, rfl, hgb, hgs, hgc, hgm⟩ := ho3.shape (by intro e; have := HNL.out; rw [e] at this; simp at this)
  have hgr : w3.rangeAt g 0 (nvs .u8 (N.map UInt8.toNat)) := by
    rw [nvs_bytes]
    intro j u hu
    have hj : j < N.length := by have := (List.getElem?_eq_some_iff.1 hu).1; simpa using this
    rw [Nat.zero_add, ho3.cell rfl hj, ← hu]
    simp [bv, hj, List.getD]
  have hld3 := run_ldT big12 w3 g 0 _ hgr (by rw [nvs_len, List.length_map, HNL.out, nvs_len, zN_len])
  rw [nvs_bytes] at hld3
  rw [HNL.out] at ho3 hap hgc
  have harr := fun w => run_arrayAt (P := Tryd.prog) (w := w) 84 5 12 (some ⟨g, 0, none⟩) 12 c3 Tryd.underlying84 (Nat.le_refl _)
  obtain ⟨wa, w4, hal4, hst4, hA4, hB4, hs4⟩ := big12.made w3 (N.map UInt8.toNat) (by rw [List.length_map, HNL.out, zN_len])
  rw [nvs_bytes] at hst4
  have hb14 := ho13.keep hB4
  have hB04 := hB03.trans (hB4.mono hB03.size)
  have hg1 := fun k (hk : v1.ownBlock = some k) => ho13.own_lt k hk
  have hq3 : w.heap.size ≤ w3.heap.size := hB03.size
  clear ho3 hgr hgb hgs hgc hgm hB03 hB4 ho13
  generalize w3.heap.size = q at *
  go_wp2_with fail
  have hS : ∀ w' : World, Below w4.heap.size w4 w' → (ldT 25 (.pointer (some ⟨p, 1, none⟩))).run Tryd.prog w' = .ok (.agg (K.map bv).toArray) w' ∧ (ldT 84 (.pointer (some ⟨q, 0, none⟩))).run Tryd.prog w' = .ok (.agg (N.map bv).toArray) w' := fun w' hB => by
    refine ⟨HK.out.1 w' (hB04.trans (hB.mono hB04.size)), ?_⟩
    have := big12.ld (hA4.keep hB) (by rw [List.length_map, HNL.out, zN_len])
    rwa [nvs_bytes] at this
  refine wp_region_E 11 (fun w' => (ldT 25 (.pointer (some ⟨p, 1, none⟩))).run Tryd.prog w' = .ok (.agg (K.map bv).toArray) w' ∧ (ldT 84 (.pointer (some ⟨q, 0, none⟩))).run Tryd.prog w' = .ok (.agg (N.map bv).toArray) w') (by kernel_rfl) ?_
  have hS0 := hS w4.drew (Below.refl _ _).drew
  clear hal4 hst4 hap hld3 harr
  refine wpAnyE_take (i := 0) (v := ?v_a0) rfl (by kernel_rfl) (by kernel_rfl) (by kernel_rfl) (by kernel_rfl) (by kernel_rfl) (fun _ _ _ h => h) (Or.inl ⟨by kernel_rfl, ?y_a0⟩) (by assumption) ?r_a0
  case y_a0 => intro wE hSw; obtain ⟨q1, q2⟩ := hSw; go_simp; try with_reducible rfl
  case' r_a0 => ((try simp only [Act.put]); (try simp only [List.setIfInBounds_toArray]); (try simp only [List.set_cons_zero, List.set_cons_succ]))
  refine wpAnyE_take (i := 1) (v := ?v_a1) rfl (by kernel_rfl) (by kernel_rfl) (by kernel_rfl) (by kernel_rfl) (by kernel_rfl) (fun _ _ _ h => h) (Or.inl ⟨by kernel_rfl, ?y_a1⟩) (by assumption) ?r_a1
  case y_a1 => intro wE hSw; obtain ⟨q1, q2⟩ := hSw; go_simp; try with_reducible rfl
  case' r_a1 => ((try simp only [Act.put]); (try simp only [List.setIfInBounds_toArray]); (try simp only [List.set_cons_zero, List.set_cons_succ]))
  refine wpAnyE_take (i := 2) (v := ?v_a2) rfl (by kernel_rfl) (by kernel_rfl) (by kernel_rfl) (by kernel_rfl) (by kernel_rfl) (fun _ _ _ h => h) (Or.inl ⟨by kernel_rfl, ?y_a2⟩) (by assumption) ?r_a2
  case y_a2 => intro wE hSw; obtain ⟨q1, q2⟩ := hSw; go_simp; try with_reducible rfl
  case' r_a2 => ((try simp only [Act.put]); (try simp only [List.setIfInBounds_toArray]); (try simp only [List.set_cons_zero, List.set_cons_succ]))
  refine wpAnyE_take (i := 3) (v := ?v_a3) rfl (by kernel_rfl) (by kernel_rfl) (by kernel_rfl) (by kernel_rfl) (by kernel_rfl) (fun _ _ _ h => h) (Or.inl ⟨by kernel_rfl, ?y_a3⟩) (by assumption) ?r_a3
  case y_a3 => intro wE hSw; obtain ⟨q1, q2⟩ := hSw; go_simp; try with_reducible rfl
  case' r_a3 => ((try simp only [Act.put]); (try simp only [List.setIfInBounds_toArray]); (try simp only [List.set_cons_zero, List.set_cons_succ]))
  refine wpAnyE_take (i := 4) (v := ?v_a4) rfl (by kernel_rfl) (by kernel_rfl) (by kernel_rfl) (by kernel_rfl) (by kernel_rfl) (fun _ _ _ h => h) (Or.inl ⟨by kernel_rfl, ?y_a4⟩) (by assumption) ?r_a4
  case y_a4 => intro wE hSw; obtain ⟨q1, q2⟩ := hSw; go_simp; try with_reducible rfl
  case' r_a4 => ((try simp only [Act.put]); (try simp only [List.setIfInBounds_toArray]); (try simp only [List.set_cons_zero, List.set_cons_succ]))
  refine wpAnyE_take (i := 5) (v := ?v_a5) rfl (by kernel_rfl) (by kernel_rfl) (by kernel_rfl) (by kernel_rfl) (by kernel_rfl) (fun _ _ _ h => h) (Or.inl ⟨by kernel_rfl, ?y_a5⟩) (by assumption) ?r_a5
  case y_a5 => intro wE hSw; obtain ⟨q1, q2⟩ := hSw; go_simp; try with_reducible rfl
  case' r_a5 => ((try simp only [Act.put]); (try simp only [List.setIfInBounds_toArray]); (try simp only [List.set_cons_zero, List.set_cons_succ]))
  refine wpAnyE_take (i := 6) (v := ?v_a6) rfl (by kernel_rfl) (by kernel_rfl) (by kernel_rfl) (by kernel_rfl) (by kernel_rfl) (fun _ _ _ h => h) (Or.inl ⟨by kernel_rfl, ?y_a6⟩) (by assumption) ?r_a6
  case y_a6 => intro wE hSw; obtain ⟨q1, q2⟩ := hSw; go_simp; try with_reducible rfl
  case' r_a6 => ((try simp only [Act.put]); (try simp only [List.setIfInBounds_toArray]); (try simp only [List.set_cons_zero, List.set_cons_succ]))
  refine wpAnyE_take (i := 7) (v := ?v_a7) rfl (by kernel_rfl) (by kernel_rfl) (by kernel_rfl) (by kernel_rfl) (by kernel_rfl) (fun _ _ _ h => h) (Or.inl ⟨by kernel_rfl, ?y_a7⟩) (by assumption) ?r_a7
  case y_a7 => intro wE hSw; obtain ⟨q1, q2⟩ := hSw; go_simp; try with_reducible rfl
  case' r_a7 => ((try simp only [Act.put]); (try simp only [List.setIfInBounds_toArray]); (try simp only [List.set_cons_zero, List.set_cons_succ]))
  obtain ⟨w5, hmk, ho5, hB5, hs5⟩ := mkV_made w4.drew m (by omega)
  rw [show w4.drew.heap.size = q + 1 from hs4] at hmk ho5 hs5
  have hS5 := hS w5 ((Below.refl _ _).drew.trans hB5)
  refine wpAnyE_ready (rs := [8]) (by kernel_rfl) (by simp) ?_
  refine AllReadyE.cons rfl (fun KA hKA => ?_) AllReadyE.nil
  rw [if_pos (by kernel_rfl)]
  go_simp
  refine hKA _ _ (fun _ => hS5) ?_
  clear hKA KA
  have hA5 := (show AN .u8 w4.drew _ _ from hA4).keep hB5
  have hb15 := (show OB w4.drew _ _ _ from hb14).keep hB5
  have hB05 := hB04.drew.trans (hB5.mono hB04.size)
  have hst := stream_any K N 0 _ (List.replicate m 0) w5 HK.out.2 HNL.out (by omega) ho5.bsl (by rw [List.length_replicate]; omega)
  rw [show ((0 : Nat) : Int) = 0 from rfl] at hst
  refine wpAnyE_ready (rs := [9]) (by kernel_rfl) (by simp) ?_
  refine AllReadyE.cons rfl (fun KA hKA => ?_) AllReadyE.nil
  rw [if_pos (by kernel_rfl)]
  go_simp
  refine hst.mono ?_
  rintro e w6 ⟨v6, rfl, ho6, hB6⟩
  have hb16 := hb15.keep hB6
  have hB06 := hB05.trans (hB6.mono hB05.size)
  have hS6 := hS w6 (((Below.refl w4.heap.size w4).drew.trans hB5).trans (hB6.mono (by rw [hs5, hs4]; omega)))
  have hs6 := hB6.size
  try go_simp
  refine hKA _ _ (fun _ => hS6) ?_
  clear hKA KA
  have hA6 := hA5.keep hB6
  have hsl := streamF_len K N 0 (by omega) (List.replicate m 0)
  rw [List.length_replicate] at hsl
  have hb6 := ho6.bsl
  refine wpAnyE_ready (rs := [10]) (by kernel_rfl) (by simp) ?_
  refine AllReadyE.cons rfl (fun KA hKA => ?_) AllReadyE.nil
  refine step_app rfl _ _ rfl w.heap.size _ v6 (beL 8 n) (streamF K N 0 (List.replicate m 0)) rfl rfl hb16 hb6 (by rw [beL_len, hsl]; omega) (by have := hB06.size; omega) ?_
  intro v7 w7 ho7 hg7 _
  have hB7 : Below w.heap.size w6 w7 := Below.of_grown hg7 hB06.size hb16.own_ge
  have hB07 := hB06.trans hB7
  have hA7 := hA6.only (Only.of_grown (S := fun k => v1.ownBlock = some k) hg7 (fun k hk => hk)) (fun hk => by have := hg1 _ hk; omega)
  have hS7 := And.intro (HK.out.1 w7 hB07) (show (ldT 84 (.pointer (some ⟨q, 0, none⟩))).run Tryd.prog w7 = .ok (.agg (N.map bv).toArray) w7 by
    have := big12.ld hA7 (by rw [List.length_map, HNL.out, zN_len])
    rwa [nvs_bytes] at this)
  rw [HN.out, ← HD.out] at ho7
  have HF := Lib.hid (And.intro ho7 hB07)
  try go_simp
  refine hKA _ _ (fun _ => hS7) ?_
  clear hKA KA hS0 hS5 hS6 hS7 hS hst ho6 hb16 hB6 hB06 hB5 ho5 hb15 hA4 hA5 hA6 hA7 hB7 hB07 ho7 hg7 hb6 hb14 hB05 hg1 hB04
  refine wpAnyE_ready (rs := [11]) (by kernel_rfl) (by simp) ?_
  refine AllReadyE.cons rfl (fun KA hKA => ?_) AllReadyE.nil
  rw [if_pos (by kernel_rfl)]
  go_simp
  refine hKA _ _ (fun h => Bool.noConfusion (show true = false from h)) ?_
  clear hKA KA
  refine wpAnyE_done (by kernel_rfl) ?_ _
  go_wp2_with fail
  go_ret
  exact ⟨_, rfl, HF.out⟩
end Go.Proofs.YtembfelckbmgiaaDoor
