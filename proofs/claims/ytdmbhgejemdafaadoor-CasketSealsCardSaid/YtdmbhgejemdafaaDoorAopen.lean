/- aead.Open of what was sealed: the walk (printed by genopen.py). -/
import Derived.Test.YtdmbhgejemdafaaDoorAead
import Derived.Test.YtdmbhgejemdafaaDoorSame

namespace Go.Proofs.YtdmbhgejemdafaaDoor
open Go.RowKit Big
set_option linter.unusedVariables false
attribute [local go_sem ↓] apB_eq alT_16b ldT_16b stT_16b ldT_32 ldT_12
set_option maxRecDepth 100000 in
set_option maxHeartbeats 2000000 in
theorem aopen_any (key nonce : List UInt8) (vw vs : Value) (wi H : List UInt8) (w : World) (hk : key.length = 32) (hn : nonce.length = 12) (hbw : Bsl w vw wi) (hbs : Bsl w vs (H ++ tagA key nonce wi H)) (hl1 : wi.length ≤ 100000) (hl2 : H.length ≤ 100000) :
    Calls Tryd.prog 12 #[.agg (key.map bv).toArray, .agg (nonce.map bv).toArray, vw, vs] w fun e w' => ∃ v, e = .returned (.tuple #[v, .int .i64 0]) ∧ OB w' w.heap.size v (streamF key nonce 1 H) ∧ Below w.heap.size w w' := by
  obtain ⟨w0, hw0, hA0, hB0, hs0⟩ : ∃ w0, w0 = w.alloc (.cells (key.map bv).toArray 28) ∧ AN .u8 w0 w.heap.size (key.map UInt8.toNat) ∧ Below w.heap.size w w0 ∧ w0.heap.size = w.heap.size + 1 :=
    ⟨_, rfl, box_bytes w key _, (Below.refl _ _).alloc (Nat.le_refl _) _, by simp⟩
  obtain ⟨w1, hw1, hA1, hB1, hs1⟩ : ∃ w1, w1 = w0.alloc (.cells (nonce.map bv).toArray 29) ∧ AN .u8 w1 w0.heap.size (nonce.map UInt8.toNat) ∧ Below w0.heap.size w0 w1 ∧ w1.heap.size = w0.heap.size + 1 :=
    ⟨_, rfl, box_bytes w0 nonce _, (Below.refl _ _).alloc (Nat.le_refl _) _, by simp⟩
  have hA0 := hA0.keep hB1
  have hB1 := hB0.trans (hB1.mono hB0.size)
  rw [hs0] at hA1 hs1
  have HW := Lib.hid (show w1 = (w.alloc (.cells (key.map bv).toArray 28)).alloc (.cells (nonce.map bv).toArray 29) by rw [hw1, hw0])
  clear hw0 hw1
  have HTL := Lib.hid (tagA_len key nonce wi H)
  have HK := Lib.hid (And.intro hk hn)
  obtain ⟨ao, cap, hve⟩ := hbs.val'
  rw [List.length_append, tagA_len] at hve
  subst hve
  have hcap := hbs.len.2
  have hcap1 : H.length ≤ cap := by omega
  have hbs1 := hbs.keep hB1
  have htk := hbs1.take (m := H.length) (by rw [List.length_append]; omega)
  rw [List.take_left' rfl] at htk
  have hne : H ++ tagA key nonce wi H ≠ [] := by intro e; have := congrArg List.length e; rw [List.length_append, tagA_len] at this; simp at this
  obtain ⟨bb, off, rfl, -⟩ : ∃ bb off, ao = some ⟨bb, off, none⟩ ∧ True := by
    obtain ⟨a, c2, e, _, _, _, h4⟩ := hbs
    simp only [Value.slice.injEq] at e
    obtain ⟨rfl, _, rfl⟩ := e
    obtain ⟨b, o, e, _⟩ := h4 hne
    exact ⟨b, o, e, trivial⟩
  have hdr := Bsl_sub hbs1 (i := H.length) (m := 16) (by rw [List.length_append, tagA_len]; exact Nat.le_refl _)
  rw [List.drop_left' rfl, List.take_of_length_le (by rw [tagA_len]; exact Nat.le_refl _)] at hdr
  have htg := fun w0 (h1 : Bsl w0 vw wi) (h2 : Bsl w0 (.slice (some ⟨bb, off, none⟩) H.length cap) H) => atag_any key nonce vw _ wi H w0 hk hn h1 h2 hl1 hl2
  have hst := fun w0 (h : Bsl w0 (.slice (some ⟨bb, off, none⟩) H.length cap) H) => stream_any key nonce 1 _ H w0 hk hn (by omega) h (by omega)
  rw [show ((1 : Nat) : Int) = 1 from rfl] at hst
  have hbw1 := hbw.keep hB1
  obtain ⟨T, hT⟩ : ∃ T, T = tagA key nonce wi H := ⟨_, rfl⟩
  rw [← hT] at htg hdr HTL
  obtain ⟨R, hR⟩ : ∃ R, R = streamF key nonce 1 H := ⟨_, rfl⟩
  rw [← hR] at hst ⊢
  have HLC := Lib.hid hcap
  have HTG := Lib.hid (And.intro htg hst)
  have HBB := Lib.hid (show bb < w1.heap.size from World.block_lt_of_cell? w1 _ (by
    obtain ⟨a, c2, e, _, _, _, h4⟩ := hbs1
    simp only [Value.slice.injEq] at e
    obtain ⟨rfl, _, rfl⟩ := e
    obtain ⟨b, o, e, hc⟩ := h4 hne
    cases e
    exact hc 0 (by have := List.length_pos_iff.2 hne; exact this)))
  clear hT hR hbs1 hne hbs hk hn hB0 hs0 hcap htg hst
  have hat : (((H.length + 16 : Nat) : Int) - 16) = (H.length : Int) := by omega
  have hci : (H.length : Int) ≤ cap := by omega
  have hcn : ¬ (cap = H.length) := by have := HLC.out; omega
  have hH0 : ¬ ((H.length : Int) < 0) := by omega
  have hle2 : (H.length : Int) ≤ (H.length : Int) + 16 := by omega
  go_enter Tryd.func12, Tryd.ntmps12
  go_wp2_with fail
  rw [← HW.out]
  have hld0 := big32.ld (show AN .u8 w1.drew _ _ from hA0) (by rw [List.length_map, HK.out.1, zN_len])
  have hld1 := big12.ld (show AN .u8 w1.drew _ _ from hA1) (by rw [List.length_map, HK.out.2, zN_len])
  rw [nvs_bytes] at hld0 hld1
  refine wp_region_E 8 (fun w' => (ldT 28 (.pointer (some ⟨w.heap.size, 0, none⟩))).run Tryd.prog w' = .ok (.agg (key.map bv).toArray) w' ∧ (ldT 29 (.pointer (some ⟨w.heap.size + 1, 0, none⟩))).run Tryd.prog w' = .ok (.agg (nonce.map bv).toArray) w') (by kernel_rfl) ?_
  have hS0 := And.intro hld0 hld1
  clear hld0 hld1
  refine wpAnyE_take (i := 0) (v := ?v_a0) rfl (by kernel_rfl) (by kernel_rfl) (by kernel_rfl) (by kernel_rfl) (by kernel_rfl) (fun _ _ _ h => h) (Or.inl ⟨by kernel_rfl, ?y_a0⟩) (by assumption) ?r_a0
  case y_a0 => intro wE hSw; obtain ⟨q1, q2⟩ := hSw; go_simp; try with_reducible rfl
  case' r_a0 => ((try simp only [Act.put]); (try simp only [List.setIfInBounds_toArray]); (try simp only [List.set_cons_zero, List.set_cons_succ]))
  refine wpAnyE_take (i := 1) (v := ?v_a1) rfl (by kernel_rfl) (by kernel_rfl) (by kernel_rfl) (by kernel_rfl) (by kernel_rfl) (fun _ _ _ h => h) (Or.inl ⟨by kernel_rfl, ?y_a1⟩) (by assumption) ?r_a1
  case y_a1 => intro wE hSw; obtain ⟨q1, q2⟩ := hSw; go_simp; try with_reducible rfl
  case' r_a1 => ((try simp only [Act.put]); (try simp only [List.setIfInBounds_toArray]); (try simp only [List.set_cons_zero, List.set_cons_succ]))
  refine wpAnyE_take (i := 2) (v := ?v_a2) rfl (by kernel_rfl) (by kernel_rfl) (by kernel_rfl) (by kernel_rfl) (by kernel_rfl) (fun _ _ _ h => h) (Or.inl ⟨by kernel_rfl, ?y_a2⟩) (by assumption) ?r_a2
  case y_a2 => intro wE hSw; obtain ⟨q1, q2⟩ := hSw; go_simp; try with_reducible rfl
  case' r_a2 => ((try simp only [Act.put]); (try simp only [List.setIfInBounds_toArray]); (try simp only [List.set_cons_zero, List.set_cons_succ]))
  refine wpAnyE_take (i := 3) (v := ?v_a3) rfl (by kernel_rfl) (by kernel_rfl) (by kernel_rfl) (by kernel_rfl) (by kernel_rfl) (fun _ _ _ h => h) (Or.inl ⟨by kernel_rfl, ?y_a3⟩) (by assumption) ?r_a3
  case y_a3 => intro wE hSw; obtain ⟨q1, q2⟩ := hSw; go_simp; try with_reducible rfl
  case' r_a3 => ((try simp only [Act.put]); (try simp only [List.setIfInBounds_toArray]); (try simp only [List.set_cons_zero, List.set_cons_succ]))
  refine wpAnyE_take (i := 4) (v := ?v_a4) rfl (by kernel_rfl) (by kernel_rfl) (by kernel_rfl) (by kernel_rfl) (by kernel_rfl) (fun _ _ _ h => h) (Or.inl ⟨by kernel_rfl, ?y_a4⟩) (by assumption) ?r_a4
  case y_a4 => intro wE hSw; obtain ⟨q1, q2⟩ := hSw; go_simp; try with_reducible rfl
  case' r_a4 => ((try simp only [Act.put]); (try simp only [List.setIfInBounds_toArray]); (try simp only [List.set_cons_zero, List.set_cons_succ]))
  refine wpAnyE_take (i := 5) (v := ?v_a5) rfl (by kernel_rfl) (by kernel_rfl) (by kernel_rfl) (by kernel_rfl) (by kernel_rfl) (fun _ _ _ h => h) (Or.inl ⟨by kernel_rfl, ?y_a5⟩) (by assumption) ?r_a5
  case y_a5 => intro wE hSw; obtain ⟨q1, q2⟩ := hSw; go_simp; try with_reducible rfl
  case' r_a5 => ((try simp only [Act.put]); (try simp only [List.setIfInBounds_toArray]); (try simp only [List.set_cons_zero, List.set_cons_succ]))
  refine wpAnyE_ready (rs := [6, 7]) (by kernel_rfl) (by simp) ?_
  refine AllReadyE.cons rfl (fun KA hKA => ?_) (AllReadyE.cons rfl (fun KA hKA => ?_) AllReadyE.nil)
  · rw [if_pos (by kernel_rfl)]
    go_simp
    refine (HTG.out.1 w1.drew (show Bsl w1.drew _ _ from hbw1) (show Bsl w1.drew _ _ from htk)).mono ?_
    rintro e w2 ⟨rfl, hB2⟩
    have hA0 := (show AN .u8 w1.drew _ _ from hA0).keep hB2
    have hA1 := (show AN .u8 w1.drew _ _ from hA1).keep hB2
    have htk := (show Bsl w1.drew _ _ from htk).keep hB2
    have hdr := (show Bsl w1.drew _ _ from hdr).keep hB2
    have hs2 : w1.heap.size ≤ w2.heap.size := hB2.size
    have hB02 := hB1.drew.trans (hB2.mono hB1.size)
    have hS2 := And.intro (show (ldT 28 (.pointer (some ⟨w.heap.size, 0, none⟩))).run Tryd.prog w2 = .ok (.agg (key.map bv).toArray) w2 by have := big32.ld hA0 (by rw [List.length_map, HK.out.1, zN_len]); rwa [nvs_bytes] at this) (show (ldT 29 (.pointer (some ⟨w.heap.size + 1, 0, none⟩))).run Tryd.prog w2 = .ok (.agg (nonce.map bv).toArray) w2 by have := big12.ld hA1 (by rw [List.length_map, HK.out.2, zN_len]); rwa [nvs_bytes] at this)
    obtain ⟨wa, w4, hal4, hst4, hA4, hB4, hs4⟩ := big16b.made w2 (T.map UInt8.toNat) (by rw [List.length_map, HTL.out, zN_len])
    have hBa : Below w2.heap.size w2 wa := by
      have h1 := run_alT big16b w2
      rw [hal4] at h1
      cases h1
      exact (Below.refl _ _).alloc (Nat.le_refl _) _
    have hSa := And.intro (show (ldT 28 (.pointer (some ⟨w.heap.size, 0, none⟩))).run Tryd.prog wa = .ok (.agg (key.map bv).toArray) wa by have := big32.ld (hA0.keep hBa) (by rw [List.length_map, HK.out.1, zN_len]); rwa [nvs_bytes] at this) (show (ldT 29 (.pointer (some ⟨w.heap.size + 1, 0, none⟩))).run Tryd.prog wa = .ok (.agg (nonce.map bv).toArray) wa by have := big12.ld (hA1.keep hBa) (by rw [List.length_map, HK.out.2, zN_len]); rwa [nvs_bytes] at this)
    rw [nvs_bytes] at hst4
    have hA0 := hA0.keep hB4
    have hA1 := hA1.keep hB4
    have htk := htk.keep hB4
    have hdr := hdr.keep hB4
    have hB04 := hB02.trans (hB4.mono (by omega))
    have hqs : w.heap.size + 2 ≤ w2.heap.size := by omega
    try go_simp
    refine hKA _ _ (fun _ => hS2) ?_
    clear hKA KA hS2
    refine wpAnyE_ready (rs := [7]) (by kernel_rfl) (by simp) ?_
    refine AllReadyE.cons rfl (fun KA hKA => ?_) AllReadyE.nil
    rw [if_pos (by kernel_rfl)]
    go_simp
    refine hKA _ _ (fun _ => hSa) ?_
    clear hKA KA hSa hS0
    refine wpAnyE_ready (rs := [8]) (by kernel_rfl) (by simp) ?_
    refine AllReadyE.cons rfl (fun KA hKA => ?_) AllReadyE.nil
    rw [if_pos (by kernel_rfl)]
    go_simp
    refine hKA _ _ (fun h => Bool.noConfusion (show true = false from h)) ?_
    clear hKA KA
    refine wpAnyE_done (by kernel_rfl) ?_ _
    generalize w2.heap.size = q at *
    have hbt := hA4.bsl (n := 16) (cap := 16) HTL.out.symm (Nat.le_refl _) (by omega)
    clear hst4 hal4
    go_wp2_with fail
    refine wp_region_quiet_tail_lit 4 (by kernel_rfl) (by kernel_rfl) ?_
    simp only [List.take_succ_cons, List.take_zero, List.drop_succ_cons, List.drop_zero]
    repeat (quiet_step (fail))
    refine wpQuiet_nil ?_
    rintro _ ⟨nq, rfl⟩
    go_wp2_with fail
    refine (same_any _ _ T T (w4.drewN nq) (show Bsl (w4.drewN nq) _ _ from hbt) (show Bsl (w4.drewN nq) _ _ from hdr)).mono ?_
    rw [show decide (T = T) = true by simp]
    rintro e w5 ⟨rfl, hB5⟩
    have hA0 := (show AN .u8 (w4.drewN nq) _ _ from hA0).keep hB5
    have hA1 := (show AN .u8 (w4.drewN nq) _ _ from hA1).keep hB5
    have htk := (show Bsl (w4.drewN nq) _ _ from htk).keep hB5
    have hB05 := (below_drewN hB04 nq).trans (hB5.mono hB04.size)
    have hld0 : ∀ n, (ldT 28 (.pointer (some ⟨w.heap.size, 0, none⟩))).run Tryd.prog (w5.drewN n) = .ok (.agg (key.map bv).toArray) (w5.drewN n) := fun n => by have := big32.ld (hA0.drewN n) (by rw [List.length_map, HK.out.1, zN_len]); rwa [nvs_bytes] at this
    have hld1 : ∀ n, (ldT 29 (.pointer (some ⟨w.heap.size + 1, 0, none⟩))).run Tryd.prog (w5.drewN n) = .ok (.agg (nonce.map bv).toArray) (w5.drewN n) := fun n => by have := big12.ld (hA1.drewN n) (by rw [List.length_map, HK.out.2, zN_len]); rwa [nvs_bytes] at this
    clear hbt hdr hB5 hB04
    go_wp2_with fail
    refine wp_region_quiet_tail_lit 5 (by kernel_rfl) (by kernel_rfl) ?_
    simp only [List.take_succ_cons, List.take_zero, List.drop_succ_cons, List.drop_zero]
    repeat (quiet_step (fail))
    refine wpQuiet_nil ?_
    rintro _ ⟨nq2, rfl⟩
    go_wp2_with fail
    refine (HTG.out.2 (w5.drewN nq2) (show Bsl (w5.drewN nq2) _ _ from htk)).mono ?_
    rintro e w6 ⟨v6, rfl, ho6, hB6⟩
    have HO := Lib.hid (And.intro (ho6.mono (b' := w.heap.size) hB05.size) ((below_drewN hB05 nq2).trans (hB6.mono hB05.size)))
    clear ho6 hB6 hB05 htk hld0 hld1
    go_wp2_with fail
    go_ret2
    exact ⟨_, rfl, HO.out⟩
  · obtain ⟨wa, hal4, hAz, hBa, hsa⟩ := big16b.made0 w1.drew
    have hqs : w.heap.size + 2 ≤ w.heap.size + 1 + 1 := by omega
    have hz1 : w1.drew.heap.size = w.heap.size + 1 + 1 := hs1
    rw [hz1] at hal4 hAz hsa
    have hA0 := (show AN .u8 w1.drew _ _ from hA0).keep hBa
    have hA1 := (show AN .u8 w1.drew _ _ from hA1).keep hBa
    have htk := (show Bsl w1.drew _ _ from htk).keep hBa
    have hdr := (show Bsl w1.drew _ _ from hdr).keep hBa
    have hbwa := (show Bsl w1.drew _ _ from hbw1).keep hBa
    have hB0a := hB1.drew.trans (hBa.mono hB1.size)
    have hSa := And.intro (show (ldT 28 (.pointer (some ⟨w.heap.size, 0, none⟩))).run Tryd.prog wa = .ok (.agg (key.map bv).toArray) wa by have := big32.ld hA0 (by rw [List.length_map, HK.out.1, zN_len]); rwa [nvs_bytes] at this) (show (ldT 29 (.pointer (some ⟨w.heap.size + 1, 0, none⟩))).run Tryd.prog wa = .ok (.agg (nonce.map bv).toArray) wa by have := big12.ld hA1 (by rw [List.length_map, HK.out.2, zN_len]); rwa [nvs_bytes] at this)
    rw [if_pos (by kernel_rfl)]
    go_simp
    refine hKA _ _ (fun _ => hSa) ?_
    clear hKA KA hS0
    refine wpAnyE_ready (rs := [6]) (by kernel_rfl) (by simp) ?_
    refine AllReadyE.cons rfl (fun KA hKA => ?_) AllReadyE.nil
    rw [if_pos (by kernel_rfl)]
    go_simp
    refine (HTG.out.1 wa hbwa htk).mono ?_
    rintro e w2 ⟨rfl, hB2⟩
    have hA0 := hA0.keep hB2
    have hA1 := hA1.keep hB2
    have htk := htk.keep hB2
    have hdr := hdr.keep hB2
    have hAz := hAz.keep hB2
    have hB02 := hB0a.trans (hB2.mono hB0a.size)
    have hS2 := And.intro (show (ldT 28 (.pointer (some ⟨w.heap.size, 0, none⟩))).run Tryd.prog w2 = .ok (.agg (key.map bv).toArray) w2 by have := big32.ld hA0 (by rw [List.length_map, HK.out.1, zN_len]); rwa [nvs_bytes] at this) (show (ldT 29 (.pointer (some ⟨w.heap.size + 1, 0, none⟩))).run Tryd.prog w2 = .ok (.agg (nonce.map bv).toArray) w2 by have := big12.ld hA1 (by rw [List.length_map, HK.out.2, zN_len]); rwa [nvs_bytes] at this)
    obtain ⟨w4, hst4, hA4, hO4, hs4⟩ := big16b.put hAz rfl (T.map UInt8.toNat) (by rw [List.length_map, HTL.out, zN_len])
    rw [nvs_bytes] at hst4
    have hA0 := hA0.only hO4 (by omega)
    have hA1 := hA1.only hO4 (by omega)
    have htk := htk.only hO4 (fun k hk e => by simp [Value.ownBlock] at hk; have := HBB.out; omega)
    have hdr := hdr.only hO4 (fun k hk e => by simp [Value.ownBlock] at hk; have := HBB.out; omega)
    have hB04 := hB02.trans (hO4.to_below hB02.size (fun k e => by omega))
    try go_simp
    refine hKA _ _ (fun _ => hS2) ?_
    clear hKA KA hS2 hSa
    refine wpAnyE_ready (rs := [8]) (by kernel_rfl) (by simp) ?_
    refine AllReadyE.cons rfl (fun KA hKA => ?_) AllReadyE.nil
    rw [if_pos (by kernel_rfl)]
    go_simp
    refine hKA _ _ (fun h => Bool.noConfusion (show true = false from h)) ?_
    clear hKA KA
    refine wpAnyE_done (by kernel_rfl) ?_ _
    generalize w.heap.size + 1 + 1 = q at *
    have hbt := hA4.bsl (n := 16) (cap := 16) HTL.out.symm (Nat.le_refl _) (by omega)
    clear hst4 hal4
    go_wp2_with fail
    refine wp_region_quiet_tail_lit 4 (by kernel_rfl) (by kernel_rfl) ?_
    simp only [List.take_succ_cons, List.take_zero, List.drop_succ_cons, List.drop_zero]
    repeat (quiet_step (fail))
    refine wpQuiet_nil ?_
    rintro _ ⟨nq, rfl⟩
    go_wp2_with fail
    refine (same_any _ _ T T (w4.drewN nq) (show Bsl (w4.drewN nq) _ _ from hbt) (show Bsl (w4.drewN nq) _ _ from hdr)).mono ?_
    rw [show decide (T = T) = true by simp]
    rintro e w5 ⟨rfl, hB5⟩
    have hA0 := (show AN .u8 (w4.drewN nq) _ _ from hA0).keep hB5
    have hA1 := (show AN .u8 (w4.drewN nq) _ _ from hA1).keep hB5
    have htk := (show Bsl (w4.drewN nq) _ _ from htk).keep hB5
    have hB05 := (below_drewN hB04 nq).trans (hB5.mono hB04.size)
    have hld0 : ∀ n, (ldT 28 (.pointer (some ⟨w.heap.size, 0, none⟩))).run Tryd.prog (w5.drewN n) = .ok (.agg (key.map bv).toArray) (w5.drewN n) := fun n => by have := big32.ld (hA0.drewN n) (by rw [List.length_map, HK.out.1, zN_len]); rwa [nvs_bytes] at this
    have hld1 : ∀ n, (ldT 29 (.pointer (some ⟨w.heap.size + 1, 0, none⟩))).run Tryd.prog (w5.drewN n) = .ok (.agg (nonce.map bv).toArray) (w5.drewN n) := fun n => by have := big12.ld (hA1.drewN n) (by rw [List.length_map, HK.out.2, zN_len]); rwa [nvs_bytes] at this
    clear hbt hdr hB5 hB04
    go_wp2_with fail
    refine wp_region_quiet_tail_lit 5 (by kernel_rfl) (by kernel_rfl) ?_
    simp only [List.take_succ_cons, List.take_zero, List.drop_succ_cons, List.drop_zero]
    repeat (quiet_step (fail))
    refine wpQuiet_nil ?_
    rintro _ ⟨nq2, rfl⟩
    go_wp2_with fail
    refine (HTG.out.2 (w5.drewN nq2) (show Bsl (w5.drewN nq2) _ _ from htk)).mono ?_
    rintro e w6 ⟨v6, rfl, ho6, hB6⟩
    have HO := Lib.hid (And.intro (ho6.mono (b' := w.heap.size) hB05.size) ((below_drewN hB05 nq2).trans (hB6.mono hB05.size)))
    clear ho6 hB6 hB05 htk hld0 hld1
    go_wp2_with fail
    go_ret2
    exact ⟨_, rfl, HO.out⟩
end Go.Proofs.YtdmbhgejemdafaaDoor
