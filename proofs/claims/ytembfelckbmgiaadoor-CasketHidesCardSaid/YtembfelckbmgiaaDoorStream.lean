/- chacha.Stream: the walk (printed by genstream.py). -/
import Derived.Test.YtembfelckbmgiaaDoorChaC
import Derived.Test.YtembfelckbmgiaaDoorBMix
import Derived.Test.YtembfelckbmgiaaDoorRegE
namespace Go.Proofs.YtembfelckbmgiaaDoor
open Go.RowKit Big
set_option linter.unusedVariables false
/-- Bytes, each mixed with one of the stream, from block c on. -/
def streamL (key nonce : List UInt8) : Nat → Nat → List UInt8 → List UInt8
  | 0, _, _ => []
  | n + 1, c, l => if l = [] then [] else mixL (blockN key nonce c) l ++ streamL key nonce n ((c + 1) % 4294967296) (l.drop 64)
def streamF (key nonce : List UInt8) (c : Nat) (l : List UInt8) : List UInt8 := streamL key nonce l.length c l
theorem mixL_len (a b : List UInt8) : (mixL a b).length = min a.length b.length := by unfold mixL; rw [List.length_zipWith]
theorem streamL_len (key nonce : List UInt8) (n : Nat) : ∀ c l, c < 4294967296 → l.length ≤ n → (streamL key nonce n c l).length = l.length := by
  induction n with
  | zero => intro c l _ h; rw [List.eq_nil_of_length_eq_zero (by omega : l.length = 0)]; rfl
  | succ n ih =>
    intro c l hc h
    rw [streamL]
    by_cases hl : l = []
    · rw [if_pos hl, hl]
    · have h1 : 1 ≤ l.length := by cases l with
        | nil => exact absurd rfl hl
        | cons a l => simp
      rw [if_neg hl, List.length_append, mixL_len, blockN_len _ _ _ hc, ih _ _ (Nat.mod_lt _ (by decide)) (by rw [List.length_drop]; omega), List.length_drop]
      omega
theorem streamF_len (key nonce : List UInt8) (c : Nat) (hc : c < 4294967296) (l : List UInt8) : (streamF key nonce c l).length = l.length := streamL_len key nonce _ c l hc (Nat.le_refl _)
theorem mixL_twice (a l : List UInt8) (h : l.length ≤ a.length) : mixL a (mixL a l) = l := by
  apply List.ext_getElem
  · rw [mixL_len, mixL_len]; omega
  · intro i h1 h2
    simp only [mixL, List.getElem_zipWith]
    rw [← UInt8.xor_assoc, UInt8.xor_self, UInt8.zero_xor]
theorem mixL_app (a b c : List UInt8) (h : a.length ≤ b.length) : mixL a (b ++ c) = mixL a b := by
  induction a generalizing b with
  | nil => simp [mixL]
  | cons x a ih =>
    cases b with
    | nil => simp at h
    | cons y b =>
      have := ih b (by simpa using h)
      unfold mixL at this ⊢
      rw [List.cons_append, List.zipWith_cons_cons, List.zipWith_cons_cons, this]
/-- Twice is nothing. -/
theorem streamL_twice (key nonce : List UInt8) (n : Nat) : ∀ m c l, c < 4294967296 → l.length ≤ n → l.length ≤ m → streamL key nonce m c (streamL key nonce n c l) = l := by
  induction n with
  | zero =>
    intro m c l _ h _
    rw [List.eq_nil_of_length_eq_zero (by omega : l.length = 0)]
    cases m with
    | zero => rfl
    | succ m => rfl
  | succ n ih =>
    intro m c l hc h hm
    rw [streamL]
    by_cases hl : l = []
    · rw [if_pos hl, hl]
      cases m with
      | zero => rfl
      | succ m => rfl
    · have h1 : 1 ≤ l.length := by cases l with
        | nil => exact absurd rfl hl
        | cons a l => simp
      rw [if_neg hl]
      obtain ⟨m', rfl⟩ : ∃ m', m = m' + 1 := ⟨m - 1, by omega⟩
      rw [streamL]
      have hbl := blockN_len key nonce c hc
      have hml : (mixL (blockN key nonce c) l).length = min 64 l.length := by rw [mixL_len, hbl]
      rw [if_neg (by intro e; have := congrArg List.length e; rw [List.length_append, hml, List.length_nil] at this; omega)]
      by_cases h64 : 64 ≤ l.length
      · have hm64 : (mixL (blockN key nonce c) l).length = 64 := by rw [hml]; omega
        rw [List.drop_left' hm64, ih m' ((c + 1) % 4294967296) (l.drop 64) (Nat.mod_lt _ (by decide)) (by rw [List.length_drop]; omega) (by rw [List.length_drop]; omega)]
        have e1 : mixL (blockN key nonce c) (mixL (blockN key nonce c) l ++ streamL key nonce n ((c + 1) % 4294967296) (l.drop 64)) = mixL (blockN key nonce c) (mixL (blockN key nonce c) l) := by
          exact mixL_app _ _ _ (by omega)
        have e2 : mixL (blockN key nonce c) l = mixL (blockN key nonce c) (l.take 64) := by
          apply List.ext_getElem
          · rw [mixL_len, mixL_len, List.length_take]; omega
          · intro i h1 h2; simp [mixL]
        rw [e1, e2, mixL_twice _ _ (by rw [List.length_take]; omega), List.take_append_drop]
      · have hd : l.drop 64 = [] := List.drop_of_length_le (by omega)
        have hs : streamL key nonce n ((c + 1) % 4294967296) ([] : List UInt8) = [] := by cases n <;> rfl
        rw [hd, hs, List.append_nil, mixL_twice _ _ (by omega), List.drop_of_length_le (l := mixL (blockN key nonce c) l) (by rw [hml]; omega)]
        have hs2 : streamL key nonce m' ((c + 1) % 4294967296) ([] : List UInt8) = [] := by cases m' <;> rfl
        rw [hs2, List.append_nil]
theorem streamF_twice (key nonce : List UInt8) (c : Nat) (hc : c < 4294967296) (l : List UInt8) : streamF key nonce c (streamF key nonce c l) = l :=
  streamL_twice key nonce _ _ c l hc (Nat.le_refl _) (by rw [streamF_len _ _ _ hc]; exact Nat.le_refl _)
attribute [local go_sem ↓] alT_64b ldT_64b stT_64b ldT_32 ldT_12 apB_eq
set_option maxRecDepth 100000 in
set_option maxHeartbeats 2000000 in
theorem stream_any (key nonce : List UInt8) (c : Nat) (v : Value) (l : List UInt8) (w : World) (hk : key.length = 32) (hn : nonce.length = 12) (hc : c < 4294967296) (hb : Bsl w v l) (hl : l.length ≤ 1000000) :
    Calls Tryd.prog 43 #[.agg (key.map bv).toArray, .int .u32 c, .agg (nonce.map bv).toArray, v] w fun e w' => ∃ v', e = .returned v' ∧ OB w' w.heap.size v' (streamF key nonce c l) ∧ Below w.heap.size w w' := by
  obtain ⟨w0, hw0, hA0, hB0, hs0⟩ : ∃ w0, w0 = w.alloc (.cells (key.map bv).toArray 25) ∧ AN .u8 w0 w.heap.size (key.map UInt8.toNat) ∧ Below w.heap.size w w0 ∧ w0.heap.size = w.heap.size + 1 :=
    ⟨_, rfl, box_bytes w key _, (Below.refl _ _).alloc (Nat.le_refl _) _, by simp⟩
  obtain ⟨w1, hw1, hA1, hB1, hs1⟩ : ∃ w1, w1 = w0.alloc (.cells (nonce.map bv).toArray 84) ∧ AN .u8 w1 w0.heap.size (nonce.map UInt8.toNat) ∧ Below w0.heap.size w0 w1 ∧ w1.heap.size = w0.heap.size + 1 :=
    ⟨_, rfl, box_bytes w0 nonce _, (Below.refl _ _).alloc (Nat.le_refl _) _, by simp⟩
  have hA0 := hA0.keep hB1
  have hB1 := hB0.trans (hB1.mono hB0.size)
  rw [hs0] at hA1 hs1
  have HW := Lib.hid (show w1 = (w.alloc (.cells (key.map bv).toArray 25)).alloc (.cells (nonce.map bv).toArray 84) by rw [hw1, hw0])
  clear hw0 hw1
  obtain ⟨T, hT⟩ : ∃ T, T = streamF key nonce c l := ⟨_, rfl⟩
  rw [← hT]
  have HT := Lib.hid hT
  have hTl : T.length = l.length := by rw [hT]; exact streamF_len _ _ _ hc _
  have HTL := Lib.hid hTl
  clear hT hTl
  have HK := Lib.hid (And.intro hk (And.intro hn (And.intro hc hB1)))
  obtain ⟨ao, cap, rfl⟩ := hb.val'
  obtain ⟨hcap1, hcap2⟩ := hb.len.2
  clear hk hn hB0 hs0
  go_enter Tryd.func43, Tryd.ntmps43
  go_wp2_with fail
  rw [← HW.out]
  clear HW
  go_loopw [1, 9, 10] (fun ct o i wr => ∃ (k ck f : Nat) (done : List UInt8), i = .int .i64 ((64 * k : Nat) : Int) ∧ 64 * k ≤ l.length + 63 ∧ ct = .int .u32 ck ∧ ck < 4294967296 ∧ (l.drop (64 * k)).length ≤ f ∧ T = done ++ streamL key nonce f ck (l.drop (64 * k)) ∧ OB wr (w.heap.size + 2) o done ∧ AN .u8 wr w.heap.size (key.map UInt8.toNat) ∧ AN .u8 wr (w.heap.size + 1) (nonce.map UInt8.toNat) ∧ Below w.heap.size w wr ∧ w.heap.size + 2 ≤ wr.heap.size) (fun _ _ i _ => l.length + 64 - (intOf i).toNat)
  case atStart => exact ⟨0, c, l.length, [], rfl, by omega, rfl, hc, by simp, by rw [HT.out]; rfl, OB.nil _ _, hA0, hA1, HK.out.2.2.2, by omega⟩
  case round =>
    obtain ⟨k, ck, f, done, rfl, hkb, rfl, hck, hf, hTe, hoo, hKy, hNo, hBl, hsz⟩ := hrel
    clear hA0 hA1 hB1
    have hdl : (l.drop (64 * k)).length = l.length - 64 * k := List.length_drop
    by_cases hlt : 64 * k < l.length
    · obtain ⟨bb, off, rfl, -⟩ : ∃ bb off, ao = some ⟨bb, off, none⟩ ∧ True := by
        obtain ⟨a, c2, e, _, _, _, h4⟩ := hb
        cases e
        obtain ⟨b, o, e, _⟩ := h4 (by rintro rfl; simp at hlt)
        exact ⟨b, o, e, trivial⟩
      have hbw := hb.keep hBl
      have hbd := Bsl_sub hbw (i := 64 * k) (m := l.length - 64 * k) (by omega)
      rw [List.take_of_length_le (by rw [hdl]; exact Nat.le_refl _)] at hbd
      have hld0 := big32.ld hKy (by rw [List.length_map, HK.out.1, zN_len])
      have hld1 := big12.ld hNo (by rw [List.length_map, HK.out.2.1, zN_len])
      rw [nvs_bytes] at hld0 hld1
      have hbk := block_any key nonce ck wr HK.out.1 HK.out.2.1 hck
      obtain ⟨f', rfl⟩ : ∃ f', f = f' + 1 := ⟨f - 1, by omega⟩
      have hTn : T = (done ++ mixL (blockN key nonce ck) (l.drop (64 * k))) ++ streamL key nonce f' ((ck + 1) % 4294967296) (l.drop (64 * (k + 1))) := by
        rw [hTe, streamL, if_neg (by intro e; rw [e] at hdl; simp at hdl; omega), List.append_assoc, List.drop_drop, show 64 * k + 64 = 64 * (k + 1) by omega]
      have hbl := blockN_len key nonce ck hck
      have hdone : done.length ≤ 1000000 := by
        have := HTL.out
        rw [hTe, List.length_append] at this
        omega
      have HTN := Lib.hid (And.intro hTn (And.intro hbl (And.intro hf hck)))
      clear hTe hTn hbl hf
      generalize blockN key nonce ck = B at *
      have h64i : (64 : Int) * k < l.length := by omega
      have hkc : ¬ (cap = 64 * k) := by omega
      have ht64 : (64 * (k : Int)).toNat = 64 * k := by omega
      have hck1 : ((ck : Int) + 1) % 4294967296 = (((ck + 1) % 4294967296 : Nat) : Int) := by omega
      have HCK := Lib.hid hck1
      clear hck1
      go_wp2_with fail
      refine hbk.mono ?_
      rintro e w3 ⟨rfl, hB3⟩
      have hoo := hoo.keep hB3
      have hKy := hKy.keep hB3
      have hNo := hNo.keep hB3
      have hbd := hbd.keep hB3
      have hs3 := hB3.size
      have hB3 := hBl.trans (hB3.mono hBl.size)
      obtain ⟨wa, w4, hal4, hst4, hA4, hB4, hs4⟩ := big64b.made w3 (B.map UInt8.toNat) (by rw [List.length_map, HTN.out.2.1, zN_len])
      rw [nvs_bytes] at hst4
      have hoo := hoo.keep hB4
      have hKy := hKy.keep hB4
      have hNo := hNo.keep hB4
      have hbd := hbd.keep hB4
      have hB04 := hB3.trans (hB4.mono hB3.size)
      have hb64 := hA4.bsl (n := 64) (cap := 64) HTN.out.2.1.symm (Nat.le_refl _) (by omega)
      have hsz4 : w.heap.size + 2 ≤ w4.heap.size := by omega
      clear hbk hld0 hld1 hBl hB3 hs3 hs4 hA4 hbw
      generalize w3.heap.size = q at *
      go_wp2_with fail
      refine wp_region_E 7 (fun _ => True) (by kernel_rfl) ?_
      have hS0 : True := trivial
      refine wpAnyE_take (i := 0) (v := ?v_a0) rfl (by kernel_rfl) (by kernel_rfl) (by kernel_rfl) (by kernel_rfl) (by kernel_rfl) (fun _ _ _ h => h) (Or.inl ⟨by kernel_rfl, ?y_a0⟩) (by assumption) ?r_a0
      case y_a0 => intro wE hSw; clear hSw; go_simp; try with_reducible rfl
      case' r_a0 => ((try simp only [Act.put]); (try simp only [List.setIfInBounds_toArray]); (try simp only [List.set_cons_zero, List.set_cons_succ]))
      refine wpAnyE_take (i := 1) (v := ?v_a1) rfl (by kernel_rfl) (by kernel_rfl) (by kernel_rfl) (by kernel_rfl) (by kernel_rfl) (fun _ _ _ h => h) (Or.inl ⟨by kernel_rfl, ?y_a1⟩) (by assumption) ?r_a1
      case y_a1 => intro wE hSw; clear hSw; go_simp; try with_reducible rfl
      case' r_a1 => ((try simp only [Act.put]); (try simp only [List.setIfInBounds_toArray]); (try simp only [List.set_cons_zero, List.set_cons_succ]))
      refine wpAnyE_take (i := 2) (v := ?v_a2) rfl (by kernel_rfl) (by kernel_rfl) (by kernel_rfl) (by kernel_rfl) (by kernel_rfl) (fun _ _ _ h => h) (Or.inl ⟨by kernel_rfl, ?y_a2⟩) (by assumption) ?r_a2
      case y_a2 => intro wE hSw; clear hSw; go_simp; try with_reducible rfl
      case' r_a2 => ((try simp only [Act.put]); (try simp only [List.setIfInBounds_toArray]); (try simp only [List.set_cons_zero, List.set_cons_succ]))
      refine wpAnyE_take (i := 3) (v := ?v_a3) rfl (by kernel_rfl) (by kernel_rfl) (by kernel_rfl) (by kernel_rfl) (by kernel_rfl) (fun _ _ _ h => h) (Or.inl ⟨by kernel_rfl, ?y_a3⟩) (by assumption) ?r_a3
      case y_a3 => intro wE hSw; clear hSw; go_simp; try with_reducible rfl
      case' r_a3 => ((try simp only [Act.put]); (try simp only [List.setIfInBounds_toArray]); (try simp only [List.set_cons_zero, List.set_cons_succ]))
      refine wpAnyE_take (i := 4) (v := .slice (some ⟨bb, off + 64 * k, none⟩) (l.length - 64 * k) (cap - 64 * k)) rfl (by kernel_rfl) (by kernel_rfl) (by kernel_rfl) (by kernel_rfl) (by kernel_rfl) (fun _ _ _ h => h) (Or.inl ⟨by kernel_rfl, ?y_a4⟩) (by assumption) ?r_a4
      case y_a4 => intro wE hSw; clear hSw; go_simp; exact fun hcon => absurd (hcon (by omega)) (by omega)
      case' r_a4 => ((try simp only [Act.put]); (try simp only [List.setIfInBounds_toArray]); (try simp only [List.set_cons_zero, List.set_cons_succ]))
      refine wpAnyE_ready (rs := [5]) (by kernel_rfl) (by simp) ?_
      refine AllReadyE.cons rfl (fun KA hKA => ?_) AllReadyE.nil
      rw [if_pos (by kernel_rfl)]
      go_simp
      refine (bmix_any _ _ B (l.drop (64 * k)) w4.drew (show Bsl w4.drew _ _ from hb64) (show Bsl w4.drew _ _ from hdl ▸ hbd) (by rw [HTN.out.2.1]; omega)).mono ?_
      rintro e w5 ⟨v5, rfl, ho5, hB5⟩
      have hoo5 := (show OB w4.drew _ _ _ from hoo).keep hB5
      have hKy5 := (show AN .u8 w4.drew _ _ from hKy).keep hB5
      have hNo5 := (show AN .u8 w4.drew _ _ from hNo).keep hB5
      have hs5 : w4.heap.size ≤ w5.heap.size := hB5.size
      have hB05 := hB04.drew.trans (hB5.mono hB04.size)
      have hml : (mixL B (l.drop (64 * k))).length ≤ 64 := by rw [mixL_len, HTN.out.2.1]; omega
      have hb5' := ho5.bsl
      try go_simp
      refine hKA _ _ (fun _ => trivial) ?_
      clear hKA KA
      refine wpAnyE_ready (rs := [6]) (by kernel_rfl) (by simp) ?_
      refine AllReadyE.cons rfl (fun KA hKA => ?_) AllReadyE.nil
      refine step_app rfl _ _ rfl (w.heap.size + 2) _ v5 done (mixL B (l.drop (64 * k))) rfl rfl hoo5 hb5' (by omega) (by omega) ?_
      intro v6 w6 ho6 hg6 _
      have hB6 : Below (w.heap.size + 2) w5 w6 := Below.of_grown hg6 (by omega) hoo5.own_ge
      have hs6 := hB6.size
      have hKy6 := hKy5.under hB6 (by omega)
      have hNo6 := hNo5.under hB6 (by omega)
      have hB6 := hB05.trans (hB6.mono (by omega))
      have HF := Lib.hid (And.intro ho6 (And.intro hKy6 (And.intro hNo6 (And.intro hB6 (show w.heap.size + 2 ≤ w6.heap.size by omega)))))
      clear hoo5 hKy5 hNo5 ho5 hB5 hB05 hs5 ho6 hKy6 hNo6 hB6 hs6 hoo hKy hNo hB4 hB04 hb64 hbd hml hS0 hg6 hb5'
      try go_simp
      refine hKA _ _ (fun _ => trivial) ?_
      clear hKA KA
      refine wpAnyE_ready (rs := [7]) (by kernel_rfl) (by simp) ?_
      refine AllReadyE.cons rfl (fun KA hKA => ?_) AllReadyE.nil
      rw [if_pos (by kernel_rfl)]
      go_simp
      refine hKA _ _ (fun h => Bool.noConfusion (show true = false from h)) ?_
      clear hKA KA
      refine wpAnyE_done (by kernel_rfl) ?_ _
      have hnk : (64 : Int) * k + 64 ≤ l.length + 64 := by omega
      go_wp2_with fail
      go_roundw
      case rel =>
        obtain ⟨h1, h2, h3, h4, h5⟩ := HF.out
        refine ⟨k + 1, (ck + 1) % 4294967296, f', _, ?_, by omega, by rw [← HCK.out], Nat.mod_lt _ (by decide), ?_, HTN.out.1, h1, h2, h3, h4, h5⟩
        · rw [show ((64 * (k + 1) : Nat) : Int) = 64 * (k : Int) + 64 by omega]
        · have := HTN.out.2.2.1; rw [List.length_drop]; omega
      case measure => simp [intOf]; omega
    · have hde : l.drop (64 * k) = [] := List.drop_of_length_le (by omega)
      have hTd : T = done := by
        rw [hTe, hde]
        have : streamL key nonce f ck ([] : List UInt8) = [] := by cases f <;> rfl
        rw [this, List.append_nil]
      rw [← hTd] at hoo
      have hge : ¬ ((64 : Int) * k < l.length) := by omega
      have HO := Lib.hid (And.intro (hoo.mono (b' := w.heap.size) (by omega)) hBl)
      clear hTe hTd hoo hKy hNo hBl hf hde hdl
      go_wp2_with fail
      go_ret
      exact ⟨_, rfl, HO.out⟩
end Go.Proofs.YtembfelckbmgiaaDoor
