/- sha2: the walks of the schedule and of the mix. -/
import Derived.Test.YtjhocaleampamaaDoorShaA
import Derived.Test.YtjhocaleampamaaDoorBig
import Derived.Test.YtjhocaleampamaaDoorQTail
import Derived.Deep.RegionHeldLaw
namespace Go.Proofs.YtjhocaleampamaaDoor
open Go.RowKit Big
set_option linter.unusedVariables false
theorem big8 : BigT 99 (nvs .u32 (zN 8)) := BigT.of (by kernel_rfl) ⟨_, Tryd.underlying99, rfl⟩
theorem big64 : BigT 126 (nvs .u32 (zN 64)) := BigT.of (by kernel_rfl) ⟨_, Tryd.underlying126, rfl⟩
theorem alT_8 : Instr.alloc 99 true (.tuple #[]) = alT 99 := rfl
theorem ldT_8 (v : Value) : Instr.loadAt 99 v = ldT 99 v := rfl
theorem stT_8 (v u : Value) : Instr.storeAt 99 v u = stT 99 v u := rfl
theorem alT_64 : Instr.alloc 126 true (.tuple #[]) = alT 126 := rfl
theorem ldT_64 (v : Value) : Instr.loadAt 126 v = ldT 126 v := rfl
theorem stT_64 (v u : Value) : Instr.storeAt 126 v u = stT 126 v u := rfl
/-- The schedule's array behind t words. -/
def schA (b : List UInt8) (t : Nat) : List Nat := shaSched b t ++ zN (64 - t)
theorem schA_len (b : List UInt8) (t : Nat) (h : t ≤ 64) : (schA b t).length = 64 := by simp [schA, shaSched_len, zN]; omega
theorem schA_get (b : List UInt8) (t j : Nat) (h : j < t) : (schA b t).getD j 0 = (shaSched b t).getD j 0 := by
  simp [schA, List.getD, List.getElem?_append_left, shaSched_len, h]
theorem shaSched_get_lt (b : List UInt8) (t j : Nat) : (shaSched b t).getD j 0 < 4294967296 := by
  induction t generalizing j with
  | zero => simp [shaSched]
  | succ t ih =>
    rw [shaSched, schedStep, shaSched_len]
    by_cases hj : j < t
    · have := ih j
      simp only [List.getD, List.getElem?_append_left (show j < (shaSched b t).length by rw [shaSched_len]; exact hj)] at this ⊢
      exact this
    · by_cases hj2 : j = t
      · subst hj2
        simp only [List.getD, List.getElem?_append_right (show (shaSched b j).length ≤ j by rw [shaSched_len]; exact Nat.le_refl _), shaSched_len, Nat.sub_self, List.getElem?_cons_zero, Option.getD_some]
        split
        · have := beW_lt ((b.drop (4 * j)).take 4)
          have h2 : ((b.drop (4 * j)).take 4).length ≤ 4 := by simp; omega
          exact Nat.lt_of_lt_of_le this (Nat.pow_le_pow_right (n := 256) (by omega) h2)
        · exact Nat.mod_lt _ (by decide)
      · simp only [List.getD]
        rw [List.getElem?_eq_none (by rw [List.length_append, shaSched_len, List.length_singleton]; omega)]
        simp
theorem schA_succ (b : List UInt8) (t x : Nat) (h : t < 64) (hx : shaSched b (t + 1) = shaSched b t ++ [x]) : (schA b t).set t x = schA b (t + 1) := by
  unfold schA
  rw [List.set_append_right _ _ (by rw [shaSched_len]; exact Nat.le_refl _), shaSched_len, Nat.sub_self, hx, show 64 - t = (64 - (t + 1)) + 1 by omega]
  simp [zN, List.replicate_succ]
attribute [local go_sem ↓] alT_64 ldT_64 stT_64
set_option maxRecDepth 100000 in
set_option maxHeartbeats 1000000 in
theorem schedule_any (v : Value) (b : List UInt8) (w : World) (hb : Bsl w v b) (hl : b.length = 64) :
    Calls Tryd.prog 64 #[v] w fun e w' => e = .returned (.agg (nvs .u32 (shaSched b 64)).toArray) ∧ Below w.heap.size w w' := by
  have hb0 := hb
  obtain ⟨ao, cap, rfl, hlc, hcm, hnil, hcells⟩ := hb
  obtain ⟨bb, off, rfl, -⟩ := hcells (by intro h; rw [h] at hl; simp at hl)
  clear hnil hcells
  rw [hl] at hb0 hlc ⊢
  have HL := Lib.hid hl; clear hl
  obtain ⟨S, hS⟩ : ∃ S, S = shaSched b 64 := ⟨_, rfl⟩
  rw [← hS]
  have HS := Lib.hid hS; clear hS
  have hal1 := big64.al w
  have hal2 := big64.al (w.alloc (.cells (nvs .u32 (zN 64)).toArray 126))
  have hA1 : Below w.heap.size w (w.alloc (.cells (nvs .u32 (zN 64)).toArray 126)) := (Below.refl _ _).alloc (Nat.le_refl _) _
  have hA2 : Below w.heap.size w ((w.alloc (.cells (nvs .u32 (zN 64)).toArray 126)).alloc (.cells (nvs .u32 (zN 64)).toArray 126)) := hA1.alloc (by simp) _
  have hn1 := AN.new .u32 w (zN 64) 126
  have hn1 := hn1.keep ((Below.refl _ _).alloc (Nat.le_refl _) (.cells (nvs .u32 (zN 64)).toArray 126))
  have hn2 := AN.new .u32 (w.alloc (.cells (nvs .u32 (zN 64)).toArray 126)) (zN 64) 126
  simp only [World.size_alloc] at hn2 hal2
  go_enter Tryd.func64, Tryd.ntmps64
  go_wp2_with fail
  clear hal1 hal2 hA1


  go_loopw [6] (fun i wr => ∃ k : Nat, k ≤ 16 ∧ i = .int .i64 k ∧ AN .u32 wr (w.heap.size + 1) (schA b k) ∧ AN .u32 wr w.heap.size (zN 64) ∧ Below w.heap.size w wr) (fun i _ => 16 - (intOf i).toNat)
  case atStart => exact ⟨0, Nat.zero_le _, rfl, hn2, hn1, hA2⟩
  case round =>
    obtain ⟨k, hk, rfl, hW, hZ, hB⟩ := hrel
    clear hn1 hn2 hA2
    by_cases hlt : k < 16
    · have hc := hW.cell (j := k) (by rw [schA_len b k (by omega)]; omega)
      have hf := hW.free (j := k) (by rw [schA_len b k (by omega)]; omega)
      have hsub := Bsl_sub (hb0.keep hB) (i := 4 * k) (m := 4) (by rw [HL.out]; omega)
      have hsl : ((b.drop (4 * k)).take 4).length = 4 := by rw [List.length_take, List.length_drop, HL.out]; omega
      have hx : beW ((b.drop (4 * k)).take 4) < 4294967296 := by have := beW_lt ((b.drop (4 * k)).take 4); rw [hsl] at this; exact this
      have hss : shaSched b (k + 1) = shaSched b k ++ [beW ((b.drop (4 * k)).take 4)] := by rw [shaSched, schedStep, shaSched_len, if_pos hlt]
      have hnext := (hW.set (j := k) (by rw [schA_len b k (by omega)]; omega) (beW ((b.drop (4 * k)).take 4)))
      rw [schA_succ b k _ (by omega) hss] at hnext
      have hZ2 := hZ.set_other (p := ⟨w.heap.size + 1, k, none⟩) (by simp) (.int .u32 ((beW ((b.drop (4 * k)).take 4) : Nat) : Int))
      have hB2 : Below w.heap.size w (wr.setCell ⟨w.heap.size + 1, k, none⟩ (.int .u32 ((beW ((b.drop (4 * k)).take 4) : Nat) : Int))) := hB.setCell (by simp) _
      have hcall := high32_any _ _ wr hsub hsl
      generalize beW ((b.drop (4 * k)).take 4) = x at *
      have HH := Lib.hid (And.intro hnext (And.intro hZ2 hB2))
      clear hnext hZ2 hB2 hss hW hZ hsub hsl
      go_wp2_with fail
      refine hcall.mono ?_
      rintro e w1 ⟨rfl, rfl⟩
      clear hcall
      go_wp2_with fail
      go_roundw
      case rel => exact ⟨k + 1, by omega, by go_num, HH.out⟩
      case measure => simp [intOf]; omega
    · have hk16 : k = 16 := by omega
      rw [hk16] at hW
      clear hk16
      go_wp2_with fail
      go_loopw [5] (fun i w2 => ∃ t : Nat, 16 ≤ t ∧ t ≤ 64 ∧ i = .int .i64 t ∧ AN .u32 w2 (w.heap.size + 1) (schA b t) ∧ AN .u32 w2 w.heap.size (zN 64) ∧ Below w.heap.size w w2) (fun i _ => 64 - (intOf i).toNat)
      case atStart => exact ⟨16, by omega, by omega, rfl, hW, hZ, hB⟩
      case round =>
        obtain ⟨t, ht1, ht2, rfl, hW2, hZ2, hB2⟩ := hrel
        clear hW hZ hB
        by_cases hlt : t < 64
        · have hg2 := hW2.cell (j := t - 2) (by rw [schA_len b t (by omega)]; omega)
          have hg7 := hW2.cell (j := t - 7) (by rw [schA_len b t (by omega)]; omega)
          have hg15 := hW2.cell (j := t - 15) (by rw [schA_len b t (by omega)]; omega)
          have hg16 := hW2.cell (j := t - 16) (by rw [schA_len b t (by omega)]; omega)
          rw [schA_get b t _ (by omega)] at hg2 hg7 hg15 hg16
          have hck := hW2.cell (j := t) (by rw [schA_len b t (by omega)]; omega)
          have hfr := hW2.free (j := t) (by rw [schA_len b t (by omega)]; omega)
          have i2 : IntKind.i64.wrap ((t : Int) - 2) = ((t - 2 : Nat) : Int) := by rw [IntWalk.i64_in _ (by omega)]; omega
          have i7 : IntKind.i64.wrap ((t : Int) - 7) = ((t - 7 : Nat) : Int) := by rw [IntWalk.i64_in _ (by omega)]; omega
          have i15 : IntKind.i64.wrap ((t : Int) - 15) = ((t - 15 : Nat) : Int) := by rw [IntWalk.i64_in _ (by omega)]; omega
          have i16 : IntKind.i64.wrap ((t : Int) - 16) = ((t - 16 : Nat) : Int) := by rw [IntWalk.i64_in _ (by omega)]; omega
          have q2 : ((t - 2 : Nat) : Int) < 64 := by omega
          have q7 : ((t - 7 : Nat) : Int) < 64 := by omega
          have q15 : ((t - 15 : Nat) : Int) < 64 := by omega
          have q16 : ((t - 16 : Nat) : Int) < 64 := by omega
          have hl2 := shaSched_get_lt b t (t - 2)
          have hl15 := shaSched_get_lt b t (t - 15)
          have hss : shaSched b (t + 1) = shaSched b t ++ [(shaMoved ((shaSched b t).getD (t - 2) 0) 17 19 10 + (shaSched b t).getD (t - 7) 0 + shaMoved ((shaSched b t).getD (t - 15) 0) 7 18 3 + (shaSched b t).getD (t - 16) 0) % 4294967296] := by rw [shaSched, schedStep, shaSched_len, if_neg (by omega)]
          have hm2 := shaMoved_lt _ 17 19 10 hl2
          have hm15 := shaMoved_lt _ 7 18 3 hl15
          have hl7 := shaSched_get_lt b t (t - 7)
          have hl16 := shaSched_get_lt b t (t - 16)
          have cA := fun n => quiet_drew (moved_1 _ (wr.drewN n) hl2)
          have cB := fun n => quiet_drew (moved_2 _ (wr.drewN n) hl15)
          have hnext := fun n => (hW2.drewN n).set (j := t) (by rw [schA_len b t (by omega)]; omega) ((shaMoved ((shaSched b t).getD (t - 2) 0) 17 19 10 + (shaSched b t).getD (t - 7) 0 + shaMoved ((shaSched b t).getD (t - 15) 0) 7 18 3 + (shaSched b t).getD (t - 16) 0) % 4294967296)
          rw [schA_succ b t _ (by omega) hss] at hnext
          generalize shaMoved ((shaSched b t).getD (t - 2) 0) 17 19 10 = m2 at *
          generalize shaMoved ((shaSched b t).getD (t - 15) 0) 7 18 3 = m15 at *
          generalize (shaSched b t).getD (t - 2) 0 = x2 at *
          generalize (shaSched b t).getD (t - 7) 0 = x7 at *
          generalize (shaSched b t).getD (t - 15) 0 = x15 at *
          generalize (shaSched b t).getD (t - 16) 0 = x16 at *
          have HH := Lib.hid (And.intro hnext (And.intro hZ2 hB2))
          clear hnext hZ2 hB2 hss hW2
          go_wp2_with fail
          refine wp_region_quiet_tail_lit 23 (by kernel_rfl) (by kernel_rfl) ?_
          simp only [List.take_succ_cons, List.take_zero, List.drop_succ_cons, List.drop_zero]
          repeat (quiet_step ((go_at_call 86; first | with_reducible exact cA _ | with_reducible exact cB _)))
          refine wpQuiet_nil ?_
          rintro _ ⟨nq, rfl⟩
          go_wp2_with fail
          go_roundw
          case rel =>
            obtain ⟨h1, h2, h3⟩ := HH.out
            have hv : (((m2 : Int) + x7 + m15 + x16) % 4294967296) = (((m2 + x7 + m15 + x16) % 4294967296 : Nat) : Int) := by omega
            rw [hv]
            exact ⟨t + 1, by omega, by omega, by go_num, h1 nq, (h2.drewN nq).set_other (by simp) _, (below_drewN h3 nq).setCell (by simp) _⟩
          case measure => simp [intOf]; omega
        · obtain rfl : t = 64 := by omega
          have hld := big64.ld hW2 (by rw [schA_len b 64 (by omega), zN_len])
          have hst := big64.st hZ2 (zN_len 64 ▸ rfl) (m := schA b 64) (by rw [schA_len b 64 (by omega), zN_len])
          have hn3 := hZ2.stored (m := schA b 64) (by rw [schA_len b 64 (by omega), zN_len])
          have hlv := big64.lv hn3 (by rw [schA_len b 64 (by omega), zN_len])
          have hB3 := hB2.trans (below_setCells (Nat.le_refl w.heap.size) (nvs .u32 (schA b 64)) 0)
          have he : schA b 64 = S := by rw [HS.out]; simp [schA, zN]
          rw [he] at hld hst hlv hB3
          have HB := Lib.hid hB3
          clear hn3 hB2 hZ2 hW2 he hB3
          go_wp2_with fail
          refine bodyPost_ret (results_cell Tryd.results64 rfl hlv) rfl ⟨rfl, HB.out⟩
end Go.Proofs.YtjhocaleampamaaDoor
