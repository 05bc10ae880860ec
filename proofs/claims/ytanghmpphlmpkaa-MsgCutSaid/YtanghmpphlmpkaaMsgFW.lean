/- The document's in, row and list. -/
import Derived.Test.YtanghmpphlmpkaaMsgS
namespace Go.Proofs.Ytanghmpphlmpkaa
open Go.RowKit
set_option linter.unusedVariables false
set_option maxRecDepth 100000 in
set_option maxHeartbeats 400000 in
theorem fin_any (n lo hi : Int) (w : World) : Calls Try.prog 21 #[.int .i64 n, .int .i64 lo, .int .i64 hi] w fun e w' => e = .returned (.bool (inK n lo hi)) ∧ Below w.heap.size w w' := by
  unfold inK
  by_cases h1 : lo ≤ n
  · by_cases h2 : n ≤ hi
    · rw [decide_eq_true (And.intro h1 h2)]
      go_enter Try.func21, Try.ntmps21
      go_wp2_with fail
      go_ret
      exact ⟨rfl, Below.refl _ _⟩
    · rw [decide_eq_false (fun h => h2 h.2)]
      go_enter Try.func21, Try.ntmps21
      go_wp2_with fail
      go_ret
      exact ⟨rfl, Below.refl _ _⟩
  · rw [decide_eq_false (fun h => h1 h.1)]
    go_enter Try.func21, Try.ntmps21
    go_wp2_with fail
    go_ret
    exact ⟨rfl, Below.refl _ _⟩
set_option maxRecDepth 100000 in
set_option maxHeartbeats 1000000 in
theorem frow_any (r : RwD) (w : World) (hk : r.key.length ≤ 1000000) (hs : r.set.length ≤ 1000000) :
    Calls Try.prog 24 #[.agg #[.string ⟨r.key.toArray⟩, .string ⟨r.set.toArray⟩]] w fun e w' => e = .returned (.tuple #[.string ⟨(rowB r).toArray⟩, .bool true]) ∧ Below w.heap.size w w' := by
  have hA1 : Below w.heap.size w (w.alloc (.cells #[.string ⟨r.key.toArray⟩, .string ⟨r.set.toArray⟩] 23)) := (Below.refl _ _).alloc (Nat.le_refl _) _
  have c0 : (w.alloc (.cells #[.string ⟨r.key.toArray⟩, .string ⟨r.set.toArray⟩] 23)).cell? ⟨w.heap.size, 0, none⟩ = some (.string ⟨r.key.toArray⟩) := by rw [World.cell?_alloc_new]; rfl
  have c1 : (w.alloc (.cells #[.string ⟨r.key.toArray⟩, .string ⟨r.set.toArray⟩] 23)).cell? ⟨w.heap.size, 1, none⟩ = some (.string ⟨r.set.toArray⟩) := by rw [World.cell?_alloc_new]; rfl
  have hle : (r.set.length : Int) ≤ 1048576 := by omega
  have hsz : (⟨r.set.toArray⟩ : ByteArray).size = r.set.length := by simp [ByteArray.size]
  go_enter Try.func24, Try.ntmps24
  go_wp2_with fail
  generalize w.alloc (.cells #[.string ⟨r.key.toArray⟩, .string ⟨r.set.toArray⟩] 23) = w1 at *
  have k0 := cell_regrown c0
  have k1 := cell_regrown c1
  have cB : ∀ d os, Calls Try.prog 49 #[.string ⟨r.set.toArray⟩] (Sort.grow (redrawn w1 d) os) fun e w'' => e = .returned (.string ⟨(bytesL r.set).toArray⟩) ∧ ∃ p : Regrown, w'' = Sort.grow (redrawn w1 p.d) p.os :=
    fun d os => Calls.regrown_of (refBytes_any r.set _ (by omega))
  have hcat := fun (w : World) => run_cat r.key (bytesL r.set) (by rw [bytesL_len]; omega) w
  clear c0 c1
  have hRB : r.key ++ bytesL r.set = rowB r := rfl
  rw [hRB] at hcat
  generalize hrb : rowB r = rb at *
  clear hRB
  refine wp_region_quiet_below (by kernel_rfl) (by kernel_rfl) ?_
  repeat (quiet_step (first | (go_at_call 49; exact cB _ _)))
  refine wpQuiet_nil ?_
  rintro w4 ⟨⟨d2, os2⟩, rfl⟩
  have hb4 := below_regrown w1 d2 os2
  have HB := Lib.hid (hA1.trans (hb4.mono hA1.size))
  generalize Sort.grow (redrawn w1 d2) os2 = w4 at *
  clear k0 k1 cB hcat hb4 hA1
  go_wp2_with fail
  go_ret2
  exact ⟨by rw [hrb]; rfl, HB.out⟩
set_option maxRecDepth 100000 in
set_option maxHeartbeats 1000000 in
theorem flist_any (l : List Int) (v : Value) (w : World) (hv : Rd w 1 v (l.map intC)) (hi : ∀ n ∈ l, i64 n) (hn : l.length ≤ 1000) :
    Calls Try.prog 25 #[v] w fun e w' => e = .returned (.tuple #[.string ⟨(manyB numL l).toArray⟩, .bool (listK l)]) ∧ Below w.heap.size w w' := by
  obtain ⟨ao, cap, rfl, hcc⟩ := hv.ints
  have hlen : (l.length : Int) ≤ 1000 := by omega
  have hin : decide ((l.length : Int) ≤ 255) = decide (l.length ≤ 255) := decide_eq_decide.2 ⟨fun h => by omega, fun h => by omega⟩
  have hsl := smallL_len l.length
  go_enter Try.func25, Try.ntmps25
  go_wp2_with fail
  refine (refSmall_any l.length w).mono ?_
  rintro e w1 ⟨rfl, hB1⟩
  unfold strV
  go_wp2_with fail
  go_loopw [4, 5, 6] (fun s b j wr => ∃ k : Nat, k ≤ l.length ∧ j = .int .i64 k ∧ s = .string ⟨(smallL l.length ++ ((l.take k).map numL).flatten).toArray⟩ ∧ b = .bool (decide (l.length ≤ 255) && (l.take k).all fun n => inK n 0 255) ∧ Below w.heap.size w wr) (fun _ _ j _ => l.length - (intOf j).toNat)
  case atStart => exact ⟨0, Nat.zero_le _, rfl, by simp, by simp, hB1⟩
  case round =>
    obtain ⟨k, hk, rfl, rfl, rfl, hB⟩ := hrel
    by_cases hlt : k < l.length
    · have hlt2 : (k : Int) < l.length := by omega
      have hk0 : (0 : Int) ≤ k := Int.natCast_nonneg _
      obtain ⟨ga, oa, rfl, hcl⟩ := hcc (fun e => by rw [e] at hlt; simp at hlt)
      have hcell := (hB.cell (p := ⟨ga, oa + k, none⟩) (World.block_lt_of_cell? w _ (hcl k hlt))).trans (hcl k hlt)
      have hf := flat_take numL l k hlt
      have ha := all_take (fun n => inK n 0 255) l k hlt
      have hi64 := hi _ (List.getElem_mem hlt)
      have hlk : (smallL l.length ++ ((l.take k).map numL).flatten).length ≤ 2000000 := by
        have h1 := flat_le numL (l.take k) 8 (fun x _ => numL_len x)
        rw [List.length_take] at h1
        rw [List.length_append]; omega
      have hnl := numL_len l[k]
      generalize l[k] = n at *
      generalize hs0 : smallL l.length ++ ((l.take k).map numL).flatten = s0 at *
      generalize hb0 : (decide (l.length ≤ 255) && (l.take k).all fun n => inK n 0 255) = b0 at *
      have HF := Lib.hid (And.intro hf (And.intro ha (And.intro hs0 (And.intro hb0 hB))))
      have hcat := fun (w : World) => run_cat s0 (numL n) (by omega) w
      have hN := fun w => refNum_any n w hi64.2
      have hI := fun w => fin_any n 0 255 w
      unfold strV at hN
      generalize hnn : numL n = nn at *
      generalize hii : inK n 0 255 = ii at *
      have HN := Lib.hid (And.intro hnn hii)
      clear hf ha hcl hcc hB1 hs0 hb0 hnn hii hB
      cases b0 with
      | false =>
        go_wp2_with fail
        refine (hN _).mono ?_
        rintro e w4 ⟨rfl, hB4⟩
        have HB := Lib.hid hB4
        clear hB4 hN hI hcell
        go_wp2_with fail
        go_roundw
        case rel =>
          obtain ⟨hf, ha, hs0, hb0, hB⟩ := HF.out
          refine ⟨k + 1, hlt, by go_num, ?_, ?_, hB.trans (HB.out.mono hB.size)⟩
          · rw [hf, ← List.append_assoc, hs0]
          · simp only [ha, ← Bool.and_assoc, hb0, Bool.false_and]
        case measure => simp [intOf]; omega
      | true =>
        go_wp2_with fail
        refine (hN _).mono ?_
        rintro e w4 ⟨rfl, hB4⟩
        have hcell4 := (hB4.cell (p := ⟨ga, oa + k, none⟩) (World.block_lt_of_cell? _ _ hcell)).trans hcell
        have HB := Lib.hid hB4
        clear hB4 hN hcell
        go_wp2_with fail
        refine (hI _).mono ?_
        rintro e w5 ⟨rfl, hB5⟩
        have HC := Lib.hid hB5
        clear hB5 hI hcell4
        go_wp2_with fail
        go_roundw
        case rel =>
          obtain ⟨hf, ha, hs0, hb0, hB⟩ := HF.out
          refine ⟨k + 1, hlt, by go_num, ?_, ?_, (hB.trans (HB.out.mono hB.size)).trans (HC.out.mono (Nat.le_trans hB.size HB.out.size))⟩
          · rw [hf, ← List.append_assoc, hs0]
          · simp only [ha, ← Bool.and_assoc, hb0, Bool.true_and]
        case measure => simp [intOf]; omega
    · have hke : k = l.length := by omega
      subst hke
      rw [List.take_of_length_le (Nat.le_refl _)]
      have e1 : smallL l.length ++ (l.map numL).flatten = manyB numL l := rfl
      have e2 : (decide (l.length ≤ 255) && l.all fun n => inK n 0 255) = listK l := rfl
      rw [e1, e2]
      have HB := Lib.hid hB
      clear hB hcc hB1 e1 e2
      generalize hmb : manyB numL l = mb at *
      generalize hlk : listK l = lk at *
      have HM := Lib.hid (And.intro hmb hlk)
      clear hmb hlk
      go_wp2_with fail
      go_ret2
      exact ⟨by rw [HM.out.1, HM.out.2]; rfl, HB.out⟩
end Go.Proofs.Ytanghmpphlmpkaa
