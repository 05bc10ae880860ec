/- casketref23.Net: DocCopy, New. -/
import Derived.Test.YtbflffanahnofaaRefNetTake
import Derived.Deep.RegionLaw
namespace Go.Proofs.Ytbflffanahnofaa
open Go.RowKit
set_option maxRecDepth 100000 in
set_option maxHeartbeats 400000 in
theorem rcopy_bad (i k : Int) (w : World) {p : Nat} {st : NSt} {bs : Nat → Prop} (h : RNet w p st bs) (hi : ¬ (0 ≤ i ∧ i < st.length)) :
    Calls Try.prog 18 #[.pointer (some ⟨p, 0, none⟩), .int .i64 i, .int .i64 k] w fun e w' => e = .returned (.int .i64 1) ∧ w = w' := by
  obtain ⟨g, h, cg, ch, col, rv, ⟨⟨c0, _⟩, _⟩, _⟩ := h
  have hb := rbox_any i w c0
  rw [decide_eq_false hi] at hb
  clear hi
  go_enter Try.func18, Try.ntmps18
  go_wp2_with fail
  refine hb.mono ?_
  rintro e w1 ⟨rfl, rfl⟩
  go_wp2_with fail
  go_ret
  exact ⟨rfl, rfl⟩
set_option maxRecDepth 100000 in
set_option maxHeartbeats 400000 in
theorem rcopy_miss (i : Nat) (k : Int) (w : World) {p : Nat} {st : NSt} {bs : Nat → Prop} (hN : RNet w p st bs) (hi : i < st.length) (hk : ¬ (0 ≤ k ∧ k < (innN st i).length)) :
    Calls Try.prog 18 #[.pointer (some ⟨p, 0, none⟩), .int .i64 i, .int .i64 k] w fun e w' => e = .returned (.int .i64 7) ∧ w = w' := by
  obtain ⟨g, h, cg, ch, v, ⟨c0, c1⟩, ⟨ci, fi⟩, hl, hr, hz1, hz0, hz2, hz3⟩ := hN.setRow false hi
  obtain ⟨vo, vc, rfl, hz4, hz5, hz6⟩ := hr.val
  have hlen : ((rowOf st false i).map strC).length = (innN st i).length := List.length_map ..
  rw [hlen] at ci
  have hb := rbox_any i w c0
  rw [decide_eq_true (by omega)] at hb
  have hi0 : (0 : Int) ≤ i := Int.natCast_nonneg _
  have hi1 : (i : Int) < st.length := by omega
  rw [if_neg (by simp)] at ci fi
  clear hz0 hz1 hz2 hz3 hz4 hz5 hz6 hr hl hlen
  generalize (innN st i).length = n at *
  by_cases h0 : k < 0
  · clear hk
    go_enter Try.func18, Try.ntmps18
    go_wp2_with fail
    refine hb.mono ?_
    rintro e w1 ⟨rfl, rfl⟩
    go_wp2_with fail
    go_ret
    exact ⟨rfl, rfl⟩
  · have h1 : (n : Int) ≤ k := by omega
    clear hk
    go_enter Try.func18, Try.ntmps18
    go_wp2_with fail
    refine hb.mono ?_
    rintro e w1 ⟨rfl, rfl⟩
    go_wp2_with fail
    go_ret
    exact ⟨rfl, rfl⟩
set_option maxRecDepth 100000 in
set_option maxHeartbeats 2000000 in
/-- Where the message is there DocCopy sends it. -/
theorem rcopy_in (i k : Nat) (w : World) {p : Nat} {st : NSt} {bs : Nat → Prop} (hN : RNet w p st bs) (hi : i < st.length) (hk : k < (innN st i).length) {Q : Int → World → Prop}
    (hS : Calls Try.prog 16 #[.pointer (some ⟨p, 0, none⟩), .int .i64 i, strN ((innN st i).getD k [])] w fun e w' => ∃ n, e = .returned (.int .i64 n) ∧ Q n w') :
    Calls Try.prog 18 #[.pointer (some ⟨p, 0, none⟩), .int .i64 i, .int .i64 k] w fun e w' => ∃ n, e = .returned (.int .i64 n) ∧ Q n w' := by
  obtain ⟨g, h, cg, ch, v, ⟨c0, c1⟩, ⟨ci, fi⟩, hl, hr, hne, hz0, hbs, hset⟩ := hN.setRow false hi
  have hro : rowOf st false i = innN st i := rfl
  rw [hro] at hr
  have hlm : ((innN st i).map strC).length = (innN st i).length := List.length_map ..
  obtain ⟨gi, vc, rfl, hz4, hgil, hcn, hcm⟩ := hr.shape (by intro e; rw [e] at hlm; simp at hlm; omega)
  rw [hlm] at hcn ci hr
  have hck : w.cell? ⟨gi, k, none⟩ = some (strN ((innN st i).getD k [])) := by
    have h1 := hr.range hlm.symm (i := k) (by rw [hlm]; exact hk) 0 (strN ((innN st i).getD k [])) (by simp [strC, List.getD, hk])
    rwa [Nat.mul_one, Nat.add_zero] at h1
  have hb := rbox_any i w c0
  rw [decide_eq_true (by omega)] at hb
  have hi0 : (0 : Int) ≤ i := Int.natCast_nonneg _
  have hi1 : (i : Int) < st.length := by omega
  have hk0 : (0 : Int) ≤ k := Int.natCast_nonneg _
  have hk1 : (k : Int) < (innN st i).length := by omega
  simp only [Bool.false_eq_true, if_false] at ci fi
  clear hset hbs hz0 hne hr hlm hro hz4 hcm hcn hgil hl hi hk fi
  generalize (innN st i).getD k [] = sx at *
  generalize (innN st i).length = n at *
  unfold strN at hck hS
  go_enter Try.func18, Try.ntmps18
  go_wp2_with fail
  refine hb.mono ?_
  rintro e w1 ⟨rfl, rfl⟩
  go_wp2_with fail
  refine hS.mono ?_
  rintro e w2 ⟨n2, rfl, hq⟩
  have HQ := Lib.hid hq
  clear hq hS
  go_wp2_with fail
  go_ret
  exact ⟨_, rfl, HQ.out⟩
def nrC (n : Nat) : List Value := List.replicate n (.slice none 0 0)
theorem Try.info_srow : (Try.prog.info? 48).map (fun i => (i.zero.map (fun z => z.cells), i.size, decide (i.bytes ≤ 1000))) = some (some #[.slice none 0 0], 1, true) := by kernel_rfl
theorem Try.srow_parts : ∃ i z, Try.prog.info? 48 = some i ∧ i.zero = some z ∧ z.cells = #[.slice none 0 0] ∧ i.size = 1 ∧ i.bytes ≤ 1000 := by
  have h := Try.info_srow
  cases hi : Try.prog.info? 48 with
  | none => rw [hi] at h; cases h
  | some i =>
    rw [hi] at h
    simp only [Option.map_some, Option.some.injEq, Prod.mk.injEq, decide_eq_true_eq] at h
    obtain ⟨h1, h2, h3⟩ := h
    cases hz : i.zero with
    | none => rw [hz] at h1; cases h1
    | some z => rw [hz] at h1; exact ⟨i, z, rfl, hz, by simpa using h1, h2, h3⟩
def mkR (v u : Value) : Sem Value := Instr.makeSlice 49 v u
theorem mkR_eq (v u : Value) : Instr.makeSlice 49 v u = mkR v u := rfl
theorem run_mkR (w : World) (n : Nat) (h : n ≤ 100) : (mkR (.int .i64 n) (.int .i64 n)).run Try.prog w = .ok (.slice (some ⟨w.heap.size, 0, none⟩) n n) (w.alloc (.cells (nrC n).toArray 48)) := by
  obtain ⟨i, z, hi, hz, hzc, hs, hb⟩ := Try.srow_parts
  have hb2 : (i.bytes : Int) * n ≤ 281474976710656 := by
    have : i.bytes * n ≤ 1000 * 100 := Nat.mul_le_mul hb h
    have h2 : ((i.bytes * n : Nat) : Int) ≤ 281474976710656 := by omega
    rwa [Int.natCast_mul] at h2
  have := run_make (P := Try.prog) w _ _ i z Try.underlying49 hi hz .i64 .i64 (n : Int) n (by omega) (by omega) hb2 (by omega)
  unfold mkR
  rw [this, Int.toNat_natCast, hzc, hs]
  congr 3
  apply Array.ext'
  apply List.ext_getElem
  · simp [madeCells, nrC]
  · intro j h1 h2
    have hj : j % 1 = 0 := Nat.mod_one _
    simp [madeCells, nrC, hj]
attribute [local go_sem ↓] mkR_eq
attribute [local go_sem] run_mkR
theorem RNet.fresh {w w1 : World} {n g h : Nat} (hB : Below w.heap.size w w1) (hne : g ≠ h) (hg : w.heap.size ≤ g) (hh : w.heap.size ≤ h) (hgl : g < w1.heap.size) (hhl : h < w1.heap.size)
    (hcg : ∀ i, i < n → w1.cell? ⟨g, i, none⟩ = some (.slice none 0 0) ∧ w1.frozen? ⟨g, i, none⟩ = false) (hch : ∀ i, i < n → w1.cell? ⟨h, i, none⟩ = some (.slice none 0 0) ∧ w1.frozen? ⟨h, i, none⟩ = false) (hn : n ≤ 100) :
    (∃ bs, RNet (w1.alloc (.cells #[.slice (some ⟨g, 0, none⟩) n n, .slice (some ⟨h, 0, none⟩) n n] 51)).drew w1.heap.size (List.replicate n ([], [])) bs ∧ (∀ k, bs k → w.heap.size ≤ k)) ∧
    Below w.heap.size w (w1.alloc (.cells #[.slice (some ⟨g, 0, none⟩) n n, .slice (some ⟨h, 0, none⟩) n n] 51)).drew := by
  have hk : Below w1.heap.size w1 (w1.alloc (.cells #[.slice (some ⟨g, 0, none⟩) n n, .slice (some ⟨h, 0, none⟩) n n] 51)).drew := ((Below.refl _ _).alloc (Nat.le_refl _) _).drew
  have hsz : (w1.alloc (.cells #[.slice (some ⟨g, 0, none⟩) n n, .slice (some ⟨h, 0, none⟩) n n] 51)).drew.heap.size = w1.heap.size + 1 := by
    show (w1.alloc (.cells #[.slice (some ⟨g, 0, none⟩) n n, .slice (some ⟨h, 0, none⟩) n n] 51)).heap.size = _
    simp
  have hro : ∀ b i, rowOf (List.replicate n ([], [])) b i = [] := fun b i => by
    unfold rowOf innN seenN
    by_cases h : i < n <;> cases b <;> simp [List.getD, h]
  refine ⟨⟨fun k => k = g ∨ k = h ∨ k = w1.heap.size, ⟨g, h, n, n, fun k => if k = w1.heap.size then 1 else if k = g then 2 else 3, fun _ _ => .slice none 0 0, ⟨⟨?_, ?_⟩, ?_⟩, ⟨?_, ?_, ?_⟩, ?_, ?_, ?_, ⟨.inr (.inr rfl), .inl rfl, .inr (.inl rfl)⟩, ?_⟩, ?_⟩, hB.trans (hk.mono hB.size)⟩
  · rw [List.length_replicate]; exact World.cell?_alloc_new w1 _ _ 0
  · rw [List.length_replicate]; exact World.cell?_alloc_new w1 _ _ 1
  · rw [List.length_replicate]; omega
  · simp
  · show (if g = w1.heap.size then 1 else if g = g then 2 else 3) = 2
    rw [if_neg (by omega), if_pos rfl]
  · show (if h = w1.heap.size then 1 else if h = g then 2 else 3) = 3
    rw [if_neg (by omega), if_neg (fun e => hne e.symm)]
  · intro b i hi
    rw [List.length_replicate] at hi
    cases b
    · exact ⟨(hk.cell (p := ⟨g, i, none⟩) hgl).trans (hcg i hi).1, (hk.frozen (p := ⟨g, i, none⟩) hgl).trans (hcg i hi).2⟩
    · exact ⟨(hk.cell (p := ⟨h, i, none⟩) hhl).trans (hch i hi).1, (hk.frozen (p := ⟨h, i, none⟩) hhl).trans (hch i hi).2⟩
  · intro b i hi
    rw [hro b i]
    exact RW.nil _ _ _ _
  · intro b i hi k hk
    simp [Value.ownBlock] at hk
  · intro k hk
    rw [hsz]; omega
  · intro k hk
    have := hB.size
    omega
set_option maxRecDepth 100000 in
set_option maxHeartbeats 1000000 in
theorem rnew_any (n : Nat) (w : World) (h : n ≤ 100) :
    Calls Try.prog 15 #[.int .i64 n] w fun e w' => ∃ p, e = .returned (.pointer (some ⟨p, 0, none⟩)) ∧ (∃ bs, RNet w' p (List.replicate n ([], [])) bs ∧ (∀ k, bs k → w.heap.size ≤ k)) ∧ Below w.heap.size w w' := by
  have hb : Below w.heap.size w ((w.alloc (.cells (nrC n).toArray 48)).alloc (.cells (nrC n).toArray 48)) := ((Below.refl _ _).alloc (Nat.le_refl _) _).alloc (by simp) _
  have hs : (w.alloc (.cells (nrC n).toArray 48)).heap.size = w.heap.size + 1 := by simp
  have hs2 : ((w.alloc (.cells (nrC n).toArray 48)).alloc (.cells (nrC n).toArray 48)).heap.size = w.heap.size + 1 + 1 := by simp
  have k2 : Below (w.alloc (.cells (nrC n).toArray 48)).heap.size (w.alloc (.cells (nrC n).toArray 48)) ((w.alloc (.cells (nrC n).toArray 48)).alloc (.cells (nrC n).toArray 48)) := (Below.refl _ _).alloc (Nat.le_refl _) _
  have made : ∀ (w : World) i, i < n → (w.alloc (.cells (nrC n).toArray 48)).cell? ⟨w.heap.size, i, none⟩ = some (.slice none 0 0) ∧ (w.alloc (.cells (nrC n).toArray 48)).frozen? ⟨w.heap.size, i, none⟩ = false := fun w i hi => by
    refine ⟨?_, by simp⟩
    rw [World.cell?_alloc_new]; simp [nrC, hi]
  have m1 : ∀ i, i < n → ((w.alloc (.cells (nrC n).toArray 48)).alloc (.cells (nrC n).toArray 48)).cell? ⟨w.heap.size, i, none⟩ = some (.slice none 0 0) ∧ ((w.alloc (.cells (nrC n).toArray 48)).alloc (.cells (nrC n).toArray 48)).frozen? ⟨w.heap.size, i, none⟩ = false := fun i hi =>
    ⟨(k2.cell (p := ⟨w.heap.size, i, none⟩) (by show w.heap.size < _; omega)).trans (made w i hi).1, (k2.frozen (p := ⟨w.heap.size, i, none⟩) (by show w.heap.size < _; omega)).trans (made w i hi).2⟩
  have m2 := made (w.alloc (.cells (nrC n).toArray 48))
  have F1 := RNet.fresh hb (show w.heap.size ≠ (w.alloc (.cells (nrC n).toArray 48)).heap.size by omega) (by omega) (by omega) (by omega) (by omega) m1 m2 h
  have F2 := RNet.fresh hb (show (w.alloc (.cells (nrC n).toArray 48)).heap.size ≠ w.heap.size by omega) (by omega) (by omega) (by omega) (by omega) m2 m1 h
  rw [hs2, hs] at F1 F2
  have H1 := Lib.hid F1
  have H2 := Lib.hid F2
  clear F1 F2 m1 m2 made k2 hs hs2 hb
  go_enter Try.func15, Try.ntmps15
  go_upto_region 1 with (fail)
  go_region
  all_goals
    go_wp2_with fail
    go_ret
    first
    | exact ⟨_, rfl, H1.out⟩
    | exact ⟨_, rfl, H2.out⟩
end Go.Proofs.Ytbflffanahnofaa
