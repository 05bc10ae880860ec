/- chacha: the walks of the quarter and the rounds (printed by genquarter.py). -/
import Derived.Test.YtembfelckbmgiaaDoorShaA
import Derived.Test.YtembfelckbmgiaaDoorBig
import Derived.Test.YtembfelckbmgiaaDoorQTail

namespace Go.Proofs.YtembfelckbmgiaaDoor
open Go.RowKit Big
set_option linter.unusedVariables false
/-- Four words, worked once. -/
def qr1 (s : List Nat) (a b : Nat) : List Nat := s.set a ((s.getD a 0 + s.getD b 0) % 4294967296)
def qr2 (s : List Nat) (a d r : Nat) : List Nat := s.set d (rotL (s.getD d 0 ^^^ s.getD a 0) r)
def qrStep (s : List Nat) (a b c d r1 r2 : Nat) : List Nat := qr2 (qr1 (qr2 (qr1 s a b) a d r1) c d) c b r2
def quarterN (s : List Nat) (a b c d : Nat) : List Nat := qrStep (qrStep s a b c d 16 12) a b c d 8 7
/-- All words are words. -/
def Ws (s : List Nat) : Prop := s.length = 16 ∧ ∀ j, s.getD j 0 < 4294967296
theorem set_getD_lt {s : List Nat} (h : ∀ j, s.getD j 0 < 4294967296) (a x : Nat) (hx : x < 4294967296) : ∀ j, (s.set a x).getD j 0 < 4294967296 := by
  intro j
  by_cases hj : a = j
  · subst hj
    by_cases hl : a < s.length
    · simpa [List.getD, hl] using hx
    · rw [List.set_eq_of_length_le (by omega)]; exact h a
  · have := h j
    simp only [List.getD] at this ⊢
    rwa [List.getElem?_set_ne hj]
theorem Ws.qr1 {s : List Nat} (h : Ws s) (a b : Nat) : Ws (qr1 s a b) := ⟨by unfold Go.Proofs.YtembfelckbmgiaaDoor.qr1; rw [List.length_set, h.1], set_getD_lt h.2 _ _ (Nat.mod_lt _ (by decide))⟩
theorem Ws.qr2 {s : List Nat} (h : Ws s) (a d r : Nat) : Ws (qr2 s a d r) := ⟨by unfold Go.Proofs.YtembfelckbmgiaaDoor.qr2; rw [List.length_set, h.1], set_getD_lt h.2 _ _ (rotL_lt _ _ (Nat.xor_lt_two_pow (n := 32) (h.2 _) (h.2 _)))⟩
theorem Ws.step {s : List Nat} (h : Ws s) (a b c d r1 r2 : Nat) : Ws (qrStep s a b c d r1 r2) := (((h.qr1 a b).qr2 a d r1).qr1 c d).qr2 c b r2
theorem Ws.quarter {s : List Nat} (h : Ws s) (a b c d : Nat) : Ws (quarterN s a b c d) := (h.step a b c d 16 12).step a b c d 8 7
theorem only_drewN (S : Nat → Prop) (w : World) (n : Nat) : Only S w (w.drewN n) := ⟨rfl, rfl, rfl, Nat.le_refl _, fun _ _ _ => rfl⟩
theorem add_int {x y : Nat} : ((x : Int) + y) % 4294967296 = (((x + y) % 4294967296 : Nat) : Int) := by omega
theorem big2 : BigT 134 [.int .i64 0, .int .i64 0] := BigT.of (by kernel_rfl) ⟨_, Tryd.underlying134, rfl⟩
theorem alT_2 : Instr.alloc 134 true (.tuple #[]) = alT 134 := rfl
theorem stT_2 (v u : Value) : Instr.storeAt 134 v u = stT 134 v u := rfl
theorem two_made (w : World) (x y : Int) : ∃ wa w', (alT 134).run Tryd.prog w = .ok (.pointer (some ⟨w.heap.size, 0, none⟩)) wa ∧ (stT 134 (.pointer (some ⟨w.heap.size, 0, none⟩)) (.agg #[.int .i64 x, .int .i64 y])).run Tryd.prog wa = .ok () w' ∧
    w'.cell? ⟨w.heap.size, 0, none⟩ = some (.int .i64 x) ∧ w'.cell? ⟨w.heap.size, 1, none⟩ = some (.int .i64 y) ∧ Below w.heap.size w w' := by
  have ht := there_new w [.int .i64 0, .int .i64 0] 134
  have hst := run_stT big2 (w.alloc (.cells #[.int .i64 0, .int .i64 0] 134)) w.heap.size 0 [.int .i64 x, .int .i64 y] ht rfl (by intro u hu; simp at hu; rcases hu with rfl | rfl <;> rfl)
  have hr := World.rangeAt_setCells_same _ w.heap.size 0 [.int .i64 x, .int .i64 y] ht
  exact ⟨_, _, run_alT big2 w, hst, hr 0 _ rfl, hr 1 _ rfl, ((Below.refl _ _).alloc (Nat.le_refl _) _).trans (below_setCells (Nat.le_refl _) _ _)⟩
def ixQ (v i : Value) : Sem Value := Instr.index 135 v i
theorem ixQ_eq (v i : Value) : Instr.index 135 v i = ixQ v i := rfl
theorem run_ixQ0 (w : World) : (ixQ (.agg #[.int .i64 16, .int .i64 12, .int .i64 8, .int .i64 7]) (.int .i64 0)).run Tryd.prog w = .ok (.agg #[.int .i64 16, .int .i64 12]) w := by kernel_rfl
theorem run_ixQ1 (w : World) : (ixQ (.agg #[.int .i64 16, .int .i64 12, .int .i64 8, .int .i64 7]) (.int .i64 1)).run Tryd.prog w = .ok (.agg #[.int .i64 8, .int .i64 7]) w := by kernel_rfl
attribute [local go_sem ↓] alT_2 stT_2 ixQ_eq
set_option maxRecDepth 100000 in
set_option maxHeartbeats 4000000 in
theorem quarter_any (w : World) (p : Nat) (s : List Nat) (a b c d : Nat) (hs : Ws s) (hA : AN .u32 w p s) (ha : a < 16) (hb : b < 16) (hc : c < 16) (hd : d < 16) :
    Calls Tryd.prog 69 #[.pointer (some ⟨p, 0, none⟩), .int .i64 a, .int .i64 b, .int .i64 c, .int .i64 d] w fun e w' => e = .returned (.tuple #[]) ∧ AN .u32 w' p (quarterN s a b c d) ∧ Only (· = p) w w' := by
  have HB := Lib.hid (And.intro ha (And.intro hb (And.intro hc hd)))
  have hai : (a : Int) < 16 := by omega
  have hbi : (b : Int) < 16 := by omega
  have hci : (c : Int) < 16 := by omega
  have hdi : (d : Int) < 16 := by omega
  clear ha hb hc hd
  have HQ := Lib.hid (show quarterN s a b c d = qrStep (qrStep s a b c d 16 12) a b c d 8 7 from rfl)
  generalize quarterN s a b c d = sQ at *
  have hi0 := run_ixQ0
  have hi1 := run_ixQ1
  obtain ⟨wa, w1, hal, hst, hq0, hq1, hbq⟩ := two_made w 16 12
  have hqp : p < w.heap.size := hA.lt
  have HW0 := Lib.hid (show Ws s ∧ AN .u32 w1 p s ∧ Only (· = p) w w1 ∧ w.heap.size < w1.heap.size from ⟨hs, hA.keep hbq, Only.of_below hbq, World.block_lt_of_cell? w1 _ hq0⟩)
  clear hs hA hbq
  go_enter Tryd.func69, Tryd.ntmps69
  go_wp2_with fail
  refine wp_loop_rounds 3 ?_
  rw [rounds_succ]
  go_wp2_with fail
  clear hal hst
  have hqne : w.heap.size ≠ p := by omega
  obtain ⟨hs0, hA0, hO0, hz0⟩ := HW0.out
  have ci0 := hA0.cell (j := a) (by rw [hs0.1]; exact HB.out.1)
  have cj0 := hA0.cell (j := b) (by rw [hs0.1]; exact HB.out.2.1)
  have fi0 := hA0.free (j := a) (by rw [hs0.1]; exact HB.out.1)
  have xi0 := hs0.2 a
  have xj0 := hs0.2 b
  have hv0 : ((((s.getD a 0 : Nat) : Int) + ((s.getD b 0 : Nat) : Int)) % 4294967296) = ((((s.getD a 0 + s.getD b 0) % 4294967296) : Nat) : Int) := add_int
  have HN0 := Lib.hid (show ∀ n W', W' = (w1.drewN n).setCell ⟨p, a, none⟩ (.int .u32 ((((s.getD a 0 : Nat) : Int) + ((s.getD b 0 : Nat) : Int)) % 4294967296)) → Ws (qr1 s a b) ∧ AN .u32 W' p (qr1 s a b) ∧ Only (· = p) w W' ∧ w.heap.size < W'.heap.size ∧ (∀ b o, b ≠ p → W'.cell? ⟨b, o, none⟩ = w1.cell? ⟨b, o, none⟩) from fun n W' hW' => by
    rw [hv0] at hW'
    have hn := (hA0.drewN n).set (j := a) (by rw [hs0.1]; exact HB.out.1) ((s.getD a 0 + s.getD b 0) % 4294967296)
    have ho : Only (· = p) w1 ((w1.drewN n).setCell ⟨p, a, none⟩ (.int .u32 ((((s.getD a 0 + s.getD b 0) % 4294967296) : Nat) : Int))) := Only.setCell (S := (· = p)) (p := ⟨p, a, none⟩) (only_drewN _ _ _) (fun _ => rfl) _
    rw [hW']
    exact ⟨hs0.qr1 a b, hn, hO0.trans ho (fun _ _ e => e), Nat.lt_of_lt_of_le hz0 ho.size, fun b o hb => World.cell?_setCell_other _ _ _ _ (fun e => hb (congrArg Addr.block e).symm)⟩)
  clear hv0 hA0 hs0 HW0
  generalize hNe0 : qr1 s a b = s1_ at HN0
  have HNE0 := Lib.hid hNe0; clear hNe0
  generalize hie0 : s.getD a 0 = vi0 at *
  clear hie0
  try generalize hje0 : s.getD b 0 = vj0 at *
  try clear hje0
  refine wp_region_quiet_tail_lit 13 (by kernel_rfl) (by kernel_rfl) ?_
  simp only [List.take_succ_cons, List.take_zero, List.drop_succ_cons, List.drop_zero]
  repeat (quiet_step (fail))
  refine wpQuiet_nil ?_
  rintro _ ⟨n0, rfl⟩
  go_wp2_with fail
  have hn0 := HN0.out n0 _ rfl
  generalize (w1.drewN n0).setCell ⟨p, a, none⟩ (.int .u32 (((vi0 : Int) + (vj0 : Int)) % 4294967296)) = W0 at *
  obtain ⟨g1, g2, g3, g4, g5⟩ := hn0
  have hq0 := (g5 _ 0 hqne).trans hq0
  have hq1 := (g5 _ 1 hqne).trans hq1
  have HW1 := Lib.hid (And.intro g1 (And.intro g2 (And.intro g3 g4)))
  clear g1 g2 g3 g4 g5 HN0 ci0 cj0 fi0 xi0 xj0 hO0 hz0
  obtain ⟨hs1, hA1, hO1, hz1⟩ := HW1.out
  have ci1 := hA1.cell (j := d) (by rw [hs1.1]; exact HB.out.2.2.2)
  have cj1 := hA1.cell (j := a) (by rw [hs1.1]; exact HB.out.1)
  have fi1 := hA1.free (j := d) (by rw [hs1.1]; exact HB.out.2.2.2)
  have xi1 := hs1.2 d
  have xj1 := hs1.2 a
  have hx1 := Nat.xor_lt_two_pow (n := 32) xi1 xj1
  have cL1 := fun n => quiet_eq (left_any _ 16 16 (W0.drewN n) hx1 (by decide) (by decide))
  have hv1 : ((rotL (s1_.getD d 0 ^^^ s1_.getD a 0) 16 : Nat) : Int) = ((rotL (s1_.getD d 0 ^^^ s1_.getD a 0) 16 : Nat) : Int) := rfl
  have hE1 : bits BinOp.xor IntKind.u32 ((s1_.getD d 0 : Nat) : Int) ((s1_.getD a 0 : Nat) : Int) = ((s1_.getD d 0 ^^^ s1_.getD a 0 : Nat) : Int) := u32_xor_nat _ _ xi1 xj1
  have HN1 := Lib.hid (show ∀ n W', W' = (W0.drewN n).setCell ⟨p, d, none⟩ (.int .u32 ((rotL (s1_.getD d 0 ^^^ s1_.getD a 0) 16 : Nat) : Int)) → Ws (qr2 s1_ a d 16) ∧ AN .u32 W' p (qr2 s1_ a d 16) ∧ Only (· = p) w W' ∧ w.heap.size < W'.heap.size ∧ (∀ b o, b ≠ p → W'.cell? ⟨b, o, none⟩ = W0.cell? ⟨b, o, none⟩) from fun n W' hW' => by
    rw [hv1] at hW'
    have hn := (hA1.drewN n).set (j := d) (by rw [hs1.1]; exact HB.out.2.2.2) (rotL (s1_.getD d 0 ^^^ s1_.getD a 0) 16)
    have ho : Only (· = p) W0 ((W0.drewN n).setCell ⟨p, d, none⟩ (.int .u32 (((rotL (s1_.getD d 0 ^^^ s1_.getD a 0) 16) : Nat) : Int))) := Only.setCell (S := (· = p)) (p := ⟨p, d, none⟩) (only_drewN _ _ _) (fun _ => rfl) _
    rw [hW']
    exact ⟨hs1.qr2 a d 16, hn, hO1.trans ho (fun _ _ e => e), Nat.lt_of_lt_of_le hz1 ho.size, fun b o hb => World.cell?_setCell_other _ _ _ _ (fun e => hb (congrArg Addr.block e).symm)⟩)
  clear hv1 hA1 hs1 HW1
  generalize hNe1 : qr2 s1_ a d 16 = s2_ at HN1
  have HNE1 := Lib.hid hNe1; clear hNe1
  generalize hye1 : rotL (s1_.getD d 0 ^^^ s1_.getD a 0) 16 = y1 at *
  clear hye1
  generalize hze1 : s1_.getD d 0 ^^^ s1_.getD a 0 = z1 at *
  clear hze1
  generalize hie1 : s1_.getD d 0 = vi1 at *
  clear hie1
  try generalize hje1 : s1_.getD a 0 = vj1 at *
  try clear hje1
  refine wp_region_quiet_tail_lit 18 (by kernel_rfl) (by kernel_rfl) ?_
  simp only [List.take_succ_cons, List.take_zero, List.drop_succ_cons, List.drop_zero]
  repeat (quiet_step ((go_at_call 49; with_reducible exact cL1 _)))
  refine wpQuiet_nil ?_
  rintro _ ⟨n1, rfl⟩
  go_wp2_with fail
  have hn1 := HN1.out n1 _ rfl
  generalize (W0.drewN n1).setCell ⟨p, d, none⟩ (.int .u32 (y1 : Int)) = W1 at *
  obtain ⟨g1, g2, g3, g4, g5⟩ := hn1
  have hq0 := (g5 _ 0 hqne).trans hq0
  have hq1 := (g5 _ 1 hqne).trans hq1
  have HW2 := Lib.hid (And.intro g1 (And.intro g2 (And.intro g3 g4)))
  clear g1 g2 g3 g4 g5 HN1 ci1 cj1 fi1 xi1 xj1 hO1 hz1
  clear cL1 hE1 hx1
  obtain ⟨hs2, hA2, hO2, hz2⟩ := HW2.out
  have ci2 := hA2.cell (j := c) (by rw [hs2.1]; exact HB.out.2.2.1)
  have cj2 := hA2.cell (j := d) (by rw [hs2.1]; exact HB.out.2.2.2)
  have fi2 := hA2.free (j := c) (by rw [hs2.1]; exact HB.out.2.2.1)
  have xi2 := hs2.2 c
  have xj2 := hs2.2 d
  have hv2 : ((((s2_.getD c 0 : Nat) : Int) + ((s2_.getD d 0 : Nat) : Int)) % 4294967296) = ((((s2_.getD c 0 + s2_.getD d 0) % 4294967296) : Nat) : Int) := add_int
  have HN2 := Lib.hid (show ∀ n W', W' = (W1.drewN n).setCell ⟨p, c, none⟩ (.int .u32 ((((s2_.getD c 0 : Nat) : Int) + ((s2_.getD d 0 : Nat) : Int)) % 4294967296)) → Ws (qr1 s2_ c d) ∧ AN .u32 W' p (qr1 s2_ c d) ∧ Only (· = p) w W' ∧ w.heap.size < W'.heap.size ∧ (∀ b o, b ≠ p → W'.cell? ⟨b, o, none⟩ = W1.cell? ⟨b, o, none⟩) from fun n W' hW' => by
    rw [hv2] at hW'
    have hn := (hA2.drewN n).set (j := c) (by rw [hs2.1]; exact HB.out.2.2.1) ((s2_.getD c 0 + s2_.getD d 0) % 4294967296)
    have ho : Only (· = p) W1 ((W1.drewN n).setCell ⟨p, c, none⟩ (.int .u32 ((((s2_.getD c 0 + s2_.getD d 0) % 4294967296) : Nat) : Int))) := Only.setCell (S := (· = p)) (p := ⟨p, c, none⟩) (only_drewN _ _ _) (fun _ => rfl) _
    rw [hW']
    exact ⟨hs2.qr1 c d, hn, hO2.trans ho (fun _ _ e => e), Nat.lt_of_lt_of_le hz2 ho.size, fun b o hb => World.cell?_setCell_other _ _ _ _ (fun e => hb (congrArg Addr.block e).symm)⟩)
  clear hv2 hA2 hs2 HW2
  generalize hNe2 : qr1 s2_ c d = s3_ at HN2
  have HNE2 := Lib.hid hNe2; clear hNe2
  generalize hie2 : s2_.getD c 0 = vi2 at *
  clear hie2
  try generalize hje2 : s2_.getD d 0 = vj2 at *
  try clear hje2
  refine wp_region_quiet_tail_lit 13 (by kernel_rfl) (by kernel_rfl) ?_
  simp only [List.take_succ_cons, List.take_zero, List.drop_succ_cons, List.drop_zero]
  repeat (quiet_step (fail))
  refine wpQuiet_nil ?_
  rintro _ ⟨n2, rfl⟩
  go_wp2_with fail
  have hn2 := HN2.out n2 _ rfl
  generalize (W1.drewN n2).setCell ⟨p, c, none⟩ (.int .u32 (((vi2 : Int) + (vj2 : Int)) % 4294967296)) = W2 at *
  obtain ⟨g1, g2, g3, g4, g5⟩ := hn2
  have hq0 := (g5 _ 0 hqne).trans hq0
  have hq1 := (g5 _ 1 hqne).trans hq1
  have HW3 := Lib.hid (And.intro g1 (And.intro g2 (And.intro g3 g4)))
  clear g1 g2 g3 g4 g5 HN2 ci2 cj2 fi2 xi2 xj2 hO2 hz2
  obtain ⟨hs3, hA3, hO3, hz3⟩ := HW3.out
  have ci3 := hA3.cell (j := b) (by rw [hs3.1]; exact HB.out.2.1)
  have cj3 := hA3.cell (j := c) (by rw [hs3.1]; exact HB.out.2.2.1)
  have fi3 := hA3.free (j := b) (by rw [hs3.1]; exact HB.out.2.1)
  have xi3 := hs3.2 b
  have xj3 := hs3.2 c
  have hx3 := Nat.xor_lt_two_pow (n := 32) xi3 xj3
  have cL3 := fun n => quiet_eq (left_any _ 12 12 (W2.drewN n) hx3 (by decide) (by decide))
  have hv3 : ((rotL (s3_.getD b 0 ^^^ s3_.getD c 0) 12 : Nat) : Int) = ((rotL (s3_.getD b 0 ^^^ s3_.getD c 0) 12 : Nat) : Int) := rfl
  have hE3 : bits BinOp.xor IntKind.u32 ((s3_.getD b 0 : Nat) : Int) ((s3_.getD c 0 : Nat) : Int) = ((s3_.getD b 0 ^^^ s3_.getD c 0 : Nat) : Int) := u32_xor_nat _ _ xi3 xj3
  have HN3 := Lib.hid (show ∀ n W', W' = (W2.drewN n).setCell ⟨p, b, none⟩ (.int .u32 ((rotL (s3_.getD b 0 ^^^ s3_.getD c 0) 12 : Nat) : Int)) → Ws (qr2 s3_ c b 12) ∧ AN .u32 W' p (qr2 s3_ c b 12) ∧ Only (· = p) w W' ∧ w.heap.size < W'.heap.size ∧ (∀ b o, b ≠ p → W'.cell? ⟨b, o, none⟩ = W2.cell? ⟨b, o, none⟩) from fun n W' hW' => by
    rw [hv3] at hW'
    have hn := (hA3.drewN n).set (j := b) (by rw [hs3.1]; exact HB.out.2.1) (rotL (s3_.getD b 0 ^^^ s3_.getD c 0) 12)
    have ho : Only (· = p) W2 ((W2.drewN n).setCell ⟨p, b, none⟩ (.int .u32 (((rotL (s3_.getD b 0 ^^^ s3_.getD c 0) 12) : Nat) : Int))) := Only.setCell (S := (· = p)) (p := ⟨p, b, none⟩) (only_drewN _ _ _) (fun _ => rfl) _
    rw [hW']
    exact ⟨hs3.qr2 c b 12, hn, hO3.trans ho (fun _ _ e => e), Nat.lt_of_lt_of_le hz3 ho.size, fun b o hb => World.cell?_setCell_other _ _ _ _ (fun e => hb (congrArg Addr.block e).symm)⟩)
  clear hv3 hA3 hs3 HW3
  generalize hNe3 : qr2 s3_ c b 12 = s4_ at HN3
  have HNE3 := Lib.hid hNe3; clear hNe3
  generalize hye3 : rotL (s3_.getD b 0 ^^^ s3_.getD c 0) 12 = y3 at *
  clear hye3
  generalize hze3 : s3_.getD b 0 ^^^ s3_.getD c 0 = z3 at *
  clear hze3
  generalize hie3 : s3_.getD b 0 = vi3 at *
  clear hie3
  try generalize hje3 : s3_.getD c 0 = vj3 at *
  try clear hje3
  refine wp_region_quiet_tail_lit 18 (by kernel_rfl) (by kernel_rfl) ?_
  simp only [List.take_succ_cons, List.take_zero, List.drop_succ_cons, List.drop_zero]
  repeat (quiet_step ((go_at_call 49; with_reducible exact cL3 _)))
  refine wpQuiet_nil ?_
  rintro _ ⟨n3, rfl⟩
  go_wp2_with fail
  have hn3 := HN3.out n3 _ rfl
  generalize (W2.drewN n3).setCell ⟨p, b, none⟩ (.int .u32 (y3 : Int)) = W3 at *
  obtain ⟨g1, g2, g3, g4, g5⟩ := hn3
  have hq0 := (g5 _ 0 hqne).trans hq0
  have hq1 := (g5 _ 1 hqne).trans hq1
  have HW4 := Lib.hid (And.intro g1 (And.intro g2 (And.intro g3 g4)))
  clear g1 g2 g3 g4 g5 HN3 ci3 cj3 fi3 xi3 xj3 hO3 hz3
  clear cL3 hE3 hx3
  clear hq0 hq1 hqne
  obtain ⟨g1, g2, g3, g4⟩ := HW4.out
  obtain ⟨wb, w5, hal, hst, hq0, hq1, hbq⟩ := two_made W3 8 7
  have hqne : W3.heap.size ≠ p := by omega
  have HX4 := Lib.hid (show Ws s4_ ∧ AN .u32 w5 p s4_ ∧ Only (· = p) w w5 ∧ w.heap.size < w5.heap.size from ⟨g1, g2.keep hbq, g3.trans (Only.of_below (S := (· = p)) hbq) (fun _ _ e => e), Nat.lt_of_lt_of_le g4 hbq.size⟩)
  clear g1 g2 g3 g4 hbq HW4
  have HW4 := HX4
  clear HX4
  rw [rounds_succ]
  go_wp2_with fail
  clear hal hst
  obtain ⟨hs4, hA4, hO4, hz4⟩ := HW4.out
  have ci4 := hA4.cell (j := a) (by rw [hs4.1]; exact HB.out.1)
  have cj4 := hA4.cell (j := b) (by rw [hs4.1]; exact HB.out.2.1)
  have fi4 := hA4.free (j := a) (by rw [hs4.1]; exact HB.out.1)
  have xi4 := hs4.2 a
  have xj4 := hs4.2 b
  have hv4 : ((((s4_.getD a 0 : Nat) : Int) + ((s4_.getD b 0 : Nat) : Int)) % 4294967296) = ((((s4_.getD a 0 + s4_.getD b 0) % 4294967296) : Nat) : Int) := add_int
  have HN4 := Lib.hid (show ∀ n W', W' = (w5.drewN n).setCell ⟨p, a, none⟩ (.int .u32 ((((s4_.getD a 0 : Nat) : Int) + ((s4_.getD b 0 : Nat) : Int)) % 4294967296)) → Ws (qr1 s4_ a b) ∧ AN .u32 W' p (qr1 s4_ a b) ∧ Only (· = p) w W' ∧ w.heap.size < W'.heap.size ∧ (∀ b o, b ≠ p → W'.cell? ⟨b, o, none⟩ = w5.cell? ⟨b, o, none⟩) from fun n W' hW' => by
    rw [hv4] at hW'
    have hn := (hA4.drewN n).set (j := a) (by rw [hs4.1]; exact HB.out.1) ((s4_.getD a 0 + s4_.getD b 0) % 4294967296)
    have ho : Only (· = p) w5 ((w5.drewN n).setCell ⟨p, a, none⟩ (.int .u32 ((((s4_.getD a 0 + s4_.getD b 0) % 4294967296) : Nat) : Int))) := Only.setCell (S := (· = p)) (p := ⟨p, a, none⟩) (only_drewN _ _ _) (fun _ => rfl) _
    rw [hW']
    exact ⟨hs4.qr1 a b, hn, hO4.trans ho (fun _ _ e => e), Nat.lt_of_lt_of_le hz4 ho.size, fun b o hb => World.cell?_setCell_other _ _ _ _ (fun e => hb (congrArg Addr.block e).symm)⟩)
  clear hv4 hA4 hs4 HW4
  generalize hNe4 : qr1 s4_ a b = s5_ at HN4
  have HNE4 := Lib.hid hNe4; clear hNe4
  generalize hie4 : s4_.getD a 0 = vi4 at *
  clear hie4
  try generalize hje4 : s4_.getD b 0 = vj4 at *
  try clear hje4
  refine wp_region_quiet_tail_lit 13 (by kernel_rfl) (by kernel_rfl) ?_
  simp only [List.take_succ_cons, List.take_zero, List.drop_succ_cons, List.drop_zero]
  repeat (quiet_step (fail))
  refine wpQuiet_nil ?_
  rintro _ ⟨n4, rfl⟩
  go_wp2_with fail
  have hn4 := HN4.out n4 _ rfl
  generalize (w5.drewN n4).setCell ⟨p, a, none⟩ (.int .u32 (((vi4 : Int) + (vj4 : Int)) % 4294967296)) = W4 at *
  obtain ⟨g1, g2, g3, g4, g5⟩ := hn4
  have hq0 := (g5 _ 0 hqne).trans hq0
  have hq1 := (g5 _ 1 hqne).trans hq1
  have HW5 := Lib.hid (And.intro g1 (And.intro g2 (And.intro g3 g4)))
  clear g1 g2 g3 g4 g5 HN4 ci4 cj4 fi4 xi4 xj4 hO4 hz4
  obtain ⟨hs5, hA5, hO5, hz5⟩ := HW5.out
  have ci5 := hA5.cell (j := d) (by rw [hs5.1]; exact HB.out.2.2.2)
  have cj5 := hA5.cell (j := a) (by rw [hs5.1]; exact HB.out.1)
  have fi5 := hA5.free (j := d) (by rw [hs5.1]; exact HB.out.2.2.2)
  have xi5 := hs5.2 d
  have xj5 := hs5.2 a
  have hx5 := Nat.xor_lt_two_pow (n := 32) xi5 xj5
  have cL5 := fun n => quiet_eq (left_any _ 8 8 (W4.drewN n) hx5 (by decide) (by decide))
  have hv5 : ((rotL (s5_.getD d 0 ^^^ s5_.getD a 0) 8 : Nat) : Int) = ((rotL (s5_.getD d 0 ^^^ s5_.getD a 0) 8 : Nat) : Int) := rfl
  have hE5 : bits BinOp.xor IntKind.u32 ((s5_.getD d 0 : Nat) : Int) ((s5_.getD a 0 : Nat) : Int) = ((s5_.getD d 0 ^^^ s5_.getD a 0 : Nat) : Int) := u32_xor_nat _ _ xi5 xj5
  have HN5 := Lib.hid (show ∀ n W', W' = (W4.drewN n).setCell ⟨p, d, none⟩ (.int .u32 ((rotL (s5_.getD d 0 ^^^ s5_.getD a 0) 8 : Nat) : Int)) → Ws (qr2 s5_ a d 8) ∧ AN .u32 W' p (qr2 s5_ a d 8) ∧ Only (· = p) w W' ∧ w.heap.size < W'.heap.size ∧ (∀ b o, b ≠ p → W'.cell? ⟨b, o, none⟩ = W4.cell? ⟨b, o, none⟩) from fun n W' hW' => by
    rw [hv5] at hW'
    have hn := (hA5.drewN n).set (j := d) (by rw [hs5.1]; exact HB.out.2.2.2) (rotL (s5_.getD d 0 ^^^ s5_.getD a 0) 8)
    have ho : Only (· = p) W4 ((W4.drewN n).setCell ⟨p, d, none⟩ (.int .u32 (((rotL (s5_.getD d 0 ^^^ s5_.getD a 0) 8) : Nat) : Int))) := Only.setCell (S := (· = p)) (p := ⟨p, d, none⟩) (only_drewN _ _ _) (fun _ => rfl) _
    rw [hW']
    exact ⟨hs5.qr2 a d 8, hn, hO5.trans ho (fun _ _ e => e), Nat.lt_of_lt_of_le hz5 ho.size, fun b o hb => World.cell?_setCell_other _ _ _ _ (fun e => hb (congrArg Addr.block e).symm)⟩)
  clear hv5 hA5 hs5 HW5
  generalize hNe5 : qr2 s5_ a d 8 = s6_ at HN5
  have HNE5 := Lib.hid hNe5; clear hNe5
  generalize hye5 : rotL (s5_.getD d 0 ^^^ s5_.getD a 0) 8 = y5 at *
  clear hye5
  generalize hze5 : s5_.getD d 0 ^^^ s5_.getD a 0 = z5 at *
  clear hze5
  generalize hie5 : s5_.getD d 0 = vi5 at *
  clear hie5
  try generalize hje5 : s5_.getD a 0 = vj5 at *
  try clear hje5
  refine wp_region_quiet_tail_lit 18 (by kernel_rfl) (by kernel_rfl) ?_
  simp only [List.take_succ_cons, List.take_zero, List.drop_succ_cons, List.drop_zero]
  repeat (quiet_step ((go_at_call 49; with_reducible exact cL5 _)))
  refine wpQuiet_nil ?_
  rintro _ ⟨n5, rfl⟩
  go_wp2_with fail
  have hn5 := HN5.out n5 _ rfl
  generalize (W4.drewN n5).setCell ⟨p, d, none⟩ (.int .u32 (y5 : Int)) = W5 at *
  obtain ⟨g1, g2, g3, g4, g5⟩ := hn5
  have hq0 := (g5 _ 0 hqne).trans hq0
  have hq1 := (g5 _ 1 hqne).trans hq1
  have HW6 := Lib.hid (And.intro g1 (And.intro g2 (And.intro g3 g4)))
  clear g1 g2 g3 g4 g5 HN5 ci5 cj5 fi5 xi5 xj5 hO5 hz5
  clear cL5 hE5 hx5
  obtain ⟨hs6, hA6, hO6, hz6⟩ := HW6.out
  have ci6 := hA6.cell (j := c) (by rw [hs6.1]; exact HB.out.2.2.1)
  have cj6 := hA6.cell (j := d) (by rw [hs6.1]; exact HB.out.2.2.2)
  have fi6 := hA6.free (j := c) (by rw [hs6.1]; exact HB.out.2.2.1)
  have xi6 := hs6.2 c
  have xj6 := hs6.2 d
  have hv6 : ((((s6_.getD c 0 : Nat) : Int) + ((s6_.getD d 0 : Nat) : Int)) % 4294967296) = ((((s6_.getD c 0 + s6_.getD d 0) % 4294967296) : Nat) : Int) := add_int
  have HN6 := Lib.hid (show ∀ n W', W' = (W5.drewN n).setCell ⟨p, c, none⟩ (.int .u32 ((((s6_.getD c 0 : Nat) : Int) + ((s6_.getD d 0 : Nat) : Int)) % 4294967296)) → Ws (qr1 s6_ c d) ∧ AN .u32 W' p (qr1 s6_ c d) ∧ Only (· = p) w W' ∧ w.heap.size < W'.heap.size ∧ (∀ b o, b ≠ p → W'.cell? ⟨b, o, none⟩ = W5.cell? ⟨b, o, none⟩) from fun n W' hW' => by
    rw [hv6] at hW'
    have hn := (hA6.drewN n).set (j := c) (by rw [hs6.1]; exact HB.out.2.2.1) ((s6_.getD c 0 + s6_.getD d 0) % 4294967296)
    have ho : Only (· = p) W5 ((W5.drewN n).setCell ⟨p, c, none⟩ (.int .u32 ((((s6_.getD c 0 + s6_.getD d 0) % 4294967296) : Nat) : Int))) := Only.setCell (S := (· = p)) (p := ⟨p, c, none⟩) (only_drewN _ _ _) (fun _ => rfl) _
    rw [hW']
    exact ⟨hs6.qr1 c d, hn, hO6.trans ho (fun _ _ e => e), Nat.lt_of_lt_of_le hz6 ho.size, fun b o hb => World.cell?_setCell_other _ _ _ _ (fun e => hb (congrArg Addr.block e).symm)⟩)
  clear hv6 hA6 hs6 HW6
  generalize hNe6 : qr1 s6_ c d = s7_ at HN6
  have HNE6 := Lib.hid hNe6; clear hNe6
  generalize hie6 : s6_.getD c 0 = vi6 at *
  clear hie6
  try generalize hje6 : s6_.getD d 0 = vj6 at *
  try clear hje6
  refine wp_region_quiet_tail_lit 13 (by kernel_rfl) (by kernel_rfl) ?_
  simp only [List.take_succ_cons, List.take_zero, List.drop_succ_cons, List.drop_zero]
  repeat (quiet_step (fail))
  refine wpQuiet_nil ?_
  rintro _ ⟨n6, rfl⟩
  go_wp2_with fail
  have hn6 := HN6.out n6 _ rfl
  generalize (W5.drewN n6).setCell ⟨p, c, none⟩ (.int .u32 (((vi6 : Int) + (vj6 : Int)) % 4294967296)) = W6 at *
  obtain ⟨g1, g2, g3, g4, g5⟩ := hn6
  have hq0 := (g5 _ 0 hqne).trans hq0
  have hq1 := (g5 _ 1 hqne).trans hq1
  have HW7 := Lib.hid (And.intro g1 (And.intro g2 (And.intro g3 g4)))
  clear g1 g2 g3 g4 g5 HN6 ci6 cj6 fi6 xi6 xj6 hO6 hz6
  obtain ⟨hs7, hA7, hO7, hz7⟩ := HW7.out
  have ci7 := hA7.cell (j := b) (by rw [hs7.1]; exact HB.out.2.1)
  have cj7 := hA7.cell (j := c) (by rw [hs7.1]; exact HB.out.2.2.1)
  have fi7 := hA7.free (j := b) (by rw [hs7.1]; exact HB.out.2.1)
  have xi7 := hs7.2 b
  have xj7 := hs7.2 c
  have hx7 := Nat.xor_lt_two_pow (n := 32) xi7 xj7
  have cL7 := fun n => quiet_eq (left_any _ 7 7 (W6.drewN n) hx7 (by decide) (by decide))
  have hv7 : ((rotL (s7_.getD b 0 ^^^ s7_.getD c 0) 7 : Nat) : Int) = ((rotL (s7_.getD b 0 ^^^ s7_.getD c 0) 7 : Nat) : Int) := rfl
  have hE7 : bits BinOp.xor IntKind.u32 ((s7_.getD b 0 : Nat) : Int) ((s7_.getD c 0 : Nat) : Int) = ((s7_.getD b 0 ^^^ s7_.getD c 0 : Nat) : Int) := u32_xor_nat _ _ xi7 xj7
  have HN7 := Lib.hid (show ∀ n W', W' = (W6.drewN n).setCell ⟨p, b, none⟩ (.int .u32 ((rotL (s7_.getD b 0 ^^^ s7_.getD c 0) 7 : Nat) : Int)) → Ws (qr2 s7_ c b 7) ∧ AN .u32 W' p (qr2 s7_ c b 7) ∧ Only (· = p) w W' ∧ w.heap.size < W'.heap.size ∧ (∀ b o, b ≠ p → W'.cell? ⟨b, o, none⟩ = W6.cell? ⟨b, o, none⟩) from fun n W' hW' => by
    rw [hv7] at hW'
    have hn := (hA7.drewN n).set (j := b) (by rw [hs7.1]; exact HB.out.2.1) (rotL (s7_.getD b 0 ^^^ s7_.getD c 0) 7)
    have ho : Only (· = p) W6 ((W6.drewN n).setCell ⟨p, b, none⟩ (.int .u32 (((rotL (s7_.getD b 0 ^^^ s7_.getD c 0) 7) : Nat) : Int))) := Only.setCell (S := (· = p)) (p := ⟨p, b, none⟩) (only_drewN _ _ _) (fun _ => rfl) _
    rw [hW']
    exact ⟨hs7.qr2 c b 7, hn, hO7.trans ho (fun _ _ e => e), Nat.lt_of_lt_of_le hz7 ho.size, fun b o hb => World.cell?_setCell_other _ _ _ _ (fun e => hb (congrArg Addr.block e).symm)⟩)
  clear hv7 hA7 hs7 HW7
  generalize hNe7 : qr2 s7_ c b 7 = s8_ at HN7
  have HNE7 := Lib.hid hNe7; clear hNe7
  generalize hye7 : rotL (s7_.getD b 0 ^^^ s7_.getD c 0) 7 = y7 at *
  clear hye7
  generalize hze7 : s7_.getD b 0 ^^^ s7_.getD c 0 = z7 at *
  clear hze7
  generalize hie7 : s7_.getD b 0 = vi7 at *
  clear hie7
  try generalize hje7 : s7_.getD c 0 = vj7 at *
  try clear hje7
  refine wp_region_quiet_tail_lit 18 (by kernel_rfl) (by kernel_rfl) ?_
  simp only [List.take_succ_cons, List.take_zero, List.drop_succ_cons, List.drop_zero]
  repeat (quiet_step ((go_at_call 49; with_reducible exact cL7 _)))
  refine wpQuiet_nil ?_
  rintro _ ⟨n7, rfl⟩
  go_wp2_with fail
  have hn7 := HN7.out n7 _ rfl
  generalize (W6.drewN n7).setCell ⟨p, b, none⟩ (.int .u32 (y7 : Int)) = W7 at *
  obtain ⟨g1, g2, g3, g4, g5⟩ := hn7
  have hq0 := (g5 _ 0 hqne).trans hq0
  have hq1 := (g5 _ 1 hqne).trans hq1
  have HW8 := Lib.hid (And.intro g1 (And.intro g2 (And.intro g3 g4)))
  clear g1 g2 g3 g4 g5 HN7 ci7 cj7 fi7 xi7 xj7 hO7 hz7
  clear cL7 hE7 hx7
  rw [rounds_succ]
  go_wp2_with fail
  go_end0
  obtain ⟨g1, g2, g3, g4⟩ := HW8.out
  refine ⟨rfl, ?_, g3⟩
  rw [HQ.out]
  unfold qrStep
  rw [HNE0.out, HNE1.out, HNE2.out, HNE3.out, HNE4.out, HNE5.out, HNE6.out, HNE7.out]
  exact g2
end Go.Proofs.YtembfelckbmgiaaDoor
