/- The walk of the document's Read. -/
import Derived.Test.YtanghmpphlmpkaaMsgF
import Derived.Deep.RegionLaw
import Derived.Deep.DeepCutAuto
import Derived.Deep.CutBlock
namespace Go.Proofs.Ytanghmpphlmpkaa
open Go.RowKit
set_option linter.unusedVariables false
def fv0 (k f a : Int) : FV := ⟨⟨k, f, a, 0, 0, 0, ⟨[], []⟩, [], [], []⟩, .slice none 0 0, .slice none 0 0, .slice none 0 0⟩
theorem bigX : BigT 28 (fv0 0 0 0).C := BigT.of (by kernel_rfl) ⟨_, Try.underlying28, rfl⟩
theorem FV.C_len (x : FV) : x.C.length = 11 := rfl
theorem FV.C_one {w : World} {x : FV} (h : x.At w) : ∀ u ∈ x.C, u.oneCell' = true := by
  intro u hu
  obtain ⟨a1, c1, e1⟩ := h.1.shape
  obtain ⟨a2, c2, e2⟩ := h.2.1.shape
  obtain ⟨a3, c3, e3⟩ := h.2.2.1.shape
  unfold FV.C at hu
  simp only [List.mem_cons, List.not_mem_nil, or_false] at hu
  rcases hu with rfl | rfl | rfl | rfl | rfl | rfl | rfl | rfl | rfl | rfl | rfl
  · rfl
  · rfl
  · rfl
  · rfl
  · rfl
  · rfl
  · rfl
  · rfl
  · rw [e1]; rfl
  · rw [e2]; rfl
  · rw [e3]; rfl
theorem alT_X : Instr.alloc 28 true (.tuple #[]) = alT 28 := rfl
theorem ldT_X (v : Value) : Instr.loadAt 28 v = ldT 28 v := rfl
theorem stT_X (v u : Value) : Instr.storeAt 28 v u = stT 28 v u := rfl
theorem stT_F (v u : Value) : Instr.storeAt 23 v u = stT 23 v u := rfl
theorem ldT_F (v : Value) : Instr.loadAt 23 v = ldT 23 v := rfl
theorem bsT_F (ps : Array (Nat × Value)) : Instr.buildSlice 26 1 ps = bsT 26 ps := rfl
def blX (ps : Array (Nat × Value)) : Sem Value := Instr.build 28 ps
theorem blX_eq (ps : Array (Nat × Value)) : Instr.build 28 ps = blX ps := rfl
theorem builtX_k (k : Int) : Try.prog.built 28 [(0, .int .i64 k)] = some (fv0 k 0 0).C.toArray := by kernel_rfl
theorem builtX_0 : Try.prog.built 28 [] = some (fv0 0 0 0).C.toArray := by kernel_rfl
theorem run_blX_k (w : World) (k : Int) : (blX #[(0, .int .i64 k)]).run Try.prog w = .ok (.agg (fv0 k 0 0).C.toArray) w := run_build (P := Try.prog) w _ _ _ (builtX_k k)
theorem run_blX_0 (w : World) : (blX #[]).run Try.prog w = .ok (.agg (fv0 0 0 0).C.toArray) w := run_build (P := Try.prog) w _ _ _ builtX_0
theorem fv0_At (w : World) (k f a : Int) (hk : i64 k) (hf : i64 f) (ha : i64 a) : (fv0 k f a).At w :=
  ⟨Rd.nil _ _, Rd.nil _ _, Rd.nil _ _, by simp [fv0], hk, hf, ha, by unfold i64 fv0; dsimp only; omega, by unfold i64 fv0; dsimp only; omega, by unfold i64 fv0; dsimp only; omega⟩
def FV.Ge (x : FV) (n : Nat) : Prop := (∀ k, x.av.ownBlock = some k → n ≤ k) ∧ (∀ k, x.dv.ownBlock = some k → n ≤ k) ∧ (∀ k, x.rv.ownBlock = some k → n ≤ k)
theorem FV.At.only {S : Nat → Prop} {w w' : World} {x : FV} {n : Nat} (h : x.At w) (hg : x.Ge n) (ho : Only S w w') (hS : ∀ k, S k → k < n) : x.At w' := by
  have hh : ∀ {v : Value}, (∀ k, v.ownBlock = some k → n ≤ k) → ∀ k, v.ownBlock = some k → ¬ S k := fun hv k hk e => by have := hv k hk; have := hS k e; omega
  exact ⟨h.1.only ho (hh hg.1), h.2.1.only ho (hh hg.2.1), h.2.2.1.only ho (hh hg.2.2), h.2.2.2⟩
/-- A message of the document's, its key filled up. -/
def MD.pad (m : MD) : MD := { m with row := ⟨padK m.row.key, m.row.set⟩ }
theorem padK_nil : padK [] = z32 := by simp [padK, z32]
theorem pad_nil (m : MD) (h : m.row = ⟨[], []⟩) : m.pad = { m with row := ⟨z32, []⟩ } := by unfold MD.pad; rw [h, padK_nil]
theorem Fset {w : World} {q : Nat} {x y : FV} {j : Nat} {v : Value} (h : w.rangeAt q 0 x.C) (e : x.C.set j v = y.C) : (w.setCell ⟨q, j, none⟩ v).rangeAt q 0 y.C := e ▸ rangeAt_set h j v
/-- Behind the switch of the document's Read. -/
def FS (w8 wx : World) (p q : Nat) (d7 : IK) (k f a : Int) : Prop := ∃ (x : FV) (d9 : IK), wx.rangeAt q 0 x.C ∧ wx.there q 0 11 ∧ RInAt wx p d9 ∧ x.At wx ∧ x.Ge w8.heap.size ∧ Stp d7 (pRest k f a) d9 x.m.pad ∧ Only (fun i => i = p ∨ i = q) w8 wx ∧ x.m.row.key.length ≤ 1000000
theorem read_kind0 {l : List UInt8} {d3 : IK} (hS3 : Stp ⟨l, 0⟩ (pNum 1 7) d3 0) : readM l = none := by
  have hp : ∀ f a b, pRest 0 f a b = none := fun f a b => by
    unfold pRest
    rw [if_neg (by omega), if_neg (by omega), if_neg (by omega), if_neg (by omega), if_neg (by omega), if_neg (by omega)]
  cases hm : readM l with
  | none => rfl
  | some m =>
    obtain ⟨k1, r1, h1, h2⟩ := then_iff.1 (readM_iff.1 hm)
    obtain ⟨f1, r2, h3, h4⟩ := then_iff.1 h2
    obtain ⟨a1, r3, h5, h6⟩ := then_iff.1 h4
    rcases hS3.2.2 rfl with ⟨e1, _⟩ | ⟨r, e1, _⟩
    · rw [show pNum 1 7 l = none from e1] at h1; cases h1
    · rw [show pNum 1 7 l = some (0, r) from e1] at h1
      cases (Option.some.inj h1)
      rw [hp] at h6; cases h6
theorem row_pad {d d2 : IK} {y : RwD} (h : Stp d pRow d2 y) (he : d2.e = 0) : (⟨padK y.key, y.set⟩ : RwD) = y := by
  have h0 : d.e = 0 := by
    by_cases hc : d.e = 0
    · exact hc
    · exact absurd he (h.2.1 hc)
  rcases h.2.2 h0 with ⟨_, h2⟩ | ⟨r, h2, _⟩
  · exact absurd he h2
  · rw [padK_32 ((row_cdc _ _ _).1 h2).1.1]
theorem Try.str_parts : ∃ i z, Try.prog.info? 9 = some i ∧ i.zero = some z ∧ z.cells.size = 1 ∧ i.size = 1 ∧ i.bytes ≤ 1000 := by
  have h : (Try.prog.info? 9).map (fun i => (i.zero, i.size, decide (i.bytes ≤ 1000))) = some (some (.string ⟨#[]⟩), 1, true) := by kernel_rfl
  cases hi : Try.prog.info? 9 with
  | none => rw [hi] at h; cases h
  | some i =>
    rw [hi] at h
    simp only [Option.map_some, Option.some.injEq, Prod.mk.injEq, decide_eq_true_eq] at h
    obtain ⟨h1, h2, h3⟩ := h
    exact ⟨i, _, rfl, h1, rfl, h2, h3⟩
theorem Try.row_parts : ∃ i z, Try.prog.info? 23 = some i ∧ i.zero = some z ∧ z.cells.size = 2 ∧ i.size = 2 ∧ i.bytes ≤ 1000 := bigF.elt
attribute [local go_sem ↓] alT_X ldT_X stT_X stT_F blX_eq bsT_F
set_option maxRecDepth 100000 in
set_option maxHeartbeats 1000000 in
theorem fread_any (l : List UInt8) (w : World) (hl : l.length ≤ 1000000) :
    Calls Try.prog 12 #[.string ⟨l.toArray⟩] w fun e w' => ((∃ (x : FV) (m : MD), readM l = some m ∧ x.m.pad = m ∧ e = .returned (.tuple #[.agg x.C.toArray, .bool true]) ∧ x.At w' ∧ x.m.row.key.length ≤ 1000000) ∨ (readM l = none ∧ e = .returned (.tuple #[.agg (fv0 0 0 0).C.toArray, .bool false]))) ∧ Below w.heap.size w w' := by
  have hA1 : Below w.heap.size w (w.alloc (.cells (fv0 0 0 0).C.toArray 28)) := (Below.refl _ _).alloc (Nat.le_refl _) _
  have hal1 := run_alT bigX w
  have ht1 := there_new w (fv0 0 0 0).C 28
  have hs1 : (w.alloc (.cells (fv0 0 0 0).C.toArray 28)).heap.size = w.heap.size + 1 := by simp
  have hbl0 := fun w => run_blX_0 w
  have hlen0 : (fv0 0 0 0).C.length = 11 := rfl
  have hone0 := FV.C_one (fv0_At w 0 0 0 (by unfold i64; omega) (by unfold i64; omega) (by unfold i64; omega))
  have hbig := bigX
  rw [hlen0] at ht1
  generalize hcz : (fv0 0 0 0).C = cz at *
  have HCZ := Lib.hid hcz
  clear hcz
  go_enter Try.func12, Try.ntmps12
  go_wp2_with fail
  generalize w.alloc (.cells cz.toArray 28) = w1 at *
  have hA2 : Below w1.heap.size w1 (w1.alloc (.cells #[.string ⟨l.toArray⟩, .int .i64 0] 77)) := (Below.refl _ _).alloc (Nat.le_refl _) _
  have hI2 : RInAt (w1.alloc (.cells #[.string ⟨l.toArray⟩, .int .i64 0] 77)) (w.heap.size + 1) ⟨l, 0⟩ := by
    rw [← hs1]
    exact ⟨⟨by rw [World.cell?_alloc_new]; rfl, by rw [World.cell?_alloc_new]; rfl⟩, by simp, by simp⟩
  have hs2 : (w1.alloc (.cells #[.string ⟨l.toArray⟩, .int .i64 0] 77)).heap.size = w.heap.size + 2 := by simp; omega
  have ht2 := there_only ht1 (Only.of_below (S := fun _ => False) hA2) (fun h => h)
  have hB2 := hA1.trans (hA2.mono hA1.size)
  generalize w1.alloc (.cells #[.string ⟨l.toArray⟩, .int .i64 0] 77) = w2 at *
  generalize hp : w.heap.size + 1 = p at *
  clear hA1 hA2 ht1 hal1
  refine (rsmall_any 7 (by omega) w2 hI2 hl).mono ?_
  rintro e w3 ⟨rfl, hI3, hE3⟩
  have hS3 := Stp.num ⟨l, 0⟩ 1 7
  have hbk := numN_b ⟨l, 0⟩ 1 7 (by omega)
  generalize IK.numN ⟨l, 0⟩ 1 7 = k at *
  generalize IK.numS ⟨l, 0⟩ 1 7 = d3 at *
  have hd3 : d3.b.length ≤ l.length := hS3.1
  have ht3 := there_only ht2 hE3 (by omega)
  have hs3 := hE3.size
  have hbl := run_blX_k w3 k
  have hal := run_alT bigX w3
  rw [HCZ.out] at hal
  have hone := FV.C_one (fv0_At w k 0 0 (by unfold i64; omega) (by unfold i64; omega) (by unfold i64; omega))
  have hst := run_stT bigX (w3.alloc (.cells cz.toArray 28)) w3.heap.size 0 (fv0 k 0 0).C (by have := there_new w3 cz 28; rw [hlen0] at this; exact this) rfl hone
  obtain ⟨hq4, hB4, hs4, htq4⟩ := var_new w3 cz (fv0 k 0 0).C 28 (by rw [hlen0]; rfl)
  rw [hlen0] at htq4
  have hI4 := hI3.keep hB4
  have ht4 := there_only ht3 (Only.of_below (S := fun _ => False) hB4) (fun h => h)
  clear hI3 ht3 hI2 ht2 hone
  generalize hck : (fv0 k 0 0).C = ck at hbl hst hB4 hs4 hI4 ht4 htq4 hq4
  have HCK := Lib.hid hck
  clear hck
  go_wp2_with fail
  generalize (w3.alloc (.cells cz.toArray 28)).setCells w3.heap.size 0 ck = w4 at *
  clear hbl hal hst
  rw [← HCK.out] at hq4
  generalize hqq : w3.heap.size = q at *
  have hqp : q ≠ p := by omega
  have c1 : w4.cell? ⟨q, 1, none⟩ = some (.int .i64 0) := by have := hq4 1 (.int .i64 0) rfl; simpa using this
  have c2 : w4.cell? ⟨q, 2, none⟩ = some (.int .i64 0) := by have := hq4 2 (.int .i64 0) rfl; simpa using this
  have f1 := there_cell htq4 1 (by omega)
  have f2 := there_cell htq4 2 (by omega)
  have hql4 : q < w4.heap.size := by omega
  refine (rsmall_any 8 (by omega) w4 hI4 (by omega)).mono ?_
  rintro e w5 ⟨rfl, hI5, hE5⟩
  have hS5 := Stp.num d3 1 8
  have hbf := numN_b d3 1 8 (by omega)
  generalize d3.numN 1 8 = f at *
  generalize d3.numS 1 8 = d5 at *
  have hd5 := hS5.1
  have c1 := (hE5.cell (p := ⟨q, 1, none⟩) hql4 hqp).trans c1
  have f1 := (hE5.frozen (p := ⟨q, 1, none⟩) hql4 hqp).trans f1
  have c2 := (hE5.cell (p := ⟨q, 2, none⟩) hql4 hqp).trans c2
  have f2 := (hE5.frozen (p := ⟨q, 2, none⟩) hql4 hqp).trans f2
  have hq6 := Fset (y := fv0 k f 0) (j := 1) (v := .int .i64 f) (rangeAt_only hq4 hE5 hqp) rfl
  have htq6 := there_set (there_only htq4 hE5 hqp) 1 (.int .i64 f)
  have ho6 := Only.set1 w5 q 1 (.int .i64 f)
  have hI6 := hI5.only ho6 (fun e => hqp e.symm)
  have hE6 : Only (fun i => i = p ∨ i = q) w4 (w5.setCell ⟨q, 1, none⟩ (.int .i64 f)) := (hE5.mono (fun _ _ e => .inl e)).trans ho6 (fun _ _ e => .inr e)
  have hs6 := hE6.size
  have c2 : (w5.setCell ⟨q, 1, none⟩ (.int .i64 f)).cell? ⟨q, 2, none⟩ = some (.int .i64 0) := by rw [World.cell?_setCell_other w5 _ _ _ (by simp)]; exact c2
  have f2 : (w5.setCell ⟨q, 1, none⟩ (.int .i64 f)).frozen? ⟨q, 2, none⟩ = false := by rw [World.frozen?_setCell]; exact f2
  clear hI5 hE5 ho6 hq4 htq4 hI4
  go_wp2_with fail
  generalize w5.setCell ⟨q, 1, none⟩ (.int .i64 f) = w6 at *
  have hql6 : q < w6.heap.size := by omega
  refine (rnum_any 4611686018427387904 (by omega) w6 hI6 (by omega)).mono ?_
  rintro e w7 ⟨rfl, hI7, hE7⟩
  have hS7 := Stp.num d5 8 4611686018427387904
  have hba := numN_b d5 8 4611686018427387904 (by omega)
  generalize d5.numN 8 4611686018427387904 = a at *
  generalize d5.numS 8 4611686018427387904 = d7 at *
  have hd7 := hS7.1
  have c2 := (hE7.cell (p := ⟨q, 2, none⟩) hql6 hqp).trans c2
  have f2 := (hE7.frozen (p := ⟨q, 2, none⟩) hql6 hqp).trans f2
  have hq8 := Fset (y := fv0 k f a) (j := 2) (v := .int .i64 a) (rangeAt_only hq6 hE7 hqp) rfl
  have htq8 := there_set (there_only htq6 hE7 hqp) 2 (.int .i64 a)
  have ho8 := Only.set1 w7 q 2 (.int .i64 a)
  have hI8 := hI7.only ho8 (fun e => hqp e.symm)
  have hE8 : Only (fun i => i = p ∨ i = q) w4 (w7.setCell ⟨q, 2, none⟩ (.int .i64 a)) := (hE6.trans hE7 (fun _ _ e => .inl e)).trans ho8 (fun _ _ e => .inr e)
  have hs8 := hE8.size
  have c0 : (w7.setCell ⟨q, 2, none⟩ (.int .i64 a)).cell? ⟨q, 0, none⟩ = some (.int .i64 k) := by have := hq8 0 (.int .i64 k) rfl; simpa using this
  clear hI7 hE7 ho8 hq6 htq6 hI6 hE6 c1 f1
  go_upto_region 5 with (fail)
  generalize w7.setCell ⟨q, 2, none⟩ (.int .i64 a) = w8 at *
  go_upto_block 0 with (fail)
  have ht8 := there_only ht4 hE8 (fun e => e.elim (fun e => by omega) (fun e => by omega))
  have hgq : w.heap.size < q := by omega
  have hB8 : Below w.heap.size w w8 := by
    have h2 : Below w.heap.size w2 w3 := hE3.to_below (by omega) (fun i hi => by omega)
    have h3 : Below w.heap.size w4 w8 := hE8.to_below (by omega) (fun i hi => by omega)
    exact ((hB2.trans h2).trans (hB4.mono (by omega))).trans h3
  have hql : q < w8.heap.size := by omega
  have hA0 := fv0_At w8 k f a (by unfold i64; omega) (by unfold i64; omega) (by unfold i64; omega)
  have HSS := Lib.hid (And.intro hS3 (And.intro hS5 hS7))
  clear hS3 hS5 hS7 hE3 hE8 hB4 hB2 ht4 c1 c2 f1 f2 hs2 hs3 hs4 hs6 hs8
  go_cut [26] (fun u26 wx => FS w8 wx p q d7 k f a)
  case first =>
    have hcc : k = 0 ∨ k = 1 ∨ k = 2 ∨ k = 3 ∨ k = 4 ∨ k = 5 ∨ k = 6 ∨ k = 7 := by omega
    rcases hcc with rfl | rfl | rfl | rfl | rfl | rfl | rfl | rfl
    · have hbl := hbl0 w8
      have hst := run_stT hbig w8 w.heap.size 0 cz (by rw [hlen0]; exact ht8) rfl hone0
      have hlv := run_lvT hbig _ w.heap.size 0 cz (World.rangeAt_setCells_same w8 w.heap.size 0 cz (by rw [hlen0]; exact ht8)) rfl
      have hn : readM l = none := by
        obtain ⟨hS3, _, _⟩ := HSS.out
        exact read_kind0 hS3
      have HF := Lib.hid (And.intro hn (Go.Proofs.Ytanghmpphlmpkaa.Below.setCells (Nat.le_refl w.heap.size) cz 0 hB8))
      clear hq8 htq8 hI8 hA0 hn hB8 ht8
      go_wp2_with fail
      refine bodyPost_ret (results_cell_tmp Try.results12 rfl hlv) rfl ?_
      obtain rfl := HCZ.out
      exact ⟨.inr ⟨HF.out.1, rfl⟩, HF.out.2⟩
    · clear ht8 hB8 hone0 hbl0
      go_wp2_with fail
      refine (ftake_any w8 hI8 (by omega)).mono ?_
      rintro e w9 ⟨y, d9, rfl, hI9, hS9, hE9, hk9⟩
      have hq9 := rangeAt_only hq8 hE9 hqp
      have ht9 := there_only htq8 hE9 hqp
      have hst := run_stT bigF w9 q 6 [.string ⟨y.key.toArray⟩, .string ⟨y.set.toArray⟩] (there_part ht9 (by show 6 + 2 ≤ 11; omega)) rfl (by intro u hu; simp at hu; rcases hu with rfl | rfl <;> rfl)
      have hq10 := rangeAt_part (xs := [.int .i64 1, .int .i64 f, .int .i64 a, .int .i64 0, .int .i64 0, .int .i64 0]) (bs := [.string ⟨#[]⟩, .string ⟨#[]⟩]) (cs := [.slice none 0 0, .slice none 0 0, .slice none 0 0]) (ds := [.string ⟨y.key.toArray⟩, .string ⟨y.set.toArray⟩]) hq9 rfl
      have ho := Only.setCells1 (b := q) [.string ⟨y.key.toArray⟩, .string ⟨y.set.toArray⟩] 6 w9
      have hF : FS w8 (w9.setCells q 6 [.string ⟨y.key.toArray⟩, .string ⟨y.set.toArray⟩]) p q d7 1 f a := by
        refine ⟨⟨⟨1, f, a, 0, 0, 0, y, [], [], []⟩, .slice none 0 0, .slice none 0 0, .slice none 0 0⟩, d9, hq10, there_setCells0 ht9, hI9.only ho (fun e => hqp e.symm), ?_, ⟨nil_Ge _, nil_Ge _, nil_Ge _⟩, ?_, (hE9.mono (fun _ _ e => .inl e)).trans ho (fun _ _ e => .inr e), (by show y.key.length ≤ _; omega)⟩
        · exact ⟨Rd.nil _ _, Rd.nil _ _, Rd.nil _ _, by simp, hA0.2.2.2.2⟩
        · unfold pRest
          rw [if_pos (by omega)]
          refine hS9.next (f := fun r => pOf { MD.none 1 f a with row := r }) ((Stp.of _ _).val (fun he => ?_))
          rw [MD.pad]
          rw [row_pad hS9 he]
          rfl
      have HF := Lib.hid hF
      clear hF ho hq10 ht9 hq9 hE9 hS9 hI9 hq8 htq8 hI8 hA0
      go_wp2_with fail
      go_meet
      exact HF.out
    · clear ht8 hB8 hone0 hbl0
      have c3 : w8.cell? ⟨q, 3, none⟩ = some (.int .i64 0) := by have := hq8 3 (.int .i64 0) rfl; simpa using this
      have f3 := there_cell htq8 3 (by omega)
      go_wp2_with fail
      refine (rsmall_any 255 (by omega) w8 hI8 (by omega)).mono ?_
      rintro e w9 ⟨rfl, hI9, hE9⟩
      have hS9 := Stp.num d7 1 255
      have hb9 := numN_b d7 1 255 (by omega)
      generalize d7.numN 1 255 = n1 at *
      generalize d7.numS 1 255 = d9 at *
      have c3 := (hE9.cell (p := ⟨q, 3, none⟩) hql hqp).trans c3
      have f3 := (hE9.frozen (p := ⟨q, 3, none⟩) hql hqp).trans f3
      have hq9 := rangeAt_only hq8 hE9 hqp
      have ht9 := there_only htq8 hE9 hqp
      have ho := Only.set1 w9 q 3 (.int .i64 n1)
      have hF : FS w8 (w9.setCell ⟨q, 3, none⟩ (.int .i64 n1)) p q d7 2 f a := by
        refine ⟨⟨⟨2, f, a, n1, 0, 0, ⟨[], []⟩, [], [], []⟩, .slice none 0 0, .slice none 0 0, .slice none 0 0⟩, d9, Fset hq9 rfl, there_set ht9 _ _, hI9.only ho (fun e => hqp e.symm), ?_, ⟨nil_Ge _, nil_Ge _, nil_Ge _⟩, ?_, (hE9.mono (fun _ _ e => .inl e)).trans ho (fun _ _ e => .inr e), by simp⟩
        · obtain ⟨_, _, _, _, g1, g2, g3, g4, g5, g6⟩ := hA0
          exact ⟨Rd.nil _ _, Rd.nil _ _, Rd.nil _ _, by simp, g1, g2, g3, (by unfold i64; dsimp only; omega), g5, g6⟩
        · unfold pRest
          rw [if_neg (by omega), if_pos rfl]
          refine hS9.next (f := fun e => pOf { MD.none 2 f a with err := e }) ((Stp.of _ _).val (fun he => ?_))
          rw [MD.pad, padK_nil]
          rfl
      have HF := Lib.hid hF
      clear hF ho ht9 hq9 hE9 hS9 hI9 hq8 htq8 hI8 hA0
      go_wp2_with fail
      go_meet
      exact HF.out
    · clear ht8 hB8 hone0 hbl0
      have c6 : w8.cell? ⟨q, 6, none⟩ = some (.string ⟨#[]⟩) := by have := hq8 6 (.string ⟨#[]⟩) rfl; simpa using this
      have f6 := there_cell htq8 6 (by omega)
      go_wp2_with fail
      refine (rfixed_any 32 w8 hI8 (by omega)).mono ?_
      rintro e w9 ⟨rfl, hI9, hE9⟩
      have hS9 : Stp d7 (pFix 32) (d7.fixS 32) (d7.fixL 32) := Stp.fix d7 32
      have c6 := (hE9.cell (p := ⟨q, 6, none⟩) hql hqp).trans c6
      have f6 := (hE9.frozen (p := ⟨q, 6, none⟩) hql hqp).trans f6
      have hq9 := rangeAt_only hq8 hE9 hqp
      have ht9 := there_only htq8 hE9 hqp
      unfold strV
      have ho := Only.set1 w9 q 6 (.string ⟨(d7.fixL 32).toArray⟩)
      have hF : FS w8 (w9.setCell ⟨q, 6, none⟩ (.string ⟨(d7.fixL 32).toArray⟩)) p q d7 3 f a := by
        refine ⟨⟨⟨3, f, a, 0, 0, 0, ⟨d7.fixL 32, []⟩, [], [], []⟩, .slice none 0 0, .slice none 0 0, .slice none 0 0⟩, d7.fixS 32, Fset hq9 rfl, there_set ht9 _ _, hI9.only ho (fun e => hqp e.symm), ?_, ⟨nil_Ge _, nil_Ge _, nil_Ge _⟩, ?_, (hE9.mono (fun _ _ e => .inl e)).trans ho (fun _ _ e => .inr e), (by have := fixL_le d7 32; show (d7.fixL 32).length ≤ _; omega)⟩
        · exact ⟨Rd.nil _ _, Rd.nil _ _, Rd.nil _ _, by simp, hA0.2.2.2.2⟩
        · unfold pRest
          rw [if_neg (by omega), if_neg (by omega), if_pos rfl]
          refine hS9.next (f := fun x => pOf { MD.none 3 f a with row := ⟨x, []⟩ }) ((Stp.of _ _).val (fun he => ?_))
          rw [MD.pad, padK_32 (fixL_32 he)]
          rfl
      have HF := Lib.hid hF
      clear hF ho ht9 hq9 hE9 hS9 hI9 hq8 htq8 hI8 hA0
      go_wp2_with fail
      go_meet
      exact HF.out
    · clear ht8 hB8 hone0 hbl0
      go_wp2_with fail
      refine (ftake_any w8 hI8 (by omega)).mono ?_
      rintro e w9 ⟨y, d9, rfl, hI9, hS9, hE9, hk9⟩
      have hq9 := rangeAt_only hq8 hE9 hqp
      have ht9 := there_only htq8 hE9 hqp
      have hst := run_stT bigF w9 q 6 [.string ⟨y.key.toArray⟩, .string ⟨y.set.toArray⟩] (there_part ht9 (by show 6 + 2 ≤ 11; omega)) rfl (by intro u hu; simp at hu; rcases hu with rfl | rfl <;> rfl)
      have hq10 := rangeAt_part (xs := [.int .i64 4, .int .i64 f, .int .i64 a, .int .i64 0, .int .i64 0, .int .i64 0]) (bs := [.string ⟨#[]⟩, .string ⟨#[]⟩]) (cs := [.slice none 0 0, .slice none 0 0, .slice none 0 0]) (ds := [.string ⟨y.key.toArray⟩, .string ⟨y.set.toArray⟩]) hq9 rfl
      have ho := Only.setCells1 (b := q) [.string ⟨y.key.toArray⟩, .string ⟨y.set.toArray⟩] 6 w9
      have hF : FS w8 (w9.setCells q 6 [.string ⟨y.key.toArray⟩, .string ⟨y.set.toArray⟩]) p q d7 4 f a := by
        refine ⟨⟨⟨4, f, a, 0, 0, 0, y, [], [], []⟩, .slice none 0 0, .slice none 0 0, .slice none 0 0⟩, d9, hq10, there_setCells0 ht9, hI9.only ho (fun e => hqp e.symm), ?_, ⟨nil_Ge _, nil_Ge _, nil_Ge _⟩, ?_, (hE9.mono (fun _ _ e => .inl e)).trans ho (fun _ _ e => .inr e), (by show y.key.length ≤ _; omega)⟩
        · exact ⟨Rd.nil _ _, Rd.nil _ _, Rd.nil _ _, by simp, hA0.2.2.2.2⟩
        · unfold pRest
          rw [if_pos (by omega)]
          refine hS9.next (f := fun r => pOf { MD.none 4 f a with row := r }) ((Stp.of _ _).val (fun he => ?_))
          rw [MD.pad]
          rw [row_pad hS9 he]
          rfl
      have HF := Lib.hid hF
      clear hF ho hq10 ht9 hq9 hE9 hS9 hI9 hq8 htq8 hI8 hA0
      go_wp2_with fail
      go_meet
      exact HF.out
    · clear ht8 hB8 hone0 hbl0
      have c4 : w8.cell? ⟨q, 4, none⟩ = some (.int .i64 0) := by have := hq8 4 (.int .i64 0) rfl; simpa using this
      have f4 := there_cell htq8 4 (by omega)
      go_wp2_with fail
      refine (rsmall_any 7 (by omega) w8 hI8 (by omega)).mono ?_
      rintro e w9 ⟨rfl, hI9, hE9⟩
      have hS9 := Stp.num d7 1 7
      have hb9 := numN_b d7 1 7 (by omega)
      generalize d7.numN 1 7 = n1 at *
      generalize d7.numS 1 7 = d9 at *
      have hd9 := hS9.1
      have c4 := (hE9.cell (p := ⟨q, 4, none⟩) hql hqp).trans c4
      have f4 := (hE9.frozen (p := ⟨q, 4, none⟩) hql hqp).trans f4
      have hq9 := rangeAt_only hq8 hE9 hqp
      have ht9 := there_only htq8 hE9 hqp
      have ho := Only.set1 w9 q 4 (.int .i64 n1)
      have hq10 := Fset (y := ⟨⟨5, f, a, 0, n1, 0, ⟨[], []⟩, [], [], []⟩, .slice none 0 0, .slice none 0 0, .slice none 0 0⟩) hq9 (j := 4) (v := .int .i64 n1) rfl
      have ht10 := there_set ht9 4 (.int .i64 n1)
      have hI10 := hI9.only ho (fun e => hqp e.symm)
      have hE10 : Only (fun i => i = p ∨ i = q) w8 (w9.setCell ⟨q, 4, none⟩ (.int .i64 n1)) := (hE9.mono (fun _ _ e => .inl e)).trans ho (fun _ _ e => .inr e)
      clear ho ht9 hq9 hE9 hI9 hq8 htq8 hI8
      go_wp2_with fail
      generalize w9.setCell ⟨q, 4, none⟩ (.int .i64 n1) = w10 at *
      refine (ftake_any w10 hI10 (by omega)).mono ?_
      rintro e w11 ⟨y, d11, rfl, hI11, hS11, hE11, hk11⟩
      have hq11 := rangeAt_only hq10 hE11 hqp
      have ht11 := there_only ht10 hE11 hqp
      have hst := run_stT bigF w11 q 6 [.string ⟨y.key.toArray⟩, .string ⟨y.set.toArray⟩] (there_part ht11 (by show 6 + 2 ≤ 11; omega)) rfl (by intro u hu; simp at hu; rcases hu with rfl | rfl <;> rfl)
      have hq12 := rangeAt_part (xs := [.int .i64 5, .int .i64 f, .int .i64 a, .int .i64 0, .int .i64 n1, .int .i64 0]) (bs := [.string ⟨#[]⟩, .string ⟨#[]⟩]) (cs := [.slice none 0 0, .slice none 0 0, .slice none 0 0]) (ds := [.string ⟨y.key.toArray⟩, .string ⟨y.set.toArray⟩]) hq11 rfl
      have ho := Only.setCells1 (b := q) [.string ⟨y.key.toArray⟩, .string ⟨y.set.toArray⟩] 6 w11
      have hF : FS w8 (w11.setCells q 6 [.string ⟨y.key.toArray⟩, .string ⟨y.set.toArray⟩]) p q d7 5 f a := by
        refine ⟨⟨⟨5, f, a, 0, n1, 0, y, [], [], []⟩, .slice none 0 0, .slice none 0 0, .slice none 0 0⟩, d11, hq12, there_setCells0 ht11, hI11.only ho (fun e => hqp e.symm), ?_, ⟨nil_Ge _, nil_Ge _, nil_Ge _⟩, ?_, (hE10.trans hE11 (fun _ _ e => .inl e)).trans ho (fun _ _ e => .inr e), (by show y.key.length ≤ _; omega)⟩
        · obtain ⟨_, _, _, _, g1, g2, g3, g4, g5, g6⟩ := hA0
          exact ⟨Rd.nil _ _, Rd.nil _ _, Rd.nil _ _, by simp, g1, g2, g3, g4, (by unfold i64; dsimp only; omega), g6⟩
        · unfold pRest
          rw [if_neg (by omega), if_neg (by omega), if_neg (by omega), if_pos rfl]
          refine hS9.next (f := fun h => pThen pRow fun r => pOf { MD.none 5 f a with hold := h, row := r }) (hS11.next (f := fun r => pOf { MD.none 5 f a with hold := n1, row := r }) ((Stp.of _ _).val (fun he => ?_)))
          rw [MD.pad, row_pad hS11 he]
          rfl
      have HF := Lib.hid hF
      clear hF ho hq12 ht11 hq11 hE11 hS11 hI11 hq10 ht10 hI10 hE10 hA0 hS9
      go_wp2_with fail
      go_meet
      exact HF.out
    · clear ht8 hB8 hone0 hbl0
      have c5 : w8.cell? ⟨q, 5, none⟩ = some (.int .i64 0) := by have := hq8 5 (.int .i64 0) rfl; simpa using this
      have f5 := there_cell htq8 5 (by omega)
      go_wp2_with fail
      refine (rsmall_any 4 (by omega) w8 hI8 (by omega)).mono ?_
      rintro e w9 ⟨rfl, hI9, hE9⟩
      have hS9 := Stp.num d7 1 4
      have hb9 := numN_b d7 1 4 (by omega)
      generalize d7.numN 1 4 = n1 at *
      generalize d7.numS 1 4 = d9 at *
      have hd9 := hS9.1
      have c5 := (hE9.cell (p := ⟨q, 5, none⟩) hql hqp).trans c5
      have f5 := (hE9.frozen (p := ⟨q, 5, none⟩) hql hqp).trans f5
      have hq9 := rangeAt_only hq8 hE9 hqp
      have ht9 := there_only htq8 hE9 hqp
      have ho := Only.set1 w9 q 5 (.int .i64 n1)
      have hq10 := Fset (y := ⟨⟨6, f, a, 0, 0, n1, ⟨[], []⟩, [], [], []⟩, .slice none 0 0, .slice none 0 0, .slice none 0 0⟩) hq9 (j := 5) (v := .int .i64 n1) rfl
      have ht10 := there_set ht9 5 (.int .i64 n1)
      have hI10 := hI9.only ho (fun e => hqp e.symm)
      have hE10 : Only (fun i => i = p ∨ i = q) w8 (w9.setCell ⟨q, 5, none⟩ (.int .i64 n1)) := (hE9.mono (fun _ _ e => .inl e)).trans ho (fun _ _ e => .inr e)
      clear ho ht9 hq9 hE9 hI9 hq8 htq8 hI8
      go_wp2_with fail
      generalize w9.setCell ⟨q, 5, none⟩ (.int .i64 n1) = w10 at *
      have hs10 := hE10.size
      have c7 : w10.cell? ⟨q, 8, none⟩ = some (.slice none 0 0) := by have := hq10 8 (.slice none 0 0) rfl; simpa using this
      have f7 := there_cell ht10 8 (by omega)
      refine (fnumbers_any w10 hI10 (by omega)).mono ?_
      rintro e w11 ⟨av, xs, d11, rfl, hR11, hx64, hxl, hI11, hS11, hE11⟩
      obtain ⟨vo, vc, hvv, hz1, hz2, hz3⟩ := hR11.val
      clear hz1 hz2 hz3
      rw [List.length_map] at hvv
      subst hvv
      have hd11 := hS11.1
      have hql10 : q < w10.heap.size := by omega
      have c7 := (hE11.cell (p := ⟨q, 8, none⟩) hql10 hqp).trans c7
      have f7 := (hE11.frozen (p := ⟨q, 8, none⟩) hql10 hqp).trans f7
      have hq11 := rangeAt_only hq10 hE11 hqp
      have ht11 := there_only ht10 hE11 hqp
      have ho := Only.set1 w11 q 8 (.slice vo xs.length vc)
      have hq12 := Fset (y := ⟨⟨6, f, a, 0, 0, n1, ⟨[], []⟩, xs, [], []⟩, .slice vo xs.length vc, .slice none 0 0, .slice none 0 0⟩) hq11 (j := 8) (v := .slice vo xs.length vc) rfl
      have ht12 := there_set ht11 8 (.slice vo xs.length vc)
      have hI12 := hI11.only ho (fun e => hqp e.symm)
      have hR11 := hR11.mono (show w8.heap.size ≤ w10.heap.size by omega)
      have hR12 := hR11.only ho (fun k hk e => by have := hR11.own_ge k hk; omega)
      have hE12 : Only (fun i => i = p ∨ i = q) w8 (w11.setCell ⟨q, 8, none⟩ (.slice vo xs.length vc)) := (hE10.trans hE11 (fun _ _ e => .inl e)).trans ho (fun _ _ e => .inr e)
      clear ho ht11 hq11 hE11 hI11 hR11 hq10 ht10 hI10 hE10
      go_wp2_with fail
      generalize w11.setCell ⟨q, 8, none⟩ (.slice vo xs.length vc) = w12 at *
      have hs12 := hE12.size
      refine (rsmall_any 255 (by omega) w12 hI12 (by omega)).mono ?_
      rintro e w13 ⟨rfl, hI13, hE13⟩
      have hS13 := Stp.num d11 1 255
      have hb13 := numN_b d11 1 255 (by omega)
      generalize d11.numN 1 255 = n13 at *
      obtain ⟨N, rfl⟩ := Int.eq_ofNat_of_zero_le hb13.1
      have hN : N ≤ 255 := by omega
      generalize d11.numS 1 255 = d13 at *
      have hd13 := hS13.1
      have hq13 := rangeAt_only hq12 hE13 hqp
      have ht13 := there_only ht12 hE13 hqp
      have hR13 := hR12.only hE13 (fun k hk e => by have := hR12.own_ge k hk; omega)
      have hE13 : Only (fun i => i = p ∨ i = q) w8 w13 := hE12.trans hE13 (fun _ _ e => .inl e)
      clear hq12 ht12 hI12 hR12 hE12
      have HS := Lib.hid (And.intro hS9 (And.intro hS11 hS13))
      clear hS11 hS13 hS9
      obtain ⟨it, zz, hti, htz, hzc, hsz1, hby⟩ := Try.str_parts
      go_wp2_with fail
      go_loopw [7] (fun j wr => ∃ (k : Nat) (ds : List (List UInt8)) (dvv : Value) (dk : IK), k ≤ N ∧ j = .int .i64 k ∧ ds.length = k ∧ RW wr w8.heap.size 9 1 dvv (ds.map strC) ∧
        wr.rangeAt q 0 (FV.C ⟨⟨6, f, a, 0, 0, n1, ⟨[], []⟩, xs, ds, []⟩, .slice vo xs.length vc, dvv, .slice none 0 0⟩) ∧ wr.there q 0 11 ∧ RInAt wr p dk ∧ Stp d13 (pRep (pFix 32) k) dk ds ∧
        RW wr w8.heap.size 3 1 (.slice vo xs.length vc) (xs.map intC) ∧ (∀ k, (Value.slice vo xs.length vc).ownBlock = some k → dvv.ownBlock ≠ some k) ∧ Only (fun i => i = p ∨ i = q) w8 wr) (fun j _ => N - (intOf j).toNat)
      case atStart => exact ⟨0, [], .slice none 0 0, d13, Nat.zero_le _, rfl, rfl, RW.nil _ _ _ _, hq13, ht13, hI13, Stp.of _ _, hR13, (fun _ _ h => by cases h), hE13⟩
      case round =>
        obtain ⟨k, ds, dvv, dk, hk, rfl, hdl, hR, hqr, htr, hIr, hSr, hRa, hdj, hEr⟩ := hrel
        clear hq13 ht13 hI13 hR13 hE13
        have hszr := hEr.size
        have hend : (k = N ∨ dk.e ≠ 0) → FS w8 wr p q d7 6 f a := fun hor => by
          have hSk : Stp d13 (pRep (pFix 32) N) dk ds := hor.elim (fun e => e ▸ hSr) (fun e => hSr.stop ds e hk)
          obtain ⟨hS9, hS11, hS13⟩ := HS.out
          refine ⟨⟨⟨6, f, a, 0, 0, n1, ⟨[], []⟩, xs, ds, []⟩, .slice vo xs.length vc, dvv, .slice none 0 0⟩, dk, hqr, htr, hIr, ?_, ⟨hRa.own_ge, hR.own_ge, nil_Ge _⟩, ?_, hEr, by simp⟩
          · obtain ⟨_, _, _, _, g1, g2, g3, g4, g5, g6⟩ := hA0
            exact ⟨hRa.rd, hR.rd, Rd.nil _ _, hx64, g1, g2, g3, g4, g5, (by unfold i64; dsimp only; omega)⟩
          · unfold pRest
            rw [if_neg (by omega), if_neg (by omega), if_neg (by omega), if_neg (by omega), if_pos rfl]
            refine hS9.next (f := fun l => pThen (pMany (pNum 8 255)) fun at2 => pThen (pMany (pFix 32)) fun ds => pOf { MD.none 6 f a with level := l, ats := at2, digs := ds }) (hS11.next (f := fun at2 => pThen (pMany (pFix 32)) fun ds => pOf { MD.none 6 f a with level := n1, ats := at2, digs := ds }) ?_)
            refine Stp.next (f := fun ds => pOf { MD.none 6 f a with level := n1, ats := xs, digs := ds }) (x := ds) ?_ ((Stp.of _ _).val (y := MD.pad ⟨6, f, a, 0, 0, n1, ⟨[], []⟩, xs, ds, []⟩) (fun _ => (pad_nil ⟨6, f, a, 0, 0, n1, ⟨[], []⟩, xs, ds, []⟩ rfl).symm))
            exact hS13.next (f := fun n => pRep (pFix 32) n.toNat) (x := (N : Int)) (by rw [Int.toNat_natCast]; exact hSk)
        have HEND := Lib.hid hend
        clear hend
        by_cases hlt : k < N
        · have hlt2 : (k : Int) < N := by omega
          have hk0' : (0 : Int) ≤ k := Int.natCast_nonneg _
          have ce := hIr.1.2
          by_cases he0 : dk.e = 0
          · rw [he0] at ce
            subst hdl
            have hdk := hSr.1
            obtain ⟨ro, rc, hvv, hz1, hz2, hz3⟩ := hR.val
            clear hz1 hz2 hz3
            rw [List.length_map] at hvv
            subst hvv
            have c8 : wr.cell? ⟨q, 9, none⟩ = some (.slice ro ds.length rc) := by have := hqr 9 (.slice ro ds.length rc) rfl; simpa using this
            have f8 := there_cell htr 9 (by omega)
            have hqlr : q < wr.heap.size := by omega
            have hROq : ∀ k, (Value.slice ro ds.length rc).ownBlock = some k → ¬ k = q := fun k hk e => by have := hR.own_ge k hk; omega
            have hROp : ∀ k, (Value.slice ro ds.length rc).ownBlock = some k → ¬ k = p := fun k hk e => by have := hR.own_ge k hk; omega
            have hlm : (ds.map strC).length + 1 ≤ 100000000 := by rw [List.length_map]; omega
            have HX := Lib.hid (And.intro hqr (And.intro htr (And.intro hRa (And.intro hdj (And.intro hEr hSr)))))
            clear hqr htr hRa hdj hEr hSr
            go_wp2_with fail
            go_region_law (first
              | (go_simp; go_at_call 34; refine (rfixed_any 32 wr.drew (hIr.keep (Below.refl _ _).drew) (by omega)).mono ?_; rintro e w16 ⟨rfl, hI16, hE16⟩; have hE16 := Only.of_drew hE16; have hS16 : Stp dk (pFix 32) (dk.fixS 32) (dk.fixL 32) := Stp.fix dk 32; unfold strV; generalize hyy : dk.fixL 32 = y at *; generalize dk.fixS 32 = d16 at *; clear hyy; have c8' := (hE16.cell (p := ⟨q, 9, none⟩) hqlr hqp).trans c8; have f8' := (hE16.frozen (p := ⟨q, 9, none⟩) hqlr hqp).trans f8; have hA : Below w16.heap.size w16 (w16.alloc (.cells #[.string ⟨y.toArray⟩] 9)) := (Below.refl _ _).alloc (Nat.le_refl _) _; have hsrcA := rangeAt_alloc_new w16 [.string ⟨y.toArray⟩] 9; have hR16 := hR.only hE16 hROp; have hRA := hR16.keep hA; have hq16l : q < w16.heap.size := (Nat.lt_of_lt_of_le hqlr hE16.size); have c8A := (hA.cell (p := ⟨q, 9, none⟩) hq16l).trans c8'; have f8A := (hA.frozen (p := ⟨q, 9, none⟩) hq16l).trans f8'; have hA0s := hA.size; have hbase : w8.heap.size ≤ (w16.alloc (.cells #[.string ⟨y.toArray⟩] 9)).heap.size := Nat.le_trans (Nat.le_trans hszr hE16.size) hA0s; have HH := Lib.hid (And.intro hI16 (And.intro hS16 (And.intro hE16 (And.intro hA hR16)))); clear hI16 hS16 hE16 hA hR16)
              | (refine step_appr rfl _ _ 25 rfl it zz Try.underlying25 hti htz hsz1 hby hzc (by omega) hRA hsrcA rfl (by intro u hu; simp at hu; subst hu; rfl) hlm hbase (by rfl) (by rfl) ?_; intro v18 w18 hR18 hg18 hn18; obtain ⟨ao8, cap8, hv18, _, _, _⟩ := hR18.val; simp only [List.length_append, List.length_map, List.length_cons, List.length_nil, Nat.zero_add] at hv18; subst hv18; have hc18 : w18.cell? ⟨q, 9, none⟩ = some (.slice ro ds.length rc) := hg18.cell c8A (fun e => hROq _ e.symm rfl); have hf18 : w18.frozen? ⟨q, 9, none⟩ = false := (World.frozen?_of_block (hg18.block q (Nat.lt_of_lt_of_le hq16l hA0s) (fun e => hROq _ e.symm rfl))).trans f8A))
            all_goals
              obtain ⟨hqr, htr, hRa, hdj, hEr, hSr⟩ := HX.out
              obtain ⟨hI16, hS16, hE16, hA, hR16⟩ := HH.out
              have hs16 := hE16.size
              have ho18 : Only (fun k => (Value.slice ro ds.length rc).ownBlock = some k) (w16.alloc (.cells #[.string ⟨y.toArray⟩] 9)) w18 := Only.of_grown hg18 (fun q h => h)
              have hE18 : Only (fun k => (Value.slice ro ds.length rc).ownBlock = some k) w16 w18 := (Only.of_below (S := fun k => (Value.slice ro ds.length rc).ownBlock = some k) hA).trans ho18 (fun _ _ h => h)
              have ho19 := Only.set1 w18 q 9 (.slice ao8 (ds.length + 1) cap8)
              have hq19 := Fset (y := ⟨⟨6, f, a, 0, 0, n1, ⟨[], []⟩, xs, (ds ++ [y]), []⟩, .slice vo xs.length vc, .slice ao8 (ds.length + 1) cap8, .slice none 0 0⟩) (rangeAt_only (rangeAt_only hqr hE16 hqp) hE18 (fun e => hROq _ e rfl)) (j := 9) (v := .slice ao8 (ds.length + 1) cap8) rfl
              have ht19 := there_set (there_only (there_only htr hE16 hqp) hE18 (fun e => hROq _ e rfl)) 9 (.slice ao8 (ds.length + 1) cap8)
              have hI19 := (hI16.only hE18 (fun e => hROp _ e rfl)).only ho19 (fun e => hqp e.symm)
              have hRa16 := hRa.only hE16 (fun k hk e => by have := hRa.own_ge k hk; omega)
              have hRa18 := hRa16.only hE18 (fun k hk e => hdj k hk e)
              have hRa19 := hRa18.only ho19 (fun k hk e => by have := hRa16.own_ge k hk; omega)
              have hR19 := hR18.only ho19 (fun k hk e => hn18.elim (fun h => hROq k (h.symm.trans hk) e) (fun h => by have h2 : (w16.alloc (.cells #[.string ⟨y.toArray⟩] 9)).heap.size = k := Option.some.inj (h.symm.trans hk); omega))
              have hdj19 : ∀ k, (Value.slice vo xs.length vc).ownBlock = some k → (Value.slice ao8 (ds.length + 1) cap8).ownBlock ≠ some k := fun k hk e => hn18.elim (fun h => hdj k hk (h.symm.trans e)) (fun h => by have h2 : (w16.alloc (.cells #[.string ⟨y.toArray⟩] 9)).heap.size = k := Option.some.inj (h.symm.trans e); have := hRa16.own_lt k hk; omega)
              have hE19 : Only (fun i => i = p ∨ i = q) w8 (w18.setCell ⟨q, 9, none⟩ (.slice ao8 (ds.length + 1) cap8)) := ((hEr.trans hE16 (fun _ _ e => .inl e)).trans hE18 (fun i hi e => by have := hR16.own_ge i e; omega)).trans ho19 (fun _ _ e => .inr e)
              rw [show (ds.map strC) ++ [_] = (ds ++ [y]).map strC by rw [List.map_append]; rfl] at hR19
              have HF := Lib.hid (And.intro hR19 (And.intro hq19 (And.intro ht19 (And.intro hI19 (And.intro (hSr.snoc hS16) (And.intro hRa19 (And.intro hdj19 hE19)))))))
              clear hR19 hq19 ht19 hI19 hRa19 hdj19 hE19 hRa18 hRa16 ho19 hE18 ho18 hR18 hg18 hn18 hqr htr hRa hdj hEr hSr hI16 hS16 hE16 hA hR16 hRA hsrcA
              go_wp2_with fail
              go_roundw
              case rel => exact ⟨ds.length + 1, ds ++ [y], _, _, hlt, by go_num, by simp, HF.out⟩
              case measure => simp [intOf]; omega
          · have hF := HEND.out (.inr he0)
            have HF := Lib.hid hF
            clear hF hR hqr htr hIr hSr hRa hdj hEr
            go_wp2_with fail
            go_meet
            exact HF.out
        · have hF := HEND.out (.inl (by omega))
          have HF := Lib.hid hF
          clear hF hR hqr htr hIr hSr hRa hdj hEr
          go_wp2_with fail
          go_meet
          exact HF.out
    · clear ht8 hB8 hone0 hbl0
      have hE10 : Only (fun i => i = p ∨ i = q) w8 w8 := Only.refl _ _
      go_wp2_with fail
      have hs10 := hE10.size
      have c7 : w8.cell? ⟨q, 8, none⟩ = some (.slice none 0 0) := by have := hq8 8 (.slice none 0 0) rfl; simpa using this
      have f7 := there_cell htq8 8 (by omega)
      refine (fnumbers_any w8 hI8 (by omega)).mono ?_
      rintro e w11 ⟨av, xs, d11, rfl, hR11, hx64, hxl, hI11, hS11, hE11⟩
      obtain ⟨vo, vc, hvv, hz1, hz2, hz3⟩ := hR11.val
      clear hz1 hz2 hz3
      rw [List.length_map] at hvv
      subst hvv
      have hd11 := hS11.1
      have hql10 : q < w8.heap.size := by omega
      have c7 := (hE11.cell (p := ⟨q, 8, none⟩) hql10 hqp).trans c7
      have f7 := (hE11.frozen (p := ⟨q, 8, none⟩) hql10 hqp).trans f7
      have hq11 := rangeAt_only hq8 hE11 hqp
      have ht11 := there_only htq8 hE11 hqp
      have ho := Only.set1 w11 q 8 (.slice vo xs.length vc)
      have hq12 := Fset (y := ⟨⟨7, f, a, 0, 0, 0, ⟨[], []⟩, xs, [], []⟩, .slice vo xs.length vc, .slice none 0 0, .slice none 0 0⟩) hq11 (j := 8) (v := .slice vo xs.length vc) rfl
      have ht12 := there_set ht11 8 (.slice vo xs.length vc)
      have hI12 := hI11.only ho (fun e => hqp e.symm)
      have hR11 := hR11.mono (show w8.heap.size ≤ w8.heap.size by omega)
      have hR12 := hR11.only ho (fun k hk e => by have := hR11.own_ge k hk; omega)
      have hE12 : Only (fun i => i = p ∨ i = q) w8 (w11.setCell ⟨q, 8, none⟩ (.slice vo xs.length vc)) := (hE10.trans hE11 (fun _ _ e => .inl e)).trans ho (fun _ _ e => .inr e)
      clear ho ht11 hq11 hE11 hI11 hR11 hq8 htq8 hI8 hE10
      go_wp2_with fail
      generalize w11.setCell ⟨q, 8, none⟩ (.slice vo xs.length vc) = w12 at *
      have hs12 := hE12.size
      refine (rsmall_any 255 (by omega) w12 hI12 (by omega)).mono ?_
      rintro e w13 ⟨rfl, hI13, hE13⟩
      have hS13 := Stp.num d11 1 255
      have hb13 := numN_b d11 1 255 (by omega)
      generalize d11.numN 1 255 = n13 at *
      obtain ⟨N, rfl⟩ := Int.eq_ofNat_of_zero_le hb13.1
      have hN : N ≤ 255 := by omega
      generalize d11.numS 1 255 = d13 at *
      have hd13 := hS13.1
      have hq13 := rangeAt_only hq12 hE13 hqp
      have ht13 := there_only ht12 hE13 hqp
      have hR13 := hR12.only hE13 (fun k hk e => by have := hR12.own_ge k hk; omega)
      have hE13 : Only (fun i => i = p ∨ i = q) w8 w13 := hE12.trans hE13 (fun _ _ e => .inl e)
      clear hq12 ht12 hI12 hR12 hE12
      have HS := Lib.hid (And.intro hS11 (And.intro hS11 hS13))
      clear hS11 hS13 
      obtain ⟨it, zz, hti, htz, hzc, hsz1, hby⟩ := Try.row_parts
      go_wp2_with fail
      go_loopw [9] (fun j wr => ∃ (k : Nat) (ds : List RwD) (dvv : Value) (dk : IK), k ≤ N ∧ j = .int .i64 k ∧ ds.length = k ∧ RW wr w8.heap.size 23 2 dvv (ds.map rrC) ∧
        wr.rangeAt q 0 (FV.C ⟨⟨7, f, a, 0, 0, 0, ⟨[], []⟩, xs, [], ds⟩, .slice vo xs.length vc, .slice none 0 0, dvv⟩) ∧ wr.there q 0 11 ∧ RInAt wr p dk ∧ Stp d13 (pRep (pRow) k) dk ds ∧
        RW wr w8.heap.size 3 1 (.slice vo xs.length vc) (xs.map intC) ∧ (∀ k, (Value.slice vo xs.length vc).ownBlock = some k → dvv.ownBlock ≠ some k) ∧ Only (fun i => i = p ∨ i = q) w8 wr) (fun j _ => N - (intOf j).toNat)
      case atStart => exact ⟨0, [], .slice none 0 0, d13, Nat.zero_le _, rfl, rfl, RW.nil _ _ _ _, hq13, ht13, hI13, Stp.of _ _, hR13, (fun _ _ h => by cases h), hE13⟩
      case round =>
        obtain ⟨k, ds, dvv, dk, hk, rfl, hdl, hR, hqr, htr, hIr, hSr, hRa, hdj, hEr⟩ := hrel
        clear hq13 ht13 hI13 hR13 hE13
        have hszr := hEr.size
        have hend : (k = N ∨ dk.e ≠ 0) → FS w8 wr p q d7 7 f a := fun hor => by
          have hSk : Stp d13 (pRep (pRow) N) dk ds := hor.elim (fun e => e ▸ hSr) (fun e => hSr.stop ds e hk)
          obtain ⟨hS9, hS11, hS13⟩ := HS.out
          refine ⟨⟨⟨7, f, a, 0, 0, 0, ⟨[], []⟩, xs, [], ds⟩, .slice vo xs.length vc, .slice none 0 0, dvv⟩, dk, hqr, htr, hIr, ?_, ⟨hRa.own_ge, nil_Ge _, hR.own_ge⟩, ?_, hEr, by simp⟩
          · obtain ⟨_, _, _, _, g1, g2, g3, g4, g5, g6⟩ := hA0
            exact ⟨hRa.rd, Rd.nil _ _, hR.rd, hx64, g1, g2, g3, g4, g5, g6⟩
          · unfold pRest
            rw [if_neg (by omega), if_neg (by omega), if_neg (by omega), if_neg (by omega), if_neg (by omega), if_pos rfl]
            refine hS11.next (f := fun at2 => pThen (pMany pRow) fun rs => pOf { MD.none 7 f a with ats := at2, rows := rs }) ?_
            refine Stp.next (f := fun rs => pOf { MD.none 7 f a with ats := xs, rows := rs }) (x := ds) ?_ ((Stp.of _ _).val (y := MD.pad ⟨7, f, a, 0, 0, 0, ⟨[], []⟩, xs, [], ds⟩) (fun _ => (pad_nil ⟨7, f, a, 0, 0, 0, ⟨[], []⟩, xs, [], ds⟩ rfl).symm))
            exact hS13.next (f := fun n => pRep pRow n.toNat) (x := (N : Int)) (by rw [Int.toNat_natCast]; exact hSk)
        have HEND := Lib.hid hend
        clear hend
        by_cases hlt : k < N
        · have hlt2 : (k : Int) < N := by omega
          have hk0' : (0 : Int) ≤ k := Int.natCast_nonneg _
          have ce := hIr.1.2
          by_cases he0 : dk.e = 0
          · rw [he0] at ce
            subst hdl
            have hdk := hSr.1
            obtain ⟨ro, rc, hvv, hz1, hz2, hz3⟩ := hR.val
            clear hz1 hz2 hz3
            rw [List.length_map] at hvv
            subst hvv
            have c8 : wr.cell? ⟨q, 10, none⟩ = some (.slice ro ds.length rc) := by have := hqr 10 (.slice ro ds.length rc) rfl; simpa using this
            have f8 := there_cell htr 10 (by omega)
            have hqlr : q < wr.heap.size := by omega
            have hROq : ∀ k, (Value.slice ro ds.length rc).ownBlock = some k → ¬ k = q := fun k hk e => by have := hR.own_ge k hk; omega
            have hROp : ∀ k, (Value.slice ro ds.length rc).ownBlock = some k → ¬ k = p := fun k hk e => by have := hR.own_ge k hk; omega
            have hlm : (ds.map rrC).length + 1 ≤ 100000000 := by rw [List.length_map]; omega
            have HX := Lib.hid (And.intro hqr (And.intro htr (And.intro hRa (And.intro hdj (And.intro hEr hSr)))))
            clear hqr htr hRa hdj hEr hSr
            go_wp2_with fail
            go_region_law (first
              | (go_simp; go_at_call 33; refine (ftake_any wr.drew (hIr.keep (Below.refl _ _).drew) (by omega)).mono ?_; rintro e w16 ⟨y, d16, rfl, hI16, hS16, hE16, hk16⟩; have hE16 := Only.of_drew hE16; have hbs := run_bsT bigF Try.underlying26 w16 [.string ⟨y.key.toArray⟩, .string ⟨y.set.toArray⟩] rfl (by decide) (by decide); have c8' := (hE16.cell (p := ⟨q, 10, none⟩) hqlr hqp).trans c8; have f8' := (hE16.frozen (p := ⟨q, 10, none⟩) hqlr hqp).trans f8; have hA : Below w16.heap.size w16 (w16.alloc (.cells #[.string ⟨y.key.toArray⟩, .string ⟨y.set.toArray⟩] 23)) := (Below.refl _ _).alloc (Nat.le_refl _) _; have hsrcA := rangeAt_alloc_new w16 [.string ⟨y.key.toArray⟩, .string ⟨y.set.toArray⟩] 23; have hR16 := hR.only hE16 hROp; have hRA := hR16.keep hA; have hq16l : q < w16.heap.size := (Nat.lt_of_lt_of_le hqlr hE16.size); have c8A := (hA.cell (p := ⟨q, 10, none⟩) hq16l).trans c8'; have f8A := (hA.frozen (p := ⟨q, 10, none⟩) hq16l).trans f8'; have hA0s := hA.size; have hbase : w8.heap.size ≤ (w16.alloc (.cells #[.string ⟨y.key.toArray⟩, .string ⟨y.set.toArray⟩] 23)).heap.size := Nat.le_trans (Nat.le_trans hszr hE16.size) hA0s; have HH := Lib.hid (And.intro hI16 (And.intro hS16 (And.intro hE16 (And.intro hA hR16)))); clear hI16 hS16 hE16 hA hR16)
              | (refine step_appr rfl _ _ 26 rfl it zz Try.underlying26 hti htz hsz1 hby hzc (by omega) hRA hsrcA rfl (by intro u hu; simp at hu; rcases hu with rfl | rfl <;> rfl) hlm hbase (by rfl) (by rfl) ?_; intro v18 w18 hR18 hg18 hn18; obtain ⟨ao8, cap8, hv18, _, _, _⟩ := hR18.val; simp only [List.length_append, List.length_map, List.length_cons, List.length_nil, Nat.zero_add] at hv18; subst hv18; have hc18 : w18.cell? ⟨q, 10, none⟩ = some (.slice ro ds.length rc) := hg18.cell c8A (fun e => hROq _ e.symm rfl); have hf18 : w18.frozen? ⟨q, 10, none⟩ = false := (World.frozen?_of_block (hg18.block q (Nat.lt_of_lt_of_le hq16l hA0s) (fun e => hROq _ e.symm rfl))).trans f8A))
            all_goals
              obtain ⟨hqr, htr, hRa, hdj, hEr, hSr⟩ := HX.out
              obtain ⟨hI16, hS16, hE16, hA, hR16⟩ := HH.out
              have hs16 := hE16.size
              have ho18 : Only (fun k => (Value.slice ro ds.length rc).ownBlock = some k) (w16.alloc (.cells #[.string ⟨y.key.toArray⟩, .string ⟨y.set.toArray⟩] 23)) w18 := Only.of_grown hg18 (fun q h => h)
              have hE18 : Only (fun k => (Value.slice ro ds.length rc).ownBlock = some k) w16 w18 := (Only.of_below (S := fun k => (Value.slice ro ds.length rc).ownBlock = some k) hA).trans ho18 (fun _ _ h => h)
              have ho19 := Only.set1 w18 q 10 (.slice ao8 (ds.length + 1) cap8)
              have hq19 := Fset (y := ⟨⟨7, f, a, 0, 0, 0, ⟨[], []⟩, xs, [], (ds ++ [y])⟩, .slice vo xs.length vc, .slice none 0 0, .slice ao8 (ds.length + 1) cap8⟩) (rangeAt_only (rangeAt_only hqr hE16 hqp) hE18 (fun e => hROq _ e rfl)) (j := 10) (v := .slice ao8 (ds.length + 1) cap8) rfl
              have ht19 := there_set (there_only (there_only htr hE16 hqp) hE18 (fun e => hROq _ e rfl)) 10 (.slice ao8 (ds.length + 1) cap8)
              have hI19 := (hI16.only hE18 (fun e => hROp _ e rfl)).only ho19 (fun e => hqp e.symm)
              have hRa16 := hRa.only hE16 (fun k hk e => by have := hRa.own_ge k hk; omega)
              have hRa18 := hRa16.only hE18 (fun k hk e => hdj k hk e)
              have hRa19 := hRa18.only ho19 (fun k hk e => by have := hRa16.own_ge k hk; omega)
              have hR19 := hR18.only ho19 (fun k hk e => hn18.elim (fun h => hROq k (h.symm.trans hk) e) (fun h => by have h2 : (w16.alloc (.cells #[.string ⟨y.key.toArray⟩, .string ⟨y.set.toArray⟩] 23)).heap.size = k := Option.some.inj (h.symm.trans hk); omega))
              have hdj19 : ∀ k, (Value.slice vo xs.length vc).ownBlock = some k → (Value.slice ao8 (ds.length + 1) cap8).ownBlock ≠ some k := fun k hk e => hn18.elim (fun h => hdj k hk (h.symm.trans e)) (fun h => by have h2 : (w16.alloc (.cells #[.string ⟨y.key.toArray⟩, .string ⟨y.set.toArray⟩] 23)).heap.size = k := Option.some.inj (h.symm.trans e); have := hRa16.own_lt k hk; omega)
              have hE19 : Only (fun i => i = p ∨ i = q) w8 (w18.setCell ⟨q, 10, none⟩ (.slice ao8 (ds.length + 1) cap8)) := ((hEr.trans hE16 (fun _ _ e => .inl e)).trans hE18 (fun i hi e => by have := hR16.own_ge i e; omega)).trans ho19 (fun _ _ e => .inr e)
              rw [show (ds.map rrC) ++ [_] = (ds ++ [y]).map rrC by rw [List.map_append]; rfl] at hR19
              have HF := Lib.hid (And.intro hR19 (And.intro hq19 (And.intro ht19 (And.intro hI19 (And.intro (hSr.snoc hS16) (And.intro hRa19 (And.intro hdj19 hE19)))))))
              clear hR19 hq19 ht19 hI19 hRa19 hdj19 hE19 hRa18 hRa16 ho19 hE18 ho18 hR18 hg18 hn18 hqr htr hRa hdj hEr hSr hI16 hS16 hE16 hA hR16 hRA hsrcA
              go_wp2_with fail
              go_roundw
              case rel => exact ⟨ds.length + 1, ds ++ [y], _, _, hlt, by go_num, by simp, HF.out⟩
              case measure => simp [intOf]; omega
          · have hF := HEND.out (.inr he0)
            have HF := Lib.hid hF
            clear hF hR hqr htr hIr hSr hRa hdj hEr
            go_wp2_with fail
            go_meet
            exact HF.out
        · have hF := HEND.out (.inl (by omega))
          have HF := Lib.hid hF
          clear hF hR hqr htr hIr hSr hRa hdj hEr
          go_wp2_with fail
          go_meet
          exact HF.out
  case rest =>
    obtain ⟨x, d9, hq9, ht9, hI9, hxA, hxG, hS9, hE9, hxk⟩ := hcut
    have ht9' := there_only ht8 hE9 (fun e => e.elim (fun e => by omega) (fun e => by omega))
    have hB9 : Below w.heap.size w wc := hB8.trans (hE9.to_below (by omega) (fun i hi => by omega))
    have hs9 := hE9.size
    have hrr : (d9.endE = 0 → readM l = some x.m.pad) ∧ (d9.endE ≠ 0 → readM l = none) := by
      obtain ⟨hS3, hS5, hS7⟩ := HSS.out
      have hSt : Stp ⟨l, 0⟩ pMsg d9 x.m.pad := hS3.next (f := fun k => pThen (pNum 1 8) fun f => pThen (pNum 8 4611686018427387904) fun a => pRest k f a) (hS5.next (f := fun f => pThen (pNum 8 4611686018427387904) fun a => pRest k f a) (hS7.next (f := fun a => pRest k f a) hS9))
      exact read_of hSt
    have HR := Lib.hid hrr
    clear hrr
    have hend := rend_any wc hI9
    clear hS9 hI9 hE9 ht9 hq8 htq8 hI8 hA0 ht8 hB8
    go_wp2_with fail
    refine hend.mono ?_
    rintro e w10 ⟨rfl, rfl⟩
    by_cases hE0 : d9.endE = 0
    · rw [hE0]
      have hox := FV.C_one hxA
      have hlx : x.C.length = cz.length := by rw [hlen0]; rfl
      have hld := run_ldT hbig wc q 0 x.C hq9 hlx
      have hst := run_stT hbig wc w.heap.size 0 x.C (by rw [hlx, hlen0]; exact ht9') hlx hox
      have ho := Only.setCells1 (b := w.heap.size) x.C 0 wc
      have hlv := run_lvT hbig _ w.heap.size 0 x.C (World.rangeAt_setCells_same wc w.heap.size 0 x.C (by rw [hlx, hlen0]; exact ht9')) hlx
      have hxF := hxA.only hxG ho (fun i hi => by omega)
      have HF := Lib.hid (And.intro (HR.out.1 hE0) (And.intro (And.intro hxF hxk) (Go.Proofs.Ytanghmpphlmpkaa.Below.setCells (Nat.le_refl w.heap.size) x.C 0 hB9)))
      clear hxF hxA hxG hq9 ht9' ho hB9 hend hone0
      generalize hcx : x.C = cx at *
      go_wp2_with fail
      refine bodyPost_ret (results_cell_tmp Try.results12 rfl hlv) rfl ?_
      obtain rfl := hcx
      exact ⟨.inl ⟨x, _, HF.out.1, rfl, rfl, HF.out.2.1⟩, HF.out.2.2⟩
    · have hbl := hbl0 wc
      have hst := run_stT hbig wc w.heap.size 0 cz (by rw [hlen0]; exact ht9') rfl hone0
      have hlv := run_lvT hbig _ w.heap.size 0 cz (World.rangeAt_setCells_same wc w.heap.size 0 cz (by rw [hlen0]; exact ht9')) rfl
      have HF := Lib.hid (And.intro (HR.out.2 hE0) (Go.Proofs.Ytanghmpphlmpkaa.Below.setCells (Nat.le_refl w.heap.size) cz 0 hB9))
      clear hxA hxG hq9 ht9' hB9 hend
      go_wp2_with fail
      refine bodyPost_ret (results_cell_tmp Try.results12 rfl hlv) rfl ?_
      obtain rfl := HCZ.out
      exact ⟨.inr ⟨HF.out.1, rfl⟩, HF.out.2⟩
end Go.Proofs.Ytanghmpphlmpkaa
