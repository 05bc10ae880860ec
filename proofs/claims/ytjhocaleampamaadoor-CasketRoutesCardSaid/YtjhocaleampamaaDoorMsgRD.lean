/- The walk of msg.Read. -/
import Derived.Test.YtjhocaleampamaaDoorMsgRX
import Derived.Test.YtjhocaleampamaaDoorMsgLaw2
namespace Go.Proofs.YtjhocaleampamaaDoor
open Go.RowKit
set_option linter.unusedVariables false
attribute [local go_sem ↓] alT_M stT_M ldT_M
theorem results_cell_tmp {P : Program} {fn : Func} {a u : Tmp} {t : TypeId} {b o : Nat} {v : Value} {w : World} {tmps : Array Value} (h : fn.results = #[.cell a t, .tmp u]) (ha : tmps.getD a undef = .pointer (some ⟨b, o, none⟩))
    (hr : (loadVar t ⟨b, o, none⟩).run P w = .ok v w) : (results fn tmps).run P w = .ok (.tuple #[v, tmps.getD u undef]) w := by
  unfold results
  rw [h]
  simp only [asAddr, ha, hr, List.mapM_toArray, List.mapM_cons, List.mapM_nil, Sem.run_bind, Sem.run_pure, Result.andThen_ok, Sem.run_map]
  simp
def blM (ps : Array (Nat × Value)) : Sem Value := Instr.build 45 ps
theorem blM_eq (ps : Array (Nat × Value)) : Instr.build 45 ps = blM ps := rfl
theorem built_k (k : Int) : Tryd.prog.built 45 [(0, .int .i64 k)] = some (mv0 k 0 0).C.toArray := by kernel_rfl
theorem built_0 : Tryd.prog.built 45 [] = some (mv0 0 0 0).C.toArray := by kernel_rfl
theorem run_blM_k (w : World) (k : Int) : (blM #[(0, .int .i64 k)]).run Tryd.prog w = .ok (.agg (mv0 k 0 0).C.toArray) w := run_build (P := Tryd.prog) w _ _ _ (built_k k)
theorem run_blM_0 (w : World) : (blM #[]).run Tryd.prog w = .ok (.agg (mv0 0 0 0).C.toArray) w := run_build (P := Tryd.prog) w _ _ _ built_0
attribute [local go_sem ↓] blM_eq
set_option maxRecDepth 100000 in
set_option maxHeartbeats 1000000 in
theorem mrest_0 (w : World) (p q : Nat) (hc : w.cell? ⟨q, 0, none⟩ = some (.int .i64 0)) :
    Calls Tryd.prog 35 #[.pointer (some ⟨q, 0, none⟩), .pointer (some ⟨p, 0, none⟩)] w fun e w' => e = .returned (.bool false) ∧ w = w' := by
  go_enter Tryd.func35, Tryd.ntmps35
  go_wp2_with fail
  go_ret
  exact ⟨rfl, rfl⟩
theorem mrest_any (k f a : Int) (w : World) {p q : Nat} {gi : Option Nat} {d : IK} (hI : InAt w p gi d) (hl : d.b.length ≤ 1000000) (hq : w.rangeAt q 0 (mv0 k f a).C) (ht : w.there q 0 42) (hqp : q ≠ p) (hqg : gi ≠ some q) (hf : i64 f) (ha : i64 a) (hk : 0 ≤ k ∧ k ≤ 7) :
    Calls Tryd.prog 35 #[.pointer (some ⟨q, 0, none⟩), .pointer (some ⟨p, 0, none⟩)] w fun e w' => ∃ (x : MV) (d2 : IK) (b : Bool), e = .returned (.bool b) ∧ x.At w' ∧ x.Ge w.heap.size ∧ w'.rangeAt q 0 x.C ∧ w'.there q 0 42 ∧ InAt w' p gi d2 ∧ Only (fun i => i = p ∨ i = q) w w' ∧ ((b = true ∧ Stp d (pRest k f a) d2 x.m) ∨ (b = false ∧ k = 0)) := by
  have hh : k = 0 ∨ k = 1 ∨ k = 2 ∨ k = 3 ∨ k = 4 ∨ k = 5 ∨ k = 6 ∨ k = 7 := by omega
  rcases hh with rfl | rfl | rfl | rfl | rfl | rfl | rfl | rfl
  · obtain ⟨⟨c0, _⟩, _⟩ := MV.range hq z32_len
    refine (mrest_0 w p q c0).mono ?_
    rintro e w' ⟨rfl, rfl⟩
    exact ⟨_, d, false, rfl, mvAt_zero w 0 f a (by unfold i64; omega) hf ha, mv0_Ge 0 f a _, hq, ht, hI, Only.refl _ _, .inr ⟨rfl, rfl⟩⟩
  · exact (mrest_1 f a w hI hl hq ht hqp hqg hf ha).mono (fun e w' ⟨x, d2, h1, h2, h3, h4, h5, h6, h7, h8⟩ => ⟨x, d2, true, h1, h2, h3, h4, h5, h6, h8, .inl ⟨rfl, h7⟩⟩)
  · exact (mrest_2 f a w hI hl hq ht hqp hqg hf ha).mono (fun e w' ⟨x, d2, h1, h2, h3, h4, h5, h6, h7, h8⟩ => ⟨x, d2, true, h1, h2, h3, h4, h5, h6, h8, .inl ⟨rfl, h7⟩⟩)
  · exact (mrest_3 f a w hI hl hq ht hqp hqg hf ha).mono (fun e w' ⟨x, d2, h1, h2, h3, h4, h5, h6, h7, h8⟩ => ⟨x, d2, true, h1, h2, h3, h4, h5, h6, h8, .inl ⟨rfl, h7⟩⟩)
  · exact (mrest_4 f a w hI hl hq ht hqp hqg hf ha).mono (fun e w' ⟨x, d2, h1, h2, h3, h4, h5, h6, h7, h8⟩ => ⟨x, d2, true, h1, h2, h3, h4, h5, h6, h8, .inl ⟨rfl, h7⟩⟩)
  · exact (mrest_5 f a w hI hl hq ht hqp hqg hf ha).mono (fun e w' ⟨x, d2, h1, h2, h3, h4, h5, h6, h7, h8⟩ => ⟨x, d2, true, h1, h2, h3, h4, h5, h6, h8, .inl ⟨rfl, h7⟩⟩)
  · exact (mrest_6 f a w hI hl hq ht hqp hqg hf ha).mono (fun e w' ⟨x, d2, h1, h2, h3, h4, h5, h6, h7, h8⟩ => ⟨x, d2, true, h1, h2, h3, h4, h5, h6, h8, .inl ⟨rfl, h7⟩⟩)
  · exact (mrest_7 f a w hI hl hq ht hqp hqg hf ha).mono (fun e w' ⟨x, d2, h1, h2, h3, h4, h5, h6, h7, h8⟩ => ⟨x, d2, true, h1, h2, h3, h4, h5, h6, h8, .inl ⟨rfl, h7⟩⟩)
/-- What the steps of a reader tell. -/
theorem read_of {l : List UInt8} {d : IK} {m : MD} (h : Stp ⟨l, 0⟩ pMsg d m) : (d.endE = 0 → readM l = some m) ∧ (d.endE ≠ 0 → readM l = none) := by
  rcases h.2.2 rfl with ⟨h1, h2⟩ | ⟨r, h1, h2⟩
  · have h3 : readM l = none := by unfold readM; rw [show pMsg l = none from h1]
    refine ⟨fun e => ?_, fun _ => h3⟩
    unfold IK.endE at e
    rw [if_neg (fun hc => h2 hc.1)] at e
    exact absurd e h2
  · subst h2
    have h1 : pMsg l = some (m, r) := h1
    unfold IK.endE readM
    rw [h1]
    cases r with
    | nil => exact ⟨fun _ => rfl, fun h => absurd (by simp) h⟩
    | cons c t => exact ⟨fun h => by simp at h, fun _ => rfl⟩
theorem C_set1 (k f : Int) : (mv0 k 0 0).C.set 1 (.int .i64 f) = (mv0 k f 0).C := rfl
theorem C_set2 (k f a : Int) : (mv0 k f 0).C.set 2 (.int .i64 a) = (mv0 k f a).C := rfl
theorem mv0_len (k f a : Int) : (mv0 k f a).C.length = 42 := by unfold MV.C; simp [mv0, MV.row, RV.C, MD.none, z32]
theorem mv0_one (k f a : Int) : ∀ u ∈ (mv0 k f a).C, u.oneCell' = true := by
  intro u hu
  unfold MV.C at hu
  rcases List.mem_append.1 hu with hu | hu
  · simp only [List.mem_cons, List.not_mem_nil, or_false] at hu
    rcases hu with rfl | rfl | rfl | rfl | rfl | rfl <;> rfl
  · rcases List.mem_append.1 hu with hu | hu
    · rcases List.mem_append.1 hu with hu | hu
      · exact bv_one _ u hu
      · rw [List.mem_singleton.1 hu]; rfl
    · simp only [List.mem_cons, List.not_mem_nil, or_false] at hu
      rcases hu with rfl | rfl | rfl <;> rfl

set_option maxRecDepth 100000 in
set_option maxHeartbeats 1000000 in
theorem mread_any (v : Value) (l : List UInt8) (w : World) (hb : Bsl w v l) (hl : l.length ≤ 1000000) :
    Calls Tryd.prog 12 #[v] w fun e w' => ((∃ x : MV, readM l = some x.m ∧ e = .returned (.tuple #[.agg x.C.toArray, .int .i64 0]) ∧ x.At w') ∨ (readM l = none ∧ e = .returned (.tuple #[.agg (mv0 0 0 0).C.toArray, .int .i64 2]))) ∧ Below w.heap.size w w' := by
  obtain ⟨vo, vc, rfl⟩ := hb.shape
  have hA1 : Below w.heap.size w (w.alloc (.cells zM.toArray 45)) := (Below.refl _ _).alloc (Nat.le_refl _) _
  have hal1 := run_alT bigM w
  have ht1 := there_new w zM 45
  have hs1 : (w.alloc (.cells zM.toArray 45)).heap.size = w.heap.size + 1 := by simp
  rw [zM_len] at ht1
  go_enter Tryd.func12, Tryd.ntmps12
  go_wp2_with fail
  have hb1 := hb.keep hA1
  clear hb
  generalize w.alloc (.cells zM.toArray 45) = w1 at *
  refine (iof_any _ l w1 hb1 (by omega)).mono ?_
  rintro e w2 ⟨p, gi, rfl, hI2, hp2, hg2, hB2⟩
  have ht2 := there_only ht1 (Only.of_below (S := fun _ => False) (hB2)) (fun h => h)
  have hpl2 := hI2.lt
  have hgl2 : ∀ k, gi = some k → k < w2.heap.size := by obtain ⟨_, _, _, _, _, _, _, h3, _⟩ := id hI2; exact h3
  clear hb1 hal1 ht1
  go_wp2_with fail
  refine (ismall_any 7 w2 hI2 hl).mono ?_
  rintro e w3 ⟨rfl, hI3, hE3⟩
  have hS3 := Stp.num ⟨l, 0⟩ 1 7
  have hbk := numN_b ⟨l, 0⟩ 1 7 (by omega)
  generalize IK.numN ⟨l, 0⟩ 1 7 = k at *
  generalize IK.numS ⟨l, 0⟩ 1 7 = d3 at *
  have hd3 : d3.b.length ≤ l.length := hS3.1
  have ht3 := there_only ht2 hE3 (by omega)
  have hs3 := hE3.size
  have hs2 := hB2.size
  have hbl := run_blM_k w3 k
  have hal := run_alT bigM w3
  have hst := run_stT bigM (w3.alloc (.cells zM.toArray 45)) w3.heap.size 0 (mv0 k 0 0).C (by rw [mv0_len, ← zM_len]; exact there_new _ _ _) (by rw [mv0_len, zM_len]) (mv0_one k 0 0)
  obtain ⟨hq4, hB4, hs4, htq4⟩ := var_new w3 zM (mv0 k 0 0).C 45 (by rw [mv0_len, zM_len])
  rw [zM_len] at htq4
  have hI4 := hI3.keep hB4
  have ht4 := there_only ht3 (Only.of_below (S := fun _ => False) hB4) (fun h => h)
  clear hI3 ht3 hI2 ht2
  go_wp2_with fail
  generalize (w3.alloc (.cells zM.toArray 45)).setCells w3.heap.size 0 (mv0 k 0 0).C = w4 at *
  clear hbl hal hst
  generalize hqq : w3.heap.size = q at *
  have hqp : q ≠ p := by omega
  have hgq : gi ≠ some q := fun e => by have := hgl2 q e; omega
  have hgq2 : ∀ k, gi = some k → ¬ k = q := fun k hk e => hgq (e ▸ hk)
  have hgw : ∀ k, gi = some k → ¬ k = w.heap.size := fun k hk e => by have := hg2 k hk; omega
  obtain ⟨⟨_, c1, c2, _, _, _⟩, _⟩ := MV.range hq4 z32_len
  have f1 := there_cell htq4 1 (by omega)
  have f2 := there_cell htq4 2 (by omega)
  have hql4 : q < w4.heap.size := by omega
  refine (ismall_any 8 w4 hI4 (by omega)).mono ?_
  rintro e w5 ⟨rfl, hI5, hE5⟩
  have hS5 := Stp.num d3 1 8
  have hbf := numN_b d3 1 8 (by omega)
  generalize d3.numN 1 8 = f at *
  generalize d3.numS 1 8 = d5 at *
  have hd5 := hS5.1
  have c1 := (hE5.cell (p := ⟨q, 1, none⟩) hql4 hqp).trans c1
  have f1 := (hE5.frozen (p := ⟨q, 1, none⟩) hql4 hqp).trans f1
  have c2 := (hE5.cell (p := ⟨q, 2, none⟩) hql4 hqp).trans c2
  have f2 := (hE5.frozen (p := ⟨q, 2, none⟩) hql4 hqp).trans f2
  have hq6 := rangeAt_set (rangeAt_only hq4 hE5 hqp) 1 (.int .i64 f)
  rw [C_set1] at hq6
  have htq6 := there_set (there_only htq4 hE5 hqp) 1 (.int .i64 f)
  have ho6 := Only.set1 w5 q 1 (.int .i64 f)
  have hI6 := hI5.only ho6 (fun e => hqp e.symm) hgq2
  have hE6 : Only (fun i => i = p ∨ i = q) w4 (w5.setCell ⟨q, 1, none⟩ (.int .i64 f)) := (hE5.mono (fun _ _ e => .inl e)).trans ho6 (fun _ _ e => .inr e)
  have hs6 := hE6.size
  have c2 : (w5.setCell ⟨q, 1, none⟩ (.int .i64 f)).cell? ⟨q, 2, none⟩ = some (.int .i64 0) := by rw [World.cell?_setCell_other w5 _ _ _ (by simp)]; exact c2
  have f2 : (w5.setCell ⟨q, 1, none⟩ (.int .i64 f)).frozen? ⟨q, 2, none⟩ = false := by rw [World.frozen?_setCell]; exact f2
  clear hI5 hE5 ho6 hq4 htq4 hI4
  go_wp2_with fail
  generalize w5.setCell ⟨q, 1, none⟩ (.int .i64 f) = w6 at *
  have hql6 : q < w6.heap.size := by omega
  refine (inum_any 4611686018427387904 w6 hI6 (by omega)).mono ?_
  rintro e w7 ⟨rfl, hI7, hE7⟩
  have hS7 := Stp.num d5 8 4611686018427387904
  have hba := numN_b d5 8 4611686018427387904 (by omega)
  generalize d5.numN 8 4611686018427387904 = a at *
  generalize d5.numS 8 4611686018427387904 = d7 at *
  have hd7 := hS7.1
  have c2 := (hE7.cell (p := ⟨q, 2, none⟩) hql6 hqp).trans c2
  have f2 := (hE7.frozen (p := ⟨q, 2, none⟩) hql6 hqp).trans f2
  have hq8 := rangeAt_set (rangeAt_only hq6 hE7 hqp) 2 (.int .i64 a)
  rw [C_set2] at hq8
  have htq8 := there_set (there_only htq6 hE7 hqp) 2 (.int .i64 a)
  have ho8 := Only.set1 w7 q 2 (.int .i64 a)
  have hI8 := hI7.only ho8 (fun e => hqp e.symm) hgq2
  have hE8 : Only (fun i => i = p ∨ i = q) w4 (w7.setCell ⟨q, 2, none⟩ (.int .i64 a)) := (hE6.trans hE7 (fun _ _ e => .inl e)).trans ho8 (fun _ _ e => .inr e)
  have hs8 := hE8.size
  clear hI7 hE7 ho8 hq6 htq6 hI6 hE6 c1 f1
  go_wp2_with fail
  generalize w7.setCell ⟨q, 2, none⟩ (.int .i64 a) = w8 at *
  refine (mrest_any k f a w8 hI8 (by omega) hq8 htq8 hqp hgq (by unfold i64; omega) (by unfold i64; omega) hbk).mono ?_
  rintro e w9 ⟨x, d9, ok, rfl, hxA, hxG, hq9, htq9, hI9, hE9, hcase⟩
  have hEE : Only (fun i => i = p ∨ i = q) w4 w9 := hE8.trans hE9 (fun _ _ e => e)
  have ht9 : w9.there w.heap.size 0 42 := there_only ht4 hEE (fun e => e.elim (fun e => by omega) (fun e => by omega))
  have hB9 : Below w.heap.size w w9 := by
    have h1 := hA1.trans (hB2.mono (by omega))
    have h2 : Below w.heap.size w2 w3 := hE3.to_below (by omega) (fun i hi => by omega)
    have h3 : Below w.heap.size w4 w9 := hEE.to_below (by omega) (fun i hi => by omega)
    exact ((h1.trans h2).trans (hB4.mono (by omega))).trans h3
  have hlx := MV.C_len hxA
  have hox := MV.C_one hxA
  have hs9 := hEE.size
  cases ok with
  | true =>
    have hS9 : Stp d7 (pRest k f a) d9 x.m := hcase.elim (fun h => h.2) (fun h => by cases h.1)
    have hSt : Stp ⟨l, 0⟩ pMsg d9 x.m := hS3.next (f := fun k => pThen (pNum 1 8) fun f => pThen (pNum 8 4611686018427387904) fun a => pRest k f a) (hS5.next (f := fun f => pThen (pNum 8 4611686018427387904) fun a => pRest k f a) (hS7.next (f := fun a => pRest k f a) hS9))
    obtain ⟨hr1, hr2⟩ := read_of hSt
    have HR := Lib.hid (And.intro hr1 hr2)
    have hend := iend_any w9 hI9
    clear hcase hS9 hSt hS3 hS5 hS7 hr1 hr2 hI8 hI9 hE8 hE9 hEE hq8 htq8 htq9 hA1 hB2 hB4 hE3 ht4 c2 f2
    go_wp2_with fail
    refine hend.mono ?_
    rintro e w10 ⟨rfl, rfl⟩
    by_cases hE0 : d9.endE = 0
    · rw [hE0]
      have hld := run_ldT bigM w9 q 0 x.C hq9 (by rw [hlx, zM_len])
      have hst := run_stT bigM w9 w.heap.size 0 x.C (by rw [hlx]; exact ht9) (by rw [hlx, zM_len]) hox
      have ho := Only.setCells1 (b := w.heap.size) x.C 0 w9
      have hlv := run_lvT bigM _ w.heap.size 0 x.C (World.rangeAt_setCells_same w9 w.heap.size 0 x.C (by rw [hlx]; exact ht9)) (by rw [hlx, zM_len])
      have hxF := hxA.only hxG ho (fun i hi => by omega)
      have HF := Lib.hid (And.intro (HR.out.1 hE0) (And.intro hxF (Go.Proofs.YtjhocaleampamaaDoor.Below.setCells (Nat.le_refl w.heap.size) x.C 0 hB9)))
      clear hxF hxA hxG hq9 ht9 ho hB9 hend
      go_wp2_with fail
      refine bodyPost_ret (results_cell_tmp Tryd.results12 rfl hlv) rfl ?_
      exact ⟨.inl ⟨x, HF.out.1, rfl, HF.out.2.1⟩, HF.out.2.2⟩
    · have hbl := run_blM_0 w9
      have hst := run_stT bigM w9 w.heap.size 0 (mv0 0 0 0).C (by rw [mv0_len]; exact ht9) (by rw [mv0_len, zM_len]) (mv0_one 0 0 0)
      have hlv := run_lvT bigM _ w.heap.size 0 (mv0 0 0 0).C (World.rangeAt_setCells_same w9 w.heap.size 0 (mv0 0 0 0).C (by rw [mv0_len]; exact ht9)) (by rw [mv0_len, zM_len])
      have HF := Lib.hid (And.intro (HR.out.2 hE0) (Go.Proofs.YtjhocaleampamaaDoor.Below.setCells (Nat.le_refl w.heap.size) (mv0 0 0 0).C 0 hB9))
      clear hxA hxG hq9 ht9 hB9 hend
      generalize hcz : (mv0 0 0 0).C = cz at *
      have HCZ := Lib.hid hcz
      clear hcz
      go_wp2_with fail
      refine bodyPost_ret (results_cell_tmp Tryd.results12 rfl hlv) rfl ?_
      obtain rfl := HCZ.out
      exact ⟨.inr ⟨HF.out.1, rfl⟩, HF.out.2⟩
  | false =>
    have hk0 : k = 0 := hcase.elim (fun h => by cases h.1) (fun h => h.2)
    have hn : readM l = none := by
      have hp : ∀ f a b, pRest 0 f a b = none := fun f a b => by
        unfold pRest
        rw [if_neg (by omega), if_neg (by omega), if_neg (by omega), if_neg (by omega), if_neg (by omega), if_neg (by omega)]
      cases hm : readM l with
      | none => rfl
      | some m =>
        obtain ⟨k1, r1, h1, h2⟩ := then_iff.1 (readM_iff.1 hm)
        obtain ⟨f1, r2, h3, h4⟩ := then_iff.1 h2
        obtain ⟨a1, r3, h5, h6⟩ := then_iff.1 h4
        rcases hS3.2.2 rfl with ⟨e1, _⟩ | ⟨r, e1, _⟩
        · rw [show pNum 1 7 l = none from e1] at h1; cases h1
        · rw [show pNum 1 7 l = some (k, r) from e1] at h1
          cases (Option.some.inj h1)
          rw [hk0, hp] at h6; cases h6
    have hbl := run_blM_0 w9
    have hst := run_stT bigM w9 w.heap.size 0 (mv0 0 0 0).C (by rw [mv0_len]; exact ht9) (by rw [mv0_len, zM_len]) (mv0_one 0 0 0)
    have hlv := run_lvT bigM _ w.heap.size 0 (mv0 0 0 0).C (World.rangeAt_setCells_same w9 w.heap.size 0 (mv0 0 0 0).C (by rw [mv0_len]; exact ht9)) (by rw [mv0_len, zM_len])
    have HF := Lib.hid (And.intro hn (Go.Proofs.YtjhocaleampamaaDoor.Below.setCells (Nat.le_refl w.heap.size) (mv0 0 0 0).C 0 hB9))
    clear hcase hS3 hS5 hS7 hI8 hI9 hE8 hE9 hEE hq8 htq8 htq9 hA1 hB2 hB4 hE3 ht4 c2 f2 hxA hxG hq9 ht9 hB9 hn hk0
    generalize hcz : (mv0 0 0 0).C = cz at *
    have HCZ := Lib.hid hcz
    clear hcz
    go_wp2_with fail
    refine bodyPost_ret (results_cell_tmp Tryd.results12 rfl hlv) rfl ?_
    obtain rfl := HCZ.out
    exact ⟨.inr ⟨HF.out.1, rfl⟩, HF.out.2⟩
end Go.Proofs.YtjhocaleampamaaDoor
