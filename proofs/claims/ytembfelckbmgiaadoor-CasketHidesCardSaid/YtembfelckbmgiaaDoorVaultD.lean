/- vault.Seal: the walk. -/
import Derived.Test.YtembfelckbmgiaaDoorVaultC
import Derived.Test.YtembfelckbmgiaaDoorRegE
namespace Go.Proofs.YtembfelckbmgiaaDoor
open Go.RowKit Big
set_option linter.unusedVariables false
def useV (c : Nat) : Value := .agg #[.int .i64 1, .int .i64 (c : Int)]
def sealV (c : Nat) (ep : Int) (s1 s2 : ByteArray) : Value := .agg #[.int .i64 1, .int .i64 (c : Int), .int .i64 ep, .string s1, .string s2]
theorem ck_use (e : Bool) (c : Nat) (w : World) : (Instr.checkKey e 10000 81 (useV c)).run Tryd.prog w = .ok () w := by unfold useV; kernel_rfl
theorem ck_seal (e : Bool) (c : Nat) (ep : Int) (s1 s2 : ByteArray) (w : World) : (Instr.checkKey e 10000 83 (sealV c ep s1 s2)).run Tryd.prog w = .ok () w := by unfold sealV; kernel_rfl
theorem eq_use (c c' : Nat) (h : c ≠ c') (w : World) : (Op.equal 81 (useV c) (useV c')).run Tryd.prog w = .ok false w := by
  have hb : ((c : Int) == (c' : Int)) = false := by simp; omega
  unfold useV Op.equal Op.maxDepth
  go_simp
theorem eq_seal (c c' : Nat) (h : c ≠ c') (ep ep' : Int) (s1 s2 t1 t2 : ByteArray) (w : World) : (Op.equal 83 (sealV c ep s1 s2) (sealV c' ep' t1 t2)).run Tryd.prog w = .ok false w := by
  have hb : ((c : Int) == (c' : Int)) = false := by simp; omega
  unfold sealV Op.equal Op.maxDepth
  go_simp
/-- What was used: the first client's sealings of these numbers. -/
def usedL : Nat → List Nat → List MapEntry
  | _, [] => []
  | i, c :: cs => ⟨useV c, .bool true, i⟩ :: usedL (i + 1) cs
theorem usedL_len : ∀ (i : Nat) (cs : List Nat), (usedL i cs).length = cs.length
  | _, [] => rfl
  | i, _ :: cs => by simp [usedL, usedL_len (i + 1) cs]
theorem usedL_snoc (c : Nat) : ∀ (i : Nat) (cs : List Nat), usedL i (cs ++ [c]) = usedL i cs ++ [⟨useV c, .bool true, i + cs.length⟩]
  | i, [] => rfl
  | i, d :: cs => by
    rw [List.cons_append, usedL, usedL_snoc c (i + 1) cs, usedL, List.cons_append]
    rw [show i + 1 + cs.length = i + (d :: cs).length by simp; omega]
theorem usedL_mem : ∀ (i : Nat) (cs : List Nat) (e : MapEntry), e ∈ usedL i cs → ∃ c ∈ cs, e.key = useV c
  | _, [], e, h => by simp [usedL] at h
  | i, d :: cs, e, h => by
    rw [usedL] at h
    rcases List.mem_cons.1 h with rfl | h
    · exact ⟨d, by simp, rfl⟩
    · obtain ⟨c, hc, he⟩ := usedL_mem (i + 1) cs e h
      exact ⟨c, by simp [hc], he⟩
/-- The table's keys are of what was used. -/
def TsOk (ts : List MapEntry) (cs : List Nat) : Prop := ∀ e ∈ ts, ∃ c ∈ cs, ∃ ep s1 s2, e.key = sealV c ep s1 s2
theorem find_use {cs : List Nat} {c : Nat} (hc : c ∉ cs) (w : World) : (Instr.findKey 81 (useV c) (usedL 0 cs)).run Tryd.prog w = .ok none w :=
  run_findKey_none Tryd.underlying81 (fun a b => rfl) _ (fun e he => by
    obtain ⟨c', hc', hk⟩ := usedL_mem 0 cs e he
    rw [hk]
    exact eq_use c c' (fun h => hc (h ▸ hc')) w)
theorem find_seal {ts : List MapEntry} {cs : List Nat} {c : Nat} (ht : TsOk ts cs) (hc : c ∉ cs) (ep : Int) (s1 s2 : ByteArray) (w : World) : (Instr.findKey 83 (sealV c ep s1 s2) ts).run Tryd.prog w = .ok none w :=
  run_findKey_none Tryd.underlying83 (fun a b => rfl) _ (fun e he => by
    obtain ⟨c', hc', ep', t1, t2, hk⟩ := ht e he
    rw [hk]
    exact eq_seal c c' (fun h => hc (h ▸ hc')) ep ep' s1 s2 t1 t2 w)
theorem zero_bool (w : World) : (zeroValue 4).run Tryd.prog w = .ok (.bool false) w := by kernel_rfl
theorem look_use {w : World} {b : Nat} {cs : List Nat} (h : MapAt w b (usedL 0 cs)) {c : Nat} (hc : c ∉ cs) : (Instr.lookup 59 (.map (some b)) (useV c) false).run Tryd.prog w = .ok (.bool false) w :=
  run_lookup_none Tryd.underlying59 h (fun e => ck_use e c w) (find_use hc w) (zero_bool w) false
theorem put_use {w : World} {b : Nat} {cs : List Nat} (h : MapAt w b (usedL 0 cs)) {c : Nat} (hc : c ∉ cs) :
    ∃ w', (Instr.mapUpdate 59 (.map (some b)) (useV c) (.bool true)).run Tryd.prog w = .ok () w' ∧ MapAt w' b (usedL 0 (cs ++ [c])) ∧ Only (· = b) w w' := by
  refine ⟨_, run_update_new Tryd.underlying59 h (fun e => ck_use e c w) (find_use hc w), ?_, only_mapSet _ _ _⟩
  have := h.push ⟨useV c, .bool true, (usedL 0 cs).length⟩
  rw [usedL_snoc, Nat.zero_add]
  rwa [usedL_len] at this ⊢
theorem put_seal {w : World} {b : Nat} {ts : List MapEntry} {cs : List Nat} (h : MapAt w b ts) (ht : TsOk ts cs) {c : Nat} (hc : c ∉ cs) (ep : Int) (s1 s2 : ByteArray) (v : Value) :
    ∃ w' ts', (Instr.mapUpdate 60 (.map (some b)) (sealV c ep s1 s2) v).run Tryd.prog w = .ok () w' ∧ MapAt w' b ts' ∧ TsOk ts' (cs ++ [c]) ∧ Only (· = b) w w' := by
  refine ⟨_, _, run_update_new Tryd.underlying60 h (fun e => ck_seal e c ep s1 s2 w) (find_seal ht hc ep s1 s2 w), h.push _, ?_, only_mapSet _ _ _⟩
  intro e he
  rcases List.mem_append.1 he with he | he
  · obtain ⟨c', hc', hr⟩ := ht e he
    exact ⟨c', by simp [hc'], hr⟩
  · rw [List.mem_singleton] at he
    subst he
    exact ⟨c, by simp, ep, s1, s2, rfl⟩
set_option maxRecDepth 100000 in
set_option maxHeartbeats 2000000 in
theorem vseal_any (c : Nat) (vw vb : Value) (wi b : List UInt8) (w : World) {p bn bu bt : Nat} {K : List UInt8} {ns : List (List UInt8)} {cs : List Nat} {ts : List MapEntry} (h : VaultAt w p K bn bu bt ns (usedL 0 cs) ts) (ht : TsOk ts cs) (hc : c ∉ cs) (hc2 : 1 ≤ c ∧ c ≤ 1000)
    (hcs : cs.length ≤ 1000) (hbw : Bsl w vw wi) (hbb : Bsl w vb b) (hl : wi.length ≤ 100000) (hl2 : b.length ≤ 500) :
    Calls Tryd.prog 19 #[.pointer (some ⟨p, 0, none⟩), .int .i64 1, .int .i64 1, .int .i64 c, vw, vb] w fun e w' => ∃ v ts', e = .returned (.tuple #[v, .int .i64 0]) ∧ Bsl w' v (drawL K 1 (cs.length + 1) (b.length + 8)) ∧ (∀ k, v.ownBlock = some k → w.heap.size ≤ k) ∧ VaultAt w' p K bn bu bt ns (usedL 0 (cs ++ [c])) ts' ∧ TsOk ts' (cs ++ [c]) ∧ Only (fun k => k = bu ∨ k = bt) w w' := by
  have HLT := Lib.hid (And.intro h.1.2.1 (And.intro h.2.2.1.lt (And.intro h.2.2.2.1.lt h.2.2.2.2.lt)))
  obtain ⟨awo, awc, rfl⟩ := hbw.val'
  obtain ⟨abo, abc, rfl⟩ := hbb.val'
  have hrt := vright_any c w hc2
  have hcw : IntKind.i64.wrap ((b.length : Int) + 16) = ((b.length + 16 : Nat) : Int) := by rw [IntKind.wrap_i64]; omega
  have hdr0 := fun (w3 : World) (h : VaultAt w3 p K bn bu bt ns (usedL 0 (cs ++ [c])) ts) => draw_any K p 1 (cs.length + 1) (b.length + 8) w3 h.1.1 h.key h.1.2.1 (by omega) (by omega) (by omega)
  have HDL := Lib.hid (drawL_len K 1 (cs.length + 1) (b.length + 8))
  generalize drawL K 1 (cs.length + 1) (b.length + 8) = D at *
  go_enter Tryd.func19, Tryd.ntmps19
  go_wp2_with fail
  refine hrt.mono ?_
  rintro e w1 ⟨rfl, hB1⟩
  obtain ⟨w2, hw2, hq0, hq1, hB2, hs2⟩ : ∃ w2, w2 = w1.alloc (.cells #[.int .i64 1, .int .i64 (c : Int)] 81) ∧ w2.cell? ⟨w1.heap.size, 0, none⟩ = some (.int .i64 1) ∧ w2.cell? ⟨w1.heap.size, 1, none⟩ = some (.int .i64 (c : Int)) ∧ Below w1.heap.size w1 w2 ∧ w2.heap.size = w1.heap.size + 1 :=
    ⟨_, rfl, by rw [World.cell?_alloc_new]; rfl, by rw [World.cell?_alloc_new]; rfl, (Below.refl _ _).alloc (Nat.le_refl _) _, by simp⟩
  have hB02 := hB1.trans (hB2.mono hB1.size)
  have hV2 := h.keep hB02
  have hbw2 := hbw.keep hB02
  have hbb2 := hbb.keep hB02
  have hq : w.heap.size ≤ w1.heap.size := hB1.size
  have c34 := hV2.cm.2.1
  have hlk := fun n => look_use (w := w2.drewN n) (show MapAt (w2.drewN n) bu (usedL 0 cs) from hV2.2.2.2.1) hc
  unfold useV at hlk
  clear hrt hB1 hB2
  go_wp2_with fail
  rw [← hw2]
  clear hw2
  generalize w1.heap.size = q at *
  go_quiet (fail)
  have hV3 : VaultAt (w2.drewN nq) p K bn bu bt ns (usedL 0 cs) ts := hV2
  have hB03 := below_drewN hB02 nq
  have hbw3 : Bsl (w2.drewN nq) _ wi := hbw2
  have hbb3 : Bsl (w2.drewN nq) _ b := hbb2
  have hq30 : (w2.drewN nq).cell? ⟨q, 0, none⟩ = some (.int .i64 1) := hq0
  have hq31 : (w2.drewN nq).cell? ⟨q, 1, none⟩ = some (.int .i64 (c : Int)) := hq1
  have hs3 : (w2.drewN nq).heap.size = q + 1 := hs2
  clear hlk hV2 hB02 hbw2 hbb2 hq0 hq1 hs2 c34
  generalize w2.drewN nq = w3 at *
  have c34 := hV3.cm.2.1
  go_wp2_with fail
  refine wp_region_quiet_tail_lit 5 (by kernel_rfl) (by kernel_rfl) ?_
  simp only [List.take_succ_cons, List.take_zero, List.drop_succ_cons, List.drop_zero]
  repeat (quiet_step (fail))
  refine wpQuiet_nil ?_
  rintro _ ⟨n4, rfl⟩
  obtain ⟨w4, hup, hM4, hO4⟩ := put_use (w := w3.drewN n4) (show MapAt (w3.drewN n4) bu (usedL 0 cs) from hV3.2.2.2.1) hc
  unfold useV at hup
  have hV4 : VaultAt w4 p K bn bu bt ns (usedL 0 (cs ++ [c])) ts := ⟨⟨hV3.1.1, Nat.lt_of_lt_of_le hV3.1.2.1 hO4.size, hV3.1.2.2⟩, rangeAt_only (w := w3.drewN n4) hV3.2.1 hO4 hV3.1.2.2.2.1, (show MapAt (w3.drewN n4) bn (nameL 0 ns) from hV3.2.2.1).only hO4 hV3.1.2.2.2.2.2.1, hM4, (show MapAt (w3.drewN n4) bt ts from hV3.2.2.2.2).only hO4 (fun e => hV3.1.2.2.2.2.2.2.2 e.symm)⟩
  have hO04 : Only (fun k => k = bu ∨ k = bt) w w4 := (Only.of_below (below_drewN hB03 n4)).trans hO4 (fun i _ e => .inl e)
  have hSm : ∀ k, k = bu → ∃ es, MapAt (w3.drewN n4) k es := fun k e => ⟨usedL 0 cs, by rw [e]; exact hV3.2.2.2.1⟩
  have hq40 := hO4.cells hSm (p := ⟨q, 0, none⟩) hq30
  have hq41 := hO4.cells hSm (p := ⟨q, 1, none⟩) hq31
  have hbw4 := (show Bsl (w3.drewN n4) _ _ from hbw3).maps hO4 hSm
  have hbb4 := (show Bsl (w3.drewN n4) _ _ from hbb3).maps hO4 hSm
  have hs4 : q + 1 ≤ w4.heap.size := by have := hO4.size; rw [← hs3]; exact this
  have hdr := hdr0 w4 hV4
  have hln := fun ty => run_len_map (P := Tryd.prog) Tryd.underlying59 hV4.2.2.2.1 ty
  rw [usedL_len, List.length_append, List.length_singleton] at hln
  have c0 := hV4.c0
  have c44 := hV4.cm.2.1
  have HV4 := Lib.hid (And.intro hV4 hO04)
  clear hM4 hO4 hSm hq30 hq31 hbw3 hbb3 hV3 hB03 hs3 c34 hdr0
  go_wp2_with fail
  refine hdr.mono ?_
  rintro e w5 ⟨v5, rfl, ho5, hB5⟩
  have hV5 := HV4.out.1.keep hB5
  have hO05 := HV4.out.2.trans (Only.of_below (S := fun k => k = bu ∨ k = bt) hB5) (fun i _ e => e)
  have hbw5 := hbw4.keep hB5
  have hbb5 := hbb4.keep hB5
  have hq50 := (hB5.cell (p := ⟨q, 0, none⟩) hs4).trans hq40
  have hq51 := (hB5.cell (p := ⟨q, 1, none⟩) hs4).trans hq41
  have hs5 := hB5.size
  have c35 := hV5.cm.2.2
  obtain ⟨a5, p5, rfl⟩ := ho5.val'
  have hb5 := ho5.bsl
  have hown : ∀ k, (Value.slice a5 D.length p5).ownBlock = some k → w4.heap.size ≤ k := ho5.own_ge
  have hS : ∀ w' : World, Below w5.heap.size w5 w' → w'.cell? ⟨p, 35, none⟩ = some (.map (some bt)) ∧ w'.cell? ⟨q, 0, none⟩ = some (.int .i64 1) ∧ w'.cell? ⟨q, 1, none⟩ = some (.int .i64 (c : Int)) ∧ (convert 27 9 (.slice awo wi.length awc)).run Tryd.prog w' = .ok (.string ⟨wi.toArray⟩) w' ∧ (convert 27 9 (.slice a5 D.length p5)).run Tryd.prog w' = .ok (.string ⟨D.toArray⟩) w' := fun w' hB =>
    ⟨(hB.cell (p := ⟨p, 35, none⟩) hV5.1.2.1).trans c35, (hB.cell (p := ⟨q, 0, none⟩) (by show q < w5.heap.size; omega)).trans hq50, (hB.cell (p := ⟨q, 1, none⟩) (by show q < w5.heap.size; omega)).trans hq51, run_str w' (hbw5.keep hB), run_str w' (hb5.keep hB)⟩
  have hcl := fun w' (hB : Below w5.heap.size w5 w') => bclone_any (.slice abo b.length abc) b w' (hbb5.keep hB) (by omega)
  have HF := Lib.hid (And.intro hV5 (And.intro hO05 (And.intro hb5 hown)))
  have hw4 : w.heap.size ≤ w4.heap.size := by omega
  clear hup hdr hln hB5 HV4 c0 c44 hq40 hq41 hbw4 hbb4 ho5 hV5 hO05 hbw5 hbb5 hq50 hq51 c35 hb5 hown hs5
  go_wp2_with fail
  refine wp_region_E 13 (fun w' => w'.cell? ⟨p, 35, none⟩ = some (.map (some bt)) ∧ w'.cell? ⟨q, 0, none⟩ = some (.int .i64 1) ∧ w'.cell? ⟨q, 1, none⟩ = some (.int .i64 (c : Int)) ∧ (convert 27 9 (.slice awo wi.length awc)).run Tryd.prog w' = .ok (.string ⟨wi.toArray⟩) w' ∧ (convert 27 9 (.slice a5 D.length p5)).run Tryd.prog w' = .ok (.string ⟨D.toArray⟩) w') (by kernel_rfl) ?_
  have hS0 := hS w5.drew (Below.refl _ _).drew
  refine wpAnyE_take (i := 0) (v := ?v_a0) rfl (by kernel_rfl) (by kernel_rfl) (by kernel_rfl) (by kernel_rfl) (by kernel_rfl) (fun _ _ _ h => h) (Or.inl ⟨by kernel_rfl, ?y_a0⟩) (by assumption) ?r_a0
  case y_a0 => intro wE hSw; obtain ⟨q1, q2, q3, q4, q5⟩ := hSw; go_simp; try with_reducible rfl
  case' r_a0 => ((try simp only [Act.put]); (try simp only [List.setIfInBounds_toArray]); (try simp only [List.set_cons_zero, List.set_cons_succ]))
  refine wpAnyE_take (i := 1) (v := ?v_a1) rfl (by kernel_rfl) (by kernel_rfl) (by kernel_rfl) (by kernel_rfl) (by kernel_rfl) (fun _ _ _ h => h) (Or.inl ⟨by kernel_rfl, ?y_a1⟩) (by assumption) ?r_a1
  case y_a1 => intro wE hSw; obtain ⟨q1, q2, q3, q4, q5⟩ := hSw; go_simp; try with_reducible rfl
  case' r_a1 => ((try simp only [Act.put]); (try simp only [List.setIfInBounds_toArray]); (try simp only [List.set_cons_zero, List.set_cons_succ]))
  refine wpAnyE_take (i := 2) (v := ?v_a2) rfl (by kernel_rfl) (by kernel_rfl) (by kernel_rfl) (by kernel_rfl) (by kernel_rfl) (fun _ _ _ h => h) (Or.inl ⟨by kernel_rfl, ?y_a2⟩) (by assumption) ?r_a2
  case y_a2 => intro wE hSw; obtain ⟨q1, q2, q3, q4, q5⟩ := hSw; go_simp; try with_reducible rfl
  case' r_a2 => ((try simp only [Act.put]); (try simp only [List.setIfInBounds_toArray]); (try simp only [List.set_cons_zero, List.set_cons_succ]))
  refine wpAnyE_take (i := 3) (v := ?v_a3) rfl (by kernel_rfl) (by kernel_rfl) (by kernel_rfl) (by kernel_rfl) (by kernel_rfl) (fun _ _ _ h => h) (Or.inl ⟨by kernel_rfl, ?y_a3⟩) (by assumption) ?r_a3
  case y_a3 => intro wE hSw; obtain ⟨q1, q2, q3, q4, q5⟩ := hSw; go_simp; try with_reducible rfl
  case' r_a3 => ((try simp only [Act.put]); (try simp only [List.setIfInBounds_toArray]); (try simp only [List.set_cons_zero, List.set_cons_succ]))
  refine wpAnyE_take (i := 4) (v := ?v_a4) rfl (by kernel_rfl) (by kernel_rfl) (by kernel_rfl) (by kernel_rfl) (by kernel_rfl) (fun _ _ _ h => h) (Or.inl ⟨by kernel_rfl, ?y_a4⟩) (by assumption) ?r_a4
  case y_a4 => intro wE hSw; obtain ⟨q1, q2, q3, q4, q5⟩ := hSw; go_simp; try with_reducible rfl
  case' r_a4 => ((try simp only [Act.put]); (try simp only [List.setIfInBounds_toArray]); (try simp only [List.set_cons_zero, List.set_cons_succ]))
  refine wpAnyE_take (i := 5) (v := ?v_a5) rfl (by kernel_rfl) (by kernel_rfl) (by kernel_rfl) (by kernel_rfl) (by kernel_rfl) (fun _ _ _ h => h) (Or.inl ⟨by kernel_rfl, ?y_a5⟩) (by assumption) ?r_a5
  case y_a5 => intro wE hSw; obtain ⟨q1, q2, q3, q4, q5⟩ := hSw; go_simp; try with_reducible rfl
  case' r_a5 => ((try simp only [Act.put]); (try simp only [List.setIfInBounds_toArray]); (try simp only [List.set_cons_zero, List.set_cons_succ]))
  refine wpAnyE_take (i := 6) (v := ?v_a6) rfl (by kernel_rfl) (by kernel_rfl) (by kernel_rfl) (by kernel_rfl) (by kernel_rfl) (fun _ _ _ h => h) (Or.inl ⟨by kernel_rfl, ?y_a6⟩) (by assumption) ?r_a6
  case y_a6 => intro wE hSw; obtain ⟨q1, q2, q3, q4, q5⟩ := hSw; go_simp; try with_reducible rfl
  case' r_a6 => ((try simp only [Act.put]); (try simp only [List.setIfInBounds_toArray]); (try simp only [List.set_cons_zero, List.set_cons_succ]))
  refine wpAnyE_take (i := 7) (v := ?v_a7) rfl (by kernel_rfl) (by kernel_rfl) (by kernel_rfl) (by kernel_rfl) (by kernel_rfl) (fun _ _ _ h => h) (Or.inl ⟨by kernel_rfl, ?y_a7⟩) (by assumption) ?r_a7
  case y_a7 => intro wE hSw; obtain ⟨q1, q2, q3, q4, q5⟩ := hSw; go_simp; try with_reducible rfl
  case' r_a7 => ((try simp only [Act.put]); (try simp only [List.setIfInBounds_toArray]); (try simp only [List.set_cons_zero, List.set_cons_succ]))
  refine wpAnyE_take (i := 8) (v := ?v_a8) rfl (by kernel_rfl) (by kernel_rfl) (by kernel_rfl) (by kernel_rfl) (by kernel_rfl) (fun _ _ _ h => h) (Or.inl ⟨by kernel_rfl, ?y_a8⟩) (by assumption) ?r_a8
  case y_a8 => intro wE hSw; obtain ⟨q1, q2, q3, q4, q5⟩ := hSw; go_simp; try with_reducible rfl
  case' r_a8 => ((try simp only [Act.put]); (try simp only [List.setIfInBounds_toArray]); (try simp only [List.set_cons_zero, List.set_cons_succ]))
  refine wpAnyE_take (i := 9) (v := ?v_a9) rfl (by kernel_rfl) (by kernel_rfl) (by kernel_rfl) (by kernel_rfl) (by kernel_rfl) (fun _ _ _ h => h) (Or.inl ⟨by kernel_rfl, ?y_a9⟩) (by assumption) ?r_a9
  case y_a9 => intro wE hSw; obtain ⟨q1, q2, q3, q4, q5⟩ := hSw; go_simp; try with_reducible rfl
  case' r_a9 => ((try simp only [Act.put]); (try simp only [List.setIfInBounds_toArray]); (try simp only [List.set_cons_zero, List.set_cons_succ]))
  refine wpAnyE_take (i := 10) (v := ?v_a10) rfl (by kernel_rfl) (by kernel_rfl) (by kernel_rfl) (by kernel_rfl) (by kernel_rfl) (fun _ _ _ h => h) (Or.inl ⟨by kernel_rfl, ?y_a10⟩) (by assumption) ?r_a10
  case y_a10 => intro wE hSw; obtain ⟨q1, q2, q3, q4, q5⟩ := hSw; go_simp; try with_reducible rfl
  case' r_a10 => ((try simp only [Act.put]); (try simp only [List.setIfInBounds_toArray]); (try simp only [List.set_cons_zero, List.set_cons_succ]))
  refine wpAnyE_take (i := 11) (v := ?v_a11) rfl (by kernel_rfl) (by kernel_rfl) (by kernel_rfl) (by kernel_rfl) (by kernel_rfl) (fun _ _ _ h => h) (Or.inl ⟨by kernel_rfl, ?y_a11⟩) (by assumption) ?r_a11
  case y_a11 => intro wE hSw; obtain ⟨q1, q2, q3, q4, q5⟩ := hSw; go_simp; try with_reducible rfl
  case' r_a11 => ((try simp only [Act.put]); (try simp only [List.setIfInBounds_toArray]); (try simp only [List.set_cons_zero, List.set_cons_succ]))
  refine wpAnyE_ready (rs := [12]) (by kernel_rfl) (by simp) ?_
  refine AllReadyE.cons rfl (fun KA hKA => ?_) AllReadyE.nil
  rw [if_pos (by kernel_rfl)]
  go_simp
  refine (hcl w5.drew (Below.refl _ _).drew).mono ?_
  rintro e w6 ⟨v6, rfl, ho6, hB6⟩
  have hB56 : Below w5.heap.size w5 w6 := (Below.refl _ _).drew.trans hB6
  have hS6 := hS w6 hB56
  try go_simp
  refine hKA _ _ (fun _ => hS6) ?_
  clear hKA KA
  have hV6 := HF.out.1.keep hB56
  obtain ⟨w7, ts7, hup, hM7, hT7, hO7⟩ := put_seal hV6.2.2.2.2 ht hc 1 ⟨wi.toArray⟩ ⟨D.toArray⟩ v6
  unfold sealV at hup
  have hSm : ∀ k, k = bt → ∃ es, MapAt w6 k es := fun k e => ⟨ts, by rw [e]; exact hV6.2.2.2.2⟩
  have hV7 : VaultAt w7 p K bn bu bt ns (usedL 0 (cs ++ [c])) ts7 := ⟨⟨hV6.1.1, Nat.lt_of_lt_of_le hV6.1.2.1 hO7.size, hV6.1.2.2⟩, rangeAt_only hV6.2.1 hO7 hV6.1.2.2.2.2.1, hV6.2.2.1.only hO7 hV6.1.2.2.2.2.2.2.1, hV6.2.2.2.1.only hO7 hV6.1.2.2.2.2.2.2.2, hM7⟩
  have hO07 : Only (fun k => k = bu ∨ k = bt) w w7 := (HF.out.2.1.trans (Only.of_below (S := fun k => k = bu ∨ k = bt) hB56) (fun i _ e => e)).trans hO7 (fun i _ e => .inr e)
  have hb7 := (HF.out.2.2.1.keep hB56).maps hO7 hSm
  have hown := HF.out.2.2.2
  have HE := Lib.hid (And.intro hb7 (And.intro (fun k hk => Nat.le_trans hw4 (hown k hk)) (And.intro hV7 (And.intro hT7 hO07))))
  clear hS hS0 hcl HF hV6 hM7 hT7 hO7 hV7 hO07 hb7 hown hB6 hB56 ho6 hSm
  refine wpAnyE_ready (rs := [13]) (by kernel_rfl) (by simp) ?_
  refine AllReadyE.cons rfl (fun KA hKA => ?_) AllReadyE.nil
  rw [if_pos (by kernel_rfl)]
  go_simp
  refine hKA _ _ (fun h => Bool.noConfusion (show true = false from h)) ?_
  clear hKA KA
  refine wpAnyE_done (by kernel_rfl) ?_ _
  go_wp2_with fail
  go_ret2
  exact ⟨_, ts7, rfl, HE.out⟩
end Go.Proofs.YtembfelckbmgiaaDoor
