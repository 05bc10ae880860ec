/- casketlaw22.to. -/
import Derived.Test.YtanghmpphlmpkaaMsgT3
import Derived.Test.YtanghmpphlmpkaaMsgB
import Derived.Lib.ConvBytes
import Derived.Deep.RegionLaw
import Derived.Deep.DeepCutAuto
import Derived.Deep.CutBlock
namespace Go.Proofs.Ytanghmpphlmpkaa
open Go.RowKit
set_option linter.unusedVariables false
theorem conv_bytes (w : World) (l : List UInt8) (hl : l.length ≤ 1000000) : ∃ cap w', (convert 9 30 (.string ⟨l.toArray⟩)).run Try.prog w = .ok (.slice (some ⟨w.heap.size, 0, none⟩) l.length cap) w' ∧ Bsl w' (.slice (some ⟨w.heap.size, 0, none⟩) l.length cap) l ∧ Below w.heap.size w w' ∧ w.heap.size < w'.heap.size := by
  have h := Lib.run_convert_string_bytes (P := Try.prog) w 9 30 5 ⟨l.toArray⟩ Try.underlying9 Try.underlying30 Try.underlying5
  have hsz : (⟨l.toArray⟩ : ByteArray).size = l.length := by simp [ByteArray.size]
  rw [hsz] at h
  refine ⟨_, _, h, ⟨_, _, rfl, grownCap_ge .., ?_, by simp, fun _ => ⟨_, 0, rfl, fun j hj => ?_⟩⟩, ⟨rfl, rfl, rfl, by rw [Lib.bytesWorld_size]; omega, fun k hk => Lib.bytesWorld_at_old w _ _ k hk⟩, by rw [Lib.bytesWorld_size]; omega⟩
  · have h9 := grownCap_le_maxLen w l.length 0 5 (by unfold maxLen; omega)
    unfold maxLen at h9; omega
  · have h9 := Lib.bytesWorld_cell w 5 ⟨l.toArray⟩ j (by rw [hsz]; exact hj)
    rw [Nat.zero_add]
    simpa using h9
theorem conv_fun (l : List UInt8) (hl : l.length ≤ 1000000) : ∃ (cf : World → Nat) (bw : World → World), (∀ w, (convert 9 30 (.string ⟨l.toArray⟩)).run Try.prog w = .ok (.slice (some ⟨w.heap.size, 0, none⟩) l.length (cf w)) (bw w)) ∧
    ∀ w, Bsl (bw w) (.slice (some ⟨w.heap.size, 0, none⟩) l.length (cf w)) l ∧ Below w.heap.size w (bw w) ∧ w.heap.size < (bw w).heap.size :=
  ⟨fun w => (conv_bytes w l hl).choose, fun w => (conv_bytes w l hl).choose_spec.choose, fun w => (conv_bytes w l hl).choose_spec.choose_spec.1, fun w => (conv_bytes w l hl).choose_spec.choose_spec.2⟩
theorem blind_32 (l : List UInt8) (h : l.length = 32) (w : World) : Calls Try.prog 20 #[.string ⟨l.toArray⟩] w fun e w' => e = .returned (.agg (l.map bv).toArray) ∧ Below w.heap.size w w' := by
  have := blind_any l w
  rwa [padK_32 h] at this
def blR (ps : Array (Nat × Value)) : Sem Value := Instr.build 37 ps
theorem blR_eq (ps : Array (Nat × Value)) : Instr.build 37 ps = blR ps := rfl
theorem run_blR (key : List UInt8) (hk : key.length = 32) (w : World) (ao : Option Addr) (n c : Nat) : (blR #[(0, .agg (key.map bv).toArray), (1, .slice ao n c)]).run Try.prog w = .ok (.agg (key.map bv ++ [Value.slice ao n c]).toArray) w := run_build (P := Try.prog) w _ _ _ (builtR key ao n c hk)
theorem run_blM (k f a er hd lv : Int) (R : List Value) (hR : R.length = 33) (w : World) (ao : Option Addr) (n c : Nat) :
    (blM #[(0, .int .i64 k), (1, .int .i64 f), (2, .int .i64 a), (3, .int .i64 er), (4, .int .i64 hd), (5, .int .i64 lv), (6, .agg R.toArray), (7, .slice ao n c)]).run Try.prog w =
    .ok (.agg ([Value.int .i64 k, .int .i64 f, .int .i64 a, .int .i64 er, .int .i64 hd, .int .i64 lv] ++ (R ++ [Value.slice ao n c, Value.slice none 0 0, Value.slice none 0 0])).toArray) w := run_build (P := Try.prog) w _ _ _ (builtM_all k f a er hd lv R ao n c hR)
attribute [local go_sem ↓] alT_M stT_M ldT_M blM_eq blR_eq bsT_32 bsT_R
def mvT (x : FV) (sv av : Value) : MV := ⟨⟨x.m.kind, x.m.frm, x.m.ask, x.m.err, x.m.hold, x.m.level, x.m.row, x.m.ats, [], []⟩, sv, av, .slice none 0 0, .slice none 0 0, []⟩
/-- Behind the first statement of 'to'. -/
def TO1 (x : FV) (w2 wx : World) (v3 : Value) : Prop := ∃ (q : Nat) (av sv : Value), v3 = .pointer (some ⟨q, 0, none⟩) ∧ w2.heap.size ≤ q ∧ q < wx.heap.size ∧ wx.rangeAt q 0 (mvT x sv av).C ∧ wx.there q 0 42 ∧ Bsl wx sv x.m.row.set ∧ Rd wx 1 av (x.m.ats.map intC) ∧
  (∀ k, sv.ownBlock = some k → k ≠ q ∧ k < wx.heap.size ∧ w2.heap.size ≤ k) ∧ (∀ k, av.ownBlock = some k → k ≠ q ∧ k < wx.heap.size ∧ w2.heap.size ≤ k) ∧ Below w2.heap.size w2 wx
/-- The last store of the first statement. -/
theorem to_leaf (x : FV) (w2 Y : World) (q : Nat) (so : Option Addr) (sn sc : Nat) (ao : Option Addr) (an ac : Nat) {A : Array Value} (hA : A = (mvT x (.slice so sn sc) (.slice ao an ac)).C.toArray) (hk : x.m.row.key.length = 32) (htq : Y.there q 0 42) (hb : Bsl Y (.slice so sn sc) x.m.row.set) (hR : Rd Y 1 (.slice ao an ac) (x.m.ats.map intC))
    (h1 : ∀ k, (Value.slice so sn sc).ownBlock = some k → k ≠ q ∧ k < Y.heap.size ∧ w2.heap.size ≤ k) (h2 : ∀ k, (Value.slice ao an ac).ownBlock = some k → k ≠ q ∧ k < Y.heap.size ∧ w2.heap.size ≤ k) (hq : w2.heap.size ≤ q) (hqY : q < Y.heap.size) (hB : Below w2.heap.size w2 Y) :
    (stT 41 (.pointer (some ⟨q, 0, none⟩)) (.agg A)).run Try.prog Y = .ok () (Y.setCells q 0 (mvT x (.slice so sn sc) (.slice ao an ac)).C) ∧ TO1 x w2 (Y.setCells q 0 (mvT x (.slice so sn sc) (.slice ao an ac)).C) (.pointer (some ⟨q, 0, none⟩)) := by
  have hl : (mvT x (.slice so sn sc) (.slice ao an ac)).C.length = 42 := by unfold MV.C; simp [mvT, MV.row, RV.C, hk]
  have ho : ∀ u ∈ (mvT x (.slice so sn sc) (.slice ao an ac)).C, u.oneCell' = true := by
    intro u hu
    unfold MV.C at hu
    rcases List.mem_append.1 hu with hu | hu
    · simp only [List.mem_cons, List.not_mem_nil, or_false] at hu
      rcases hu with rfl | rfl | rfl | rfl | rfl | rfl <;> rfl
    · rcases List.mem_append.1 hu with hu | hu
      · rcases List.mem_append.1 hu with hu | hu
        · exact bv_one _ u hu
        · rw [List.mem_singleton.1 hu]; rfl
      · simp only [List.mem_cons, List.not_mem_nil, or_false] at hu
        rcases hu with rfl | rfl | rfl <;> rfl
  rw [hA]
  have hoo := Only.setCells1 (b := q) (mvT x (.slice so sn sc) (.slice ao an ac)).C 0 Y
  have hsz : (Y.setCells q 0 (mvT x (.slice so sn sc) (.slice ao an ac)).C).heap.size = Y.heap.size := size_setCells ..
  refine ⟨run_stT bigM Y q 0 _ (by rw [hl]; exact htq) (by rw [hl, zM_len]) ho, q, _, _, rfl, hq, by rw [hsz]; exact hqY, World.rangeAt_setCells_same Y q 0 _ (by rw [hl]; exact htq), World.there_setCells htq _ _ _, hb.only hoo (fun k hk => (h1 k hk).1), hR.only hoo (fun k hk => (h2 k hk).1), fun k hk => by rw [hsz]; exact h1 k hk, fun k hk => by rw [hsz]; exact h2 k hk, Go.Proofs.Ytanghmpphlmpkaa.Below.setCells hq _ 0 hB⟩
set_option maxRecDepth 100000 in
set_option maxHeartbeats 8000000 in
theorem to_any (x : FV) (w : World) (hx : x.At w) (hbig : x.m.Big) (hK : x.m.K32) (hnil : ∀ n c, x.av = .slice none n c → c = 0) :
    Calls Try.prog 8 #[.agg x.C.toArray] w fun e w' => ∃ y : MV, e = .returned (.agg y.C.toArray) ∧ y.m = x.m ∧ y.At w' ∧ Below w.heap.size w w' := by
  have HNIL := Lib.hid hnil
  clear hnil
  have hbx : (w.alloc (.cells x.C.toArray 28)).rangeAt w.heap.size 0 x.C := rangeAt_alloc_new _ _ _
  have hA1 : Below w.heap.size w (w.alloc (.cells x.C.toArray 28)) := (Below.refl _ _).alloc (Nat.le_refl _) _
  have hs1 : (w.alloc (.cells x.C.toArray 28)).heap.size = w.heap.size + 1 := by simp
  have hal := fun w => run_alT bigM w
  obtain ⟨hats, hdigs, hrows, hats64, hm64⟩ := id hx
  obtain ⟨ao, ac, hav, haa⟩ := hats.rec
  obtain ⟨do_, dc, hdv, hdd⟩ := hdigs.rec
  obtain ⟨ro, rc, hrv, hrr⟩ := hrows.rec
  have hdn : x.m.digs.length ≤ 1000 := hbig.2.2.2.2.1
  have hrn : x.m.rows.length ≤ 1000 := hbig.2.2.2.2.2.1
  have han : x.m.ats.length ≤ 1000 := hbig.2.2.2.1
  generalize hcx : x.C = cx at *
  have HCX := Lib.hid hcx
  clear hcx hx
  go_enter Try.func8, Try.ntmps8
  go_upto_region 1 with (fail)
  generalize hw1 : w.alloc (.cells cx.toArray 28) = w1 at *
  have hA2 : Below w1.heap.size w1 (w1.alloc (.cells zM.toArray 41)) := (Below.refl _ _).alloc (Nat.le_refl _) _
  have hs2 : (w1.alloc (.cells zM.toArray 41)).heap.size = w.heap.size + 2 := by simp; omega
  have hbx2 := rangeAt_keep hbx hA2
  have ty2 := there_new w1 zM 41
  rw [zM_len, hs1] at ty2
  have hB2 := hA1.trans (hA2.mono hA1.size)
  clear hbx hA1 hA2 hw1
  generalize w1.alloc (.cells zM.toArray 41) = w2 at *
  rw [← HCX.out] at hbx2
  go_cut [3] (fun v3 wx => TO1 x w2 wx v3)
  case first =>
    have c0 : w2.drew.cell? ⟨w.heap.size, 0, none⟩ = some (.int .i64 x.m.kind) := by simpa using hbx2 0 _ rfl
    have c1 : w2.drew.cell? ⟨w.heap.size, 1, none⟩ = some (.int .i64 x.m.frm) := by simpa using hbx2 1 _ rfl
    have c2 : w2.drew.cell? ⟨w.heap.size, 2, none⟩ = some (.int .i64 x.m.ask) := by simpa using hbx2 2 _ rfl
    have c3 : w2.drew.cell? ⟨w.heap.size, 3, none⟩ = some (.int .i64 x.m.err) := by simpa using hbx2 3 _ rfl
    have c4 : w2.drew.cell? ⟨w.heap.size, 4, none⟩ = some (.int .i64 x.m.hold) := by simpa using hbx2 4 _ rfl
    have c5 : w2.drew.cell? ⟨w.heap.size, 5, none⟩ = some (.int .i64 x.m.level) := by simpa using hbx2 5 _ rfl
    have c6 : w2.drew.cell? ⟨w.heap.size, 6, none⟩ = some (.string ⟨x.m.row.key.toArray⟩) := by simpa using hbx2 6 _ rfl
    have c7 : w2.drew.cell? ⟨w.heap.size, 7, none⟩ = some (.string ⟨x.m.row.set.toArray⟩) := by simpa using hbx2 7 _ rfl
    have c8 : w2.drew.cell? ⟨w.heap.size, 8, none⟩ = some (.slice ao x.m.ats.length ac) := by
      have h8 := hbx2 8 x.av rfl
      rw [hav, Nat.zero_add] at h8
      exact h8
    obtain ⟨it, zz, hti, htz, hzc, hsz1, hby⟩ := Try.int_parts
    have hB20 : Below w2.heap.size w2 w2.drew := (Below.refl _ _).drew
    have hatsD := hats.keep (hB2.trans (hB20.mono hB2.size))
    rw [hav] at hatsD
    have hs20 : w2.heap.size ≤ w2.drew.heap.size := Nat.le_refl _
    have hblind := fun w => blind_32 x.m.row.key hK.1 w
    obtain ⟨cf, bw, hconv, hbw⟩ := conv_fun x.m.row.set (by have := hbig.2.2.1; omega)
    have HBW := Lib.hid hbw
    have hk32 : (x.m.row.key.map bv).length = 32 := by rw [List.length_map]; exact hK.1
    obtain ⟨rf, hrf⟩ : ∃ rf : Option Addr → Nat → Nat → Array Value, ∀ ao n c, rf ao n c = (x.m.row.key.map bv ++ [Value.slice ao n c]).toArray := ⟨fun ao n c => (x.m.row.key.map bv ++ [Value.slice ao n c]).toArray, fun _ _ _ => rfl⟩
    have hblR := run_blR x.m.row.key hK.1
    obtain ⟨mf, hmf⟩ : ∃ mf : Option Addr → Nat → Nat → Option Addr → Nat → Nat → Array Value, ∀ ao n c ao2 n2 c2, mf ao n c ao2 n2 c2 = (mvT x (.slice ao n c) (.slice ao2 n2 c2)).C.toArray := ⟨fun ao n c ao2 n2 c2 => (mvT x (.slice ao n c) (.slice ao2 n2 c2)).C.toArray, fun _ _ _ _ _ _ => rfl⟩
    have hblM : ∀ (w : World) (ao : Option Addr) (n c : Nat) (ao2 : Option Addr) (n2 c2 : Nat), (blM #[(0, .int .i64 x.m.kind), (1, .int .i64 x.m.frm), (2, .int .i64 x.m.ask), (3, .int .i64 x.m.err), (4, .int .i64 x.m.hold), (5, .int .i64 x.m.level), (6, .agg (rf ao n c)), (7, .slice ao2 n2 c2)]).run Try.prog w = .ok (.agg (mf ao n c ao2 n2 c2)) w := fun w ao n c ao2 n2 c2 => by
      rw [hrf, hmf]
      exact run_blM x.m.kind x.m.frm x.m.ask x.m.err x.m.hold x.m.level (x.m.row.key.map bv ++ [Value.slice ao n c]) (by rw [List.length_append, hk32]; rfl) w ao2 n2 c2
    have hblR : ∀ (w : World) (ao : Option Addr) (n c : Nat), (blR #[(0, .agg (x.m.row.key.map bv).toArray), (1, .slice ao n c)]).run Try.prog w = .ok (.agg (rf ao n c)) w := fun w ao n c => by rw [hrf]; exact hblR w ao n c
    have HMF := Lib.hid hmf
    clear hrf hmf hbw
    obtain ⟨kb, hkb⟩ : ∃ kb, kb = (x.m.row.key.map bv).toArray := ⟨_, rfl⟩
    rw [← hkb] at hblR
    have hblind : ∀ w, Calls Try.prog 20 #[.string ⟨x.m.row.key.toArray⟩] w fun e w' => e = .returned (.agg kb) ∧ Below w.heap.size w w' := by rw [hkb]; exact hblind
    clear hkb
    refine wp_region_E 27 (fun w' => w'.cell? ⟨w.heap.size, 0, none⟩ = some (.int .i64 x.m.kind) ∧ w'.cell? ⟨w.heap.size, 1, none⟩ = some (.int .i64 x.m.frm) ∧ w'.cell? ⟨w.heap.size, 2, none⟩ = some (.int .i64 x.m.ask) ∧ w'.cell? ⟨w.heap.size, 3, none⟩ = some (.int .i64 x.m.err) ∧ w'.cell? ⟨w.heap.size, 4, none⟩ = some (.int .i64 x.m.hold) ∧ w'.cell? ⟨w.heap.size, 5, none⟩ = some (.int .i64 x.m.level) ∧ w'.cell? ⟨w.heap.size, 6, none⟩ = some (.string ⟨x.m.row.key.toArray⟩) ∧ w'.cell? ⟨w.heap.size, 7, none⟩ = some (.string ⟨x.m.row.set.toArray⟩) ∧ w'.cell? ⟨w.heap.size, 8, none⟩ = some (.slice ao x.m.ats.length ac)) (by kernel_rfl) ?_
    have hS0 := And.intro c0 (And.intro c1 (And.intro c2 (And.intro c3 (And.intro c4 (And.intro c5 (And.intro c6 (And.intro c7 c8)))))))
    generalize w2.drew = y0 at *
    have hlt2 : w.heap.size < y0.heap.size := by omega
    have hSk := Lib.hid (fun (w' : World) (hb : Below y0.heap.size y0 w') => And.intro ((hb.cell (p := ⟨w.heap.size, 0, none⟩) hlt2).trans c0) (And.intro ((hb.cell (p := ⟨w.heap.size, 1, none⟩) hlt2).trans c1) (And.intro ((hb.cell (p := ⟨w.heap.size, 2, none⟩) hlt2).trans c2) (And.intro ((hb.cell (p := ⟨w.heap.size, 3, none⟩) hlt2).trans c3) (And.intro ((hb.cell (p := ⟨w.heap.size, 4, none⟩) hlt2).trans c4) (And.intro ((hb.cell (p := ⟨w.heap.size, 5, none⟩) hlt2).trans c5) (And.intro ((hb.cell (p := ⟨w.heap.size, 6, none⟩) hlt2).trans c6) (And.intro ((hb.cell (p := ⟨w.heap.size, 7, none⟩) hlt2).trans c7) ((hb.cell (p := ⟨w.heap.size, 8, none⟩) hlt2).trans c8)))))))))
    have hsrc := Lib.hid (fun (w' : World) (hb : Below y0.heap.size y0 w') => (hatsD.keep hb).srcI (Nat.le_refl _) (fun h0 => by
      cases hao : ao with
      | some ad => exact .inr ⟨ad, rfl⟩
      | none => exact .inl (by rw [hao] at hav; rw [HNIL.out _ _ hav, h0])))
    have hlm : ([] : List (List Value)).length + ((x.m.ats.take x.m.ats.length).map intC).length ≤ 100000000 := by rw [List.length_map, List.length_take]; simp; omega
    have hC0 : Below y0.heap.size y0 y0 := Below.refl _ _
    clear c0 c1 c2 c3 c4 c5 c6 c7 c8 hatsD hk32 hbx2 hats hdigs hrows haa hdd hrr hdv hrv
    refine wpAnyE_take (i := 0) (v := ?v_a0) rfl (by kernel_rfl) (by kernel_rfl) (by kernel_rfl) (by kernel_rfl) (by kernel_rfl) (fun _ _ _ h => h) (Or.inl ⟨by kernel_rfl, ?y_a0⟩) (by assumption) ?r_a0
    case y_a0 => intro wE hSw; obtain ⟨q0, q1, q2, q3, q4, q5, q6, q7, q8⟩ := hSw; go_simp; try with_reducible rfl
    case' r_a0 => ((try simp only [Act.put]); (try simp only [List.setIfInBounds_toArray]); (try simp only [List.set_cons_zero, List.set_cons_succ]))
    refine wpAnyE_take (i := 1) (v := ?v_a1) rfl (by kernel_rfl) (by kernel_rfl) (by kernel_rfl) (by kernel_rfl) (by kernel_rfl) (fun _ _ _ h => h) (Or.inl ⟨by kernel_rfl, ?y_a1⟩) (by assumption) ?r_a1
    case y_a1 => intro wE hSw; obtain ⟨q0, q1, q2, q3, q4, q5, q6, q7, q8⟩ := hSw; go_simp; try with_reducible rfl
    case' r_a1 => ((try simp only [Act.put]); (try simp only [List.setIfInBounds_toArray]); (try simp only [List.set_cons_zero, List.set_cons_succ]))
    refine wpAnyE_take (i := 2) (v := ?v_a2) rfl (by kernel_rfl) (by kernel_rfl) (by kernel_rfl) (by kernel_rfl) (by kernel_rfl) (fun _ _ _ h => h) (Or.inl ⟨by kernel_rfl, ?y_a2⟩) (by assumption) ?r_a2
    case y_a2 => intro wE hSw; obtain ⟨q0, q1, q2, q3, q4, q5, q6, q7, q8⟩ := hSw; go_simp; try with_reducible rfl
    case' r_a2 => ((try simp only [Act.put]); (try simp only [List.setIfInBounds_toArray]); (try simp only [List.set_cons_zero, List.set_cons_succ]))
    refine wpAnyE_take (i := 3) (v := ?v_a3) rfl (by kernel_rfl) (by kernel_rfl) (by kernel_rfl) (by kernel_rfl) (by kernel_rfl) (fun _ _ _ h => h) (Or.inl ⟨by kernel_rfl, ?y_a3⟩) (by assumption) ?r_a3
    case y_a3 => intro wE hSw; obtain ⟨q0, q1, q2, q3, q4, q5, q6, q7, q8⟩ := hSw; go_simp; try with_reducible rfl
    case' r_a3 => ((try simp only [Act.put]); (try simp only [List.setIfInBounds_toArray]); (try simp only [List.set_cons_zero, List.set_cons_succ]))
    refine wpAnyE_take (i := 4) (v := ?v_a4) rfl (by kernel_rfl) (by kernel_rfl) (by kernel_rfl) (by kernel_rfl) (by kernel_rfl) (fun _ _ _ h => h) (Or.inl ⟨by kernel_rfl, ?y_a4⟩) (by assumption) ?r_a4
    case y_a4 => intro wE hSw; obtain ⟨q0, q1, q2, q3, q4, q5, q6, q7, q8⟩ := hSw; go_simp; try with_reducible rfl
    case' r_a4 => ((try simp only [Act.put]); (try simp only [List.setIfInBounds_toArray]); (try simp only [List.set_cons_zero, List.set_cons_succ]))
    refine wpAnyE_take (i := 5) (v := ?v_a5) rfl (by kernel_rfl) (by kernel_rfl) (by kernel_rfl) (by kernel_rfl) (by kernel_rfl) (fun _ _ _ h => h) (Or.inl ⟨by kernel_rfl, ?y_a5⟩) (by assumption) ?r_a5
    case y_a5 => intro wE hSw; obtain ⟨q0, q1, q2, q3, q4, q5, q6, q7, q8⟩ := hSw; go_simp; try with_reducible rfl
    case' r_a5 => ((try simp only [Act.put]); (try simp only [List.setIfInBounds_toArray]); (try simp only [List.set_cons_zero, List.set_cons_succ]))
    refine wpAnyE_take (i := 6) (v := ?v_a6) rfl (by kernel_rfl) (by kernel_rfl) (by kernel_rfl) (by kernel_rfl) (by kernel_rfl) (fun _ _ _ h => h) (Or.inl ⟨by kernel_rfl, ?y_a6⟩) (by assumption) ?r_a6
    case y_a6 => intro wE hSw; obtain ⟨q0, q1, q2, q3, q4, q5, q6, q7, q8⟩ := hSw; go_simp; try with_reducible rfl
    case' r_a6 => ((try simp only [Act.put]); (try simp only [List.setIfInBounds_toArray]); (try simp only [List.set_cons_zero, List.set_cons_succ]))
    refine wpAnyE_take (i := 7) (v := ?v_a7) rfl (by kernel_rfl) (by kernel_rfl) (by kernel_rfl) (by kernel_rfl) (by kernel_rfl) (fun _ _ _ h => h) (Or.inl ⟨by kernel_rfl, ?y_a7⟩) (by assumption) ?r_a7
    case y_a7 => intro wE hSw; obtain ⟨q0, q1, q2, q3, q4, q5, q6, q7, q8⟩ := hSw; go_simp; try with_reducible rfl
    case' r_a7 => ((try simp only [Act.put]); (try simp only [List.setIfInBounds_toArray]); (try simp only [List.set_cons_zero, List.set_cons_succ]))
    refine wpAnyE_take (i := 8) (v := ?v_a8) rfl (by kernel_rfl) (by kernel_rfl) (by kernel_rfl) (by kernel_rfl) (by kernel_rfl) (fun _ _ _ h => h) (Or.inl ⟨by kernel_rfl, ?y_a8⟩) (by assumption) ?r_a8
    case y_a8 => intro wE hSw; obtain ⟨q0, q1, q2, q3, q4, q5, q6, q7, q8⟩ := hSw; go_simp; try with_reducible rfl
    case' r_a8 => ((try simp only [Act.put]); (try simp only [List.setIfInBounds_toArray]); (try simp only [List.set_cons_zero, List.set_cons_succ]))
    refine wpAnyE_take (i := 9) (v := ?v_a9) rfl (by kernel_rfl) (by kernel_rfl) (by kernel_rfl) (by kernel_rfl) (by kernel_rfl) (fun _ _ _ h => h) (Or.inl ⟨by kernel_rfl, ?y_a9⟩) (by assumption) ?r_a9
    case y_a9 => intro wE hSw; obtain ⟨q0, q1, q2, q3, q4, q5, q6, q7, q8⟩ := hSw; go_simp; try with_reducible rfl
    case' r_a9 => ((try simp only [Act.put]); (try simp only [List.setIfInBounds_toArray]); (try simp only [List.set_cons_zero, List.set_cons_succ]))
    refine wpAnyE_take (i := 10) (v := ?v_a10) rfl (by kernel_rfl) (by kernel_rfl) (by kernel_rfl) (by kernel_rfl) (by kernel_rfl) (fun _ _ _ h => h) (Or.inl ⟨by kernel_rfl, ?y_a10⟩) (by assumption) ?r_a10
    case y_a10 => intro wE hSw; obtain ⟨q0, q1, q2, q3, q4, q5, q6, q7, q8⟩ := hSw; go_simp; try with_reducible rfl
    case' r_a10 => ((try simp only [Act.put]); (try simp only [List.setIfInBounds_toArray]); (try simp only [List.set_cons_zero, List.set_cons_succ]))
    refine wpAnyE_take (i := 11) (v := ?v_a11) rfl (by kernel_rfl) (by kernel_rfl) (by kernel_rfl) (by kernel_rfl) (by kernel_rfl) (fun _ _ _ h => h) (Or.inl ⟨by kernel_rfl, ?y_a11⟩) (by assumption) ?r_a11
    case y_a11 => intro wE hSw; obtain ⟨q0, q1, q2, q3, q4, q5, q6, q7, q8⟩ := hSw; go_simp; try with_reducible rfl
    case' r_a11 => ((try simp only [Act.put]); (try simp only [List.setIfInBounds_toArray]); (try simp only [List.set_cons_zero, List.set_cons_succ]))
    refine wpAnyE_take (i := 12) (v := ?v_a12) rfl (by kernel_rfl) (by kernel_rfl) (by kernel_rfl) (by kernel_rfl) (by kernel_rfl) (fun _ _ _ h => h) (Or.inl ⟨by kernel_rfl, ?y_a12⟩) (by assumption) ?r_a12
    case y_a12 => intro wE hSw; obtain ⟨q0, q1, q2, q3, q4, q5, q6, q7, q8⟩ := hSw; go_simp; try with_reducible rfl
    case' r_a12 => ((try simp only [Act.put]); (try simp only [List.setIfInBounds_toArray]); (try simp only [List.set_cons_zero, List.set_cons_succ]))
    refine wpAnyE_take (i := 13) (v := ?v_a13) rfl (by kernel_rfl) (by kernel_rfl) (by kernel_rfl) (by kernel_rfl) (by kernel_rfl) (fun _ _ _ h => h) (Or.inl ⟨by kernel_rfl, ?y_a13⟩) (by assumption) ?r_a13
    case y_a13 => intro wE hSw; obtain ⟨q0, q1, q2, q3, q4, q5, q6, q7, q8⟩ := hSw; go_simp; try with_reducible rfl
    case' r_a13 => ((try simp only [Act.put]); (try simp only [List.setIfInBounds_toArray]); (try simp only [List.set_cons_zero, List.set_cons_succ]))
    refine wpAnyE_take (i := 14) (v := ?v_a14) rfl (by kernel_rfl) (by kernel_rfl) (by kernel_rfl) (by kernel_rfl) (by kernel_rfl) (fun _ _ _ h => h) (Or.inl ⟨by kernel_rfl, ?y_a14⟩) (by assumption) ?r_a14
    case y_a14 => intro wE hSw; obtain ⟨q0, q1, q2, q3, q4, q5, q6, q7, q8⟩ := hSw; go_simp; try with_reducible rfl
    case' r_a14 => ((try simp only [Act.put]); (try simp only [List.setIfInBounds_toArray]); (try simp only [List.set_cons_zero, List.set_cons_succ]))
    refine wpAnyE_take (i := 16) (v := ?v_a16) rfl (by kernel_rfl) (by kernel_rfl) (by kernel_rfl) (by kernel_rfl) (by kernel_rfl) (fun _ _ _ h => h) (Or.inl ⟨by kernel_rfl, ?y_a16⟩) (by assumption) ?r_a16
    case y_a16 => intro wE hSw; obtain ⟨q0, q1, q2, q3, q4, q5, q6, q7, q8⟩ := hSw; go_simp; try with_reducible rfl
    case' r_a16 => ((try simp only [Act.put]); (try simp only [List.setIfInBounds_toArray]); (try simp only [List.set_cons_zero, List.set_cons_succ]))
    refine wpAnyE_take (i := 17) (v := ?v_a17) rfl (by kernel_rfl) (by kernel_rfl) (by kernel_rfl) (by kernel_rfl) (by kernel_rfl) (fun _ _ _ h => h) (Or.inl ⟨by kernel_rfl, ?y_a17⟩) (by assumption) ?r_a17
    case y_a17 => intro wE hSw; obtain ⟨q0, q1, q2, q3, q4, q5, q6, q7, q8⟩ := hSw; go_simp; try with_reducible rfl
    case' r_a17 => ((try simp only [Act.put]); (try simp only [List.setIfInBounds_toArray]); (try simp only [List.set_cons_zero, List.set_cons_succ]))
    refine wpAnyE_take (i := 18) (v := ?v_a18) rfl (by kernel_rfl) (by kernel_rfl) (by kernel_rfl) (by kernel_rfl) (by kernel_rfl) (fun _ _ _ h => h) (Or.inl ⟨by kernel_rfl, ?y_a18⟩) (by assumption) ?r_a18
    case y_a18 => intro wE hSw; obtain ⟨q0, q1, q2, q3, q4, q5, q6, q7, q8⟩ := hSw; go_simp; try with_reducible rfl
    case' r_a18 => ((try simp only [Act.put]); (try simp only [List.setIfInBounds_toArray]); (try simp only [List.set_cons_zero, List.set_cons_succ]))
    refine wpAnyE_take (i := 22) (v := ?v_a22) rfl (by kernel_rfl) (by kernel_rfl) (by kernel_rfl) (by kernel_rfl) (by kernel_rfl) (fun _ _ _ h => h) (Or.inl ⟨by kernel_rfl, ?y_a22⟩) (by assumption) ?r_a22
    case y_a22 => intro wE hSw; obtain ⟨q0, q1, q2, q3, q4, q5, q6, q7, q8⟩ := hSw; go_simp; try with_reducible rfl
    case' r_a22 => ((try simp only [Act.put]); (try simp only [List.setIfInBounds_toArray]); (try simp only [List.set_cons_zero, List.set_cons_succ]))
    refine wpAnyE_take (i := 23) (v := ?v_a23) rfl (by kernel_rfl) (by kernel_rfl) (by kernel_rfl) (by kernel_rfl) (by kernel_rfl) (fun _ _ _ h => h) (Or.inl ⟨by kernel_rfl, ?y_a23⟩) (by assumption) ?r_a23
    case y_a23 => intro wE hSw; obtain ⟨q0, q1, q2, q3, q4, q5, q6, q7, q8⟩ := hSw; go_simp; try with_reducible rfl
    case' r_a23 => ((try simp only [Act.put]); (try simp only [List.setIfInBounds_toArray]); (try simp only [List.set_cons_zero, List.set_cons_succ]))
    refine wpAnyE_ready (rs := [15, 19, 21, 26]) (by kernel_rfl) (by simp) ?_
    refine (AllReadyE.cons rfl (fun K1 hK1 => ?_) (AllReadyE.cons rfl (fun K2 hK2 => ?_) (AllReadyE.cons rfl (fun K3 hK3 => ?_) (AllReadyE.cons rfl (fun K4 hK4 => ?_) AllReadyE.nil))))
    · rw [if_pos (by kernel_rfl)]
      go_simp
      go_at_call 20
      refine (hblind y0).mono ?_
      rintro e y1 ⟨rfl, hB1⟩
      try go_simp
      have hC1 := hC0.trans (hB1.mono hC0.size)
      have hz1 := hB1.size
      refine hK1 _ _ (fun _ => hSk.out _ hC1) ?_
      clear hK1 K1 hS0
      have hS1 := hSk.out _ hC1
      refine wpAnyE_ready (rs := [19, 21, 26]) (by kernel_rfl) (by simp) ?_
      refine (AllReadyE.cons rfl (fun K5 hK5 => ?_) (AllReadyE.cons rfl (fun K6 hK6 => ?_) (AllReadyE.cons rfl (fun K7 hK7 => ?_) AllReadyE.nil)))
      · rw [if_pos (by kernel_rfl)]
        go_simp
        obtain ⟨hb25, hB2, hz2⟩ := HBW.out y1
        generalize hq2 : cf y1 = c25 at *
        clear hq2
        generalize hq2 : bw y1 = y2 at *
        clear hq2
        have hC2 := hC1.trans (hB2.mono hC1.size)
        refine hK5 _ _ (fun _ => hSk.out _ hC2) ?_
        clear hK5 K5 hS1
        have hS2 := hSk.out _ hC2
        refine wpAnyE_take (i := 20) (v := ?v_p8) rfl (by kernel_rfl) (by kernel_rfl) (by kernel_rfl) (by kernel_rfl) (by kernel_rfl) (fun _ _ _ h => h) (Or.inl ⟨by kernel_rfl, ?y_p8⟩) (by assumption) ?r_p8
        case y_p8 => intro wE hSw; obtain ⟨q0, q1, q2, q3, q4, q5, q6, q7, q8⟩ := hSw; go_simp; try with_reducible rfl
        case' r_p8 => ((try simp only [Act.put]); (try simp only [List.setIfInBounds_toArray]); (try simp only [List.set_cons_zero, List.set_cons_succ]))
        refine wpAnyE_ready (rs := [21, 26]) (by kernel_rfl) (by simp) ?_
        refine (AllReadyE.cons rfl (fun K9 hK9 => ?_) (AllReadyE.cons rfl (fun K10 hK10 => ?_) AllReadyE.nil))
        · rw [if_pos (by kernel_rfl)]
          go_simp
          have hB3 : Below y2.heap.size y2 (y2.alloc (.cells #[] 3)) := (Below.refl _ _).alloc (Nat.le_refl _) _
          have hz3 : y2.heap.size < (y2.alloc (.cells #[] 3)).heap.size := by simp
          have hR27 : RW (y2.alloc (.cells #[] 3)) y0.heap.size 3 1 (.slice (some ⟨y2.heap.size, 0, none⟩) 0 0) [] := ⟨World.ownsRow_made y2 #[] 0 hC2.size (by decide) (by simp), by intro q hq; cases hq⟩
          generalize hq3 : y2.alloc (.cells #[] 3) = y3 at *
          clear hq3
          have hC3 := hC2.trans (hB3.mono hC2.size)
          have hb25 := hb25.keep hB3
          refine hK9 _ _ (fun _ => hSk.out _ hC3) ?_
          clear hK9 K9 hS2
          have hS3 := hSk.out _ hC3
          refine wpAnyE_ready (rs := [24, 26]) (by kernel_rfl) (by simp) ?_
          refine (AllReadyE.cons rfl (fun K11 hK11 => ?_) (AllReadyE.cons rfl (fun K12 hK12 => ?_) AllReadyE.nil))
          · refine step_appsv rfl _ _ 24 rfl it zz Try.underlying24 hti htz hsz1 hby hzc (by omega) hR27 (hsrc.out _ hC3) hlm hC3.size (by rfl) (by rfl) ?_
            intro v30 y4 hR30 hg hown
            rw [List.nil_append, List.take_of_length_le (Nat.le_refl _)] at hR30
            have hC4 := hC3.grown hg hC3.size (fun q hq => hR27.own_ge q hq)
            have hz4 := hg.size
            have hb25 := hb25.only' (Only.of_grown (S := fun k => (Value.slice (some ⟨y2.heap.size, 0, none⟩) 0 0).ownBlock = some k) hg (fun q h => h)) (fun _ k hk e => by have h1 : y1.heap.size = k := Option.some.inj hk; have h2 : y2.heap.size = k := Option.some.inj e; omega)
            have hlt30 := hR30.own_lt
            obtain ⟨ao30, c30, hv30, hz1, hz2, hz3⟩ := hR30.val
            clear hz1 hz2 hz3
            rw [List.length_map] at hv30
            subst hv30
            refine hK11 _ _ (fun _ => hSk.out _ hC4) ?_
            clear hK11 K11 hS3 hg hR27
            have hS4 := hSk.out _ hC4
            ((simp only [Act.put]); (try simp only [List.setIfInBounds_toArray]); (try simp only [List.set_cons_zero, List.set_cons_succ]))
            refine wpAnyE_take (i := 25) (v := ?v_p13) rfl (by kernel_rfl) (by kernel_rfl) (by kernel_rfl) (by kernel_rfl) (by kernel_rfl) (fun _ _ _ h => h) (Or.inl ⟨by kernel_rfl, ?y_p13⟩) (by assumption) ?r_p13
            case y_p13 => intro wE hSw; obtain ⟨q0, q1, q2, q3, q4, q5, q6, q7, q8⟩ := hSw; go_simp; try with_reducible rfl
            case' r_p13 => ((try simp only [Act.put]); (try simp only [List.setIfInBounds_toArray]); (try simp only [List.set_cons_zero, List.set_cons_succ]))
            refine wpAnyE_ready (rs := [26]) (by kernel_rfl) (by simp) ?_
            refine (AllReadyE.cons rfl (fun K14 hK14 => ?_) AllReadyE.nil)
            · rw [if_pos (by kernel_rfl)]
              go_simp
              have hB5 : Below y4.heap.size y4 (y4.alloc (.cells zM.toArray 41)) := (Below.refl _ _).alloc (Nat.le_refl _) _
              have hz5 : y4.heap.size < (y4.alloc (.cells zM.toArray 41)).heap.size := by simp
              have htq := there_new y4 zM 41
              rw [zM_len] at htq
              generalize hq5 : y4.alloc (.cells zM.toArray 41) = y5 at *
              clear hq5
              have hC5 := hC4.trans (hB5.mono hC4.size)
              have hb25 := hb25.keep hB5
              have hR30 := hR30.keep hB5
              refine hK14 _ _ (fun _ => hSk.out _ hC5) ?_
              clear hK14 K14 hS4
              have hS5 := hSk.out _ hC5
              obtain ⟨hst, hT⟩ := to_leaf x w2 y5 y4.heap.size (some ⟨y1.heap.size, 0, none⟩) x.m.row.set.length c25 ao30 x.m.ats.length c30 (HMF.out _ _ _ _ _ _) hK.1 htq hb25 hR30.rd (fun k hk => by have h1 : y1.heap.size = k := Option.some.inj hk; omega) (fun k hk => by have h3 := hlt30 k hk; exact hown.elim (fun e => by have h1 : y2.heap.size = k := Option.some.inj (e.symm.trans hk); omega) (fun e => by have h1 : y3.heap.size = k := Option.some.inj (e.symm.trans hk); omega)) (by omega) (by omega) (hB20.trans (hC5.mono (by omega)))
              refine wpAnyE_ready (rs := [27]) (by kernel_rfl) (by simp) ?_
              refine AllReadyE.cons rfl (fun K15 hK15 => ?_) AllReadyE.nil
              rw [if_pos (by kernel_rfl)]
              go_simp
              refine hK15 _ _ (fun h => Bool.noConfusion (show true = false from h)) ?_
              clear hK15 K15
              refine wpAnyE_done (by kernel_rfl) ?_ _
              have HT := Lib.hid hT
              clear hT hst hb25 hR30 htq hlt30 hown
              go_wp2_with fail
              go_meet
              exact HT.out
          · rw [if_pos (by kernel_rfl)]
            go_simp
            have hB4 : Below y3.heap.size y3 (y3.alloc (.cells zM.toArray 41)) := (Below.refl _ _).alloc (Nat.le_refl _) _
            have hz4 : y3.heap.size < (y3.alloc (.cells zM.toArray 41)).heap.size := by simp
            have htq := there_new y3 zM 41
            rw [zM_len] at htq
            generalize hq4 : y3.alloc (.cells zM.toArray 41) = y4 at *
            clear hq4
            have hC4 := hC3.trans (hB4.mono hC3.size)
            have hb25 := hb25.keep hB4
            have hR27 := hR27.keep hB4
            refine hK12 _ _ (fun _ => hSk.out _ hC4) ?_
            clear hK12 K12 hS3
            have hS4 := hSk.out _ hC4
            refine wpAnyE_ready (rs := [24]) (by kernel_rfl) (by simp) ?_
            refine (AllReadyE.cons rfl (fun K16 hK16 => ?_) AllReadyE.nil)
            · refine step_appsv rfl _ _ 24 rfl it zz Try.underlying24 hti htz hsz1 hby hzc (by omega) hR27 (hsrc.out _ hC4) hlm hC4.size (by rfl) (by rfl) ?_
              intro v30 y5 hR30 hg hown
              rw [List.nil_append, List.take_of_length_le (Nat.le_refl _)] at hR30
              have hC5 := hC4.grown hg hC4.size (fun q hq => hR27.own_ge q hq)
              have hz5 := hg.size
              have hb25 := hb25.only' (Only.of_grown (S := fun k => (Value.slice (some ⟨y2.heap.size, 0, none⟩) 0 0).ownBlock = some k) hg (fun q h => h)) (fun _ k hk e => by have h1 : y1.heap.size = k := Option.some.inj hk; have h2 : y2.heap.size = k := Option.some.inj e; omega)
              have htq := there_only htq (Only.of_grown (S := fun k => (Value.slice (some ⟨y2.heap.size, 0, none⟩) 0 0).ownBlock = some k) hg (fun q h => h)) (fun e => by have h2 : y2.heap.size = y3.heap.size := Option.some.inj e; omega)
              have hlt30 := hR30.own_lt
              obtain ⟨ao30, c30, hv30, hz1, hz2, hz3⟩ := hR30.val
              clear hz1 hz2 hz3
              rw [List.length_map] at hv30
              subst hv30
              refine hK16 _ _ (fun _ => hSk.out _ hC5) ?_
              clear hK16 K16 hS4 hg hR27
              have hS5 := hSk.out _ hC5
              ((simp only [Act.put]); (try simp only [List.setIfInBounds_toArray]); (try simp only [List.set_cons_zero, List.set_cons_succ]))
              refine wpAnyE_take (i := 25) (v := ?v_p17) rfl (by kernel_rfl) (by kernel_rfl) (by kernel_rfl) (by kernel_rfl) (by kernel_rfl) (fun _ _ _ h => h) (Or.inl ⟨by kernel_rfl, ?y_p17⟩) (by assumption) ?r_p17
              case y_p17 => intro wE hSw; obtain ⟨q0, q1, q2, q3, q4, q5, q6, q7, q8⟩ := hSw; go_simp; try with_reducible rfl
              case' r_p17 => ((try simp only [Act.put]); (try simp only [List.setIfInBounds_toArray]); (try simp only [List.set_cons_zero, List.set_cons_succ]))
              obtain ⟨hst, hT⟩ := to_leaf x w2 y5 y3.heap.size (some ⟨y1.heap.size, 0, none⟩) x.m.row.set.length c25 ao30 x.m.ats.length c30 (HMF.out _ _ _ _ _ _) hK.1 htq hb25 hR30.rd (fun k hk => by have h1 : y1.heap.size = k := Option.some.inj hk; omega) (fun k hk => by have h3 := hlt30 k hk; exact hown.elim (fun e => by have h1 : y2.heap.size = k := Option.some.inj (e.symm.trans hk); omega) (fun e => by have h1 : y4.heap.size = k := Option.some.inj (e.symm.trans hk); omega)) (by omega) (by omega) (hB20.trans (hC5.mono (by omega)))
              refine wpAnyE_ready (rs := [27]) (by kernel_rfl) (by simp) ?_
              refine AllReadyE.cons rfl (fun K18 hK18 => ?_) AllReadyE.nil
              rw [if_pos (by kernel_rfl)]
              go_simp
              refine hK18 _ _ (fun h => Bool.noConfusion (show true = false from h)) ?_
              clear hK18 K18
              refine wpAnyE_done (by kernel_rfl) ?_ _
              have HT := Lib.hid hT
              clear hT hst hb25 hR30 htq hlt30 hown
              go_wp2_with fail
              go_meet
              exact HT.out
        · rw [if_pos (by kernel_rfl)]
          go_simp
          have hB3 : Below y2.heap.size y2 (y2.alloc (.cells zM.toArray 41)) := (Below.refl _ _).alloc (Nat.le_refl _) _
          have hz3 : y2.heap.size < (y2.alloc (.cells zM.toArray 41)).heap.size := by simp
          have htq := there_new y2 zM 41
          rw [zM_len] at htq
          generalize hq3 : y2.alloc (.cells zM.toArray 41) = y3 at *
          clear hq3
          have hC3 := hC2.trans (hB3.mono hC2.size)
          have hb25 := hb25.keep hB3
          refine hK10 _ _ (fun _ => hSk.out _ hC3) ?_
          clear hK10 K10 hS2
          have hS3 := hSk.out _ hC3
          refine wpAnyE_ready (rs := [21]) (by kernel_rfl) (by simp) ?_
          refine (AllReadyE.cons rfl (fun K19 hK19 => ?_) AllReadyE.nil)
          · rw [if_pos (by kernel_rfl)]
            go_simp
            have hB4 : Below y3.heap.size y3 (y3.alloc (.cells #[] 3)) := (Below.refl _ _).alloc (Nat.le_refl _) _
            have hz4 : y3.heap.size < (y3.alloc (.cells #[] 3)).heap.size := by simp
            have hR27 : RW (y3.alloc (.cells #[] 3)) y0.heap.size 3 1 (.slice (some ⟨y3.heap.size, 0, none⟩) 0 0) [] := ⟨World.ownsRow_made y3 #[] 0 hC3.size (by decide) (by simp), by intro q hq; cases hq⟩
            generalize hq4 : y3.alloc (.cells #[] 3) = y4 at *
            clear hq4
            have hC4 := hC3.trans (hB4.mono hC3.size)
            have hb25 := hb25.keep hB4
            have htq := there_only htq (Only.of_below (S := fun _ => False) hB4) (fun h => h)
            refine hK19 _ _ (fun _ => hSk.out _ hC4) ?_
            clear hK19 K19 hS3
            have hS4 := hSk.out _ hC4
            refine wpAnyE_ready (rs := [24]) (by kernel_rfl) (by simp) ?_
            refine (AllReadyE.cons rfl (fun K20 hK20 => ?_) AllReadyE.nil)
            · refine step_appsv rfl _ _ 24 rfl it zz Try.underlying24 hti htz hsz1 hby hzc (by omega) hR27 (hsrc.out _ hC4) hlm hC4.size (by rfl) (by rfl) ?_
              intro v30 y5 hR30 hg hown
              rw [List.nil_append, List.take_of_length_le (Nat.le_refl _)] at hR30
              have hC5 := hC4.grown hg hC4.size (fun q hq => hR27.own_ge q hq)
              have hz5 := hg.size
              have hb25 := hb25.only' (Only.of_grown (S := fun k => (Value.slice (some ⟨y3.heap.size, 0, none⟩) 0 0).ownBlock = some k) hg (fun q h => h)) (fun _ k hk e => by have h1 : y1.heap.size = k := Option.some.inj hk; have h2 : y3.heap.size = k := Option.some.inj e; omega)
              have htq := there_only htq (Only.of_grown (S := fun k => (Value.slice (some ⟨y3.heap.size, 0, none⟩) 0 0).ownBlock = some k) hg (fun q h => h)) (fun e => by have h2 : y3.heap.size = y2.heap.size := Option.some.inj e; omega)
              have hlt30 := hR30.own_lt
              obtain ⟨ao30, c30, hv30, hz1, hz2, hz3⟩ := hR30.val
              clear hz1 hz2 hz3
              rw [List.length_map] at hv30
              subst hv30
              refine hK20 _ _ (fun _ => hSk.out _ hC5) ?_
              clear hK20 K20 hS4 hg hR27
              have hS5 := hSk.out _ hC5
              ((simp only [Act.put]); (try simp only [List.setIfInBounds_toArray]); (try simp only [List.set_cons_zero, List.set_cons_succ]))
              refine wpAnyE_take (i := 25) (v := ?v_p21) rfl (by kernel_rfl) (by kernel_rfl) (by kernel_rfl) (by kernel_rfl) (by kernel_rfl) (fun _ _ _ h => h) (Or.inl ⟨by kernel_rfl, ?y_p21⟩) (by assumption) ?r_p21
              case y_p21 => intro wE hSw; obtain ⟨q0, q1, q2, q3, q4, q5, q6, q7, q8⟩ := hSw; go_simp; try with_reducible rfl
              case' r_p21 => ((try simp only [Act.put]); (try simp only [List.setIfInBounds_toArray]); (try simp only [List.set_cons_zero, List.set_cons_succ]))
              obtain ⟨hst, hT⟩ := to_leaf x w2 y5 y2.heap.size (some ⟨y1.heap.size, 0, none⟩) x.m.row.set.length c25 ao30 x.m.ats.length c30 (HMF.out _ _ _ _ _ _) hK.1 htq hb25 hR30.rd (fun k hk => by have h1 : y1.heap.size = k := Option.some.inj hk; omega) (fun k hk => by have h3 := hlt30 k hk; exact hown.elim (fun e => by have h1 : y3.heap.size = k := Option.some.inj (e.symm.trans hk); omega) (fun e => by have h1 : y4.heap.size = k := Option.some.inj (e.symm.trans hk); omega)) (by omega) (by omega) (hB20.trans (hC5.mono (by omega)))
              refine wpAnyE_ready (rs := [27]) (by kernel_rfl) (by simp) ?_
              refine AllReadyE.cons rfl (fun K22 hK22 => ?_) AllReadyE.nil
              rw [if_pos (by kernel_rfl)]
              go_simp
              refine hK22 _ _ (fun h => Bool.noConfusion (show true = false from h)) ?_
              clear hK22 K22
              refine wpAnyE_done (by kernel_rfl) ?_ _
              have HT := Lib.hid hT
              clear hT hst hb25 hR30 htq hlt30 hown
              go_wp2_with fail
              go_meet
              exact HT.out
      · rw [if_pos (by kernel_rfl)]
        go_simp
        have hB2 : Below y1.heap.size y1 (y1.alloc (.cells #[] 3)) := (Below.refl _ _).alloc (Nat.le_refl _) _
        have hz2 : y1.heap.size < (y1.alloc (.cells #[] 3)).heap.size := by simp
        have hR27 : RW (y1.alloc (.cells #[] 3)) y0.heap.size 3 1 (.slice (some ⟨y1.heap.size, 0, none⟩) 0 0) [] := ⟨World.ownsRow_made y1 #[] 0 hC1.size (by decide) (by simp), by intro q hq; cases hq⟩
        generalize hq2 : y1.alloc (.cells #[] 3) = y2 at *
        clear hq2
        have hC2 := hC1.trans (hB2.mono hC1.size)
        refine hK6 _ _ (fun _ => hSk.out _ hC2) ?_
        clear hK6 K6 hS1
        have hS2 := hSk.out _ hC2
        refine wpAnyE_ready (rs := [19, 24, 26]) (by kernel_rfl) (by simp) ?_
        refine (AllReadyE.cons rfl (fun K23 hK23 => ?_) (AllReadyE.cons rfl (fun K24 hK24 => ?_) (AllReadyE.cons rfl (fun K25 hK25 => ?_) AllReadyE.nil)))
        · rw [if_pos (by kernel_rfl)]
          go_simp
          obtain ⟨hb25, hB3, hz3⟩ := HBW.out y2
          generalize hq3 : cf y2 = c25 at *
          clear hq3
          generalize hq3 : bw y2 = y3 at *
          clear hq3
          have hC3 := hC2.trans (hB3.mono hC2.size)
          have hR27 := hR27.keep hB3
          refine hK23 _ _ (fun _ => hSk.out _ hC3) ?_
          clear hK23 K23 hS2
          have hS3 := hSk.out _ hC3
          refine wpAnyE_take (i := 20) (v := ?v_p26) rfl (by kernel_rfl) (by kernel_rfl) (by kernel_rfl) (by kernel_rfl) (by kernel_rfl) (fun _ _ _ h => h) (Or.inl ⟨by kernel_rfl, ?y_p26⟩) (by assumption) ?r_p26
          case y_p26 => intro wE hSw; obtain ⟨q0, q1, q2, q3, q4, q5, q6, q7, q8⟩ := hSw; go_simp; try with_reducible rfl
          case' r_p26 => ((try simp only [Act.put]); (try simp only [List.setIfInBounds_toArray]); (try simp only [List.set_cons_zero, List.set_cons_succ]))
          refine wpAnyE_ready (rs := [24, 26]) (by kernel_rfl) (by simp) ?_
          refine (AllReadyE.cons rfl (fun K27 hK27 => ?_) (AllReadyE.cons rfl (fun K28 hK28 => ?_) AllReadyE.nil))
          · refine step_appsv rfl _ _ 24 rfl it zz Try.underlying24 hti htz hsz1 hby hzc (by omega) hR27 (hsrc.out _ hC3) hlm hC3.size (by rfl) (by rfl) ?_
            intro v30 y4 hR30 hg hown
            rw [List.nil_append, List.take_of_length_le (Nat.le_refl _)] at hR30
            have hC4 := hC3.grown hg hC3.size (fun q hq => hR27.own_ge q hq)
            have hz4 := hg.size
            have hb25 := hb25.only' (Only.of_grown (S := fun k => (Value.slice (some ⟨y1.heap.size, 0, none⟩) 0 0).ownBlock = some k) hg (fun q h => h)) (fun _ k hk e => by have h1 : y2.heap.size = k := Option.some.inj hk; have h2 : y1.heap.size = k := Option.some.inj e; omega)
            have hlt30 := hR30.own_lt
            obtain ⟨ao30, c30, hv30, hz1, hz2, hz3⟩ := hR30.val
            clear hz1 hz2 hz3
            rw [List.length_map] at hv30
            subst hv30
            refine hK27 _ _ (fun _ => hSk.out _ hC4) ?_
            clear hK27 K27 hS3 hg hR27
            have hS4 := hSk.out _ hC4
            ((simp only [Act.put]); (try simp only [List.setIfInBounds_toArray]); (try simp only [List.set_cons_zero, List.set_cons_succ]))
            refine wpAnyE_take (i := 25) (v := ?v_p29) rfl (by kernel_rfl) (by kernel_rfl) (by kernel_rfl) (by kernel_rfl) (by kernel_rfl) (fun _ _ _ h => h) (Or.inl ⟨by kernel_rfl, ?y_p29⟩) (by assumption) ?r_p29
            case y_p29 => intro wE hSw; obtain ⟨q0, q1, q2, q3, q4, q5, q6, q7, q8⟩ := hSw; go_simp; try with_reducible rfl
            case' r_p29 => ((try simp only [Act.put]); (try simp only [List.setIfInBounds_toArray]); (try simp only [List.set_cons_zero, List.set_cons_succ]))
            refine wpAnyE_ready (rs := [26]) (by kernel_rfl) (by simp) ?_
            refine (AllReadyE.cons rfl (fun K30 hK30 => ?_) AllReadyE.nil)
            · rw [if_pos (by kernel_rfl)]
              go_simp
              have hB5 : Below y4.heap.size y4 (y4.alloc (.cells zM.toArray 41)) := (Below.refl _ _).alloc (Nat.le_refl _) _
              have hz5 : y4.heap.size < (y4.alloc (.cells zM.toArray 41)).heap.size := by simp
              have htq := there_new y4 zM 41
              rw [zM_len] at htq
              generalize hq5 : y4.alloc (.cells zM.toArray 41) = y5 at *
              clear hq5
              have hC5 := hC4.trans (hB5.mono hC4.size)
              have hb25 := hb25.keep hB5
              have hR30 := hR30.keep hB5
              refine hK30 _ _ (fun _ => hSk.out _ hC5) ?_
              clear hK30 K30 hS4
              have hS5 := hSk.out _ hC5
              obtain ⟨hst, hT⟩ := to_leaf x w2 y5 y4.heap.size (some ⟨y2.heap.size, 0, none⟩) x.m.row.set.length c25 ao30 x.m.ats.length c30 (HMF.out _ _ _ _ _ _) hK.1 htq hb25 hR30.rd (fun k hk => by have h1 : y2.heap.size = k := Option.some.inj hk; omega) (fun k hk => by have h3 := hlt30 k hk; exact hown.elim (fun e => by have h1 : y1.heap.size = k := Option.some.inj (e.symm.trans hk); omega) (fun e => by have h1 : y3.heap.size = k := Option.some.inj (e.symm.trans hk); omega)) (by omega) (by omega) (hB20.trans (hC5.mono (by omega)))
              refine wpAnyE_ready (rs := [27]) (by kernel_rfl) (by simp) ?_
              refine AllReadyE.cons rfl (fun K31 hK31 => ?_) AllReadyE.nil
              rw [if_pos (by kernel_rfl)]
              go_simp
              refine hK31 _ _ (fun h => Bool.noConfusion (show true = false from h)) ?_
              clear hK31 K31
              refine wpAnyE_done (by kernel_rfl) ?_ _
              have HT := Lib.hid hT
              clear hT hst hb25 hR30 htq hlt30 hown
              go_wp2_with fail
              go_meet
              exact HT.out
          · rw [if_pos (by kernel_rfl)]
            go_simp
            have hB4 : Below y3.heap.size y3 (y3.alloc (.cells zM.toArray 41)) := (Below.refl _ _).alloc (Nat.le_refl _) _
            have hz4 : y3.heap.size < (y3.alloc (.cells zM.toArray 41)).heap.size := by simp
            have htq := there_new y3 zM 41
            rw [zM_len] at htq
            generalize hq4 : y3.alloc (.cells zM.toArray 41) = y4 at *
            clear hq4
            have hC4 := hC3.trans (hB4.mono hC3.size)
            have hb25 := hb25.keep hB4
            have hR27 := hR27.keep hB4
            refine hK28 _ _ (fun _ => hSk.out _ hC4) ?_
            clear hK28 K28 hS3
            have hS4 := hSk.out _ hC4
            refine wpAnyE_ready (rs := [24]) (by kernel_rfl) (by simp) ?_
            refine (AllReadyE.cons rfl (fun K32 hK32 => ?_) AllReadyE.nil)
            · refine step_appsv rfl _ _ 24 rfl it zz Try.underlying24 hti htz hsz1 hby hzc (by omega) hR27 (hsrc.out _ hC4) hlm hC4.size (by rfl) (by rfl) ?_
              intro v30 y5 hR30 hg hown
              rw [List.nil_append, List.take_of_length_le (Nat.le_refl _)] at hR30
              have hC5 := hC4.grown hg hC4.size (fun q hq => hR27.own_ge q hq)
              have hz5 := hg.size
              have hb25 := hb25.only' (Only.of_grown (S := fun k => (Value.slice (some ⟨y1.heap.size, 0, none⟩) 0 0).ownBlock = some k) hg (fun q h => h)) (fun _ k hk e => by have h1 : y2.heap.size = k := Option.some.inj hk; have h2 : y1.heap.size = k := Option.some.inj e; omega)
              have htq := there_only htq (Only.of_grown (S := fun k => (Value.slice (some ⟨y1.heap.size, 0, none⟩) 0 0).ownBlock = some k) hg (fun q h => h)) (fun e => by have h2 : y1.heap.size = y3.heap.size := Option.some.inj e; omega)
              have hlt30 := hR30.own_lt
              obtain ⟨ao30, c30, hv30, hz1, hz2, hz3⟩ := hR30.val
              clear hz1 hz2 hz3
              rw [List.length_map] at hv30
              subst hv30
              refine hK32 _ _ (fun _ => hSk.out _ hC5) ?_
              clear hK32 K32 hS4 hg hR27
              have hS5 := hSk.out _ hC5
              ((simp only [Act.put]); (try simp only [List.setIfInBounds_toArray]); (try simp only [List.set_cons_zero, List.set_cons_succ]))
              refine wpAnyE_take (i := 25) (v := ?v_p33) rfl (by kernel_rfl) (by kernel_rfl) (by kernel_rfl) (by kernel_rfl) (by kernel_rfl) (fun _ _ _ h => h) (Or.inl ⟨by kernel_rfl, ?y_p33⟩) (by assumption) ?r_p33
              case y_p33 => intro wE hSw; obtain ⟨q0, q1, q2, q3, q4, q5, q6, q7, q8⟩ := hSw; go_simp; try with_reducible rfl
              case' r_p33 => ((try simp only [Act.put]); (try simp only [List.setIfInBounds_toArray]); (try simp only [List.set_cons_zero, List.set_cons_succ]))
              obtain ⟨hst, hT⟩ := to_leaf x w2 y5 y3.heap.size (some ⟨y2.heap.size, 0, none⟩) x.m.row.set.length c25 ao30 x.m.ats.length c30 (HMF.out _ _ _ _ _ _) hK.1 htq hb25 hR30.rd (fun k hk => by have h1 : y2.heap.size = k := Option.some.inj hk; omega) (fun k hk => by have h3 := hlt30 k hk; exact hown.elim (fun e => by have h1 : y1.heap.size = k := Option.some.inj (e.symm.trans hk); omega) (fun e => by have h1 : y4.heap.size = k := Option.some.inj (e.symm.trans hk); omega)) (by omega) (by omega) (hB20.trans (hC5.mono (by omega)))
              refine wpAnyE_ready (rs := [27]) (by kernel_rfl) (by simp) ?_
              refine AllReadyE.cons rfl (fun K34 hK34 => ?_) AllReadyE.nil
              rw [if_pos (by kernel_rfl)]
              go_simp
              refine hK34 _ _ (fun h => Bool.noConfusion (show true = false from h)) ?_
              clear hK34 K34
              refine wpAnyE_done (by kernel_rfl) ?_ _
              have HT := Lib.hid hT
              clear hT hst hb25 hR30 htq hlt30 hown
              go_wp2_with fail
              go_meet
              exact HT.out
        · refine step_appsv rfl _ _ 24 rfl it zz Try.underlying24 hti htz hsz1 hby hzc (by omega) hR27 (hsrc.out _ hC2) hlm hC2.size (by rfl) (by rfl) ?_
          intro v30 y3 hR30 hg hown
          rw [List.nil_append, List.take_of_length_le (Nat.le_refl _)] at hR30
          have hC3 := hC2.grown hg hC2.size (fun q hq => hR27.own_ge q hq)
          have hz3 := hg.size
          have hlt30 := hR30.own_lt
          obtain ⟨ao30, c30, hv30, hz1, hz2, hz3⟩ := hR30.val
          clear hz1 hz2 hz3
          rw [List.length_map] at hv30
          subst hv30
          refine hK24 _ _ (fun _ => hSk.out _ hC3) ?_
          clear hK24 K24 hS2 hg hR27
          have hS3 := hSk.out _ hC3
          ((simp only [Act.put]); (try simp only [List.setIfInBounds_toArray]); (try simp only [List.set_cons_zero, List.set_cons_succ]))
          refine wpAnyE_ready (rs := [19, 26]) (by kernel_rfl) (by simp) ?_
          refine (AllReadyE.cons rfl (fun K35 hK35 => ?_) (AllReadyE.cons rfl (fun K36 hK36 => ?_) AllReadyE.nil))
          · rw [if_pos (by kernel_rfl)]
            go_simp
            obtain ⟨hb25, hB4, hz4⟩ := HBW.out y3
            generalize hq4 : cf y3 = c25 at *
            clear hq4
            generalize hq4 : bw y3 = y4 at *
            clear hq4
            have hC4 := hC3.trans (hB4.mono hC3.size)
            have hR30 := hR30.keep hB4
            refine hK35 _ _ (fun _ => hSk.out _ hC4) ?_
            clear hK35 K35 hS3
            have hS4 := hSk.out _ hC4
            refine wpAnyE_take (i := 20) (v := ?v_p37) rfl (by kernel_rfl) (by kernel_rfl) (by kernel_rfl) (by kernel_rfl) (by kernel_rfl) (fun _ _ _ h => h) (Or.inl ⟨by kernel_rfl, ?y_p37⟩) (by assumption) ?r_p37
            case y_p37 => intro wE hSw; obtain ⟨q0, q1, q2, q3, q4, q5, q6, q7, q8⟩ := hSw; go_simp; try with_reducible rfl
            case' r_p37 => ((try simp only [Act.put]); (try simp only [List.setIfInBounds_toArray]); (try simp only [List.set_cons_zero, List.set_cons_succ]))
            refine wpAnyE_take (i := 25) (v := ?v_p38) rfl (by kernel_rfl) (by kernel_rfl) (by kernel_rfl) (by kernel_rfl) (by kernel_rfl) (fun _ _ _ h => h) (Or.inl ⟨by kernel_rfl, ?y_p38⟩) (by assumption) ?r_p38
            case y_p38 => intro wE hSw; obtain ⟨q0, q1, q2, q3, q4, q5, q6, q7, q8⟩ := hSw; go_simp; try with_reducible rfl
            case' r_p38 => ((try simp only [Act.put]); (try simp only [List.setIfInBounds_toArray]); (try simp only [List.set_cons_zero, List.set_cons_succ]))
            refine wpAnyE_ready (rs := [26]) (by kernel_rfl) (by simp) ?_
            refine (AllReadyE.cons rfl (fun K39 hK39 => ?_) AllReadyE.nil)
            · rw [if_pos (by kernel_rfl)]
              go_simp
              have hB5 : Below y4.heap.size y4 (y4.alloc (.cells zM.toArray 41)) := (Below.refl _ _).alloc (Nat.le_refl _) _
              have hz5 : y4.heap.size < (y4.alloc (.cells zM.toArray 41)).heap.size := by simp
              have htq := there_new y4 zM 41
              rw [zM_len] at htq
              generalize hq5 : y4.alloc (.cells zM.toArray 41) = y5 at *
              clear hq5
              have hC5 := hC4.trans (hB5.mono hC4.size)
              have hb25 := hb25.keep hB5
              have hR30 := hR30.keep hB5
              refine hK39 _ _ (fun _ => hSk.out _ hC5) ?_
              clear hK39 K39 hS4
              have hS5 := hSk.out _ hC5
              obtain ⟨hst, hT⟩ := to_leaf x w2 y5 y4.heap.size (some ⟨y3.heap.size, 0, none⟩) x.m.row.set.length c25 ao30 x.m.ats.length c30 (HMF.out _ _ _ _ _ _) hK.1 htq hb25 hR30.rd (fun k hk => by have h1 : y3.heap.size = k := Option.some.inj hk; omega) (fun k hk => by have h3 := hlt30 k hk; exact hown.elim (fun e => by have h1 : y1.heap.size = k := Option.some.inj (e.symm.trans hk); omega) (fun e => by have h1 : y2.heap.size = k := Option.some.inj (e.symm.trans hk); omega)) (by omega) (by omega) (hB20.trans (hC5.mono (by omega)))
              refine wpAnyE_ready (rs := [27]) (by kernel_rfl) (by simp) ?_
              refine AllReadyE.cons rfl (fun K40 hK40 => ?_) AllReadyE.nil
              rw [if_pos (by kernel_rfl)]
              go_simp
              refine hK40 _ _ (fun h => Bool.noConfusion (show true = false from h)) ?_
              clear hK40 K40
              refine wpAnyE_done (by kernel_rfl) ?_ _
              have HT := Lib.hid hT
              clear hT hst hb25 hR30 htq hlt30 hown
              go_wp2_with fail
              go_meet
              exact HT.out
          · rw [if_pos (by kernel_rfl)]
            go_simp
            have hB4 : Below y3.heap.size y3 (y3.alloc (.cells zM.toArray 41)) := (Below.refl _ _).alloc (Nat.le_refl _) _
            have hz4 : y3.heap.size < (y3.alloc (.cells zM.toArray 41)).heap.size := by simp
            have htq := there_new y3 zM 41
            rw [zM_len] at htq
            generalize hq4 : y3.alloc (.cells zM.toArray 41) = y4 at *
            clear hq4
            have hC4 := hC3.trans (hB4.mono hC3.size)
            have hR30 := hR30.keep hB4
            refine hK36 _ _ (fun _ => hSk.out _ hC4) ?_
            clear hK36 K36 hS3
            have hS4 := hSk.out _ hC4
            refine wpAnyE_ready (rs := [19]) (by kernel_rfl) (by simp) ?_
            refine (AllReadyE.cons rfl (fun K41 hK41 => ?_) AllReadyE.nil)
            · rw [if_pos (by kernel_rfl)]
              go_simp
              obtain ⟨hb25, hB5, hz5⟩ := HBW.out y4
              generalize hq5 : cf y4 = c25 at *
              clear hq5
              generalize hq5 : bw y4 = y5 at *
              clear hq5
              have hC5 := hC4.trans (hB5.mono hC4.size)
              have hR30 := hR30.keep hB5
              have htq := there_only htq (Only.of_below (S := fun _ => False) hB5) (fun h => h)
              refine hK41 _ _ (fun _ => hSk.out _ hC5) ?_
              clear hK41 K41 hS4
              have hS5 := hSk.out _ hC5
              refine wpAnyE_take (i := 20) (v := ?v_p42) rfl (by kernel_rfl) (by kernel_rfl) (by kernel_rfl) (by kernel_rfl) (by kernel_rfl) (fun _ _ _ h => h) (Or.inl ⟨by kernel_rfl, ?y_p42⟩) (by assumption) ?r_p42
              case y_p42 => intro wE hSw; obtain ⟨q0, q1, q2, q3, q4, q5, q6, q7, q8⟩ := hSw; go_simp; try with_reducible rfl
              case' r_p42 => ((try simp only [Act.put]); (try simp only [List.setIfInBounds_toArray]); (try simp only [List.set_cons_zero, List.set_cons_succ]))
              refine wpAnyE_take (i := 25) (v := ?v_p43) rfl (by kernel_rfl) (by kernel_rfl) (by kernel_rfl) (by kernel_rfl) (by kernel_rfl) (fun _ _ _ h => h) (Or.inl ⟨by kernel_rfl, ?y_p43⟩) (by assumption) ?r_p43
              case y_p43 => intro wE hSw; obtain ⟨q0, q1, q2, q3, q4, q5, q6, q7, q8⟩ := hSw; go_simp; try with_reducible rfl
              case' r_p43 => ((try simp only [Act.put]); (try simp only [List.setIfInBounds_toArray]); (try simp only [List.set_cons_zero, List.set_cons_succ]))
              obtain ⟨hst, hT⟩ := to_leaf x w2 y5 y3.heap.size (some ⟨y4.heap.size, 0, none⟩) x.m.row.set.length c25 ao30 x.m.ats.length c30 (HMF.out _ _ _ _ _ _) hK.1 htq hb25 hR30.rd (fun k hk => by have h1 : y4.heap.size = k := Option.some.inj hk; omega) (fun k hk => by have h3 := hlt30 k hk; exact hown.elim (fun e => by have h1 : y1.heap.size = k := Option.some.inj (e.symm.trans hk); omega) (fun e => by have h1 : y2.heap.size = k := Option.some.inj (e.symm.trans hk); omega)) (by omega) (by omega) (hB20.trans (hC5.mono (by omega)))
              refine wpAnyE_ready (rs := [27]) (by kernel_rfl) (by simp) ?_
              refine AllReadyE.cons rfl (fun K44 hK44 => ?_) AllReadyE.nil
              rw [if_pos (by kernel_rfl)]
              go_simp
              refine hK44 _ _ (fun h => Bool.noConfusion (show true = false from h)) ?_
              clear hK44 K44
              refine wpAnyE_done (by kernel_rfl) ?_ _
              have HT := Lib.hid hT
              clear hT hst hb25 hR30 htq hlt30 hown
              go_wp2_with fail
              go_meet
              exact HT.out
        · rw [if_pos (by kernel_rfl)]
          go_simp
          have hB3 : Below y2.heap.size y2 (y2.alloc (.cells zM.toArray 41)) := (Below.refl _ _).alloc (Nat.le_refl _) _
          have hz3 : y2.heap.size < (y2.alloc (.cells zM.toArray 41)).heap.size := by simp
          have htq := there_new y2 zM 41
          rw [zM_len] at htq
          generalize hq3 : y2.alloc (.cells zM.toArray 41) = y3 at *
          clear hq3
          have hC3 := hC2.trans (hB3.mono hC2.size)
          have hR27 := hR27.keep hB3
          refine hK25 _ _ (fun _ => hSk.out _ hC3) ?_
          clear hK25 K25 hS2
          have hS3 := hSk.out _ hC3
          refine wpAnyE_ready (rs := [19, 24]) (by kernel_rfl) (by simp) ?_
          refine (AllReadyE.cons rfl (fun K45 hK45 => ?_) (AllReadyE.cons rfl (fun K46 hK46 => ?_) AllReadyE.nil))
          · rw [if_pos (by kernel_rfl)]
            go_simp
            obtain ⟨hb25, hB4, hz4⟩ := HBW.out y3
            generalize hq4 : cf y3 = c25 at *
            clear hq4
            generalize hq4 : bw y3 = y4 at *
            clear hq4
            have hC4 := hC3.trans (hB4.mono hC3.size)
            have hR27 := hR27.keep hB4
            have htq := there_only htq (Only.of_below (S := fun _ => False) hB4) (fun h => h)
            refine hK45 _ _ (fun _ => hSk.out _ hC4) ?_
            clear hK45 K45 hS3
            have hS4 := hSk.out _ hC4
            refine wpAnyE_take (i := 20) (v := ?v_p47) rfl (by kernel_rfl) (by kernel_rfl) (by kernel_rfl) (by kernel_rfl) (by kernel_rfl) (fun _ _ _ h => h) (Or.inl ⟨by kernel_rfl, ?y_p47⟩) (by assumption) ?r_p47
            case y_p47 => intro wE hSw; obtain ⟨q0, q1, q2, q3, q4, q5, q6, q7, q8⟩ := hSw; go_simp; try with_reducible rfl
            case' r_p47 => ((try simp only [Act.put]); (try simp only [List.setIfInBounds_toArray]); (try simp only [List.set_cons_zero, List.set_cons_succ]))
            refine wpAnyE_ready (rs := [24]) (by kernel_rfl) (by simp) ?_
            refine (AllReadyE.cons rfl (fun K48 hK48 => ?_) AllReadyE.nil)
            · refine step_appsv rfl _ _ 24 rfl it zz Try.underlying24 hti htz hsz1 hby hzc (by omega) hR27 (hsrc.out _ hC4) hlm hC4.size (by rfl) (by rfl) ?_
              intro v30 y5 hR30 hg hown
              rw [List.nil_append, List.take_of_length_le (Nat.le_refl _)] at hR30
              have hC5 := hC4.grown hg hC4.size (fun q hq => hR27.own_ge q hq)
              have hz5 := hg.size
              have hb25 := hb25.only' (Only.of_grown (S := fun k => (Value.slice (some ⟨y1.heap.size, 0, none⟩) 0 0).ownBlock = some k) hg (fun q h => h)) (fun _ k hk e => by have h1 : y3.heap.size = k := Option.some.inj hk; have h2 : y1.heap.size = k := Option.some.inj e; omega)
              have htq := there_only htq (Only.of_grown (S := fun k => (Value.slice (some ⟨y1.heap.size, 0, none⟩) 0 0).ownBlock = some k) hg (fun q h => h)) (fun e => by have h2 : y1.heap.size = y2.heap.size := Option.some.inj e; omega)
              have hlt30 := hR30.own_lt
              obtain ⟨ao30, c30, hv30, hz1, hz2, hz3⟩ := hR30.val
              clear hz1 hz2 hz3
              rw [List.length_map] at hv30
              subst hv30
              refine hK48 _ _ (fun _ => hSk.out _ hC5) ?_
              clear hK48 K48 hS4 hg hR27
              have hS5 := hSk.out _ hC5
              ((simp only [Act.put]); (try simp only [List.setIfInBounds_toArray]); (try simp only [List.set_cons_zero, List.set_cons_succ]))
              refine wpAnyE_take (i := 25) (v := ?v_p49) rfl (by kernel_rfl) (by kernel_rfl) (by kernel_rfl) (by kernel_rfl) (by kernel_rfl) (fun _ _ _ h => h) (Or.inl ⟨by kernel_rfl, ?y_p49⟩) (by assumption) ?r_p49
              case y_p49 => intro wE hSw; obtain ⟨q0, q1, q2, q3, q4, q5, q6, q7, q8⟩ := hSw; go_simp; try with_reducible rfl
              case' r_p49 => ((try simp only [Act.put]); (try simp only [List.setIfInBounds_toArray]); (try simp only [List.set_cons_zero, List.set_cons_succ]))
              obtain ⟨hst, hT⟩ := to_leaf x w2 y5 y2.heap.size (some ⟨y3.heap.size, 0, none⟩) x.m.row.set.length c25 ao30 x.m.ats.length c30 (HMF.out _ _ _ _ _ _) hK.1 htq hb25 hR30.rd (fun k hk => by have h1 : y3.heap.size = k := Option.some.inj hk; omega) (fun k hk => by have h3 := hlt30 k hk; exact hown.elim (fun e => by have h1 : y1.heap.size = k := Option.some.inj (e.symm.trans hk); omega) (fun e => by have h1 : y4.heap.size = k := Option.some.inj (e.symm.trans hk); omega)) (by omega) (by omega) (hB20.trans (hC5.mono (by omega)))
              refine wpAnyE_ready (rs := [27]) (by kernel_rfl) (by simp) ?_
              refine AllReadyE.cons rfl (fun K50 hK50 => ?_) AllReadyE.nil
              rw [if_pos (by kernel_rfl)]
              go_simp
              refine hK50 _ _ (fun h => Bool.noConfusion (show true = false from h)) ?_
              clear hK50 K50
              refine wpAnyE_done (by kernel_rfl) ?_ _
              have HT := Lib.hid hT
              clear hT hst hb25 hR30 htq hlt30 hown
              go_wp2_with fail
              go_meet
              exact HT.out
          · refine step_appsv rfl _ _ 24 rfl it zz Try.underlying24 hti htz hsz1 hby hzc (by omega) hR27 (hsrc.out _ hC3) hlm hC3.size (by rfl) (by rfl) ?_
            intro v30 y4 hR30 hg hown
            rw [List.nil_append, List.take_of_length_le (Nat.le_refl _)] at hR30
            have hC4 := hC3.grown hg hC3.size (fun q hq => hR27.own_ge q hq)
            have hz4 := hg.size
            have htq := there_only htq (Only.of_grown (S := fun k => (Value.slice (some ⟨y1.heap.size, 0, none⟩) 0 0).ownBlock = some k) hg (fun q h => h)) (fun e => by have h2 : y1.heap.size = y2.heap.size := Option.some.inj e; omega)
            have hlt30 := hR30.own_lt
            obtain ⟨ao30, c30, hv30, hz1, hz2, hz3⟩ := hR30.val
            clear hz1 hz2 hz3
            rw [List.length_map] at hv30
            subst hv30
            refine hK46 _ _ (fun _ => hSk.out _ hC4) ?_
            clear hK46 K46 hS3 hg hR27
            have hS4 := hSk.out _ hC4
            ((simp only [Act.put]); (try simp only [List.setIfInBounds_toArray]); (try simp only [List.set_cons_zero, List.set_cons_succ]))
            refine wpAnyE_ready (rs := [19]) (by kernel_rfl) (by simp) ?_
            refine (AllReadyE.cons rfl (fun K51 hK51 => ?_) AllReadyE.nil)
            · rw [if_pos (by kernel_rfl)]
              go_simp
              obtain ⟨hb25, hB5, hz5⟩ := HBW.out y4
              generalize hq5 : cf y4 = c25 at *
              clear hq5
              generalize hq5 : bw y4 = y5 at *
              clear hq5
              have hC5 := hC4.trans (hB5.mono hC4.size)
              have hR30 := hR30.keep hB5
              have htq := there_only htq (Only.of_below (S := fun _ => False) hB5) (fun h => h)
              refine hK51 _ _ (fun _ => hSk.out _ hC5) ?_
              clear hK51 K51 hS4
              have hS5 := hSk.out _ hC5
              refine wpAnyE_take (i := 20) (v := ?v_p52) rfl (by kernel_rfl) (by kernel_rfl) (by kernel_rfl) (by kernel_rfl) (by kernel_rfl) (fun _ _ _ h => h) (Or.inl ⟨by kernel_rfl, ?y_p52⟩) (by assumption) ?r_p52
              case y_p52 => intro wE hSw; obtain ⟨q0, q1, q2, q3, q4, q5, q6, q7, q8⟩ := hSw; go_simp; try with_reducible rfl
              case' r_p52 => ((try simp only [Act.put]); (try simp only [List.setIfInBounds_toArray]); (try simp only [List.set_cons_zero, List.set_cons_succ]))
              refine wpAnyE_take (i := 25) (v := ?v_p53) rfl (by kernel_rfl) (by kernel_rfl) (by kernel_rfl) (by kernel_rfl) (by kernel_rfl) (fun _ _ _ h => h) (Or.inl ⟨by kernel_rfl, ?y_p53⟩) (by assumption) ?r_p53
              case y_p53 => intro wE hSw; obtain ⟨q0, q1, q2, q3, q4, q5, q6, q7, q8⟩ := hSw; go_simp; try with_reducible rfl
              case' r_p53 => ((try simp only [Act.put]); (try simp only [List.setIfInBounds_toArray]); (try simp only [List.set_cons_zero, List.set_cons_succ]))
              obtain ⟨hst, hT⟩ := to_leaf x w2 y5 y2.heap.size (some ⟨y4.heap.size, 0, none⟩) x.m.row.set.length c25 ao30 x.m.ats.length c30 (HMF.out _ _ _ _ _ _) hK.1 htq hb25 hR30.rd (fun k hk => by have h1 : y4.heap.size = k := Option.some.inj hk; omega) (fun k hk => by have h3 := hlt30 k hk; exact hown.elim (fun e => by have h1 : y1.heap.size = k := Option.some.inj (e.symm.trans hk); omega) (fun e => by have h1 : y3.heap.size = k := Option.some.inj (e.symm.trans hk); omega)) (by omega) (by omega) (hB20.trans (hC5.mono (by omega)))
              refine wpAnyE_ready (rs := [27]) (by kernel_rfl) (by simp) ?_
              refine AllReadyE.cons rfl (fun K54 hK54 => ?_) AllReadyE.nil
              rw [if_pos (by kernel_rfl)]
              go_simp
              refine hK54 _ _ (fun h => Bool.noConfusion (show true = false from h)) ?_
              clear hK54 K54
              refine wpAnyE_done (by kernel_rfl) ?_ _
              have HT := Lib.hid hT
              clear hT hst hb25 hR30 htq hlt30 hown
              go_wp2_with fail
              go_meet
              exact HT.out
      · rw [if_pos (by kernel_rfl)]
        go_simp
        have hB2 : Below y1.heap.size y1 (y1.alloc (.cells zM.toArray 41)) := (Below.refl _ _).alloc (Nat.le_refl _) _
        have hz2 : y1.heap.size < (y1.alloc (.cells zM.toArray 41)).heap.size := by simp
        have htq := there_new y1 zM 41
        rw [zM_len] at htq
        generalize hq2 : y1.alloc (.cells zM.toArray 41) = y2 at *
        clear hq2
        have hC2 := hC1.trans (hB2.mono hC1.size)
        refine hK7 _ _ (fun _ => hSk.out _ hC2) ?_
        clear hK7 K7 hS1
        have hS2 := hSk.out _ hC2
        refine wpAnyE_ready (rs := [19, 21]) (by kernel_rfl) (by simp) ?_
        refine (AllReadyE.cons rfl (fun K55 hK55 => ?_) (AllReadyE.cons rfl (fun K56 hK56 => ?_) AllReadyE.nil))
        · rw [if_pos (by kernel_rfl)]
          go_simp
          obtain ⟨hb25, hB3, hz3⟩ := HBW.out y2
          generalize hq3 : cf y2 = c25 at *
          clear hq3
          generalize hq3 : bw y2 = y3 at *
          clear hq3
          have hC3 := hC2.trans (hB3.mono hC2.size)
          have htq := there_only htq (Only.of_below (S := fun _ => False) hB3) (fun h => h)
          refine hK55 _ _ (fun _ => hSk.out _ hC3) ?_
          clear hK55 K55 hS2
          have hS3 := hSk.out _ hC3
          refine wpAnyE_take (i := 20) (v := ?v_p57) rfl (by kernel_rfl) (by kernel_rfl) (by kernel_rfl) (by kernel_rfl) (by kernel_rfl) (fun _ _ _ h => h) (Or.inl ⟨by kernel_rfl, ?y_p57⟩) (by assumption) ?r_p57
          case y_p57 => intro wE hSw; obtain ⟨q0, q1, q2, q3, q4, q5, q6, q7, q8⟩ := hSw; go_simp; try with_reducible rfl
          case' r_p57 => ((try simp only [Act.put]); (try simp only [List.setIfInBounds_toArray]); (try simp only [List.set_cons_zero, List.set_cons_succ]))
          refine wpAnyE_ready (rs := [21]) (by kernel_rfl) (by simp) ?_
          refine (AllReadyE.cons rfl (fun K58 hK58 => ?_) AllReadyE.nil)
          · rw [if_pos (by kernel_rfl)]
            go_simp
            have hB4 : Below y3.heap.size y3 (y3.alloc (.cells #[] 3)) := (Below.refl _ _).alloc (Nat.le_refl _) _
            have hz4 : y3.heap.size < (y3.alloc (.cells #[] 3)).heap.size := by simp
            have hR27 : RW (y3.alloc (.cells #[] 3)) y0.heap.size 3 1 (.slice (some ⟨y3.heap.size, 0, none⟩) 0 0) [] := ⟨World.ownsRow_made y3 #[] 0 hC3.size (by decide) (by simp), by intro q hq; cases hq⟩
            generalize hq4 : y3.alloc (.cells #[] 3) = y4 at *
            clear hq4
            have hC4 := hC3.trans (hB4.mono hC3.size)
            have hb25 := hb25.keep hB4
            have htq := there_only htq (Only.of_below (S := fun _ => False) hB4) (fun h => h)
            refine hK58 _ _ (fun _ => hSk.out _ hC4) ?_
            clear hK58 K58 hS3
            have hS4 := hSk.out _ hC4
            refine wpAnyE_ready (rs := [24]) (by kernel_rfl) (by simp) ?_
            refine (AllReadyE.cons rfl (fun K59 hK59 => ?_) AllReadyE.nil)
            · refine step_appsv rfl _ _ 24 rfl it zz Try.underlying24 hti htz hsz1 hby hzc (by omega) hR27 (hsrc.out _ hC4) hlm hC4.size (by rfl) (by rfl) ?_
              intro v30 y5 hR30 hg hown
              rw [List.nil_append, List.take_of_length_le (Nat.le_refl _)] at hR30
              have hC5 := hC4.grown hg hC4.size (fun q hq => hR27.own_ge q hq)
              have hz5 := hg.size
              have hb25 := hb25.only' (Only.of_grown (S := fun k => (Value.slice (some ⟨y3.heap.size, 0, none⟩) 0 0).ownBlock = some k) hg (fun q h => h)) (fun _ k hk e => by have h1 : y2.heap.size = k := Option.some.inj hk; have h2 : y3.heap.size = k := Option.some.inj e; omega)
              have htq := there_only htq (Only.of_grown (S := fun k => (Value.slice (some ⟨y3.heap.size, 0, none⟩) 0 0).ownBlock = some k) hg (fun q h => h)) (fun e => by have h2 : y3.heap.size = y1.heap.size := Option.some.inj e; omega)
              have hlt30 := hR30.own_lt
              obtain ⟨ao30, c30, hv30, hz1, hz2, hz3⟩ := hR30.val
              clear hz1 hz2 hz3
              rw [List.length_map] at hv30
              subst hv30
              refine hK59 _ _ (fun _ => hSk.out _ hC5) ?_
              clear hK59 K59 hS4 hg hR27
              have hS5 := hSk.out _ hC5
              ((simp only [Act.put]); (try simp only [List.setIfInBounds_toArray]); (try simp only [List.set_cons_zero, List.set_cons_succ]))
              refine wpAnyE_take (i := 25) (v := ?v_p60) rfl (by kernel_rfl) (by kernel_rfl) (by kernel_rfl) (by kernel_rfl) (by kernel_rfl) (fun _ _ _ h => h) (Or.inl ⟨by kernel_rfl, ?y_p60⟩) (by assumption) ?r_p60
              case y_p60 => intro wE hSw; obtain ⟨q0, q1, q2, q3, q4, q5, q6, q7, q8⟩ := hSw; go_simp; try with_reducible rfl
              case' r_p60 => ((try simp only [Act.put]); (try simp only [List.setIfInBounds_toArray]); (try simp only [List.set_cons_zero, List.set_cons_succ]))
              obtain ⟨hst, hT⟩ := to_leaf x w2 y5 y1.heap.size (some ⟨y2.heap.size, 0, none⟩) x.m.row.set.length c25 ao30 x.m.ats.length c30 (HMF.out _ _ _ _ _ _) hK.1 htq hb25 hR30.rd (fun k hk => by have h1 : y2.heap.size = k := Option.some.inj hk; omega) (fun k hk => by have h3 := hlt30 k hk; exact hown.elim (fun e => by have h1 : y3.heap.size = k := Option.some.inj (e.symm.trans hk); omega) (fun e => by have h1 : y4.heap.size = k := Option.some.inj (e.symm.trans hk); omega)) (by omega) (by omega) (hB20.trans (hC5.mono (by omega)))
              refine wpAnyE_ready (rs := [27]) (by kernel_rfl) (by simp) ?_
              refine AllReadyE.cons rfl (fun K61 hK61 => ?_) AllReadyE.nil
              rw [if_pos (by kernel_rfl)]
              go_simp
              refine hK61 _ _ (fun h => Bool.noConfusion (show true = false from h)) ?_
              clear hK61 K61
              refine wpAnyE_done (by kernel_rfl) ?_ _
              have HT := Lib.hid hT
              clear hT hst hb25 hR30 htq hlt30 hown
              go_wp2_with fail
              go_meet
              exact HT.out
        · rw [if_pos (by kernel_rfl)]
          go_simp
          have hB3 : Below y2.heap.size y2 (y2.alloc (.cells #[] 3)) := (Below.refl _ _).alloc (Nat.le_refl _) _
          have hz3 : y2.heap.size < (y2.alloc (.cells #[] 3)).heap.size := by simp
          have hR27 : RW (y2.alloc (.cells #[] 3)) y0.heap.size 3 1 (.slice (some ⟨y2.heap.size, 0, none⟩) 0 0) [] := ⟨World.ownsRow_made y2 #[] 0 hC2.size (by decide) (by simp), by intro q hq; cases hq⟩
          generalize hq3 : y2.alloc (.cells #[] 3) = y3 at *
          clear hq3
          have hC3 := hC2.trans (hB3.mono hC2.size)
          have htq := there_only htq (Only.of_below (S := fun _ => False) hB3) (fun h => h)
          refine hK56 _ _ (fun _ => hSk.out _ hC3) ?_
          clear hK56 K56 hS2
          have hS3 := hSk.out _ hC3
          refine wpAnyE_ready (rs := [19, 24]) (by kernel_rfl) (by simp) ?_
          refine (AllReadyE.cons rfl (fun K62 hK62 => ?_) (AllReadyE.cons rfl (fun K63 hK63 => ?_) AllReadyE.nil))
          · rw [if_pos (by kernel_rfl)]
            go_simp
            obtain ⟨hb25, hB4, hz4⟩ := HBW.out y3
            generalize hq4 : cf y3 = c25 at *
            clear hq4
            generalize hq4 : bw y3 = y4 at *
            clear hq4
            have hC4 := hC3.trans (hB4.mono hC3.size)
            have hR27 := hR27.keep hB4
            have htq := there_only htq (Only.of_below (S := fun _ => False) hB4) (fun h => h)
            refine hK62 _ _ (fun _ => hSk.out _ hC4) ?_
            clear hK62 K62 hS3
            have hS4 := hSk.out _ hC4
            refine wpAnyE_take (i := 20) (v := ?v_p64) rfl (by kernel_rfl) (by kernel_rfl) (by kernel_rfl) (by kernel_rfl) (by kernel_rfl) (fun _ _ _ h => h) (Or.inl ⟨by kernel_rfl, ?y_p64⟩) (by assumption) ?r_p64
            case y_p64 => intro wE hSw; obtain ⟨q0, q1, q2, q3, q4, q5, q6, q7, q8⟩ := hSw; go_simp; try with_reducible rfl
            case' r_p64 => ((try simp only [Act.put]); (try simp only [List.setIfInBounds_toArray]); (try simp only [List.set_cons_zero, List.set_cons_succ]))
            refine wpAnyE_ready (rs := [24]) (by kernel_rfl) (by simp) ?_
            refine (AllReadyE.cons rfl (fun K65 hK65 => ?_) AllReadyE.nil)
            · refine step_appsv rfl _ _ 24 rfl it zz Try.underlying24 hti htz hsz1 hby hzc (by omega) hR27 (hsrc.out _ hC4) hlm hC4.size (by rfl) (by rfl) ?_
              intro v30 y5 hR30 hg hown
              rw [List.nil_append, List.take_of_length_le (Nat.le_refl _)] at hR30
              have hC5 := hC4.grown hg hC4.size (fun q hq => hR27.own_ge q hq)
              have hz5 := hg.size
              have hb25 := hb25.only' (Only.of_grown (S := fun k => (Value.slice (some ⟨y2.heap.size, 0, none⟩) 0 0).ownBlock = some k) hg (fun q h => h)) (fun _ k hk e => by have h1 : y3.heap.size = k := Option.some.inj hk; have h2 : y2.heap.size = k := Option.some.inj e; omega)
              have htq := there_only htq (Only.of_grown (S := fun k => (Value.slice (some ⟨y2.heap.size, 0, none⟩) 0 0).ownBlock = some k) hg (fun q h => h)) (fun e => by have h2 : y2.heap.size = y1.heap.size := Option.some.inj e; omega)
              have hlt30 := hR30.own_lt
              obtain ⟨ao30, c30, hv30, hz1, hz2, hz3⟩ := hR30.val
              clear hz1 hz2 hz3
              rw [List.length_map] at hv30
              subst hv30
              refine hK65 _ _ (fun _ => hSk.out _ hC5) ?_
              clear hK65 K65 hS4 hg hR27
              have hS5 := hSk.out _ hC5
              ((simp only [Act.put]); (try simp only [List.setIfInBounds_toArray]); (try simp only [List.set_cons_zero, List.set_cons_succ]))
              refine wpAnyE_take (i := 25) (v := ?v_p66) rfl (by kernel_rfl) (by kernel_rfl) (by kernel_rfl) (by kernel_rfl) (by kernel_rfl) (fun _ _ _ h => h) (Or.inl ⟨by kernel_rfl, ?y_p66⟩) (by assumption) ?r_p66
              case y_p66 => intro wE hSw; obtain ⟨q0, q1, q2, q3, q4, q5, q6, q7, q8⟩ := hSw; go_simp; try with_reducible rfl
              case' r_p66 => ((try simp only [Act.put]); (try simp only [List.setIfInBounds_toArray]); (try simp only [List.set_cons_zero, List.set_cons_succ]))
              obtain ⟨hst, hT⟩ := to_leaf x w2 y5 y1.heap.size (some ⟨y3.heap.size, 0, none⟩) x.m.row.set.length c25 ao30 x.m.ats.length c30 (HMF.out _ _ _ _ _ _) hK.1 htq hb25 hR30.rd (fun k hk => by have h1 : y3.heap.size = k := Option.some.inj hk; omega) (fun k hk => by have h3 := hlt30 k hk; exact hown.elim (fun e => by have h1 : y2.heap.size = k := Option.some.inj (e.symm.trans hk); omega) (fun e => by have h1 : y4.heap.size = k := Option.some.inj (e.symm.trans hk); omega)) (by omega) (by omega) (hB20.trans (hC5.mono (by omega)))
              refine wpAnyE_ready (rs := [27]) (by kernel_rfl) (by simp) ?_
              refine AllReadyE.cons rfl (fun K67 hK67 => ?_) AllReadyE.nil
              rw [if_pos (by kernel_rfl)]
              go_simp
              refine hK67 _ _ (fun h => Bool.noConfusion (show true = false from h)) ?_
              clear hK67 K67
              refine wpAnyE_done (by kernel_rfl) ?_ _
              have HT := Lib.hid hT
              clear hT hst hb25 hR30 htq hlt30 hown
              go_wp2_with fail
              go_meet
              exact HT.out
          · refine step_appsv rfl _ _ 24 rfl it zz Try.underlying24 hti htz hsz1 hby hzc (by omega) hR27 (hsrc.out _ hC3) hlm hC3.size (by rfl) (by rfl) ?_
            intro v30 y4 hR30 hg hown
            rw [List.nil_append, List.take_of_length_le (Nat.le_refl _)] at hR30
            have hC4 := hC3.grown hg hC3.size (fun q hq => hR27.own_ge q hq)
            have hz4 := hg.size
            have htq := there_only htq (Only.of_grown (S := fun k => (Value.slice (some ⟨y2.heap.size, 0, none⟩) 0 0).ownBlock = some k) hg (fun q h => h)) (fun e => by have h2 : y2.heap.size = y1.heap.size := Option.some.inj e; omega)
            have hlt30 := hR30.own_lt
            obtain ⟨ao30, c30, hv30, hz1, hz2, hz3⟩ := hR30.val
            clear hz1 hz2 hz3
            rw [List.length_map] at hv30
            subst hv30
            refine hK63 _ _ (fun _ => hSk.out _ hC4) ?_
            clear hK63 K63 hS3 hg hR27
            have hS4 := hSk.out _ hC4
            ((simp only [Act.put]); (try simp only [List.setIfInBounds_toArray]); (try simp only [List.set_cons_zero, List.set_cons_succ]))
            refine wpAnyE_ready (rs := [19]) (by kernel_rfl) (by simp) ?_
            refine (AllReadyE.cons rfl (fun K68 hK68 => ?_) AllReadyE.nil)
            · rw [if_pos (by kernel_rfl)]
              go_simp
              obtain ⟨hb25, hB5, hz5⟩ := HBW.out y4
              generalize hq5 : cf y4 = c25 at *
              clear hq5
              generalize hq5 : bw y4 = y5 at *
              clear hq5
              have hC5 := hC4.trans (hB5.mono hC4.size)
              have hR30 := hR30.keep hB5
              have htq := there_only htq (Only.of_below (S := fun _ => False) hB5) (fun h => h)
              refine hK68 _ _ (fun _ => hSk.out _ hC5) ?_
              clear hK68 K68 hS4
              have hS5 := hSk.out _ hC5
              refine wpAnyE_take (i := 20) (v := ?v_p69) rfl (by kernel_rfl) (by kernel_rfl) (by kernel_rfl) (by kernel_rfl) (by kernel_rfl) (fun _ _ _ h => h) (Or.inl ⟨by kernel_rfl, ?y_p69⟩) (by assumption) ?r_p69
              case y_p69 => intro wE hSw; obtain ⟨q0, q1, q2, q3, q4, q5, q6, q7, q8⟩ := hSw; go_simp; try with_reducible rfl
              case' r_p69 => ((try simp only [Act.put]); (try simp only [List.setIfInBounds_toArray]); (try simp only [List.set_cons_zero, List.set_cons_succ]))
              refine wpAnyE_take (i := 25) (v := ?v_p70) rfl (by kernel_rfl) (by kernel_rfl) (by kernel_rfl) (by kernel_rfl) (by kernel_rfl) (fun _ _ _ h => h) (Or.inl ⟨by kernel_rfl, ?y_p70⟩) (by assumption) ?r_p70
              case y_p70 => intro wE hSw; obtain ⟨q0, q1, q2, q3, q4, q5, q6, q7, q8⟩ := hSw; go_simp; try with_reducible rfl
              case' r_p70 => ((try simp only [Act.put]); (try simp only [List.setIfInBounds_toArray]); (try simp only [List.set_cons_zero, List.set_cons_succ]))
              obtain ⟨hst, hT⟩ := to_leaf x w2 y5 y1.heap.size (some ⟨y4.heap.size, 0, none⟩) x.m.row.set.length c25 ao30 x.m.ats.length c30 (HMF.out _ _ _ _ _ _) hK.1 htq hb25 hR30.rd (fun k hk => by have h1 : y4.heap.size = k := Option.some.inj hk; omega) (fun k hk => by have h3 := hlt30 k hk; exact hown.elim (fun e => by have h1 : y2.heap.size = k := Option.some.inj (e.symm.trans hk); omega) (fun e => by have h1 : y3.heap.size = k := Option.some.inj (e.symm.trans hk); omega)) (by omega) (by omega) (hB20.trans (hC5.mono (by omega)))
              refine wpAnyE_ready (rs := [27]) (by kernel_rfl) (by simp) ?_
              refine AllReadyE.cons rfl (fun K71 hK71 => ?_) AllReadyE.nil
              rw [if_pos (by kernel_rfl)]
              go_simp
              refine hK71 _ _ (fun h => Bool.noConfusion (show true = false from h)) ?_
              clear hK71 K71
              refine wpAnyE_done (by kernel_rfl) ?_ _
              have HT := Lib.hid hT
              clear hT hst hb25 hR30 htq hlt30 hown
              go_wp2_with fail
              go_meet
              exact HT.out
    · rw [if_pos (by kernel_rfl)]
      go_simp
      obtain ⟨hb25, hB1, hz1⟩ := HBW.out y0
      generalize hq1 : cf y0 = c25 at *
      clear hq1
      generalize hq1 : bw y0 = y1 at *
      clear hq1
      have hC1 := hC0.trans (hB1.mono hC0.size)
      refine hK2 _ _ (fun _ => hSk.out _ hC1) ?_
      clear hK2 K2 hS0
      have hS1 := hSk.out _ hC1
      refine wpAnyE_ready (rs := [15, 21, 26]) (by kernel_rfl) (by simp) ?_
      refine (AllReadyE.cons rfl (fun K72 hK72 => ?_) (AllReadyE.cons rfl (fun K73 hK73 => ?_) (AllReadyE.cons rfl (fun K74 hK74 => ?_) AllReadyE.nil)))
      · rw [if_pos (by kernel_rfl)]
        go_simp
        go_at_call 20
        refine (hblind y1).mono ?_
        rintro e y2 ⟨rfl, hB2⟩
        try go_simp
        have hC2 := hC1.trans (hB2.mono hC1.size)
        have hz2 := hB2.size
        have hb25 := hb25.keep hB2
        refine hK72 _ _ (fun _ => hSk.out _ hC2) ?_
        clear hK72 K72 hS1
        have hS2 := hSk.out _ hC2
        refine wpAnyE_take (i := 20) (v := ?v_p75) rfl (by kernel_rfl) (by kernel_rfl) (by kernel_rfl) (by kernel_rfl) (by kernel_rfl) (fun _ _ _ h => h) (Or.inl ⟨by kernel_rfl, ?y_p75⟩) (by assumption) ?r_p75
        case y_p75 => intro wE hSw; obtain ⟨q0, q1, q2, q3, q4, q5, q6, q7, q8⟩ := hSw; go_simp; try with_reducible rfl
        case' r_p75 => ((try simp only [Act.put]); (try simp only [List.setIfInBounds_toArray]); (try simp only [List.set_cons_zero, List.set_cons_succ]))
        refine wpAnyE_ready (rs := [21, 26]) (by kernel_rfl) (by simp) ?_
        refine (AllReadyE.cons rfl (fun K76 hK76 => ?_) (AllReadyE.cons rfl (fun K77 hK77 => ?_) AllReadyE.nil))
        · rw [if_pos (by kernel_rfl)]
          go_simp
          have hB3 : Below y2.heap.size y2 (y2.alloc (.cells #[] 3)) := (Below.refl _ _).alloc (Nat.le_refl _) _
          have hz3 : y2.heap.size < (y2.alloc (.cells #[] 3)).heap.size := by simp
          have hR27 : RW (y2.alloc (.cells #[] 3)) y0.heap.size 3 1 (.slice (some ⟨y2.heap.size, 0, none⟩) 0 0) [] := ⟨World.ownsRow_made y2 #[] 0 hC2.size (by decide) (by simp), by intro q hq; cases hq⟩
          generalize hq3 : y2.alloc (.cells #[] 3) = y3 at *
          clear hq3
          have hC3 := hC2.trans (hB3.mono hC2.size)
          have hb25 := hb25.keep hB3
          refine hK76 _ _ (fun _ => hSk.out _ hC3) ?_
          clear hK76 K76 hS2
          have hS3 := hSk.out _ hC3
          refine wpAnyE_ready (rs := [24, 26]) (by kernel_rfl) (by simp) ?_
          refine (AllReadyE.cons rfl (fun K78 hK78 => ?_) (AllReadyE.cons rfl (fun K79 hK79 => ?_) AllReadyE.nil))
          · refine step_appsv rfl _ _ 24 rfl it zz Try.underlying24 hti htz hsz1 hby hzc (by omega) hR27 (hsrc.out _ hC3) hlm hC3.size (by rfl) (by rfl) ?_
            intro v30 y4 hR30 hg hown
            rw [List.nil_append, List.take_of_length_le (Nat.le_refl _)] at hR30
            have hC4 := hC3.grown hg hC3.size (fun q hq => hR27.own_ge q hq)
            have hz4 := hg.size
            have hb25 := hb25.only' (Only.of_grown (S := fun k => (Value.slice (some ⟨y2.heap.size, 0, none⟩) 0 0).ownBlock = some k) hg (fun q h => h)) (fun _ k hk e => by have h1 : y0.heap.size = k := Option.some.inj hk; have h2 : y2.heap.size = k := Option.some.inj e; omega)
            have hlt30 := hR30.own_lt
            obtain ⟨ao30, c30, hv30, hz1, hz2, hz3⟩ := hR30.val
            clear hz1 hz2 hz3
            rw [List.length_map] at hv30
            subst hv30
            refine hK78 _ _ (fun _ => hSk.out _ hC4) ?_
            clear hK78 K78 hS3 hg hR27
            have hS4 := hSk.out _ hC4
            ((simp only [Act.put]); (try simp only [List.setIfInBounds_toArray]); (try simp only [List.set_cons_zero, List.set_cons_succ]))
            refine wpAnyE_take (i := 25) (v := ?v_p80) rfl (by kernel_rfl) (by kernel_rfl) (by kernel_rfl) (by kernel_rfl) (by kernel_rfl) (fun _ _ _ h => h) (Or.inl ⟨by kernel_rfl, ?y_p80⟩) (by assumption) ?r_p80
            case y_p80 => intro wE hSw; obtain ⟨q0, q1, q2, q3, q4, q5, q6, q7, q8⟩ := hSw; go_simp; try with_reducible rfl
            case' r_p80 => ((try simp only [Act.put]); (try simp only [List.setIfInBounds_toArray]); (try simp only [List.set_cons_zero, List.set_cons_succ]))
            refine wpAnyE_ready (rs := [26]) (by kernel_rfl) (by simp) ?_
            refine (AllReadyE.cons rfl (fun K81 hK81 => ?_) AllReadyE.nil)
            · rw [if_pos (by kernel_rfl)]
              go_simp
              have hB5 : Below y4.heap.size y4 (y4.alloc (.cells zM.toArray 41)) := (Below.refl _ _).alloc (Nat.le_refl _) _
              have hz5 : y4.heap.size < (y4.alloc (.cells zM.toArray 41)).heap.size := by simp
              have htq := there_new y4 zM 41
              rw [zM_len] at htq
              generalize hq5 : y4.alloc (.cells zM.toArray 41) = y5 at *
              clear hq5
              have hC5 := hC4.trans (hB5.mono hC4.size)
              have hb25 := hb25.keep hB5
              have hR30 := hR30.keep hB5
              refine hK81 _ _ (fun _ => hSk.out _ hC5) ?_
              clear hK81 K81 hS4
              have hS5 := hSk.out _ hC5
              obtain ⟨hst, hT⟩ := to_leaf x w2 y5 y4.heap.size (some ⟨y0.heap.size, 0, none⟩) x.m.row.set.length c25 ao30 x.m.ats.length c30 (HMF.out _ _ _ _ _ _) hK.1 htq hb25 hR30.rd (fun k hk => by have h1 : y0.heap.size = k := Option.some.inj hk; omega) (fun k hk => by have h3 := hlt30 k hk; exact hown.elim (fun e => by have h1 : y2.heap.size = k := Option.some.inj (e.symm.trans hk); omega) (fun e => by have h1 : y3.heap.size = k := Option.some.inj (e.symm.trans hk); omega)) (by omega) (by omega) (hB20.trans (hC5.mono (by omega)))
              refine wpAnyE_ready (rs := [27]) (by kernel_rfl) (by simp) ?_
              refine AllReadyE.cons rfl (fun K82 hK82 => ?_) AllReadyE.nil
              rw [if_pos (by kernel_rfl)]
              go_simp
              refine hK82 _ _ (fun h => Bool.noConfusion (show true = false from h)) ?_
              clear hK82 K82
              refine wpAnyE_done (by kernel_rfl) ?_ _
              have HT := Lib.hid hT
              clear hT hst hb25 hR30 htq hlt30 hown
              go_wp2_with fail
              go_meet
              exact HT.out
          · rw [if_pos (by kernel_rfl)]
            go_simp
            have hB4 : Below y3.heap.size y3 (y3.alloc (.cells zM.toArray 41)) := (Below.refl _ _).alloc (Nat.le_refl _) _
            have hz4 : y3.heap.size < (y3.alloc (.cells zM.toArray 41)).heap.size := by simp
            have htq := there_new y3 zM 41
            rw [zM_len] at htq
            generalize hq4 : y3.alloc (.cells zM.toArray 41) = y4 at *
            clear hq4
            have hC4 := hC3.trans (hB4.mono hC3.size)
            have hb25 := hb25.keep hB4
            have hR27 := hR27.keep hB4
            refine hK79 _ _ (fun _ => hSk.out _ hC4) ?_
            clear hK79 K79 hS3
            have hS4 := hSk.out _ hC4
            refine wpAnyE_ready (rs := [24]) (by kernel_rfl) (by simp) ?_
            refine (AllReadyE.cons rfl (fun K83 hK83 => ?_) AllReadyE.nil)
            · refine step_appsv rfl _ _ 24 rfl it zz Try.underlying24 hti htz hsz1 hby hzc (by omega) hR27 (hsrc.out _ hC4) hlm hC4.size (by rfl) (by rfl) ?_
              intro v30 y5 hR30 hg hown
              rw [List.nil_append, List.take_of_length_le (Nat.le_refl _)] at hR30
              have hC5 := hC4.grown hg hC4.size (fun q hq => hR27.own_ge q hq)
              have hz5 := hg.size
              have hb25 := hb25.only' (Only.of_grown (S := fun k => (Value.slice (some ⟨y2.heap.size, 0, none⟩) 0 0).ownBlock = some k) hg (fun q h => h)) (fun _ k hk e => by have h1 : y0.heap.size = k := Option.some.inj hk; have h2 : y2.heap.size = k := Option.some.inj e; omega)
              have htq := there_only htq (Only.of_grown (S := fun k => (Value.slice (some ⟨y2.heap.size, 0, none⟩) 0 0).ownBlock = some k) hg (fun q h => h)) (fun e => by have h2 : y2.heap.size = y3.heap.size := Option.some.inj e; omega)
              have hlt30 := hR30.own_lt
              obtain ⟨ao30, c30, hv30, hz1, hz2, hz3⟩ := hR30.val
              clear hz1 hz2 hz3
              rw [List.length_map] at hv30
              subst hv30
              refine hK83 _ _ (fun _ => hSk.out _ hC5) ?_
              clear hK83 K83 hS4 hg hR27
              have hS5 := hSk.out _ hC5
              ((simp only [Act.put]); (try simp only [List.setIfInBounds_toArray]); (try simp only [List.set_cons_zero, List.set_cons_succ]))
              refine wpAnyE_take (i := 25) (v := ?v_p84) rfl (by kernel_rfl) (by kernel_rfl) (by kernel_rfl) (by kernel_rfl) (by kernel_rfl) (fun _ _ _ h => h) (Or.inl ⟨by kernel_rfl, ?y_p84⟩) (by assumption) ?r_p84
              case y_p84 => intro wE hSw; obtain ⟨q0, q1, q2, q3, q4, q5, q6, q7, q8⟩ := hSw; go_simp; try with_reducible rfl
              case' r_p84 => ((try simp only [Act.put]); (try simp only [List.setIfInBounds_toArray]); (try simp only [List.set_cons_zero, List.set_cons_succ]))
              obtain ⟨hst, hT⟩ := to_leaf x w2 y5 y3.heap.size (some ⟨y0.heap.size, 0, none⟩) x.m.row.set.length c25 ao30 x.m.ats.length c30 (HMF.out _ _ _ _ _ _) hK.1 htq hb25 hR30.rd (fun k hk => by have h1 : y0.heap.size = k := Option.some.inj hk; omega) (fun k hk => by have h3 := hlt30 k hk; exact hown.elim (fun e => by have h1 : y2.heap.size = k := Option.some.inj (e.symm.trans hk); omega) (fun e => by have h1 : y4.heap.size = k := Option.some.inj (e.symm.trans hk); omega)) (by omega) (by omega) (hB20.trans (hC5.mono (by omega)))
              refine wpAnyE_ready (rs := [27]) (by kernel_rfl) (by simp) ?_
              refine AllReadyE.cons rfl (fun K85 hK85 => ?_) AllReadyE.nil
              rw [if_pos (by kernel_rfl)]
              go_simp
              refine hK85 _ _ (fun h => Bool.noConfusion (show true = false from h)) ?_
              clear hK85 K85
              refine wpAnyE_done (by kernel_rfl) ?_ _
              have HT := Lib.hid hT
              clear hT hst hb25 hR30 htq hlt30 hown
              go_wp2_with fail
              go_meet
              exact HT.out
        · rw [if_pos (by kernel_rfl)]
          go_simp
          have hB3 : Below y2.heap.size y2 (y2.alloc (.cells zM.toArray 41)) := (Below.refl _ _).alloc (Nat.le_refl _) _
          have hz3 : y2.heap.size < (y2.alloc (.cells zM.toArray 41)).heap.size := by simp
          have htq := there_new y2 zM 41
          rw [zM_len] at htq
          generalize hq3 : y2.alloc (.cells zM.toArray 41) = y3 at *
          clear hq3
          have hC3 := hC2.trans (hB3.mono hC2.size)
          have hb25 := hb25.keep hB3
          refine hK77 _ _ (fun _ => hSk.out _ hC3) ?_
          clear hK77 K77 hS2
          have hS3 := hSk.out _ hC3
          refine wpAnyE_ready (rs := [21]) (by kernel_rfl) (by simp) ?_
          refine (AllReadyE.cons rfl (fun K86 hK86 => ?_) AllReadyE.nil)
          · rw [if_pos (by kernel_rfl)]
            go_simp
            have hB4 : Below y3.heap.size y3 (y3.alloc (.cells #[] 3)) := (Below.refl _ _).alloc (Nat.le_refl _) _
            have hz4 : y3.heap.size < (y3.alloc (.cells #[] 3)).heap.size := by simp
            have hR27 : RW (y3.alloc (.cells #[] 3)) y0.heap.size 3 1 (.slice (some ⟨y3.heap.size, 0, none⟩) 0 0) [] := ⟨World.ownsRow_made y3 #[] 0 hC3.size (by decide) (by simp), by intro q hq; cases hq⟩
            generalize hq4 : y3.alloc (.cells #[] 3) = y4 at *
            clear hq4
            have hC4 := hC3.trans (hB4.mono hC3.size)
            have hb25 := hb25.keep hB4
            have htq := there_only htq (Only.of_below (S := fun _ => False) hB4) (fun h => h)
            refine hK86 _ _ (fun _ => hSk.out _ hC4) ?_
            clear hK86 K86 hS3
            have hS4 := hSk.out _ hC4
            refine wpAnyE_ready (rs := [24]) (by kernel_rfl) (by simp) ?_
            refine (AllReadyE.cons rfl (fun K87 hK87 => ?_) AllReadyE.nil)
            · refine step_appsv rfl _ _ 24 rfl it zz Try.underlying24 hti htz hsz1 hby hzc (by omega) hR27 (hsrc.out _ hC4) hlm hC4.size (by rfl) (by rfl) ?_
              intro v30 y5 hR30 hg hown
              rw [List.nil_append, List.take_of_length_le (Nat.le_refl _)] at hR30
              have hC5 := hC4.grown hg hC4.size (fun q hq => hR27.own_ge q hq)
              have hz5 := hg.size
              have hb25 := hb25.only' (Only.of_grown (S := fun k => (Value.slice (some ⟨y3.heap.size, 0, none⟩) 0 0).ownBlock = some k) hg (fun q h => h)) (fun _ k hk e => by have h1 : y0.heap.size = k := Option.some.inj hk; have h2 : y3.heap.size = k := Option.some.inj e; omega)
              have htq := there_only htq (Only.of_grown (S := fun k => (Value.slice (some ⟨y3.heap.size, 0, none⟩) 0 0).ownBlock = some k) hg (fun q h => h)) (fun e => by have h2 : y3.heap.size = y2.heap.size := Option.some.inj e; omega)
              have hlt30 := hR30.own_lt
              obtain ⟨ao30, c30, hv30, hz1, hz2, hz3⟩ := hR30.val
              clear hz1 hz2 hz3
              rw [List.length_map] at hv30
              subst hv30
              refine hK87 _ _ (fun _ => hSk.out _ hC5) ?_
              clear hK87 K87 hS4 hg hR27
              have hS5 := hSk.out _ hC5
              ((simp only [Act.put]); (try simp only [List.setIfInBounds_toArray]); (try simp only [List.set_cons_zero, List.set_cons_succ]))
              refine wpAnyE_take (i := 25) (v := ?v_p88) rfl (by kernel_rfl) (by kernel_rfl) (by kernel_rfl) (by kernel_rfl) (by kernel_rfl) (fun _ _ _ h => h) (Or.inl ⟨by kernel_rfl, ?y_p88⟩) (by assumption) ?r_p88
              case y_p88 => intro wE hSw; obtain ⟨q0, q1, q2, q3, q4, q5, q6, q7, q8⟩ := hSw; go_simp; try with_reducible rfl
              case' r_p88 => ((try simp only [Act.put]); (try simp only [List.setIfInBounds_toArray]); (try simp only [List.set_cons_zero, List.set_cons_succ]))
              obtain ⟨hst, hT⟩ := to_leaf x w2 y5 y2.heap.size (some ⟨y0.heap.size, 0, none⟩) x.m.row.set.length c25 ao30 x.m.ats.length c30 (HMF.out _ _ _ _ _ _) hK.1 htq hb25 hR30.rd (fun k hk => by have h1 : y0.heap.size = k := Option.some.inj hk; omega) (fun k hk => by have h3 := hlt30 k hk; exact hown.elim (fun e => by have h1 : y3.heap.size = k := Option.some.inj (e.symm.trans hk); omega) (fun e => by have h1 : y4.heap.size = k := Option.some.inj (e.symm.trans hk); omega)) (by omega) (by omega) (hB20.trans (hC5.mono (by omega)))
              refine wpAnyE_ready (rs := [27]) (by kernel_rfl) (by simp) ?_
              refine AllReadyE.cons rfl (fun K89 hK89 => ?_) AllReadyE.nil
              rw [if_pos (by kernel_rfl)]
              go_simp
              refine hK89 _ _ (fun h => Bool.noConfusion (show true = false from h)) ?_
              clear hK89 K89
              refine wpAnyE_done (by kernel_rfl) ?_ _
              have HT := Lib.hid hT
              clear hT hst hb25 hR30 htq hlt30 hown
              go_wp2_with fail
              go_meet
              exact HT.out
      · rw [if_pos (by kernel_rfl)]
        go_simp
        have hB2 : Below y1.heap.size y1 (y1.alloc (.cells #[] 3)) := (Below.refl _ _).alloc (Nat.le_refl _) _
        have hz2 : y1.heap.size < (y1.alloc (.cells #[] 3)).heap.size := by simp
        have hR27 : RW (y1.alloc (.cells #[] 3)) y0.heap.size 3 1 (.slice (some ⟨y1.heap.size, 0, none⟩) 0 0) [] := ⟨World.ownsRow_made y1 #[] 0 hC1.size (by decide) (by simp), by intro q hq; cases hq⟩
        generalize hq2 : y1.alloc (.cells #[] 3) = y2 at *
        clear hq2
        have hC2 := hC1.trans (hB2.mono hC1.size)
        have hb25 := hb25.keep hB2
        refine hK73 _ _ (fun _ => hSk.out _ hC2) ?_
        clear hK73 K73 hS1
        have hS2 := hSk.out _ hC2
        refine wpAnyE_ready (rs := [15, 26]) (by kernel_rfl) (by simp) ?_
        refine (AllReadyE.cons rfl (fun K90 hK90 => ?_) (AllReadyE.cons rfl (fun K91 hK91 => ?_) AllReadyE.nil))
        · rw [if_pos (by kernel_rfl)]
          go_simp
          go_at_call 20
          refine (hblind y2).mono ?_
          rintro e y3 ⟨rfl, hB3⟩
          try go_simp
          have hC3 := hC2.trans (hB3.mono hC2.size)
          have hz3 := hB3.size
          have hb25 := hb25.keep hB3
          have hR27 := hR27.keep hB3
          refine hK90 _ _ (fun _ => hSk.out _ hC3) ?_
          clear hK90 K90 hS2
          have hS3 := hSk.out _ hC3
          refine wpAnyE_take (i := 20) (v := ?v_p92) rfl (by kernel_rfl) (by kernel_rfl) (by kernel_rfl) (by kernel_rfl) (by kernel_rfl) (fun _ _ _ h => h) (Or.inl ⟨by kernel_rfl, ?y_p92⟩) (by assumption) ?r_p92
          case y_p92 => intro wE hSw; obtain ⟨q0, q1, q2, q3, q4, q5, q6, q7, q8⟩ := hSw; go_simp; try with_reducible rfl
          case' r_p92 => ((try simp only [Act.put]); (try simp only [List.setIfInBounds_toArray]); (try simp only [List.set_cons_zero, List.set_cons_succ]))
          refine wpAnyE_ready (rs := [24, 26]) (by kernel_rfl) (by simp) ?_
          refine (AllReadyE.cons rfl (fun K93 hK93 => ?_) (AllReadyE.cons rfl (fun K94 hK94 => ?_) AllReadyE.nil))
          · refine step_appsv rfl _ _ 24 rfl it zz Try.underlying24 hti htz hsz1 hby hzc (by omega) hR27 (hsrc.out _ hC3) hlm hC3.size (by rfl) (by rfl) ?_
            intro v30 y4 hR30 hg hown
            rw [List.nil_append, List.take_of_length_le (Nat.le_refl _)] at hR30
            have hC4 := hC3.grown hg hC3.size (fun q hq => hR27.own_ge q hq)
            have hz4 := hg.size
            have hb25 := hb25.only' (Only.of_grown (S := fun k => (Value.slice (some ⟨y1.heap.size, 0, none⟩) 0 0).ownBlock = some k) hg (fun q h => h)) (fun _ k hk e => by have h1 : y0.heap.size = k := Option.some.inj hk; have h2 : y1.heap.size = k := Option.some.inj e; omega)
            have hlt30 := hR30.own_lt
            obtain ⟨ao30, c30, hv30, hz1, hz2, hz3⟩ := hR30.val
            clear hz1 hz2 hz3
            rw [List.length_map] at hv30
            subst hv30
            refine hK93 _ _ (fun _ => hSk.out _ hC4) ?_
            clear hK93 K93 hS3 hg hR27
            have hS4 := hSk.out _ hC4
            ((simp only [Act.put]); (try simp only [List.setIfInBounds_toArray]); (try simp only [List.set_cons_zero, List.set_cons_succ]))
            refine wpAnyE_take (i := 25) (v := ?v_p95) rfl (by kernel_rfl) (by kernel_rfl) (by kernel_rfl) (by kernel_rfl) (by kernel_rfl) (fun _ _ _ h => h) (Or.inl ⟨by kernel_rfl, ?y_p95⟩) (by assumption) ?r_p95
            case y_p95 => intro wE hSw; obtain ⟨q0, q1, q2, q3, q4, q5, q6, q7, q8⟩ := hSw; go_simp; try with_reducible rfl
            case' r_p95 => ((try simp only [Act.put]); (try simp only [List.setIfInBounds_toArray]); (try simp only [List.set_cons_zero, List.set_cons_succ]))
            refine wpAnyE_ready (rs := [26]) (by kernel_rfl) (by simp) ?_
            refine (AllReadyE.cons rfl (fun K96 hK96 => ?_) AllReadyE.nil)
            · rw [if_pos (by kernel_rfl)]
              go_simp
              have hB5 : Below y4.heap.size y4 (y4.alloc (.cells zM.toArray 41)) := (Below.refl _ _).alloc (Nat.le_refl _) _
              have hz5 : y4.heap.size < (y4.alloc (.cells zM.toArray 41)).heap.size := by simp
              have htq := there_new y4 zM 41
              rw [zM_len] at htq
              generalize hq5 : y4.alloc (.cells zM.toArray 41) = y5 at *
              clear hq5
              have hC5 := hC4.trans (hB5.mono hC4.size)
              have hb25 := hb25.keep hB5
              have hR30 := hR30.keep hB5
              refine hK96 _ _ (fun _ => hSk.out _ hC5) ?_
              clear hK96 K96 hS4
              have hS5 := hSk.out _ hC5
              obtain ⟨hst, hT⟩ := to_leaf x w2 y5 y4.heap.size (some ⟨y0.heap.size, 0, none⟩) x.m.row.set.length c25 ao30 x.m.ats.length c30 (HMF.out _ _ _ _ _ _) hK.1 htq hb25 hR30.rd (fun k hk => by have h1 : y0.heap.size = k := Option.some.inj hk; omega) (fun k hk => by have h3 := hlt30 k hk; exact hown.elim (fun e => by have h1 : y1.heap.size = k := Option.some.inj (e.symm.trans hk); omega) (fun e => by have h1 : y3.heap.size = k := Option.some.inj (e.symm.trans hk); omega)) (by omega) (by omega) (hB20.trans (hC5.mono (by omega)))
              refine wpAnyE_ready (rs := [27]) (by kernel_rfl) (by simp) ?_
              refine AllReadyE.cons rfl (fun K97 hK97 => ?_) AllReadyE.nil
              rw [if_pos (by kernel_rfl)]
              go_simp
              refine hK97 _ _ (fun h => Bool.noConfusion (show true = false from h)) ?_
              clear hK97 K97
              refine wpAnyE_done (by kernel_rfl) ?_ _
              have HT := Lib.hid hT
              clear hT hst hb25 hR30 htq hlt30 hown
              go_wp2_with fail
              go_meet
              exact HT.out
          · rw [if_pos (by kernel_rfl)]
            go_simp
            have hB4 : Below y3.heap.size y3 (y3.alloc (.cells zM.toArray 41)) := (Below.refl _ _).alloc (Nat.le_refl _) _
            have hz4 : y3.heap.size < (y3.alloc (.cells zM.toArray 41)).heap.size := by simp
            have htq := there_new y3 zM 41
            rw [zM_len] at htq
            generalize hq4 : y3.alloc (.cells zM.toArray 41) = y4 at *
            clear hq4
            have hC4 := hC3.trans (hB4.mono hC3.size)
            have hb25 := hb25.keep hB4
            have hR27 := hR27.keep hB4
            refine hK94 _ _ (fun _ => hSk.out _ hC4) ?_
            clear hK94 K94 hS3
            have hS4 := hSk.out _ hC4
            refine wpAnyE_ready (rs := [24]) (by kernel_rfl) (by simp) ?_
            refine (AllReadyE.cons rfl (fun K98 hK98 => ?_) AllReadyE.nil)
            · refine step_appsv rfl _ _ 24 rfl it zz Try.underlying24 hti htz hsz1 hby hzc (by omega) hR27 (hsrc.out _ hC4) hlm hC4.size (by rfl) (by rfl) ?_
              intro v30 y5 hR30 hg hown
              rw [List.nil_append, List.take_of_length_le (Nat.le_refl _)] at hR30
              have hC5 := hC4.grown hg hC4.size (fun q hq => hR27.own_ge q hq)
              have hz5 := hg.size
              have hb25 := hb25.only' (Only.of_grown (S := fun k => (Value.slice (some ⟨y1.heap.size, 0, none⟩) 0 0).ownBlock = some k) hg (fun q h => h)) (fun _ k hk e => by have h1 : y0.heap.size = k := Option.some.inj hk; have h2 : y1.heap.size = k := Option.some.inj e; omega)
              have htq := there_only htq (Only.of_grown (S := fun k => (Value.slice (some ⟨y1.heap.size, 0, none⟩) 0 0).ownBlock = some k) hg (fun q h => h)) (fun e => by have h2 : y1.heap.size = y3.heap.size := Option.some.inj e; omega)
              have hlt30 := hR30.own_lt
              obtain ⟨ao30, c30, hv30, hz1, hz2, hz3⟩ := hR30.val
              clear hz1 hz2 hz3
              rw [List.length_map] at hv30
              subst hv30
              refine hK98 _ _ (fun _ => hSk.out _ hC5) ?_
              clear hK98 K98 hS4 hg hR27
              have hS5 := hSk.out _ hC5
              ((simp only [Act.put]); (try simp only [List.setIfInBounds_toArray]); (try simp only [List.set_cons_zero, List.set_cons_succ]))
              refine wpAnyE_take (i := 25) (v := ?v_p99) rfl (by kernel_rfl) (by kernel_rfl) (by kernel_rfl) (by kernel_rfl) (by kernel_rfl) (fun _ _ _ h => h) (Or.inl ⟨by kernel_rfl, ?y_p99⟩) (by assumption) ?r_p99
              case y_p99 => intro wE hSw; obtain ⟨q0, q1, q2, q3, q4, q5, q6, q7, q8⟩ := hSw; go_simp; try with_reducible rfl
              case' r_p99 => ((try simp only [Act.put]); (try simp only [List.setIfInBounds_toArray]); (try simp only [List.set_cons_zero, List.set_cons_succ]))
              obtain ⟨hst, hT⟩ := to_leaf x w2 y5 y3.heap.size (some ⟨y0.heap.size, 0, none⟩) x.m.row.set.length c25 ao30 x.m.ats.length c30 (HMF.out _ _ _ _ _ _) hK.1 htq hb25 hR30.rd (fun k hk => by have h1 : y0.heap.size = k := Option.some.inj hk; omega) (fun k hk => by have h3 := hlt30 k hk; exact hown.elim (fun e => by have h1 : y1.heap.size = k := Option.some.inj (e.symm.trans hk); omega) (fun e => by have h1 : y4.heap.size = k := Option.some.inj (e.symm.trans hk); omega)) (by omega) (by omega) (hB20.trans (hC5.mono (by omega)))
              refine wpAnyE_ready (rs := [27]) (by kernel_rfl) (by simp) ?_
              refine AllReadyE.cons rfl (fun K100 hK100 => ?_) AllReadyE.nil
              rw [if_pos (by kernel_rfl)]
              go_simp
              refine hK100 _ _ (fun h => Bool.noConfusion (show true = false from h)) ?_
              clear hK100 K100
              refine wpAnyE_done (by kernel_rfl) ?_ _
              have HT := Lib.hid hT
              clear hT hst hb25 hR30 htq hlt30 hown
              go_wp2_with fail
              go_meet
              exact HT.out
        · rw [if_pos (by kernel_rfl)]
          go_simp
          have hB3 : Below y2.heap.size y2 (y2.alloc (.cells zM.toArray 41)) := (Below.refl _ _).alloc (Nat.le_refl _) _
          have hz3 : y2.heap.size < (y2.alloc (.cells zM.toArray 41)).heap.size := by simp
          have htq := there_new y2 zM 41
          rw [zM_len] at htq
          generalize hq3 : y2.alloc (.cells zM.toArray 41) = y3 at *
          clear hq3
          have hC3 := hC2.trans (hB3.mono hC2.size)
          have hb25 := hb25.keep hB3
          have hR27 := hR27.keep hB3
          refine hK91 _ _ (fun _ => hSk.out _ hC3) ?_
          clear hK91 K91 hS2
          have hS3 := hSk.out _ hC3
          refine wpAnyE_ready (rs := [15]) (by kernel_rfl) (by simp) ?_
          refine (AllReadyE.cons rfl (fun K101 hK101 => ?_) AllReadyE.nil)
          · rw [if_pos (by kernel_rfl)]
            go_simp
            go_at_call 20
            refine (hblind y3).mono ?_
            rintro e y4 ⟨rfl, hB4⟩
            try go_simp
            have hC4 := hC3.trans (hB4.mono hC3.size)
            have hz4 := hB4.size
            have hb25 := hb25.keep hB4
            have hR27 := hR27.keep hB4
            have htq := there_only htq (Only.of_below (S := fun _ => False) hB4) (fun h => h)
            refine hK101 _ _ (fun _ => hSk.out _ hC4) ?_
            clear hK101 K101 hS3
            have hS4 := hSk.out _ hC4
            refine wpAnyE_take (i := 20) (v := ?v_p102) rfl (by kernel_rfl) (by kernel_rfl) (by kernel_rfl) (by kernel_rfl) (by kernel_rfl) (fun _ _ _ h => h) (Or.inl ⟨by kernel_rfl, ?y_p102⟩) (by assumption) ?r_p102
            case y_p102 => intro wE hSw; obtain ⟨q0, q1, q2, q3, q4, q5, q6, q7, q8⟩ := hSw; go_simp; try with_reducible rfl
            case' r_p102 => ((try simp only [Act.put]); (try simp only [List.setIfInBounds_toArray]); (try simp only [List.set_cons_zero, List.set_cons_succ]))
            refine wpAnyE_ready (rs := [24]) (by kernel_rfl) (by simp) ?_
            refine (AllReadyE.cons rfl (fun K103 hK103 => ?_) AllReadyE.nil)
            · refine step_appsv rfl _ _ 24 rfl it zz Try.underlying24 hti htz hsz1 hby hzc (by omega) hR27 (hsrc.out _ hC4) hlm hC4.size (by rfl) (by rfl) ?_
              intro v30 y5 hR30 hg hown
              rw [List.nil_append, List.take_of_length_le (Nat.le_refl _)] at hR30
              have hC5 := hC4.grown hg hC4.size (fun q hq => hR27.own_ge q hq)
              have hz5 := hg.size
              have hb25 := hb25.only' (Only.of_grown (S := fun k => (Value.slice (some ⟨y1.heap.size, 0, none⟩) 0 0).ownBlock = some k) hg (fun q h => h)) (fun _ k hk e => by have h1 : y0.heap.size = k := Option.some.inj hk; have h2 : y1.heap.size = k := Option.some.inj e; omega)
              have htq := there_only htq (Only.of_grown (S := fun k => (Value.slice (some ⟨y1.heap.size, 0, none⟩) 0 0).ownBlock = some k) hg (fun q h => h)) (fun e => by have h2 : y1.heap.size = y2.heap.size := Option.some.inj e; omega)
              have hlt30 := hR30.own_lt
              obtain ⟨ao30, c30, hv30, hz1, hz2, hz3⟩ := hR30.val
              clear hz1 hz2 hz3
              rw [List.length_map] at hv30
              subst hv30
              refine hK103 _ _ (fun _ => hSk.out _ hC5) ?_
              clear hK103 K103 hS4 hg hR27
              have hS5 := hSk.out _ hC5
              ((simp only [Act.put]); (try simp only [List.setIfInBounds_toArray]); (try simp only [List.set_cons_zero, List.set_cons_succ]))
              refine wpAnyE_take (i := 25) (v := ?v_p104) rfl (by kernel_rfl) (by kernel_rfl) (by kernel_rfl) (by kernel_rfl) (by kernel_rfl) (fun _ _ _ h => h) (Or.inl ⟨by kernel_rfl, ?y_p104⟩) (by assumption) ?r_p104
              case y_p104 => intro wE hSw; obtain ⟨q0, q1, q2, q3, q4, q5, q6, q7, q8⟩ := hSw; go_simp; try with_reducible rfl
              case' r_p104 => ((try simp only [Act.put]); (try simp only [List.setIfInBounds_toArray]); (try simp only [List.set_cons_zero, List.set_cons_succ]))
              obtain ⟨hst, hT⟩ := to_leaf x w2 y5 y2.heap.size (some ⟨y0.heap.size, 0, none⟩) x.m.row.set.length c25 ao30 x.m.ats.length c30 (HMF.out _ _ _ _ _ _) hK.1 htq hb25 hR30.rd (fun k hk => by have h1 : y0.heap.size = k := Option.some.inj hk; omega) (fun k hk => by have h3 := hlt30 k hk; exact hown.elim (fun e => by have h1 : y1.heap.size = k := Option.some.inj (e.symm.trans hk); omega) (fun e => by have h1 : y4.heap.size = k := Option.some.inj (e.symm.trans hk); omega)) (by omega) (by omega) (hB20.trans (hC5.mono (by omega)))
              refine wpAnyE_ready (rs := [27]) (by kernel_rfl) (by simp) ?_
              refine AllReadyE.cons rfl (fun K105 hK105 => ?_) AllReadyE.nil
              rw [if_pos (by kernel_rfl)]
              go_simp
              refine hK105 _ _ (fun h => Bool.noConfusion (show true = false from h)) ?_
              clear hK105 K105
              refine wpAnyE_done (by kernel_rfl) ?_ _
              have HT := Lib.hid hT
              clear hT hst hb25 hR30 htq hlt30 hown
              go_wp2_with fail
              go_meet
              exact HT.out
      · rw [if_pos (by kernel_rfl)]
        go_simp
        have hB2 : Below y1.heap.size y1 (y1.alloc (.cells zM.toArray 41)) := (Below.refl _ _).alloc (Nat.le_refl _) _
        have hz2 : y1.heap.size < (y1.alloc (.cells zM.toArray 41)).heap.size := by simp
        have htq := there_new y1 zM 41
        rw [zM_len] at htq
        generalize hq2 : y1.alloc (.cells zM.toArray 41) = y2 at *
        clear hq2
        have hC2 := hC1.trans (hB2.mono hC1.size)
        have hb25 := hb25.keep hB2
        refine hK74 _ _ (fun _ => hSk.out _ hC2) ?_
        clear hK74 K74 hS1
        have hS2 := hSk.out _ hC2
        refine wpAnyE_ready (rs := [15, 21]) (by kernel_rfl) (by simp) ?_
        refine (AllReadyE.cons rfl (fun K106 hK106 => ?_) (AllReadyE.cons rfl (fun K107 hK107 => ?_) AllReadyE.nil))
        · rw [if_pos (by kernel_rfl)]
          go_simp
          go_at_call 20
          refine (hblind y2).mono ?_
          rintro e y3 ⟨rfl, hB3⟩
          try go_simp
          have hC3 := hC2.trans (hB3.mono hC2.size)
          have hz3 := hB3.size
          have hb25 := hb25.keep hB3
          have htq := there_only htq (Only.of_below (S := fun _ => False) hB3) (fun h => h)
          refine hK106 _ _ (fun _ => hSk.out _ hC3) ?_
          clear hK106 K106 hS2
          have hS3 := hSk.out _ hC3
          refine wpAnyE_take (i := 20) (v := ?v_p108) rfl (by kernel_rfl) (by kernel_rfl) (by kernel_rfl) (by kernel_rfl) (by kernel_rfl) (fun _ _ _ h => h) (Or.inl ⟨by kernel_rfl, ?y_p108⟩) (by assumption) ?r_p108
          case y_p108 => intro wE hSw; obtain ⟨q0, q1, q2, q3, q4, q5, q6, q7, q8⟩ := hSw; go_simp; try with_reducible rfl
          case' r_p108 => ((try simp only [Act.put]); (try simp only [List.setIfInBounds_toArray]); (try simp only [List.set_cons_zero, List.set_cons_succ]))
          refine wpAnyE_ready (rs := [21]) (by kernel_rfl) (by simp) ?_
          refine (AllReadyE.cons rfl (fun K109 hK109 => ?_) AllReadyE.nil)
          · rw [if_pos (by kernel_rfl)]
            go_simp
            have hB4 : Below y3.heap.size y3 (y3.alloc (.cells #[] 3)) := (Below.refl _ _).alloc (Nat.le_refl _) _
            have hz4 : y3.heap.size < (y3.alloc (.cells #[] 3)).heap.size := by simp
            have hR27 : RW (y3.alloc (.cells #[] 3)) y0.heap.size 3 1 (.slice (some ⟨y3.heap.size, 0, none⟩) 0 0) [] := ⟨World.ownsRow_made y3 #[] 0 hC3.size (by decide) (by simp), by intro q hq; cases hq⟩
            generalize hq4 : y3.alloc (.cells #[] 3) = y4 at *
            clear hq4
            have hC4 := hC3.trans (hB4.mono hC3.size)
            have hb25 := hb25.keep hB4
            have htq := there_only htq (Only.of_below (S := fun _ => False) hB4) (fun h => h)
            refine hK109 _ _ (fun _ => hSk.out _ hC4) ?_
            clear hK109 K109 hS3
            have hS4 := hSk.out _ hC4
            refine wpAnyE_ready (rs := [24]) (by kernel_rfl) (by simp) ?_
            refine (AllReadyE.cons rfl (fun K110 hK110 => ?_) AllReadyE.nil)
            · refine step_appsv rfl _ _ 24 rfl it zz Try.underlying24 hti htz hsz1 hby hzc (by omega) hR27 (hsrc.out _ hC4) hlm hC4.size (by rfl) (by rfl) ?_
              intro v30 y5 hR30 hg hown
              rw [List.nil_append, List.take_of_length_le (Nat.le_refl _)] at hR30
              have hC5 := hC4.grown hg hC4.size (fun q hq => hR27.own_ge q hq)
              have hz5 := hg.size
              have hb25 := hb25.only' (Only.of_grown (S := fun k => (Value.slice (some ⟨y3.heap.size, 0, none⟩) 0 0).ownBlock = some k) hg (fun q h => h)) (fun _ k hk e => by have h1 : y0.heap.size = k := Option.some.inj hk; have h2 : y3.heap.size = k := Option.some.inj e; omega)
              have htq := there_only htq (Only.of_grown (S := fun k => (Value.slice (some ⟨y3.heap.size, 0, none⟩) 0 0).ownBlock = some k) hg (fun q h => h)) (fun e => by have h2 : y3.heap.size = y1.heap.size := Option.some.inj e; omega)
              have hlt30 := hR30.own_lt
              obtain ⟨ao30, c30, hv30, hz1, hz2, hz3⟩ := hR30.val
              clear hz1 hz2 hz3
              rw [List.length_map] at hv30
              subst hv30
              refine hK110 _ _ (fun _ => hSk.out _ hC5) ?_
              clear hK110 K110 hS4 hg hR27
              have hS5 := hSk.out _ hC5
              ((simp only [Act.put]); (try simp only [List.setIfInBounds_toArray]); (try simp only [List.set_cons_zero, List.set_cons_succ]))
              refine wpAnyE_take (i := 25) (v := ?v_p111) rfl (by kernel_rfl) (by kernel_rfl) (by kernel_rfl) (by kernel_rfl) (by kernel_rfl) (fun _ _ _ h => h) (Or.inl ⟨by kernel_rfl, ?y_p111⟩) (by assumption) ?r_p111
              case y_p111 => intro wE hSw; obtain ⟨q0, q1, q2, q3, q4, q5, q6, q7, q8⟩ := hSw; go_simp; try with_reducible rfl
              case' r_p111 => ((try simp only [Act.put]); (try simp only [List.setIfInBounds_toArray]); (try simp only [List.set_cons_zero, List.set_cons_succ]))
              obtain ⟨hst, hT⟩ := to_leaf x w2 y5 y1.heap.size (some ⟨y0.heap.size, 0, none⟩) x.m.row.set.length c25 ao30 x.m.ats.length c30 (HMF.out _ _ _ _ _ _) hK.1 htq hb25 hR30.rd (fun k hk => by have h1 : y0.heap.size = k := Option.some.inj hk; omega) (fun k hk => by have h3 := hlt30 k hk; exact hown.elim (fun e => by have h1 : y3.heap.size = k := Option.some.inj (e.symm.trans hk); omega) (fun e => by have h1 : y4.heap.size = k := Option.some.inj (e.symm.trans hk); omega)) (by omega) (by omega) (hB20.trans (hC5.mono (by omega)))
              refine wpAnyE_ready (rs := [27]) (by kernel_rfl) (by simp) ?_
              refine AllReadyE.cons rfl (fun K112 hK112 => ?_) AllReadyE.nil
              rw [if_pos (by kernel_rfl)]
              go_simp
              refine hK112 _ _ (fun h => Bool.noConfusion (show true = false from h)) ?_
              clear hK112 K112
              refine wpAnyE_done (by kernel_rfl) ?_ _
              have HT := Lib.hid hT
              clear hT hst hb25 hR30 htq hlt30 hown
              go_wp2_with fail
              go_meet
              exact HT.out
        · rw [if_pos (by kernel_rfl)]
          go_simp
          have hB3 : Below y2.heap.size y2 (y2.alloc (.cells #[] 3)) := (Below.refl _ _).alloc (Nat.le_refl _) _
          have hz3 : y2.heap.size < (y2.alloc (.cells #[] 3)).heap.size := by simp
          have hR27 : RW (y2.alloc (.cells #[] 3)) y0.heap.size 3 1 (.slice (some ⟨y2.heap.size, 0, none⟩) 0 0) [] := ⟨World.ownsRow_made y2 #[] 0 hC2.size (by decide) (by simp), by intro q hq; cases hq⟩
          generalize hq3 : y2.alloc (.cells #[] 3) = y3 at *
          clear hq3
          have hC3 := hC2.trans (hB3.mono hC2.size)
          have hb25 := hb25.keep hB3
          have htq := there_only htq (Only.of_below (S := fun _ => False) hB3) (fun h => h)
          refine hK107 _ _ (fun _ => hSk.out _ hC3) ?_
          clear hK107 K107 hS2
          have hS3 := hSk.out _ hC3
          refine wpAnyE_ready (rs := [15]) (by kernel_rfl) (by simp) ?_
          refine (AllReadyE.cons rfl (fun K113 hK113 => ?_) AllReadyE.nil)
          · rw [if_pos (by kernel_rfl)]
            go_simp
            go_at_call 20
            refine (hblind y3).mono ?_
            rintro e y4 ⟨rfl, hB4⟩
            try go_simp
            have hC4 := hC3.trans (hB4.mono hC3.size)
            have hz4 := hB4.size
            have hb25 := hb25.keep hB4
            have hR27 := hR27.keep hB4
            have htq := there_only htq (Only.of_below (S := fun _ => False) hB4) (fun h => h)
            refine hK113 _ _ (fun _ => hSk.out _ hC4) ?_
            clear hK113 K113 hS3
            have hS4 := hSk.out _ hC4
            refine wpAnyE_take (i := 20) (v := ?v_p114) rfl (by kernel_rfl) (by kernel_rfl) (by kernel_rfl) (by kernel_rfl) (by kernel_rfl) (fun _ _ _ h => h) (Or.inl ⟨by kernel_rfl, ?y_p114⟩) (by assumption) ?r_p114
            case y_p114 => intro wE hSw; obtain ⟨q0, q1, q2, q3, q4, q5, q6, q7, q8⟩ := hSw; go_simp; try with_reducible rfl
            case' r_p114 => ((try simp only [Act.put]); (try simp only [List.setIfInBounds_toArray]); (try simp only [List.set_cons_zero, List.set_cons_succ]))
            refine wpAnyE_ready (rs := [24]) (by kernel_rfl) (by simp) ?_
            refine (AllReadyE.cons rfl (fun K115 hK115 => ?_) AllReadyE.nil)
            · refine step_appsv rfl _ _ 24 rfl it zz Try.underlying24 hti htz hsz1 hby hzc (by omega) hR27 (hsrc.out _ hC4) hlm hC4.size (by rfl) (by rfl) ?_
              intro v30 y5 hR30 hg hown
              rw [List.nil_append, List.take_of_length_le (Nat.le_refl _)] at hR30
              have hC5 := hC4.grown hg hC4.size (fun q hq => hR27.own_ge q hq)
              have hz5 := hg.size
              have hb25 := hb25.only' (Only.of_grown (S := fun k => (Value.slice (some ⟨y2.heap.size, 0, none⟩) 0 0).ownBlock = some k) hg (fun q h => h)) (fun _ k hk e => by have h1 : y0.heap.size = k := Option.some.inj hk; have h2 : y2.heap.size = k := Option.some.inj e; omega)
              have htq := there_only htq (Only.of_grown (S := fun k => (Value.slice (some ⟨y2.heap.size, 0, none⟩) 0 0).ownBlock = some k) hg (fun q h => h)) (fun e => by have h2 : y2.heap.size = y1.heap.size := Option.some.inj e; omega)
              have hlt30 := hR30.own_lt
              obtain ⟨ao30, c30, hv30, hz1, hz2, hz3⟩ := hR30.val
              clear hz1 hz2 hz3
              rw [List.length_map] at hv30
              subst hv30
              refine hK115 _ _ (fun _ => hSk.out _ hC5) ?_
              clear hK115 K115 hS4 hg hR27
              have hS5 := hSk.out _ hC5
              ((simp only [Act.put]); (try simp only [List.setIfInBounds_toArray]); (try simp only [List.set_cons_zero, List.set_cons_succ]))
              refine wpAnyE_take (i := 25) (v := ?v_p116) rfl (by kernel_rfl) (by kernel_rfl) (by kernel_rfl) (by kernel_rfl) (by kernel_rfl) (fun _ _ _ h => h) (Or.inl ⟨by kernel_rfl, ?y_p116⟩) (by assumption) ?r_p116
              case y_p116 => intro wE hSw; obtain ⟨q0, q1, q2, q3, q4, q5, q6, q7, q8⟩ := hSw; go_simp; try with_reducible rfl
              case' r_p116 => ((try simp only [Act.put]); (try simp only [List.setIfInBounds_toArray]); (try simp only [List.set_cons_zero, List.set_cons_succ]))
              obtain ⟨hst, hT⟩ := to_leaf x w2 y5 y1.heap.size (some ⟨y0.heap.size, 0, none⟩) x.m.row.set.length c25 ao30 x.m.ats.length c30 (HMF.out _ _ _ _ _ _) hK.1 htq hb25 hR30.rd (fun k hk => by have h1 : y0.heap.size = k := Option.some.inj hk; omega) (fun k hk => by have h3 := hlt30 k hk; exact hown.elim (fun e => by have h1 : y2.heap.size = k := Option.some.inj (e.symm.trans hk); omega) (fun e => by have h1 : y4.heap.size = k := Option.some.inj (e.symm.trans hk); omega)) (by omega) (by omega) (hB20.trans (hC5.mono (by omega)))
              refine wpAnyE_ready (rs := [27]) (by kernel_rfl) (by simp) ?_
              refine AllReadyE.cons rfl (fun K117 hK117 => ?_) AllReadyE.nil
              rw [if_pos (by kernel_rfl)]
              go_simp
              refine hK117 _ _ (fun h => Bool.noConfusion (show true = false from h)) ?_
              clear hK117 K117
              refine wpAnyE_done (by kernel_rfl) ?_ _
              have HT := Lib.hid hT
              clear hT hst hb25 hR30 htq hlt30 hown
              go_wp2_with fail
              go_meet
              exact HT.out
    · rw [if_pos (by kernel_rfl)]
      go_simp
      have hB1 : Below y0.heap.size y0 (y0.alloc (.cells #[] 3)) := (Below.refl _ _).alloc (Nat.le_refl _) _
      have hz1 : y0.heap.size < (y0.alloc (.cells #[] 3)).heap.size := by simp
      have hR27 : RW (y0.alloc (.cells #[] 3)) y0.heap.size 3 1 (.slice (some ⟨y0.heap.size, 0, none⟩) 0 0) [] := ⟨World.ownsRow_made y0 #[] 0 hC0.size (by decide) (by simp), by intro q hq; cases hq⟩
      generalize hq1 : y0.alloc (.cells #[] 3) = y1 at *
      clear hq1
      have hC1 := hC0.trans (hB1.mono hC0.size)
      refine hK3 _ _ (fun _ => hSk.out _ hC1) ?_
      clear hK3 K3 hS0
      have hS1 := hSk.out _ hC1
      refine wpAnyE_ready (rs := [15, 19, 26]) (by kernel_rfl) (by simp) ?_
      refine (AllReadyE.cons rfl (fun K118 hK118 => ?_) (AllReadyE.cons rfl (fun K119 hK119 => ?_) (AllReadyE.cons rfl (fun K120 hK120 => ?_) AllReadyE.nil)))
      · rw [if_pos (by kernel_rfl)]
        go_simp
        go_at_call 20
        refine (hblind y1).mono ?_
        rintro e y2 ⟨rfl, hB2⟩
        try go_simp
        have hC2 := hC1.trans (hB2.mono hC1.size)
        have hz2 := hB2.size
        have hR27 := hR27.keep hB2
        refine hK118 _ _ (fun _ => hSk.out _ hC2) ?_
        clear hK118 K118 hS1
        have hS2 := hSk.out _ hC2
        refine wpAnyE_ready (rs := [19, 24, 26]) (by kernel_rfl) (by simp) ?_
        refine (AllReadyE.cons rfl (fun K121 hK121 => ?_) (AllReadyE.cons rfl (fun K122 hK122 => ?_) (AllReadyE.cons rfl (fun K123 hK123 => ?_) AllReadyE.nil)))
        · rw [if_pos (by kernel_rfl)]
          go_simp
          obtain ⟨hb25, hB3, hz3⟩ := HBW.out y2
          generalize hq3 : cf y2 = c25 at *
          clear hq3
          generalize hq3 : bw y2 = y3 at *
          clear hq3
          have hC3 := hC2.trans (hB3.mono hC2.size)
          have hR27 := hR27.keep hB3
          refine hK121 _ _ (fun _ => hSk.out _ hC3) ?_
          clear hK121 K121 hS2
          have hS3 := hSk.out _ hC3
          refine wpAnyE_take (i := 20) (v := ?v_p124) rfl (by kernel_rfl) (by kernel_rfl) (by kernel_rfl) (by kernel_rfl) (by kernel_rfl) (fun _ _ _ h => h) (Or.inl ⟨by kernel_rfl, ?y_p124⟩) (by assumption) ?r_p124
          case y_p124 => intro wE hSw; obtain ⟨q0, q1, q2, q3, q4, q5, q6, q7, q8⟩ := hSw; go_simp; try with_reducible rfl
          case' r_p124 => ((try simp only [Act.put]); (try simp only [List.setIfInBounds_toArray]); (try simp only [List.set_cons_zero, List.set_cons_succ]))
          refine wpAnyE_ready (rs := [24, 26]) (by kernel_rfl) (by simp) ?_
          refine (AllReadyE.cons rfl (fun K125 hK125 => ?_) (AllReadyE.cons rfl (fun K126 hK126 => ?_) AllReadyE.nil))
          · refine step_appsv rfl _ _ 24 rfl it zz Try.underlying24 hti htz hsz1 hby hzc (by omega) hR27 (hsrc.out _ hC3) hlm hC3.size (by rfl) (by rfl) ?_
            intro v30 y4 hR30 hg hown
            rw [List.nil_append, List.take_of_length_le (Nat.le_refl _)] at hR30
            have hC4 := hC3.grown hg hC3.size (fun q hq => hR27.own_ge q hq)
            have hz4 := hg.size
            have hb25 := hb25.only' (Only.of_grown (S := fun k => (Value.slice (some ⟨y0.heap.size, 0, none⟩) 0 0).ownBlock = some k) hg (fun q h => h)) (fun _ k hk e => by have h1 : y2.heap.size = k := Option.some.inj hk; have h2 : y0.heap.size = k := Option.some.inj e; omega)
            have hlt30 := hR30.own_lt
            obtain ⟨ao30, c30, hv30, hz1, hz2, hz3⟩ := hR30.val
            clear hz1 hz2 hz3
            rw [List.length_map] at hv30
            subst hv30
            refine hK125 _ _ (fun _ => hSk.out _ hC4) ?_
            clear hK125 K125 hS3 hg hR27
            have hS4 := hSk.out _ hC4
            ((simp only [Act.put]); (try simp only [List.setIfInBounds_toArray]); (try simp only [List.set_cons_zero, List.set_cons_succ]))
            refine wpAnyE_take (i := 25) (v := ?v_p127) rfl (by kernel_rfl) (by kernel_rfl) (by kernel_rfl) (by kernel_rfl) (by kernel_rfl) (fun _ _ _ h => h) (Or.inl ⟨by kernel_rfl, ?y_p127⟩) (by assumption) ?r_p127
            case y_p127 => intro wE hSw; obtain ⟨q0, q1, q2, q3, q4, q5, q6, q7, q8⟩ := hSw; go_simp; try with_reducible rfl
            case' r_p127 => ((try simp only [Act.put]); (try simp only [List.setIfInBounds_toArray]); (try simp only [List.set_cons_zero, List.set_cons_succ]))
            refine wpAnyE_ready (rs := [26]) (by kernel_rfl) (by simp) ?_
            refine (AllReadyE.cons rfl (fun K128 hK128 => ?_) AllReadyE.nil)
            · rw [if_pos (by kernel_rfl)]
              go_simp
              have hB5 : Below y4.heap.size y4 (y4.alloc (.cells zM.toArray 41)) := (Below.refl _ _).alloc (Nat.le_refl _) _
              have hz5 : y4.heap.size < (y4.alloc (.cells zM.toArray 41)).heap.size := by simp
              have htq := there_new y4 zM 41
              rw [zM_len] at htq
              generalize hq5 : y4.alloc (.cells zM.toArray 41) = y5 at *
              clear hq5
              have hC5 := hC4.trans (hB5.mono hC4.size)
              have hb25 := hb25.keep hB5
              have hR30 := hR30.keep hB5
              refine hK128 _ _ (fun _ => hSk.out _ hC5) ?_
              clear hK128 K128 hS4
              have hS5 := hSk.out _ hC5
              obtain ⟨hst, hT⟩ := to_leaf x w2 y5 y4.heap.size (some ⟨y2.heap.size, 0, none⟩) x.m.row.set.length c25 ao30 x.m.ats.length c30 (HMF.out _ _ _ _ _ _) hK.1 htq hb25 hR30.rd (fun k hk => by have h1 : y2.heap.size = k := Option.some.inj hk; omega) (fun k hk => by have h3 := hlt30 k hk; exact hown.elim (fun e => by have h1 : y0.heap.size = k := Option.some.inj (e.symm.trans hk); omega) (fun e => by have h1 : y3.heap.size = k := Option.some.inj (e.symm.trans hk); omega)) (by omega) (by omega) (hB20.trans (hC5.mono (by omega)))
              refine wpAnyE_ready (rs := [27]) (by kernel_rfl) (by simp) ?_
              refine AllReadyE.cons rfl (fun K129 hK129 => ?_) AllReadyE.nil
              rw [if_pos (by kernel_rfl)]
              go_simp
              refine hK129 _ _ (fun h => Bool.noConfusion (show true = false from h)) ?_
              clear hK129 K129
              refine wpAnyE_done (by kernel_rfl) ?_ _
              have HT := Lib.hid hT
              clear hT hst hb25 hR30 htq hlt30 hown
              go_wp2_with fail
              go_meet
              exact HT.out
          · rw [if_pos (by kernel_rfl)]
            go_simp
            have hB4 : Below y3.heap.size y3 (y3.alloc (.cells zM.toArray 41)) := (Below.refl _ _).alloc (Nat.le_refl _) _
            have hz4 : y3.heap.size < (y3.alloc (.cells zM.toArray 41)).heap.size := by simp
            have htq := there_new y3 zM 41
            rw [zM_len] at htq
            generalize hq4 : y3.alloc (.cells zM.toArray 41) = y4 at *
            clear hq4
            have hC4 := hC3.trans (hB4.mono hC3.size)
            have hb25 := hb25.keep hB4
            have hR27 := hR27.keep hB4
            refine hK126 _ _ (fun _ => hSk.out _ hC4) ?_
            clear hK126 K126 hS3
            have hS4 := hSk.out _ hC4
            refine wpAnyE_ready (rs := [24]) (by kernel_rfl) (by simp) ?_
            refine (AllReadyE.cons rfl (fun K130 hK130 => ?_) AllReadyE.nil)
            · refine step_appsv rfl _ _ 24 rfl it zz Try.underlying24 hti htz hsz1 hby hzc (by omega) hR27 (hsrc.out _ hC4) hlm hC4.size (by rfl) (by rfl) ?_
              intro v30 y5 hR30 hg hown
              rw [List.nil_append, List.take_of_length_le (Nat.le_refl _)] at hR30
              have hC5 := hC4.grown hg hC4.size (fun q hq => hR27.own_ge q hq)
              have hz5 := hg.size
              have hb25 := hb25.only' (Only.of_grown (S := fun k => (Value.slice (some ⟨y0.heap.size, 0, none⟩) 0 0).ownBlock = some k) hg (fun q h => h)) (fun _ k hk e => by have h1 : y2.heap.size = k := Option.some.inj hk; have h2 : y0.heap.size = k := Option.some.inj e; omega)
              have htq := there_only htq (Only.of_grown (S := fun k => (Value.slice (some ⟨y0.heap.size, 0, none⟩) 0 0).ownBlock = some k) hg (fun q h => h)) (fun e => by have h2 : y0.heap.size = y3.heap.size := Option.some.inj e; omega)
              have hlt30 := hR30.own_lt
              obtain ⟨ao30, c30, hv30, hz1, hz2, hz3⟩ := hR30.val
              clear hz1 hz2 hz3
              rw [List.length_map] at hv30
              subst hv30
              refine hK130 _ _ (fun _ => hSk.out _ hC5) ?_
              clear hK130 K130 hS4 hg hR27
              have hS5 := hSk.out _ hC5
              ((simp only [Act.put]); (try simp only [List.setIfInBounds_toArray]); (try simp only [List.set_cons_zero, List.set_cons_succ]))
              refine wpAnyE_take (i := 25) (v := ?v_p131) rfl (by kernel_rfl) (by kernel_rfl) (by kernel_rfl) (by kernel_rfl) (by kernel_rfl) (fun _ _ _ h => h) (Or.inl ⟨by kernel_rfl, ?y_p131⟩) (by assumption) ?r_p131
              case y_p131 => intro wE hSw; obtain ⟨q0, q1, q2, q3, q4, q5, q6, q7, q8⟩ := hSw; go_simp; try with_reducible rfl
              case' r_p131 => ((try simp only [Act.put]); (try simp only [List.setIfInBounds_toArray]); (try simp only [List.set_cons_zero, List.set_cons_succ]))
              obtain ⟨hst, hT⟩ := to_leaf x w2 y5 y3.heap.size (some ⟨y2.heap.size, 0, none⟩) x.m.row.set.length c25 ao30 x.m.ats.length c30 (HMF.out _ _ _ _ _ _) hK.1 htq hb25 hR30.rd (fun k hk => by have h1 : y2.heap.size = k := Option.some.inj hk; omega) (fun k hk => by have h3 := hlt30 k hk; exact hown.elim (fun e => by have h1 : y0.heap.size = k := Option.some.inj (e.symm.trans hk); omega) (fun e => by have h1 : y4.heap.size = k := Option.some.inj (e.symm.trans hk); omega)) (by omega) (by omega) (hB20.trans (hC5.mono (by omega)))
              refine wpAnyE_ready (rs := [27]) (by kernel_rfl) (by simp) ?_
              refine AllReadyE.cons rfl (fun K132 hK132 => ?_) AllReadyE.nil
              rw [if_pos (by kernel_rfl)]
              go_simp
              refine hK132 _ _ (fun h => Bool.noConfusion (show true = false from h)) ?_
              clear hK132 K132
              refine wpAnyE_done (by kernel_rfl) ?_ _
              have HT := Lib.hid hT
              clear hT hst hb25 hR30 htq hlt30 hown
              go_wp2_with fail
              go_meet
              exact HT.out
        · refine step_appsv rfl _ _ 24 rfl it zz Try.underlying24 hti htz hsz1 hby hzc (by omega) hR27 (hsrc.out _ hC2) hlm hC2.size (by rfl) (by rfl) ?_
          intro v30 y3 hR30 hg hown
          rw [List.nil_append, List.take_of_length_le (Nat.le_refl _)] at hR30
          have hC3 := hC2.grown hg hC2.size (fun q hq => hR27.own_ge q hq)
          have hz3 := hg.size
          have hlt30 := hR30.own_lt
          obtain ⟨ao30, c30, hv30, hz1, hz2, hz3⟩ := hR30.val
          clear hz1 hz2 hz3
          rw [List.length_map] at hv30
          subst hv30
          refine hK122 _ _ (fun _ => hSk.out _ hC3) ?_
          clear hK122 K122 hS2 hg hR27
          have hS3 := hSk.out _ hC3
          ((simp only [Act.put]); (try simp only [List.setIfInBounds_toArray]); (try simp only [List.set_cons_zero, List.set_cons_succ]))
          refine wpAnyE_ready (rs := [19, 26]) (by kernel_rfl) (by simp) ?_
          refine (AllReadyE.cons rfl (fun K133 hK133 => ?_) (AllReadyE.cons rfl (fun K134 hK134 => ?_) AllReadyE.nil))
          · rw [if_pos (by kernel_rfl)]
            go_simp
            obtain ⟨hb25, hB4, hz4⟩ := HBW.out y3
            generalize hq4 : cf y3 = c25 at *
            clear hq4
            generalize hq4 : bw y3 = y4 at *
            clear hq4
            have hC4 := hC3.trans (hB4.mono hC3.size)
            have hR30 := hR30.keep hB4
            refine hK133 _ _ (fun _ => hSk.out _ hC4) ?_
            clear hK133 K133 hS3
            have hS4 := hSk.out _ hC4
            refine wpAnyE_take (i := 20) (v := ?v_p135) rfl (by kernel_rfl) (by kernel_rfl) (by kernel_rfl) (by kernel_rfl) (by kernel_rfl) (fun _ _ _ h => h) (Or.inl ⟨by kernel_rfl, ?y_p135⟩) (by assumption) ?r_p135
            case y_p135 => intro wE hSw; obtain ⟨q0, q1, q2, q3, q4, q5, q6, q7, q8⟩ := hSw; go_simp; try with_reducible rfl
            case' r_p135 => ((try simp only [Act.put]); (try simp only [List.setIfInBounds_toArray]); (try simp only [List.set_cons_zero, List.set_cons_succ]))
            refine wpAnyE_take (i := 25) (v := ?v_p136) rfl (by kernel_rfl) (by kernel_rfl) (by kernel_rfl) (by kernel_rfl) (by kernel_rfl) (fun _ _ _ h => h) (Or.inl ⟨by kernel_rfl, ?y_p136⟩) (by assumption) ?r_p136
            case y_p136 => intro wE hSw; obtain ⟨q0, q1, q2, q3, q4, q5, q6, q7, q8⟩ := hSw; go_simp; try with_reducible rfl
            case' r_p136 => ((try simp only [Act.put]); (try simp only [List.setIfInBounds_toArray]); (try simp only [List.set_cons_zero, List.set_cons_succ]))
            refine wpAnyE_ready (rs := [26]) (by kernel_rfl) (by simp) ?_
            refine (AllReadyE.cons rfl (fun K137 hK137 => ?_) AllReadyE.nil)
            · rw [if_pos (by kernel_rfl)]
              go_simp
              have hB5 : Below y4.heap.size y4 (y4.alloc (.cells zM.toArray 41)) := (Below.refl _ _).alloc (Nat.le_refl _) _
              have hz5 : y4.heap.size < (y4.alloc (.cells zM.toArray 41)).heap.size := by simp
              have htq := there_new y4 zM 41
              rw [zM_len] at htq
              generalize hq5 : y4.alloc (.cells zM.toArray 41) = y5 at *
              clear hq5
              have hC5 := hC4.trans (hB5.mono hC4.size)
              have hb25 := hb25.keep hB5
              have hR30 := hR30.keep hB5
              refine hK137 _ _ (fun _ => hSk.out _ hC5) ?_
              clear hK137 K137 hS4
              have hS5 := hSk.out _ hC5
              obtain ⟨hst, hT⟩ := to_leaf x w2 y5 y4.heap.size (some ⟨y3.heap.size, 0, none⟩) x.m.row.set.length c25 ao30 x.m.ats.length c30 (HMF.out _ _ _ _ _ _) hK.1 htq hb25 hR30.rd (fun k hk => by have h1 : y3.heap.size = k := Option.some.inj hk; omega) (fun k hk => by have h3 := hlt30 k hk; exact hown.elim (fun e => by have h1 : y0.heap.size = k := Option.some.inj (e.symm.trans hk); omega) (fun e => by have h1 : y2.heap.size = k := Option.some.inj (e.symm.trans hk); omega)) (by omega) (by omega) (hB20.trans (hC5.mono (by omega)))
              refine wpAnyE_ready (rs := [27]) (by kernel_rfl) (by simp) ?_
              refine AllReadyE.cons rfl (fun K138 hK138 => ?_) AllReadyE.nil
              rw [if_pos (by kernel_rfl)]
              go_simp
              refine hK138 _ _ (fun h => Bool.noConfusion (show true = false from h)) ?_
              clear hK138 K138
              refine wpAnyE_done (by kernel_rfl) ?_ _
              have HT := Lib.hid hT
              clear hT hst hb25 hR30 htq hlt30 hown
              go_wp2_with fail
              go_meet
              exact HT.out
          · rw [if_pos (by kernel_rfl)]
            go_simp
            have hB4 : Below y3.heap.size y3 (y3.alloc (.cells zM.toArray 41)) := (Below.refl _ _).alloc (Nat.le_refl _) _
            have hz4 : y3.heap.size < (y3.alloc (.cells zM.toArray 41)).heap.size := by simp
            have htq := there_new y3 zM 41
            rw [zM_len] at htq
            generalize hq4 : y3.alloc (.cells zM.toArray 41) = y4 at *
            clear hq4
            have hC4 := hC3.trans (hB4.mono hC3.size)
            have hR30 := hR30.keep hB4
            refine hK134 _ _ (fun _ => hSk.out _ hC4) ?_
            clear hK134 K134 hS3
            have hS4 := hSk.out _ hC4
            refine wpAnyE_ready (rs := [19]) (by kernel_rfl) (by simp) ?_
            refine (AllReadyE.cons rfl (fun K139 hK139 => ?_) AllReadyE.nil)
            · rw [if_pos (by kernel_rfl)]
              go_simp
              obtain ⟨hb25, hB5, hz5⟩ := HBW.out y4
              generalize hq5 : cf y4 = c25 at *
              clear hq5
              generalize hq5 : bw y4 = y5 at *
              clear hq5
              have hC5 := hC4.trans (hB5.mono hC4.size)
              have hR30 := hR30.keep hB5
              have htq := there_only htq (Only.of_below (S := fun _ => False) hB5) (fun h => h)
              refine hK139 _ _ (fun _ => hSk.out _ hC5) ?_
              clear hK139 K139 hS4
              have hS5 := hSk.out _ hC5
              refine wpAnyE_take (i := 20) (v := ?v_p140) rfl (by kernel_rfl) (by kernel_rfl) (by kernel_rfl) (by kernel_rfl) (by kernel_rfl) (fun _ _ _ h => h) (Or.inl ⟨by kernel_rfl, ?y_p140⟩) (by assumption) ?r_p140
              case y_p140 => intro wE hSw; obtain ⟨q0, q1, q2, q3, q4, q5, q6, q7, q8⟩ := hSw; go_simp; try with_reducible rfl
              case' r_p140 => ((try simp only [Act.put]); (try simp only [List.setIfInBounds_toArray]); (try simp only [List.set_cons_zero, List.set_cons_succ]))
              refine wpAnyE_take (i := 25) (v := ?v_p141) rfl (by kernel_rfl) (by kernel_rfl) (by kernel_rfl) (by kernel_rfl) (by kernel_rfl) (fun _ _ _ h => h) (Or.inl ⟨by kernel_rfl, ?y_p141⟩) (by assumption) ?r_p141
              case y_p141 => intro wE hSw; obtain ⟨q0, q1, q2, q3, q4, q5, q6, q7, q8⟩ := hSw; go_simp; try with_reducible rfl
              case' r_p141 => ((try simp only [Act.put]); (try simp only [List.setIfInBounds_toArray]); (try simp only [List.set_cons_zero, List.set_cons_succ]))
              obtain ⟨hst, hT⟩ := to_leaf x w2 y5 y3.heap.size (some ⟨y4.heap.size, 0, none⟩) x.m.row.set.length c25 ao30 x.m.ats.length c30 (HMF.out _ _ _ _ _ _) hK.1 htq hb25 hR30.rd (fun k hk => by have h1 : y4.heap.size = k := Option.some.inj hk; omega) (fun k hk => by have h3 := hlt30 k hk; exact hown.elim (fun e => by have h1 : y0.heap.size = k := Option.some.inj (e.symm.trans hk); omega) (fun e => by have h1 : y2.heap.size = k := Option.some.inj (e.symm.trans hk); omega)) (by omega) (by omega) (hB20.trans (hC5.mono (by omega)))
              refine wpAnyE_ready (rs := [27]) (by kernel_rfl) (by simp) ?_
              refine AllReadyE.cons rfl (fun K142 hK142 => ?_) AllReadyE.nil
              rw [if_pos (by kernel_rfl)]
              go_simp
              refine hK142 _ _ (fun h => Bool.noConfusion (show true = false from h)) ?_
              clear hK142 K142
              refine wpAnyE_done (by kernel_rfl) ?_ _
              have HT := Lib.hid hT
              clear hT hst hb25 hR30 htq hlt30 hown
              go_wp2_with fail
              go_meet
              exact HT.out
        · rw [if_pos (by kernel_rfl)]
          go_simp
          have hB3 : Below y2.heap.size y2 (y2.alloc (.cells zM.toArray 41)) := (Below.refl _ _).alloc (Nat.le_refl _) _
          have hz3 : y2.heap.size < (y2.alloc (.cells zM.toArray 41)).heap.size := by simp
          have htq := there_new y2 zM 41
          rw [zM_len] at htq
          generalize hq3 : y2.alloc (.cells zM.toArray 41) = y3 at *
          clear hq3
          have hC3 := hC2.trans (hB3.mono hC2.size)
          have hR27 := hR27.keep hB3
          refine hK123 _ _ (fun _ => hSk.out _ hC3) ?_
          clear hK123 K123 hS2
          have hS3 := hSk.out _ hC3
          refine wpAnyE_ready (rs := [19, 24]) (by kernel_rfl) (by simp) ?_
          refine (AllReadyE.cons rfl (fun K143 hK143 => ?_) (AllReadyE.cons rfl (fun K144 hK144 => ?_) AllReadyE.nil))
          · rw [if_pos (by kernel_rfl)]
            go_simp
            obtain ⟨hb25, hB4, hz4⟩ := HBW.out y3
            generalize hq4 : cf y3 = c25 at *
            clear hq4
            generalize hq4 : bw y3 = y4 at *
            clear hq4
            have hC4 := hC3.trans (hB4.mono hC3.size)
            have hR27 := hR27.keep hB4
            have htq := there_only htq (Only.of_below (S := fun _ => False) hB4) (fun h => h)
            refine hK143 _ _ (fun _ => hSk.out _ hC4) ?_
            clear hK143 K143 hS3
            have hS4 := hSk.out _ hC4
            refine wpAnyE_take (i := 20) (v := ?v_p145) rfl (by kernel_rfl) (by kernel_rfl) (by kernel_rfl) (by kernel_rfl) (by kernel_rfl) (fun _ _ _ h => h) (Or.inl ⟨by kernel_rfl, ?y_p145⟩) (by assumption) ?r_p145
            case y_p145 => intro wE hSw; obtain ⟨q0, q1, q2, q3, q4, q5, q6, q7, q8⟩ := hSw; go_simp; try with_reducible rfl
            case' r_p145 => ((try simp only [Act.put]); (try simp only [List.setIfInBounds_toArray]); (try simp only [List.set_cons_zero, List.set_cons_succ]))
            refine wpAnyE_ready (rs := [24]) (by kernel_rfl) (by simp) ?_
            refine (AllReadyE.cons rfl (fun K146 hK146 => ?_) AllReadyE.nil)
            · refine step_appsv rfl _ _ 24 rfl it zz Try.underlying24 hti htz hsz1 hby hzc (by omega) hR27 (hsrc.out _ hC4) hlm hC4.size (by rfl) (by rfl) ?_
              intro v30 y5 hR30 hg hown
              rw [List.nil_append, List.take_of_length_le (Nat.le_refl _)] at hR30
              have hC5 := hC4.grown hg hC4.size (fun q hq => hR27.own_ge q hq)
              have hz5 := hg.size
              have hb25 := hb25.only' (Only.of_grown (S := fun k => (Value.slice (some ⟨y0.heap.size, 0, none⟩) 0 0).ownBlock = some k) hg (fun q h => h)) (fun _ k hk e => by have h1 : y3.heap.size = k := Option.some.inj hk; have h2 : y0.heap.size = k := Option.some.inj e; omega)
              have htq := there_only htq (Only.of_grown (S := fun k => (Value.slice (some ⟨y0.heap.size, 0, none⟩) 0 0).ownBlock = some k) hg (fun q h => h)) (fun e => by have h2 : y0.heap.size = y2.heap.size := Option.some.inj e; omega)
              have hlt30 := hR30.own_lt
              obtain ⟨ao30, c30, hv30, hz1, hz2, hz3⟩ := hR30.val
              clear hz1 hz2 hz3
              rw [List.length_map] at hv30
              subst hv30
              refine hK146 _ _ (fun _ => hSk.out _ hC5) ?_
              clear hK146 K146 hS4 hg hR27
              have hS5 := hSk.out _ hC5
              ((simp only [Act.put]); (try simp only [List.setIfInBounds_toArray]); (try simp only [List.set_cons_zero, List.set_cons_succ]))
              refine wpAnyE_take (i := 25) (v := ?v_p147) rfl (by kernel_rfl) (by kernel_rfl) (by kernel_rfl) (by kernel_rfl) (by kernel_rfl) (fun _ _ _ h => h) (Or.inl ⟨by kernel_rfl, ?y_p147⟩) (by assumption) ?r_p147
              case y_p147 => intro wE hSw; obtain ⟨q0, q1, q2, q3, q4, q5, q6, q7, q8⟩ := hSw; go_simp; try with_reducible rfl
              case' r_p147 => ((try simp only [Act.put]); (try simp only [List.setIfInBounds_toArray]); (try simp only [List.set_cons_zero, List.set_cons_succ]))
              obtain ⟨hst, hT⟩ := to_leaf x w2 y5 y2.heap.size (some ⟨y3.heap.size, 0, none⟩) x.m.row.set.length c25 ao30 x.m.ats.length c30 (HMF.out _ _ _ _ _ _) hK.1 htq hb25 hR30.rd (fun k hk => by have h1 : y3.heap.size = k := Option.some.inj hk; omega) (fun k hk => by have h3 := hlt30 k hk; exact hown.elim (fun e => by have h1 : y0.heap.size = k := Option.some.inj (e.symm.trans hk); omega) (fun e => by have h1 : y4.heap.size = k := Option.some.inj (e.symm.trans hk); omega)) (by omega) (by omega) (hB20.trans (hC5.mono (by omega)))
              refine wpAnyE_ready (rs := [27]) (by kernel_rfl) (by simp) ?_
              refine AllReadyE.cons rfl (fun K148 hK148 => ?_) AllReadyE.nil
              rw [if_pos (by kernel_rfl)]
              go_simp
              refine hK148 _ _ (fun h => Bool.noConfusion (show true = false from h)) ?_
              clear hK148 K148
              refine wpAnyE_done (by kernel_rfl) ?_ _
              have HT := Lib.hid hT
              clear hT hst hb25 hR30 htq hlt30 hown
              go_wp2_with fail
              go_meet
              exact HT.out
          · refine step_appsv rfl _ _ 24 rfl it zz Try.underlying24 hti htz hsz1 hby hzc (by omega) hR27 (hsrc.out _ hC3) hlm hC3.size (by rfl) (by rfl) ?_
            intro v30 y4 hR30 hg hown
            rw [List.nil_append, List.take_of_length_le (Nat.le_refl _)] at hR30
            have hC4 := hC3.grown hg hC3.size (fun q hq => hR27.own_ge q hq)
            have hz4 := hg.size
            have htq := there_only htq (Only.of_grown (S := fun k => (Value.slice (some ⟨y0.heap.size, 0, none⟩) 0 0).ownBlock = some k) hg (fun q h => h)) (fun e => by have h2 : y0.heap.size = y2.heap.size := Option.some.inj e; omega)
            have hlt30 := hR30.own_lt
            obtain ⟨ao30, c30, hv30, hz1, hz2, hz3⟩ := hR30.val
            clear hz1 hz2 hz3
            rw [List.length_map] at hv30
            subst hv30
            refine hK144 _ _ (fun _ => hSk.out _ hC4) ?_
            clear hK144 K144 hS3 hg hR27
            have hS4 := hSk.out _ hC4
            ((simp only [Act.put]); (try simp only [List.setIfInBounds_toArray]); (try simp only [List.set_cons_zero, List.set_cons_succ]))
            refine wpAnyE_ready (rs := [19]) (by kernel_rfl) (by simp) ?_
            refine (AllReadyE.cons rfl (fun K149 hK149 => ?_) AllReadyE.nil)
            · rw [if_pos (by kernel_rfl)]
              go_simp
              obtain ⟨hb25, hB5, hz5⟩ := HBW.out y4
              generalize hq5 : cf y4 = c25 at *
              clear hq5
              generalize hq5 : bw y4 = y5 at *
              clear hq5
              have hC5 := hC4.trans (hB5.mono hC4.size)
              have hR30 := hR30.keep hB5
              have htq := there_only htq (Only.of_below (S := fun _ => False) hB5) (fun h => h)
              refine hK149 _ _ (fun _ => hSk.out _ hC5) ?_
              clear hK149 K149 hS4
              have hS5 := hSk.out _ hC5
              refine wpAnyE_take (i := 20) (v := ?v_p150) rfl (by kernel_rfl) (by kernel_rfl) (by kernel_rfl) (by kernel_rfl) (by kernel_rfl) (fun _ _ _ h => h) (Or.inl ⟨by kernel_rfl, ?y_p150⟩) (by assumption) ?r_p150
              case y_p150 => intro wE hSw; obtain ⟨q0, q1, q2, q3, q4, q5, q6, q7, q8⟩ := hSw; go_simp; try with_reducible rfl
              case' r_p150 => ((try simp only [Act.put]); (try simp only [List.setIfInBounds_toArray]); (try simp only [List.set_cons_zero, List.set_cons_succ]))
              refine wpAnyE_take (i := 25) (v := ?v_p151) rfl (by kernel_rfl) (by kernel_rfl) (by kernel_rfl) (by kernel_rfl) (by kernel_rfl) (fun _ _ _ h => h) (Or.inl ⟨by kernel_rfl, ?y_p151⟩) (by assumption) ?r_p151
              case y_p151 => intro wE hSw; obtain ⟨q0, q1, q2, q3, q4, q5, q6, q7, q8⟩ := hSw; go_simp; try with_reducible rfl
              case' r_p151 => ((try simp only [Act.put]); (try simp only [List.setIfInBounds_toArray]); (try simp only [List.set_cons_zero, List.set_cons_succ]))
              obtain ⟨hst, hT⟩ := to_leaf x w2 y5 y2.heap.size (some ⟨y4.heap.size, 0, none⟩) x.m.row.set.length c25 ao30 x.m.ats.length c30 (HMF.out _ _ _ _ _ _) hK.1 htq hb25 hR30.rd (fun k hk => by have h1 : y4.heap.size = k := Option.some.inj hk; omega) (fun k hk => by have h3 := hlt30 k hk; exact hown.elim (fun e => by have h1 : y0.heap.size = k := Option.some.inj (e.symm.trans hk); omega) (fun e => by have h1 : y3.heap.size = k := Option.some.inj (e.symm.trans hk); omega)) (by omega) (by omega) (hB20.trans (hC5.mono (by omega)))
              refine wpAnyE_ready (rs := [27]) (by kernel_rfl) (by simp) ?_
              refine AllReadyE.cons rfl (fun K152 hK152 => ?_) AllReadyE.nil
              rw [if_pos (by kernel_rfl)]
              go_simp
              refine hK152 _ _ (fun h => Bool.noConfusion (show true = false from h)) ?_
              clear hK152 K152
              refine wpAnyE_done (by kernel_rfl) ?_ _
              have HT := Lib.hid hT
              clear hT hst hb25 hR30 htq hlt30 hown
              go_wp2_with fail
              go_meet
              exact HT.out
      · rw [if_pos (by kernel_rfl)]
        go_simp
        obtain ⟨hb25, hB2, hz2⟩ := HBW.out y1
        generalize hq2 : cf y1 = c25 at *
        clear hq2
        generalize hq2 : bw y1 = y2 at *
        clear hq2
        have hC2 := hC1.trans (hB2.mono hC1.size)
        have hR27 := hR27.keep hB2
        refine hK119 _ _ (fun _ => hSk.out _ hC2) ?_
        clear hK119 K119 hS1
        have hS2 := hSk.out _ hC2
        refine wpAnyE_ready (rs := [15, 26]) (by kernel_rfl) (by simp) ?_
        refine (AllReadyE.cons rfl (fun K153 hK153 => ?_) (AllReadyE.cons rfl (fun K154 hK154 => ?_) AllReadyE.nil))
        · rw [if_pos (by kernel_rfl)]
          go_simp
          go_at_call 20
          refine (hblind y2).mono ?_
          rintro e y3 ⟨rfl, hB3⟩
          try go_simp
          have hC3 := hC2.trans (hB3.mono hC2.size)
          have hz3 := hB3.size
          have hb25 := hb25.keep hB3
          have hR27 := hR27.keep hB3
          refine hK153 _ _ (fun _ => hSk.out _ hC3) ?_
          clear hK153 K153 hS2
          have hS3 := hSk.out _ hC3
          refine wpAnyE_take (i := 20) (v := ?v_p155) rfl (by kernel_rfl) (by kernel_rfl) (by kernel_rfl) (by kernel_rfl) (by kernel_rfl) (fun _ _ _ h => h) (Or.inl ⟨by kernel_rfl, ?y_p155⟩) (by assumption) ?r_p155
          case y_p155 => intro wE hSw; obtain ⟨q0, q1, q2, q3, q4, q5, q6, q7, q8⟩ := hSw; go_simp; try with_reducible rfl
          case' r_p155 => ((try simp only [Act.put]); (try simp only [List.setIfInBounds_toArray]); (try simp only [List.set_cons_zero, List.set_cons_succ]))
          refine wpAnyE_ready (rs := [24, 26]) (by kernel_rfl) (by simp) ?_
          refine (AllReadyE.cons rfl (fun K156 hK156 => ?_) (AllReadyE.cons rfl (fun K157 hK157 => ?_) AllReadyE.nil))
          · refine step_appsv rfl _ _ 24 rfl it zz Try.underlying24 hti htz hsz1 hby hzc (by omega) hR27 (hsrc.out _ hC3) hlm hC3.size (by rfl) (by rfl) ?_
            intro v30 y4 hR30 hg hown
            rw [List.nil_append, List.take_of_length_le (Nat.le_refl _)] at hR30
            have hC4 := hC3.grown hg hC3.size (fun q hq => hR27.own_ge q hq)
            have hz4 := hg.size
            have hb25 := hb25.only' (Only.of_grown (S := fun k => (Value.slice (some ⟨y0.heap.size, 0, none⟩) 0 0).ownBlock = some k) hg (fun q h => h)) (fun _ k hk e => by have h1 : y1.heap.size = k := Option.some.inj hk; have h2 : y0.heap.size = k := Option.some.inj e; omega)
            have hlt30 := hR30.own_lt
            obtain ⟨ao30, c30, hv30, hz1, hz2, hz3⟩ := hR30.val
            clear hz1 hz2 hz3
            rw [List.length_map] at hv30
            subst hv30
            refine hK156 _ _ (fun _ => hSk.out _ hC4) ?_
            clear hK156 K156 hS3 hg hR27
            have hS4 := hSk.out _ hC4
            ((simp only [Act.put]); (try simp only [List.setIfInBounds_toArray]); (try simp only [List.set_cons_zero, List.set_cons_succ]))
            refine wpAnyE_take (i := 25) (v := ?v_p158) rfl (by kernel_rfl) (by kernel_rfl) (by kernel_rfl) (by kernel_rfl) (by kernel_rfl) (fun _ _ _ h => h) (Or.inl ⟨by kernel_rfl, ?y_p158⟩) (by assumption) ?r_p158
            case y_p158 => intro wE hSw; obtain ⟨q0, q1, q2, q3, q4, q5, q6, q7, q8⟩ := hSw; go_simp; try with_reducible rfl
            case' r_p158 => ((try simp only [Act.put]); (try simp only [List.setIfInBounds_toArray]); (try simp only [List.set_cons_zero, List.set_cons_succ]))
            refine wpAnyE_ready (rs := [26]) (by kernel_rfl) (by simp) ?_
            refine (AllReadyE.cons rfl (fun K159 hK159 => ?_) AllReadyE.nil)
            · rw [if_pos (by kernel_rfl)]
              go_simp
              have hB5 : Below y4.heap.size y4 (y4.alloc (.cells zM.toArray 41)) := (Below.refl _ _).alloc (Nat.le_refl _) _
              have hz5 : y4.heap.size < (y4.alloc (.cells zM.toArray 41)).heap.size := by simp
              have htq := there_new y4 zM 41
              rw [zM_len] at htq
              generalize hq5 : y4.alloc (.cells zM.toArray 41) = y5 at *
              clear hq5
              have hC5 := hC4.trans (hB5.mono hC4.size)
              have hb25 := hb25.keep hB5
              have hR30 := hR30.keep hB5
              refine hK159 _ _ (fun _ => hSk.out _ hC5) ?_
              clear hK159 K159 hS4
              have hS5 := hSk.out _ hC5
              obtain ⟨hst, hT⟩ := to_leaf x w2 y5 y4.heap.size (some ⟨y1.heap.size, 0, none⟩) x.m.row.set.length c25 ao30 x.m.ats.length c30 (HMF.out _ _ _ _ _ _) hK.1 htq hb25 hR30.rd (fun k hk => by have h1 : y1.heap.size = k := Option.some.inj hk; omega) (fun k hk => by have h3 := hlt30 k hk; exact hown.elim (fun e => by have h1 : y0.heap.size = k := Option.some.inj (e.symm.trans hk); omega) (fun e => by have h1 : y3.heap.size = k := Option.some.inj (e.symm.trans hk); omega)) (by omega) (by omega) (hB20.trans (hC5.mono (by omega)))
              refine wpAnyE_ready (rs := [27]) (by kernel_rfl) (by simp) ?_
              refine AllReadyE.cons rfl (fun K160 hK160 => ?_) AllReadyE.nil
              rw [if_pos (by kernel_rfl)]
              go_simp
              refine hK160 _ _ (fun h => Bool.noConfusion (show true = false from h)) ?_
              clear hK160 K160
              refine wpAnyE_done (by kernel_rfl) ?_ _
              have HT := Lib.hid hT
              clear hT hst hb25 hR30 htq hlt30 hown
              go_wp2_with fail
              go_meet
              exact HT.out
          · rw [if_pos (by kernel_rfl)]
            go_simp
            have hB4 : Below y3.heap.size y3 (y3.alloc (.cells zM.toArray 41)) := (Below.refl _ _).alloc (Nat.le_refl _) _
            have hz4 : y3.heap.size < (y3.alloc (.cells zM.toArray 41)).heap.size := by simp
            have htq := there_new y3 zM 41
            rw [zM_len] at htq
            generalize hq4 : y3.alloc (.cells zM.toArray 41) = y4 at *
            clear hq4
            have hC4 := hC3.trans (hB4.mono hC3.size)
            have hb25 := hb25.keep hB4
            have hR27 := hR27.keep hB4
            refine hK157 _ _ (fun _ => hSk.out _ hC4) ?_
            clear hK157 K157 hS3
            have hS4 := hSk.out _ hC4
            refine wpAnyE_ready (rs := [24]) (by kernel_rfl) (by simp) ?_
            refine (AllReadyE.cons rfl (fun K161 hK161 => ?_) AllReadyE.nil)
            · refine step_appsv rfl _ _ 24 rfl it zz Try.underlying24 hti htz hsz1 hby hzc (by omega) hR27 (hsrc.out _ hC4) hlm hC4.size (by rfl) (by rfl) ?_
              intro v30 y5 hR30 hg hown
              rw [List.nil_append, List.take_of_length_le (Nat.le_refl _)] at hR30
              have hC5 := hC4.grown hg hC4.size (fun q hq => hR27.own_ge q hq)
              have hz5 := hg.size
              have hb25 := hb25.only' (Only.of_grown (S := fun k => (Value.slice (some ⟨y0.heap.size, 0, none⟩) 0 0).ownBlock = some k) hg (fun q h => h)) (fun _ k hk e => by have h1 : y1.heap.size = k := Option.some.inj hk; have h2 : y0.heap.size = k := Option.some.inj e; omega)
              have htq := there_only htq (Only.of_grown (S := fun k => (Value.slice (some ⟨y0.heap.size, 0, none⟩) 0 0).ownBlock = some k) hg (fun q h => h)) (fun e => by have h2 : y0.heap.size = y3.heap.size := Option.some.inj e; omega)
              have hlt30 := hR30.own_lt
              obtain ⟨ao30, c30, hv30, hz1, hz2, hz3⟩ := hR30.val
              clear hz1 hz2 hz3
              rw [List.length_map] at hv30
              subst hv30
              refine hK161 _ _ (fun _ => hSk.out _ hC5) ?_
              clear hK161 K161 hS4 hg hR27
              have hS5 := hSk.out _ hC5
              ((simp only [Act.put]); (try simp only [List.setIfInBounds_toArray]); (try simp only [List.set_cons_zero, List.set_cons_succ]))
              refine wpAnyE_take (i := 25) (v := ?v_p162) rfl (by kernel_rfl) (by kernel_rfl) (by kernel_rfl) (by kernel_rfl) (by kernel_rfl) (fun _ _ _ h => h) (Or.inl ⟨by kernel_rfl, ?y_p162⟩) (by assumption) ?r_p162
              case y_p162 => intro wE hSw; obtain ⟨q0, q1, q2, q3, q4, q5, q6, q7, q8⟩ := hSw; go_simp; try with_reducible rfl
              case' r_p162 => ((try simp only [Act.put]); (try simp only [List.setIfInBounds_toArray]); (try simp only [List.set_cons_zero, List.set_cons_succ]))
              obtain ⟨hst, hT⟩ := to_leaf x w2 y5 y3.heap.size (some ⟨y1.heap.size, 0, none⟩) x.m.row.set.length c25 ao30 x.m.ats.length c30 (HMF.out _ _ _ _ _ _) hK.1 htq hb25 hR30.rd (fun k hk => by have h1 : y1.heap.size = k := Option.some.inj hk; omega) (fun k hk => by have h3 := hlt30 k hk; exact hown.elim (fun e => by have h1 : y0.heap.size = k := Option.some.inj (e.symm.trans hk); omega) (fun e => by have h1 : y4.heap.size = k := Option.some.inj (e.symm.trans hk); omega)) (by omega) (by omega) (hB20.trans (hC5.mono (by omega)))
              refine wpAnyE_ready (rs := [27]) (by kernel_rfl) (by simp) ?_
              refine AllReadyE.cons rfl (fun K163 hK163 => ?_) AllReadyE.nil
              rw [if_pos (by kernel_rfl)]
              go_simp
              refine hK163 _ _ (fun h => Bool.noConfusion (show true = false from h)) ?_
              clear hK163 K163
              refine wpAnyE_done (by kernel_rfl) ?_ _
              have HT := Lib.hid hT
              clear hT hst hb25 hR30 htq hlt30 hown
              go_wp2_with fail
              go_meet
              exact HT.out
        · rw [if_pos (by kernel_rfl)]
          go_simp
          have hB3 : Below y2.heap.size y2 (y2.alloc (.cells zM.toArray 41)) := (Below.refl _ _).alloc (Nat.le_refl _) _
          have hz3 : y2.heap.size < (y2.alloc (.cells zM.toArray 41)).heap.size := by simp
          have htq := there_new y2 zM 41
          rw [zM_len] at htq
          generalize hq3 : y2.alloc (.cells zM.toArray 41) = y3 at *
          clear hq3
          have hC3 := hC2.trans (hB3.mono hC2.size)
          have hb25 := hb25.keep hB3
          have hR27 := hR27.keep hB3
          refine hK154 _ _ (fun _ => hSk.out _ hC3) ?_
          clear hK154 K154 hS2
          have hS3 := hSk.out _ hC3
          refine wpAnyE_ready (rs := [15]) (by kernel_rfl) (by simp) ?_
          refine (AllReadyE.cons rfl (fun K164 hK164 => ?_) AllReadyE.nil)
          · rw [if_pos (by kernel_rfl)]
            go_simp
            go_at_call 20
            refine (hblind y3).mono ?_
            rintro e y4 ⟨rfl, hB4⟩
            try go_simp
            have hC4 := hC3.trans (hB4.mono hC3.size)
            have hz4 := hB4.size
            have hb25 := hb25.keep hB4
            have hR27 := hR27.keep hB4
            have htq := there_only htq (Only.of_below (S := fun _ => False) hB4) (fun h => h)
            refine hK164 _ _ (fun _ => hSk.out _ hC4) ?_
            clear hK164 K164 hS3
            have hS4 := hSk.out _ hC4
            refine wpAnyE_take (i := 20) (v := ?v_p165) rfl (by kernel_rfl) (by kernel_rfl) (by kernel_rfl) (by kernel_rfl) (by kernel_rfl) (fun _ _ _ h => h) (Or.inl ⟨by kernel_rfl, ?y_p165⟩) (by assumption) ?r_p165
            case y_p165 => intro wE hSw; obtain ⟨q0, q1, q2, q3, q4, q5, q6, q7, q8⟩ := hSw; go_simp; try with_reducible rfl
            case' r_p165 => ((try simp only [Act.put]); (try simp only [List.setIfInBounds_toArray]); (try simp only [List.set_cons_zero, List.set_cons_succ]))
            refine wpAnyE_ready (rs := [24]) (by kernel_rfl) (by simp) ?_
            refine (AllReadyE.cons rfl (fun K166 hK166 => ?_) AllReadyE.nil)
            · refine step_appsv rfl _ _ 24 rfl it zz Try.underlying24 hti htz hsz1 hby hzc (by omega) hR27 (hsrc.out _ hC4) hlm hC4.size (by rfl) (by rfl) ?_
              intro v30 y5 hR30 hg hown
              rw [List.nil_append, List.take_of_length_le (Nat.le_refl _)] at hR30
              have hC5 := hC4.grown hg hC4.size (fun q hq => hR27.own_ge q hq)
              have hz5 := hg.size
              have hb25 := hb25.only' (Only.of_grown (S := fun k => (Value.slice (some ⟨y0.heap.size, 0, none⟩) 0 0).ownBlock = some k) hg (fun q h => h)) (fun _ k hk e => by have h1 : y1.heap.size = k := Option.some.inj hk; have h2 : y0.heap.size = k := Option.some.inj e; omega)
              have htq := there_only htq (Only.of_grown (S := fun k => (Value.slice (some ⟨y0.heap.size, 0, none⟩) 0 0).ownBlock = some k) hg (fun q h => h)) (fun e => by have h2 : y0.heap.size = y2.heap.size := Option.some.inj e; omega)
              have hlt30 := hR30.own_lt
              obtain ⟨ao30, c30, hv30, hz1, hz2, hz3⟩ := hR30.val
              clear hz1 hz2 hz3
              rw [List.length_map] at hv30
              subst hv30
              refine hK166 _ _ (fun _ => hSk.out _ hC5) ?_
              clear hK166 K166 hS4 hg hR27
              have hS5 := hSk.out _ hC5
              ((simp only [Act.put]); (try simp only [List.setIfInBounds_toArray]); (try simp only [List.set_cons_zero, List.set_cons_succ]))
              refine wpAnyE_take (i := 25) (v := ?v_p167) rfl (by kernel_rfl) (by kernel_rfl) (by kernel_rfl) (by kernel_rfl) (by kernel_rfl) (fun _ _ _ h => h) (Or.inl ⟨by kernel_rfl, ?y_p167⟩) (by assumption) ?r_p167
              case y_p167 => intro wE hSw; obtain ⟨q0, q1, q2, q3, q4, q5, q6, q7, q8⟩ := hSw; go_simp; try with_reducible rfl
              case' r_p167 => ((try simp only [Act.put]); (try simp only [List.setIfInBounds_toArray]); (try simp only [List.set_cons_zero, List.set_cons_succ]))
              obtain ⟨hst, hT⟩ := to_leaf x w2 y5 y2.heap.size (some ⟨y1.heap.size, 0, none⟩) x.m.row.set.length c25 ao30 x.m.ats.length c30 (HMF.out _ _ _ _ _ _) hK.1 htq hb25 hR30.rd (fun k hk => by have h1 : y1.heap.size = k := Option.some.inj hk; omega) (fun k hk => by have h3 := hlt30 k hk; exact hown.elim (fun e => by have h1 : y0.heap.size = k := Option.some.inj (e.symm.trans hk); omega) (fun e => by have h1 : y4.heap.size = k := Option.some.inj (e.symm.trans hk); omega)) (by omega) (by omega) (hB20.trans (hC5.mono (by omega)))
              refine wpAnyE_ready (rs := [27]) (by kernel_rfl) (by simp) ?_
              refine AllReadyE.cons rfl (fun K168 hK168 => ?_) AllReadyE.nil
              rw [if_pos (by kernel_rfl)]
              go_simp
              refine hK168 _ _ (fun h => Bool.noConfusion (show true = false from h)) ?_
              clear hK168 K168
              refine wpAnyE_done (by kernel_rfl) ?_ _
              have HT := Lib.hid hT
              clear hT hst hb25 hR30 htq hlt30 hown
              go_wp2_with fail
              go_meet
              exact HT.out
      · rw [if_pos (by kernel_rfl)]
        go_simp
        have hB2 : Below y1.heap.size y1 (y1.alloc (.cells zM.toArray 41)) := (Below.refl _ _).alloc (Nat.le_refl _) _
        have hz2 : y1.heap.size < (y1.alloc (.cells zM.toArray 41)).heap.size := by simp
        have htq := there_new y1 zM 41
        rw [zM_len] at htq
        generalize hq2 : y1.alloc (.cells zM.toArray 41) = y2 at *
        clear hq2
        have hC2 := hC1.trans (hB2.mono hC1.size)
        have hR27 := hR27.keep hB2
        refine hK120 _ _ (fun _ => hSk.out _ hC2) ?_
        clear hK120 K120 hS1
        have hS2 := hSk.out _ hC2
        refine wpAnyE_ready (rs := [15, 19]) (by kernel_rfl) (by simp) ?_
        refine (AllReadyE.cons rfl (fun K169 hK169 => ?_) (AllReadyE.cons rfl (fun K170 hK170 => ?_) AllReadyE.nil))
        · rw [if_pos (by kernel_rfl)]
          go_simp
          go_at_call 20
          refine (hblind y2).mono ?_
          rintro e y3 ⟨rfl, hB3⟩
          try go_simp
          have hC3 := hC2.trans (hB3.mono hC2.size)
          have hz3 := hB3.size
          have hR27 := hR27.keep hB3
          have htq := there_only htq (Only.of_below (S := fun _ => False) hB3) (fun h => h)
          refine hK169 _ _ (fun _ => hSk.out _ hC3) ?_
          clear hK169 K169 hS2
          have hS3 := hSk.out _ hC3
          refine wpAnyE_ready (rs := [19, 24]) (by kernel_rfl) (by simp) ?_
          refine (AllReadyE.cons rfl (fun K171 hK171 => ?_) (AllReadyE.cons rfl (fun K172 hK172 => ?_) AllReadyE.nil))
          · rw [if_pos (by kernel_rfl)]
            go_simp
            obtain ⟨hb25, hB4, hz4⟩ := HBW.out y3
            generalize hq4 : cf y3 = c25 at *
            clear hq4
            generalize hq4 : bw y3 = y4 at *
            clear hq4
            have hC4 := hC3.trans (hB4.mono hC3.size)
            have hR27 := hR27.keep hB4
            have htq := there_only htq (Only.of_below (S := fun _ => False) hB4) (fun h => h)
            refine hK171 _ _ (fun _ => hSk.out _ hC4) ?_
            clear hK171 K171 hS3
            have hS4 := hSk.out _ hC4
            refine wpAnyE_take (i := 20) (v := ?v_p173) rfl (by kernel_rfl) (by kernel_rfl) (by kernel_rfl) (by kernel_rfl) (by kernel_rfl) (fun _ _ _ h => h) (Or.inl ⟨by kernel_rfl, ?y_p173⟩) (by assumption) ?r_p173
            case y_p173 => intro wE hSw; obtain ⟨q0, q1, q2, q3, q4, q5, q6, q7, q8⟩ := hSw; go_simp; try with_reducible rfl
            case' r_p173 => ((try simp only [Act.put]); (try simp only [List.setIfInBounds_toArray]); (try simp only [List.set_cons_zero, List.set_cons_succ]))
            refine wpAnyE_ready (rs := [24]) (by kernel_rfl) (by simp) ?_
            refine (AllReadyE.cons rfl (fun K174 hK174 => ?_) AllReadyE.nil)
            · refine step_appsv rfl _ _ 24 rfl it zz Try.underlying24 hti htz hsz1 hby hzc (by omega) hR27 (hsrc.out _ hC4) hlm hC4.size (by rfl) (by rfl) ?_
              intro v30 y5 hR30 hg hown
              rw [List.nil_append, List.take_of_length_le (Nat.le_refl _)] at hR30
              have hC5 := hC4.grown hg hC4.size (fun q hq => hR27.own_ge q hq)
              have hz5 := hg.size
              have hb25 := hb25.only' (Only.of_grown (S := fun k => (Value.slice (some ⟨y0.heap.size, 0, none⟩) 0 0).ownBlock = some k) hg (fun q h => h)) (fun _ k hk e => by have h1 : y3.heap.size = k := Option.some.inj hk; have h2 : y0.heap.size = k := Option.some.inj e; omega)
              have htq := there_only htq (Only.of_grown (S := fun k => (Value.slice (some ⟨y0.heap.size, 0, none⟩) 0 0).ownBlock = some k) hg (fun q h => h)) (fun e => by have h2 : y0.heap.size = y1.heap.size := Option.some.inj e; omega)
              have hlt30 := hR30.own_lt
              obtain ⟨ao30, c30, hv30, hz1, hz2, hz3⟩ := hR30.val
              clear hz1 hz2 hz3
              rw [List.length_map] at hv30
              subst hv30
              refine hK174 _ _ (fun _ => hSk.out _ hC5) ?_
              clear hK174 K174 hS4 hg hR27
              have hS5 := hSk.out _ hC5
              ((simp only [Act.put]); (try simp only [List.setIfInBounds_toArray]); (try simp only [List.set_cons_zero, List.set_cons_succ]))
              refine wpAnyE_take (i := 25) (v := ?v_p175) rfl (by kernel_rfl) (by kernel_rfl) (by kernel_rfl) (by kernel_rfl) (by kernel_rfl) (fun _ _ _ h => h) (Or.inl ⟨by kernel_rfl, ?y_p175⟩) (by assumption) ?r_p175
              case y_p175 => intro wE hSw; obtain ⟨q0, q1, q2, q3, q4, q5, q6, q7, q8⟩ := hSw; go_simp; try with_reducible rfl
              case' r_p175 => ((try simp only [Act.put]); (try simp only [List.setIfInBounds_toArray]); (try simp only [List.set_cons_zero, List.set_cons_succ]))
              obtain ⟨hst, hT⟩ := to_leaf x w2 y5 y1.heap.size (some ⟨y3.heap.size, 0, none⟩) x.m.row.set.length c25 ao30 x.m.ats.length c30 (HMF.out _ _ _ _ _ _) hK.1 htq hb25 hR30.rd (fun k hk => by have h1 : y3.heap.size = k := Option.some.inj hk; omega) (fun k hk => by have h3 := hlt30 k hk; exact hown.elim (fun e => by have h1 : y0.heap.size = k := Option.some.inj (e.symm.trans hk); omega) (fun e => by have h1 : y4.heap.size = k := Option.some.inj (e.symm.trans hk); omega)) (by omega) (by omega) (hB20.trans (hC5.mono (by omega)))
              refine wpAnyE_ready (rs := [27]) (by kernel_rfl) (by simp) ?_
              refine AllReadyE.cons rfl (fun K176 hK176 => ?_) AllReadyE.nil
              rw [if_pos (by kernel_rfl)]
              go_simp
              refine hK176 _ _ (fun h => Bool.noConfusion (show true = false from h)) ?_
              clear hK176 K176
              refine wpAnyE_done (by kernel_rfl) ?_ _
              have HT := Lib.hid hT
              clear hT hst hb25 hR30 htq hlt30 hown
              go_wp2_with fail
              go_meet
              exact HT.out
          · refine step_appsv rfl _ _ 24 rfl it zz Try.underlying24 hti htz hsz1 hby hzc (by omega) hR27 (hsrc.out _ hC3) hlm hC3.size (by rfl) (by rfl) ?_
            intro v30 y4 hR30 hg hown
            rw [List.nil_append, List.take_of_length_le (Nat.le_refl _)] at hR30
            have hC4 := hC3.grown hg hC3.size (fun q hq => hR27.own_ge q hq)
            have hz4 := hg.size
            have htq := there_only htq (Only.of_grown (S := fun k => (Value.slice (some ⟨y0.heap.size, 0, none⟩) 0 0).ownBlock = some k) hg (fun q h => h)) (fun e => by have h2 : y0.heap.size = y1.heap.size := Option.some.inj e; omega)
            have hlt30 := hR30.own_lt
            obtain ⟨ao30, c30, hv30, hz1, hz2, hz3⟩ := hR30.val
            clear hz1 hz2 hz3
            rw [List.length_map] at hv30
            subst hv30
            refine hK172 _ _ (fun _ => hSk.out _ hC4) ?_
            clear hK172 K172 hS3 hg hR27
            have hS4 := hSk.out _ hC4
            ((simp only [Act.put]); (try simp only [List.setIfInBounds_toArray]); (try simp only [List.set_cons_zero, List.set_cons_succ]))
            refine wpAnyE_ready (rs := [19]) (by kernel_rfl) (by simp) ?_
            refine (AllReadyE.cons rfl (fun K177 hK177 => ?_) AllReadyE.nil)
            · rw [if_pos (by kernel_rfl)]
              go_simp
              obtain ⟨hb25, hB5, hz5⟩ := HBW.out y4
              generalize hq5 : cf y4 = c25 at *
              clear hq5
              generalize hq5 : bw y4 = y5 at *
              clear hq5
              have hC5 := hC4.trans (hB5.mono hC4.size)
              have hR30 := hR30.keep hB5
              have htq := there_only htq (Only.of_below (S := fun _ => False) hB5) (fun h => h)
              refine hK177 _ _ (fun _ => hSk.out _ hC5) ?_
              clear hK177 K177 hS4
              have hS5 := hSk.out _ hC5
              refine wpAnyE_take (i := 20) (v := ?v_p178) rfl (by kernel_rfl) (by kernel_rfl) (by kernel_rfl) (by kernel_rfl) (by kernel_rfl) (fun _ _ _ h => h) (Or.inl ⟨by kernel_rfl, ?y_p178⟩) (by assumption) ?r_p178
              case y_p178 => intro wE hSw; obtain ⟨q0, q1, q2, q3, q4, q5, q6, q7, q8⟩ := hSw; go_simp; try with_reducible rfl
              case' r_p178 => ((try simp only [Act.put]); (try simp only [List.setIfInBounds_toArray]); (try simp only [List.set_cons_zero, List.set_cons_succ]))
              refine wpAnyE_take (i := 25) (v := ?v_p179) rfl (by kernel_rfl) (by kernel_rfl) (by kernel_rfl) (by kernel_rfl) (by kernel_rfl) (fun _ _ _ h => h) (Or.inl ⟨by kernel_rfl, ?y_p179⟩) (by assumption) ?r_p179
              case y_p179 => intro wE hSw; obtain ⟨q0, q1, q2, q3, q4, q5, q6, q7, q8⟩ := hSw; go_simp; try with_reducible rfl
              case' r_p179 => ((try simp only [Act.put]); (try simp only [List.setIfInBounds_toArray]); (try simp only [List.set_cons_zero, List.set_cons_succ]))
              obtain ⟨hst, hT⟩ := to_leaf x w2 y5 y1.heap.size (some ⟨y4.heap.size, 0, none⟩) x.m.row.set.length c25 ao30 x.m.ats.length c30 (HMF.out _ _ _ _ _ _) hK.1 htq hb25 hR30.rd (fun k hk => by have h1 : y4.heap.size = k := Option.some.inj hk; omega) (fun k hk => by have h3 := hlt30 k hk; exact hown.elim (fun e => by have h1 : y0.heap.size = k := Option.some.inj (e.symm.trans hk); omega) (fun e => by have h1 : y3.heap.size = k := Option.some.inj (e.symm.trans hk); omega)) (by omega) (by omega) (hB20.trans (hC5.mono (by omega)))
              refine wpAnyE_ready (rs := [27]) (by kernel_rfl) (by simp) ?_
              refine AllReadyE.cons rfl (fun K180 hK180 => ?_) AllReadyE.nil
              rw [if_pos (by kernel_rfl)]
              go_simp
              refine hK180 _ _ (fun h => Bool.noConfusion (show true = false from h)) ?_
              clear hK180 K180
              refine wpAnyE_done (by kernel_rfl) ?_ _
              have HT := Lib.hid hT
              clear hT hst hb25 hR30 htq hlt30 hown
              go_wp2_with fail
              go_meet
              exact HT.out
        · rw [if_pos (by kernel_rfl)]
          go_simp
          obtain ⟨hb25, hB3, hz3⟩ := HBW.out y2
          generalize hq3 : cf y2 = c25 at *
          clear hq3
          generalize hq3 : bw y2 = y3 at *
          clear hq3
          have hC3 := hC2.trans (hB3.mono hC2.size)
          have hR27 := hR27.keep hB3
          have htq := there_only htq (Only.of_below (S := fun _ => False) hB3) (fun h => h)
          refine hK170 _ _ (fun _ => hSk.out _ hC3) ?_
          clear hK170 K170 hS2
          have hS3 := hSk.out _ hC3
          refine wpAnyE_ready (rs := [15]) (by kernel_rfl) (by simp) ?_
          refine (AllReadyE.cons rfl (fun K181 hK181 => ?_) AllReadyE.nil)
          · rw [if_pos (by kernel_rfl)]
            go_simp
            go_at_call 20
            refine (hblind y3).mono ?_
            rintro e y4 ⟨rfl, hB4⟩
            try go_simp
            have hC4 := hC3.trans (hB4.mono hC3.size)
            have hz4 := hB4.size
            have hb25 := hb25.keep hB4
            have hR27 := hR27.keep hB4
            have htq := there_only htq (Only.of_below (S := fun _ => False) hB4) (fun h => h)
            refine hK181 _ _ (fun _ => hSk.out _ hC4) ?_
            clear hK181 K181 hS3
            have hS4 := hSk.out _ hC4
            refine wpAnyE_take (i := 20) (v := ?v_p182) rfl (by kernel_rfl) (by kernel_rfl) (by kernel_rfl) (by kernel_rfl) (by kernel_rfl) (fun _ _ _ h => h) (Or.inl ⟨by kernel_rfl, ?y_p182⟩) (by assumption) ?r_p182
            case y_p182 => intro wE hSw; obtain ⟨q0, q1, q2, q3, q4, q5, q6, q7, q8⟩ := hSw; go_simp; try with_reducible rfl
            case' r_p182 => ((try simp only [Act.put]); (try simp only [List.setIfInBounds_toArray]); (try simp only [List.set_cons_zero, List.set_cons_succ]))
            refine wpAnyE_ready (rs := [24]) (by kernel_rfl) (by simp) ?_
            refine (AllReadyE.cons rfl (fun K183 hK183 => ?_) AllReadyE.nil)
            · refine step_appsv rfl _ _ 24 rfl it zz Try.underlying24 hti htz hsz1 hby hzc (by omega) hR27 (hsrc.out _ hC4) hlm hC4.size (by rfl) (by rfl) ?_
              intro v30 y5 hR30 hg hown
              rw [List.nil_append, List.take_of_length_le (Nat.le_refl _)] at hR30
              have hC5 := hC4.grown hg hC4.size (fun q hq => hR27.own_ge q hq)
              have hz5 := hg.size
              have hb25 := hb25.only' (Only.of_grown (S := fun k => (Value.slice (some ⟨y0.heap.size, 0, none⟩) 0 0).ownBlock = some k) hg (fun q h => h)) (fun _ k hk e => by have h1 : y2.heap.size = k := Option.some.inj hk; have h2 : y0.heap.size = k := Option.some.inj e; omega)
              have htq := there_only htq (Only.of_grown (S := fun k => (Value.slice (some ⟨y0.heap.size, 0, none⟩) 0 0).ownBlock = some k) hg (fun q h => h)) (fun e => by have h2 : y0.heap.size = y1.heap.size := Option.some.inj e; omega)
              have hlt30 := hR30.own_lt
              obtain ⟨ao30, c30, hv30, hz1, hz2, hz3⟩ := hR30.val
              clear hz1 hz2 hz3
              rw [List.length_map] at hv30
              subst hv30
              refine hK183 _ _ (fun _ => hSk.out _ hC5) ?_
              clear hK183 K183 hS4 hg hR27
              have hS5 := hSk.out _ hC5
              ((simp only [Act.put]); (try simp only [List.setIfInBounds_toArray]); (try simp only [List.set_cons_zero, List.set_cons_succ]))
              refine wpAnyE_take (i := 25) (v := ?v_p184) rfl (by kernel_rfl) (by kernel_rfl) (by kernel_rfl) (by kernel_rfl) (by kernel_rfl) (fun _ _ _ h => h) (Or.inl ⟨by kernel_rfl, ?y_p184⟩) (by assumption) ?r_p184
              case y_p184 => intro wE hSw; obtain ⟨q0, q1, q2, q3, q4, q5, q6, q7, q8⟩ := hSw; go_simp; try with_reducible rfl
              case' r_p184 => ((try simp only [Act.put]); (try simp only [List.setIfInBounds_toArray]); (try simp only [List.set_cons_zero, List.set_cons_succ]))
              obtain ⟨hst, hT⟩ := to_leaf x w2 y5 y1.heap.size (some ⟨y2.heap.size, 0, none⟩) x.m.row.set.length c25 ao30 x.m.ats.length c30 (HMF.out _ _ _ _ _ _) hK.1 htq hb25 hR30.rd (fun k hk => by have h1 : y2.heap.size = k := Option.some.inj hk; omega) (fun k hk => by have h3 := hlt30 k hk; exact hown.elim (fun e => by have h1 : y0.heap.size = k := Option.some.inj (e.symm.trans hk); omega) (fun e => by have h1 : y4.heap.size = k := Option.some.inj (e.symm.trans hk); omega)) (by omega) (by omega) (hB20.trans (hC5.mono (by omega)))
              refine wpAnyE_ready (rs := [27]) (by kernel_rfl) (by simp) ?_
              refine AllReadyE.cons rfl (fun K185 hK185 => ?_) AllReadyE.nil
              rw [if_pos (by kernel_rfl)]
              go_simp
              refine hK185 _ _ (fun h => Bool.noConfusion (show true = false from h)) ?_
              clear hK185 K185
              refine wpAnyE_done (by kernel_rfl) ?_ _
              have HT := Lib.hid hT
              clear hT hst hb25 hR30 htq hlt30 hown
              go_wp2_with fail
              go_meet
              exact HT.out
    · rw [if_pos (by kernel_rfl)]
      go_simp
      have hB1 : Below y0.heap.size y0 (y0.alloc (.cells zM.toArray 41)) := (Below.refl _ _).alloc (Nat.le_refl _) _
      have hz1 : y0.heap.size < (y0.alloc (.cells zM.toArray 41)).heap.size := by simp
      have htq := there_new y0 zM 41
      rw [zM_len] at htq
      generalize hq1 : y0.alloc (.cells zM.toArray 41) = y1 at *
      clear hq1
      have hC1 := hC0.trans (hB1.mono hC0.size)
      refine hK4 _ _ (fun _ => hSk.out _ hC1) ?_
      clear hK4 K4 hS0
      have hS1 := hSk.out _ hC1
      refine wpAnyE_ready (rs := [15, 19, 21]) (by kernel_rfl) (by simp) ?_
      refine (AllReadyE.cons rfl (fun K186 hK186 => ?_) (AllReadyE.cons rfl (fun K187 hK187 => ?_) (AllReadyE.cons rfl (fun K188 hK188 => ?_) AllReadyE.nil)))
      · rw [if_pos (by kernel_rfl)]
        go_simp
        go_at_call 20
        refine (hblind y1).mono ?_
        rintro e y2 ⟨rfl, hB2⟩
        try go_simp
        have hC2 := hC1.trans (hB2.mono hC1.size)
        have hz2 := hB2.size
        have htq := there_only htq (Only.of_below (S := fun _ => False) hB2) (fun h => h)
        refine hK186 _ _ (fun _ => hSk.out _ hC2) ?_
        clear hK186 K186 hS1
        have hS2 := hSk.out _ hC2
        refine wpAnyE_ready (rs := [19, 21]) (by kernel_rfl) (by simp) ?_
        refine (AllReadyE.cons rfl (fun K189 hK189 => ?_) (AllReadyE.cons rfl (fun K190 hK190 => ?_) AllReadyE.nil))
        · rw [if_pos (by kernel_rfl)]
          go_simp
          obtain ⟨hb25, hB3, hz3⟩ := HBW.out y2
          generalize hq3 : cf y2 = c25 at *
          clear hq3
          generalize hq3 : bw y2 = y3 at *
          clear hq3
          have hC3 := hC2.trans (hB3.mono hC2.size)
          have htq := there_only htq (Only.of_below (S := fun _ => False) hB3) (fun h => h)
          refine hK189 _ _ (fun _ => hSk.out _ hC3) ?_
          clear hK189 K189 hS2
          have hS3 := hSk.out _ hC3
          refine wpAnyE_take (i := 20) (v := ?v_p191) rfl (by kernel_rfl) (by kernel_rfl) (by kernel_rfl) (by kernel_rfl) (by kernel_rfl) (fun _ _ _ h => h) (Or.inl ⟨by kernel_rfl, ?y_p191⟩) (by assumption) ?r_p191
          case y_p191 => intro wE hSw; obtain ⟨q0, q1, q2, q3, q4, q5, q6, q7, q8⟩ := hSw; go_simp; try with_reducible rfl
          case' r_p191 => ((try simp only [Act.put]); (try simp only [List.setIfInBounds_toArray]); (try simp only [List.set_cons_zero, List.set_cons_succ]))
          refine wpAnyE_ready (rs := [21]) (by kernel_rfl) (by simp) ?_
          refine (AllReadyE.cons rfl (fun K192 hK192 => ?_) AllReadyE.nil)
          · rw [if_pos (by kernel_rfl)]
            go_simp
            have hB4 : Below y3.heap.size y3 (y3.alloc (.cells #[] 3)) := (Below.refl _ _).alloc (Nat.le_refl _) _
            have hz4 : y3.heap.size < (y3.alloc (.cells #[] 3)).heap.size := by simp
            have hR27 : RW (y3.alloc (.cells #[] 3)) y0.heap.size 3 1 (.slice (some ⟨y3.heap.size, 0, none⟩) 0 0) [] := ⟨World.ownsRow_made y3 #[] 0 hC3.size (by decide) (by simp), by intro q hq; cases hq⟩
            generalize hq4 : y3.alloc (.cells #[] 3) = y4 at *
            clear hq4
            have hC4 := hC3.trans (hB4.mono hC3.size)
            have hb25 := hb25.keep hB4
            have htq := there_only htq (Only.of_below (S := fun _ => False) hB4) (fun h => h)
            refine hK192 _ _ (fun _ => hSk.out _ hC4) ?_
            clear hK192 K192 hS3
            have hS4 := hSk.out _ hC4
            refine wpAnyE_ready (rs := [24]) (by kernel_rfl) (by simp) ?_
            refine (AllReadyE.cons rfl (fun K193 hK193 => ?_) AllReadyE.nil)
            · refine step_appsv rfl _ _ 24 rfl it zz Try.underlying24 hti htz hsz1 hby hzc (by omega) hR27 (hsrc.out _ hC4) hlm hC4.size (by rfl) (by rfl) ?_
              intro v30 y5 hR30 hg hown
              rw [List.nil_append, List.take_of_length_le (Nat.le_refl _)] at hR30
              have hC5 := hC4.grown hg hC4.size (fun q hq => hR27.own_ge q hq)
              have hz5 := hg.size
              have hb25 := hb25.only' (Only.of_grown (S := fun k => (Value.slice (some ⟨y3.heap.size, 0, none⟩) 0 0).ownBlock = some k) hg (fun q h => h)) (fun _ k hk e => by have h1 : y2.heap.size = k := Option.some.inj hk; have h2 : y3.heap.size = k := Option.some.inj e; omega)
              have htq := there_only htq (Only.of_grown (S := fun k => (Value.slice (some ⟨y3.heap.size, 0, none⟩) 0 0).ownBlock = some k) hg (fun q h => h)) (fun e => by have h2 : y3.heap.size = y0.heap.size := Option.some.inj e; omega)
              have hlt30 := hR30.own_lt
              obtain ⟨ao30, c30, hv30, hz1, hz2, hz3⟩ := hR30.val
              clear hz1 hz2 hz3
              rw [List.length_map] at hv30
              subst hv30
              refine hK193 _ _ (fun _ => hSk.out _ hC5) ?_
              clear hK193 K193 hS4 hg hR27
              have hS5 := hSk.out _ hC5
              ((simp only [Act.put]); (try simp only [List.setIfInBounds_toArray]); (try simp only [List.set_cons_zero, List.set_cons_succ]))
              refine wpAnyE_take (i := 25) (v := ?v_p194) rfl (by kernel_rfl) (by kernel_rfl) (by kernel_rfl) (by kernel_rfl) (by kernel_rfl) (fun _ _ _ h => h) (Or.inl ⟨by kernel_rfl, ?y_p194⟩) (by assumption) ?r_p194
              case y_p194 => intro wE hSw; obtain ⟨q0, q1, q2, q3, q4, q5, q6, q7, q8⟩ := hSw; go_simp; try with_reducible rfl
              case' r_p194 => ((try simp only [Act.put]); (try simp only [List.setIfInBounds_toArray]); (try simp only [List.set_cons_zero, List.set_cons_succ]))
              obtain ⟨hst, hT⟩ := to_leaf x w2 y5 y0.heap.size (some ⟨y2.heap.size, 0, none⟩) x.m.row.set.length c25 ao30 x.m.ats.length c30 (HMF.out _ _ _ _ _ _) hK.1 htq hb25 hR30.rd (fun k hk => by have h1 : y2.heap.size = k := Option.some.inj hk; omega) (fun k hk => by have h3 := hlt30 k hk; exact hown.elim (fun e => by have h1 : y3.heap.size = k := Option.some.inj (e.symm.trans hk); omega) (fun e => by have h1 : y4.heap.size = k := Option.some.inj (e.symm.trans hk); omega)) (by omega) (by omega) (hB20.trans (hC5.mono (by omega)))
              refine wpAnyE_ready (rs := [27]) (by kernel_rfl) (by simp) ?_
              refine AllReadyE.cons rfl (fun K195 hK195 => ?_) AllReadyE.nil
              rw [if_pos (by kernel_rfl)]
              go_simp
              refine hK195 _ _ (fun h => Bool.noConfusion (show true = false from h)) ?_
              clear hK195 K195
              refine wpAnyE_done (by kernel_rfl) ?_ _
              have HT := Lib.hid hT
              clear hT hst hb25 hR30 htq hlt30 hown
              go_wp2_with fail
              go_meet
              exact HT.out
        · rw [if_pos (by kernel_rfl)]
          go_simp
          have hB3 : Below y2.heap.size y2 (y2.alloc (.cells #[] 3)) := (Below.refl _ _).alloc (Nat.le_refl _) _
          have hz3 : y2.heap.size < (y2.alloc (.cells #[] 3)).heap.size := by simp
          have hR27 : RW (y2.alloc (.cells #[] 3)) y0.heap.size 3 1 (.slice (some ⟨y2.heap.size, 0, none⟩) 0 0) [] := ⟨World.ownsRow_made y2 #[] 0 hC2.size (by decide) (by simp), by intro q hq; cases hq⟩
          generalize hq3 : y2.alloc (.cells #[] 3) = y3 at *
          clear hq3
          have hC3 := hC2.trans (hB3.mono hC2.size)
          have htq := there_only htq (Only.of_below (S := fun _ => False) hB3) (fun h => h)
          refine hK190 _ _ (fun _ => hSk.out _ hC3) ?_
          clear hK190 K190 hS2
          have hS3 := hSk.out _ hC3
          refine wpAnyE_ready (rs := [19, 24]) (by kernel_rfl) (by simp) ?_
          refine (AllReadyE.cons rfl (fun K196 hK196 => ?_) (AllReadyE.cons rfl (fun K197 hK197 => ?_) AllReadyE.nil))
          · rw [if_pos (by kernel_rfl)]
            go_simp
            obtain ⟨hb25, hB4, hz4⟩ := HBW.out y3
            generalize hq4 : cf y3 = c25 at *
            clear hq4
            generalize hq4 : bw y3 = y4 at *
            clear hq4
            have hC4 := hC3.trans (hB4.mono hC3.size)
            have hR27 := hR27.keep hB4
            have htq := there_only htq (Only.of_below (S := fun _ => False) hB4) (fun h => h)
            refine hK196 _ _ (fun _ => hSk.out _ hC4) ?_
            clear hK196 K196 hS3
            have hS4 := hSk.out _ hC4
            refine wpAnyE_take (i := 20) (v := ?v_p198) rfl (by kernel_rfl) (by kernel_rfl) (by kernel_rfl) (by kernel_rfl) (by kernel_rfl) (fun _ _ _ h => h) (Or.inl ⟨by kernel_rfl, ?y_p198⟩) (by assumption) ?r_p198
            case y_p198 => intro wE hSw; obtain ⟨q0, q1, q2, q3, q4, q5, q6, q7, q8⟩ := hSw; go_simp; try with_reducible rfl
            case' r_p198 => ((try simp only [Act.put]); (try simp only [List.setIfInBounds_toArray]); (try simp only [List.set_cons_zero, List.set_cons_succ]))
            refine wpAnyE_ready (rs := [24]) (by kernel_rfl) (by simp) ?_
            refine (AllReadyE.cons rfl (fun K199 hK199 => ?_) AllReadyE.nil)
            · refine step_appsv rfl _ _ 24 rfl it zz Try.underlying24 hti htz hsz1 hby hzc (by omega) hR27 (hsrc.out _ hC4) hlm hC4.size (by rfl) (by rfl) ?_
              intro v30 y5 hR30 hg hown
              rw [List.nil_append, List.take_of_length_le (Nat.le_refl _)] at hR30
              have hC5 := hC4.grown hg hC4.size (fun q hq => hR27.own_ge q hq)
              have hz5 := hg.size
              have hb25 := hb25.only' (Only.of_grown (S := fun k => (Value.slice (some ⟨y2.heap.size, 0, none⟩) 0 0).ownBlock = some k) hg (fun q h => h)) (fun _ k hk e => by have h1 : y3.heap.size = k := Option.some.inj hk; have h2 : y2.heap.size = k := Option.some.inj e; omega)
              have htq := there_only htq (Only.of_grown (S := fun k => (Value.slice (some ⟨y2.heap.size, 0, none⟩) 0 0).ownBlock = some k) hg (fun q h => h)) (fun e => by have h2 : y2.heap.size = y0.heap.size := Option.some.inj e; omega)
              have hlt30 := hR30.own_lt
              obtain ⟨ao30, c30, hv30, hz1, hz2, hz3⟩ := hR30.val
              clear hz1 hz2 hz3
              rw [List.length_map] at hv30
              subst hv30
              refine hK199 _ _ (fun _ => hSk.out _ hC5) ?_
              clear hK199 K199 hS4 hg hR27
              have hS5 := hSk.out _ hC5
              ((simp only [Act.put]); (try simp only [List.setIfInBounds_toArray]); (try simp only [List.set_cons_zero, List.set_cons_succ]))
              refine wpAnyE_take (i := 25) (v := ?v_p200) rfl (by kernel_rfl) (by kernel_rfl) (by kernel_rfl) (by kernel_rfl) (by kernel_rfl) (fun _ _ _ h => h) (Or.inl ⟨by kernel_rfl, ?y_p200⟩) (by assumption) ?r_p200
              case y_p200 => intro wE hSw; obtain ⟨q0, q1, q2, q3, q4, q5, q6, q7, q8⟩ := hSw; go_simp; try with_reducible rfl
              case' r_p200 => ((try simp only [Act.put]); (try simp only [List.setIfInBounds_toArray]); (try simp only [List.set_cons_zero, List.set_cons_succ]))
              obtain ⟨hst, hT⟩ := to_leaf x w2 y5 y0.heap.size (some ⟨y3.heap.size, 0, none⟩) x.m.row.set.length c25 ao30 x.m.ats.length c30 (HMF.out _ _ _ _ _ _) hK.1 htq hb25 hR30.rd (fun k hk => by have h1 : y3.heap.size = k := Option.some.inj hk; omega) (fun k hk => by have h3 := hlt30 k hk; exact hown.elim (fun e => by have h1 : y2.heap.size = k := Option.some.inj (e.symm.trans hk); omega) (fun e => by have h1 : y4.heap.size = k := Option.some.inj (e.symm.trans hk); omega)) (by omega) (by omega) (hB20.trans (hC5.mono (by omega)))
              refine wpAnyE_ready (rs := [27]) (by kernel_rfl) (by simp) ?_
              refine AllReadyE.cons rfl (fun K201 hK201 => ?_) AllReadyE.nil
              rw [if_pos (by kernel_rfl)]
              go_simp
              refine hK201 _ _ (fun h => Bool.noConfusion (show true = false from h)) ?_
              clear hK201 K201
              refine wpAnyE_done (by kernel_rfl) ?_ _
              have HT := Lib.hid hT
              clear hT hst hb25 hR30 htq hlt30 hown
              go_wp2_with fail
              go_meet
              exact HT.out
          · refine step_appsv rfl _ _ 24 rfl it zz Try.underlying24 hti htz hsz1 hby hzc (by omega) hR27 (hsrc.out _ hC3) hlm hC3.size (by rfl) (by rfl) ?_
            intro v30 y4 hR30 hg hown
            rw [List.nil_append, List.take_of_length_le (Nat.le_refl _)] at hR30
            have hC4 := hC3.grown hg hC3.size (fun q hq => hR27.own_ge q hq)
            have hz4 := hg.size
            have htq := there_only htq (Only.of_grown (S := fun k => (Value.slice (some ⟨y2.heap.size, 0, none⟩) 0 0).ownBlock = some k) hg (fun q h => h)) (fun e => by have h2 : y2.heap.size = y0.heap.size := Option.some.inj e; omega)
            have hlt30 := hR30.own_lt
            obtain ⟨ao30, c30, hv30, hz1, hz2, hz3⟩ := hR30.val
            clear hz1 hz2 hz3
            rw [List.length_map] at hv30
            subst hv30
            refine hK197 _ _ (fun _ => hSk.out _ hC4) ?_
            clear hK197 K197 hS3 hg hR27
            have hS4 := hSk.out _ hC4
            ((simp only [Act.put]); (try simp only [List.setIfInBounds_toArray]); (try simp only [List.set_cons_zero, List.set_cons_succ]))
            refine wpAnyE_ready (rs := [19]) (by kernel_rfl) (by simp) ?_
            refine (AllReadyE.cons rfl (fun K202 hK202 => ?_) AllReadyE.nil)
            · rw [if_pos (by kernel_rfl)]
              go_simp
              obtain ⟨hb25, hB5, hz5⟩ := HBW.out y4
              generalize hq5 : cf y4 = c25 at *
              clear hq5
              generalize hq5 : bw y4 = y5 at *
              clear hq5
              have hC5 := hC4.trans (hB5.mono hC4.size)
              have hR30 := hR30.keep hB5
              have htq := there_only htq (Only.of_below (S := fun _ => False) hB5) (fun h => h)
              refine hK202 _ _ (fun _ => hSk.out _ hC5) ?_
              clear hK202 K202 hS4
              have hS5 := hSk.out _ hC5
              refine wpAnyE_take (i := 20) (v := ?v_p203) rfl (by kernel_rfl) (by kernel_rfl) (by kernel_rfl) (by kernel_rfl) (by kernel_rfl) (fun _ _ _ h => h) (Or.inl ⟨by kernel_rfl, ?y_p203⟩) (by assumption) ?r_p203
              case y_p203 => intro wE hSw; obtain ⟨q0, q1, q2, q3, q4, q5, q6, q7, q8⟩ := hSw; go_simp; try with_reducible rfl
              case' r_p203 => ((try simp only [Act.put]); (try simp only [List.setIfInBounds_toArray]); (try simp only [List.set_cons_zero, List.set_cons_succ]))
              refine wpAnyE_take (i := 25) (v := ?v_p204) rfl (by kernel_rfl) (by kernel_rfl) (by kernel_rfl) (by kernel_rfl) (by kernel_rfl) (fun _ _ _ h => h) (Or.inl ⟨by kernel_rfl, ?y_p204⟩) (by assumption) ?r_p204
              case y_p204 => intro wE hSw; obtain ⟨q0, q1, q2, q3, q4, q5, q6, q7, q8⟩ := hSw; go_simp; try with_reducible rfl
              case' r_p204 => ((try simp only [Act.put]); (try simp only [List.setIfInBounds_toArray]); (try simp only [List.set_cons_zero, List.set_cons_succ]))
              obtain ⟨hst, hT⟩ := to_leaf x w2 y5 y0.heap.size (some ⟨y4.heap.size, 0, none⟩) x.m.row.set.length c25 ao30 x.m.ats.length c30 (HMF.out _ _ _ _ _ _) hK.1 htq hb25 hR30.rd (fun k hk => by have h1 : y4.heap.size = k := Option.some.inj hk; omega) (fun k hk => by have h3 := hlt30 k hk; exact hown.elim (fun e => by have h1 : y2.heap.size = k := Option.some.inj (e.symm.trans hk); omega) (fun e => by have h1 : y3.heap.size = k := Option.some.inj (e.symm.trans hk); omega)) (by omega) (by omega) (hB20.trans (hC5.mono (by omega)))
              refine wpAnyE_ready (rs := [27]) (by kernel_rfl) (by simp) ?_
              refine AllReadyE.cons rfl (fun K205 hK205 => ?_) AllReadyE.nil
              rw [if_pos (by kernel_rfl)]
              go_simp
              refine hK205 _ _ (fun h => Bool.noConfusion (show true = false from h)) ?_
              clear hK205 K205
              refine wpAnyE_done (by kernel_rfl) ?_ _
              have HT := Lib.hid hT
              clear hT hst hb25 hR30 htq hlt30 hown
              go_wp2_with fail
              go_meet
              exact HT.out
      · rw [if_pos (by kernel_rfl)]
        go_simp
        obtain ⟨hb25, hB2, hz2⟩ := HBW.out y1
        generalize hq2 : cf y1 = c25 at *
        clear hq2
        generalize hq2 : bw y1 = y2 at *
        clear hq2
        have hC2 := hC1.trans (hB2.mono hC1.size)
        have htq := there_only htq (Only.of_below (S := fun _ => False) hB2) (fun h => h)
        refine hK187 _ _ (fun _ => hSk.out _ hC2) ?_
        clear hK187 K187 hS1
        have hS2 := hSk.out _ hC2
        refine wpAnyE_ready (rs := [15, 21]) (by kernel_rfl) (by simp) ?_
        refine (AllReadyE.cons rfl (fun K206 hK206 => ?_) (AllReadyE.cons rfl (fun K207 hK207 => ?_) AllReadyE.nil))
        · rw [if_pos (by kernel_rfl)]
          go_simp
          go_at_call 20
          refine (hblind y2).mono ?_
          rintro e y3 ⟨rfl, hB3⟩
          try go_simp
          have hC3 := hC2.trans (hB3.mono hC2.size)
          have hz3 := hB3.size
          have hb25 := hb25.keep hB3
          have htq := there_only htq (Only.of_below (S := fun _ => False) hB3) (fun h => h)
          refine hK206 _ _ (fun _ => hSk.out _ hC3) ?_
          clear hK206 K206 hS2
          have hS3 := hSk.out _ hC3
          refine wpAnyE_take (i := 20) (v := ?v_p208) rfl (by kernel_rfl) (by kernel_rfl) (by kernel_rfl) (by kernel_rfl) (by kernel_rfl) (fun _ _ _ h => h) (Or.inl ⟨by kernel_rfl, ?y_p208⟩) (by assumption) ?r_p208
          case y_p208 => intro wE hSw; obtain ⟨q0, q1, q2, q3, q4, q5, q6, q7, q8⟩ := hSw; go_simp; try with_reducible rfl
          case' r_p208 => ((try simp only [Act.put]); (try simp only [List.setIfInBounds_toArray]); (try simp only [List.set_cons_zero, List.set_cons_succ]))
          refine wpAnyE_ready (rs := [21]) (by kernel_rfl) (by simp) ?_
          refine (AllReadyE.cons rfl (fun K209 hK209 => ?_) AllReadyE.nil)
          · rw [if_pos (by kernel_rfl)]
            go_simp
            have hB4 : Below y3.heap.size y3 (y3.alloc (.cells #[] 3)) := (Below.refl _ _).alloc (Nat.le_refl _) _
            have hz4 : y3.heap.size < (y3.alloc (.cells #[] 3)).heap.size := by simp
            have hR27 : RW (y3.alloc (.cells #[] 3)) y0.heap.size 3 1 (.slice (some ⟨y3.heap.size, 0, none⟩) 0 0) [] := ⟨World.ownsRow_made y3 #[] 0 hC3.size (by decide) (by simp), by intro q hq; cases hq⟩
            generalize hq4 : y3.alloc (.cells #[] 3) = y4 at *
            clear hq4
            have hC4 := hC3.trans (hB4.mono hC3.size)
            have hb25 := hb25.keep hB4
            have htq := there_only htq (Only.of_below (S := fun _ => False) hB4) (fun h => h)
            refine hK209 _ _ (fun _ => hSk.out _ hC4) ?_
            clear hK209 K209 hS3
            have hS4 := hSk.out _ hC4
            refine wpAnyE_ready (rs := [24]) (by kernel_rfl) (by simp) ?_
            refine (AllReadyE.cons rfl (fun K210 hK210 => ?_) AllReadyE.nil)
            · refine step_appsv rfl _ _ 24 rfl it zz Try.underlying24 hti htz hsz1 hby hzc (by omega) hR27 (hsrc.out _ hC4) hlm hC4.size (by rfl) (by rfl) ?_
              intro v30 y5 hR30 hg hown
              rw [List.nil_append, List.take_of_length_le (Nat.le_refl _)] at hR30
              have hC5 := hC4.grown hg hC4.size (fun q hq => hR27.own_ge q hq)
              have hz5 := hg.size
              have hb25 := hb25.only' (Only.of_grown (S := fun k => (Value.slice (some ⟨y3.heap.size, 0, none⟩) 0 0).ownBlock = some k) hg (fun q h => h)) (fun _ k hk e => by have h1 : y1.heap.size = k := Option.some.inj hk; have h2 : y3.heap.size = k := Option.some.inj e; omega)
              have htq := there_only htq (Only.of_grown (S := fun k => (Value.slice (some ⟨y3.heap.size, 0, none⟩) 0 0).ownBlock = some k) hg (fun q h => h)) (fun e => by have h2 : y3.heap.size = y0.heap.size := Option.some.inj e; omega)
              have hlt30 := hR30.own_lt
              obtain ⟨ao30, c30, hv30, hz1, hz2, hz3⟩ := hR30.val
              clear hz1 hz2 hz3
              rw [List.length_map] at hv30
              subst hv30
              refine hK210 _ _ (fun _ => hSk.out _ hC5) ?_
              clear hK210 K210 hS4 hg hR27
              have hS5 := hSk.out _ hC5
              ((simp only [Act.put]); (try simp only [List.setIfInBounds_toArray]); (try simp only [List.set_cons_zero, List.set_cons_succ]))
              refine wpAnyE_take (i := 25) (v := ?v_p211) rfl (by kernel_rfl) (by kernel_rfl) (by kernel_rfl) (by kernel_rfl) (by kernel_rfl) (fun _ _ _ h => h) (Or.inl ⟨by kernel_rfl, ?y_p211⟩) (by assumption) ?r_p211
              case y_p211 => intro wE hSw; obtain ⟨q0, q1, q2, q3, q4, q5, q6, q7, q8⟩ := hSw; go_simp; try with_reducible rfl
              case' r_p211 => ((try simp only [Act.put]); (try simp only [List.setIfInBounds_toArray]); (try simp only [List.set_cons_zero, List.set_cons_succ]))
              obtain ⟨hst, hT⟩ := to_leaf x w2 y5 y0.heap.size (some ⟨y1.heap.size, 0, none⟩) x.m.row.set.length c25 ao30 x.m.ats.length c30 (HMF.out _ _ _ _ _ _) hK.1 htq hb25 hR30.rd (fun k hk => by have h1 : y1.heap.size = k := Option.some.inj hk; omega) (fun k hk => by have h3 := hlt30 k hk; exact hown.elim (fun e => by have h1 : y3.heap.size = k := Option.some.inj (e.symm.trans hk); omega) (fun e => by have h1 : y4.heap.size = k := Option.some.inj (e.symm.trans hk); omega)) (by omega) (by omega) (hB20.trans (hC5.mono (by omega)))
              refine wpAnyE_ready (rs := [27]) (by kernel_rfl) (by simp) ?_
              refine AllReadyE.cons rfl (fun K212 hK212 => ?_) AllReadyE.nil
              rw [if_pos (by kernel_rfl)]
              go_simp
              refine hK212 _ _ (fun h => Bool.noConfusion (show true = false from h)) ?_
              clear hK212 K212
              refine wpAnyE_done (by kernel_rfl) ?_ _
              have HT := Lib.hid hT
              clear hT hst hb25 hR30 htq hlt30 hown
              go_wp2_with fail
              go_meet
              exact HT.out
        · rw [if_pos (by kernel_rfl)]
          go_simp
          have hB3 : Below y2.heap.size y2 (y2.alloc (.cells #[] 3)) := (Below.refl _ _).alloc (Nat.le_refl _) _
          have hz3 : y2.heap.size < (y2.alloc (.cells #[] 3)).heap.size := by simp
          have hR27 : RW (y2.alloc (.cells #[] 3)) y0.heap.size 3 1 (.slice (some ⟨y2.heap.size, 0, none⟩) 0 0) [] := ⟨World.ownsRow_made y2 #[] 0 hC2.size (by decide) (by simp), by intro q hq; cases hq⟩
          generalize hq3 : y2.alloc (.cells #[] 3) = y3 at *
          clear hq3
          have hC3 := hC2.trans (hB3.mono hC2.size)
          have hb25 := hb25.keep hB3
          have htq := there_only htq (Only.of_below (S := fun _ => False) hB3) (fun h => h)
          refine hK207 _ _ (fun _ => hSk.out _ hC3) ?_
          clear hK207 K207 hS2
          have hS3 := hSk.out _ hC3
          refine wpAnyE_ready (rs := [15]) (by kernel_rfl) (by simp) ?_
          refine (AllReadyE.cons rfl (fun K213 hK213 => ?_) AllReadyE.nil)
          · rw [if_pos (by kernel_rfl)]
            go_simp
            go_at_call 20
            refine (hblind y3).mono ?_
            rintro e y4 ⟨rfl, hB4⟩
            try go_simp
            have hC4 := hC3.trans (hB4.mono hC3.size)
            have hz4 := hB4.size
            have hb25 := hb25.keep hB4
            have hR27 := hR27.keep hB4
            have htq := there_only htq (Only.of_below (S := fun _ => False) hB4) (fun h => h)
            refine hK213 _ _ (fun _ => hSk.out _ hC4) ?_
            clear hK213 K213 hS3
            have hS4 := hSk.out _ hC4
            refine wpAnyE_take (i := 20) (v := ?v_p214) rfl (by kernel_rfl) (by kernel_rfl) (by kernel_rfl) (by kernel_rfl) (by kernel_rfl) (fun _ _ _ h => h) (Or.inl ⟨by kernel_rfl, ?y_p214⟩) (by assumption) ?r_p214
            case y_p214 => intro wE hSw; obtain ⟨q0, q1, q2, q3, q4, q5, q6, q7, q8⟩ := hSw; go_simp; try with_reducible rfl
            case' r_p214 => ((try simp only [Act.put]); (try simp only [List.setIfInBounds_toArray]); (try simp only [List.set_cons_zero, List.set_cons_succ]))
            refine wpAnyE_ready (rs := [24]) (by kernel_rfl) (by simp) ?_
            refine (AllReadyE.cons rfl (fun K215 hK215 => ?_) AllReadyE.nil)
            · refine step_appsv rfl _ _ 24 rfl it zz Try.underlying24 hti htz hsz1 hby hzc (by omega) hR27 (hsrc.out _ hC4) hlm hC4.size (by rfl) (by rfl) ?_
              intro v30 y5 hR30 hg hown
              rw [List.nil_append, List.take_of_length_le (Nat.le_refl _)] at hR30
              have hC5 := hC4.grown hg hC4.size (fun q hq => hR27.own_ge q hq)
              have hz5 := hg.size
              have hb25 := hb25.only' (Only.of_grown (S := fun k => (Value.slice (some ⟨y2.heap.size, 0, none⟩) 0 0).ownBlock = some k) hg (fun q h => h)) (fun _ k hk e => by have h1 : y1.heap.size = k := Option.some.inj hk; have h2 : y2.heap.size = k := Option.some.inj e; omega)
              have htq := there_only htq (Only.of_grown (S := fun k => (Value.slice (some ⟨y2.heap.size, 0, none⟩) 0 0).ownBlock = some k) hg (fun q h => h)) (fun e => by have h2 : y2.heap.size = y0.heap.size := Option.some.inj e; omega)
              have hlt30 := hR30.own_lt
              obtain ⟨ao30, c30, hv30, hz1, hz2, hz3⟩ := hR30.val
              clear hz1 hz2 hz3
              rw [List.length_map] at hv30
              subst hv30
              refine hK215 _ _ (fun _ => hSk.out _ hC5) ?_
              clear hK215 K215 hS4 hg hR27
              have hS5 := hSk.out _ hC5
              ((simp only [Act.put]); (try simp only [List.setIfInBounds_toArray]); (try simp only [List.set_cons_zero, List.set_cons_succ]))
              refine wpAnyE_take (i := 25) (v := ?v_p216) rfl (by kernel_rfl) (by kernel_rfl) (by kernel_rfl) (by kernel_rfl) (by kernel_rfl) (fun _ _ _ h => h) (Or.inl ⟨by kernel_rfl, ?y_p216⟩) (by assumption) ?r_p216
              case y_p216 => intro wE hSw; obtain ⟨q0, q1, q2, q3, q4, q5, q6, q7, q8⟩ := hSw; go_simp; try with_reducible rfl
              case' r_p216 => ((try simp only [Act.put]); (try simp only [List.setIfInBounds_toArray]); (try simp only [List.set_cons_zero, List.set_cons_succ]))
              obtain ⟨hst, hT⟩ := to_leaf x w2 y5 y0.heap.size (some ⟨y1.heap.size, 0, none⟩) x.m.row.set.length c25 ao30 x.m.ats.length c30 (HMF.out _ _ _ _ _ _) hK.1 htq hb25 hR30.rd (fun k hk => by have h1 : y1.heap.size = k := Option.some.inj hk; omega) (fun k hk => by have h3 := hlt30 k hk; exact hown.elim (fun e => by have h1 : y2.heap.size = k := Option.some.inj (e.symm.trans hk); omega) (fun e => by have h1 : y4.heap.size = k := Option.some.inj (e.symm.trans hk); omega)) (by omega) (by omega) (hB20.trans (hC5.mono (by omega)))
              refine wpAnyE_ready (rs := [27]) (by kernel_rfl) (by simp) ?_
              refine AllReadyE.cons rfl (fun K217 hK217 => ?_) AllReadyE.nil
              rw [if_pos (by kernel_rfl)]
              go_simp
              refine hK217 _ _ (fun h => Bool.noConfusion (show true = false from h)) ?_
              clear hK217 K217
              refine wpAnyE_done (by kernel_rfl) ?_ _
              have HT := Lib.hid hT
              clear hT hst hb25 hR30 htq hlt30 hown
              go_wp2_with fail
              go_meet
              exact HT.out
      · rw [if_pos (by kernel_rfl)]
        go_simp
        have hB2 : Below y1.heap.size y1 (y1.alloc (.cells #[] 3)) := (Below.refl _ _).alloc (Nat.le_refl _) _
        have hz2 : y1.heap.size < (y1.alloc (.cells #[] 3)).heap.size := by simp
        have hR27 : RW (y1.alloc (.cells #[] 3)) y0.heap.size 3 1 (.slice (some ⟨y1.heap.size, 0, none⟩) 0 0) [] := ⟨World.ownsRow_made y1 #[] 0 hC1.size (by decide) (by simp), by intro q hq; cases hq⟩
        generalize hq2 : y1.alloc (.cells #[] 3) = y2 at *
        clear hq2
        have hC2 := hC1.trans (hB2.mono hC1.size)
        have htq := there_only htq (Only.of_below (S := fun _ => False) hB2) (fun h => h)
        refine hK188 _ _ (fun _ => hSk.out _ hC2) ?_
        clear hK188 K188 hS1
        have hS2 := hSk.out _ hC2
        refine wpAnyE_ready (rs := [15, 19]) (by kernel_rfl) (by simp) ?_
        refine (AllReadyE.cons rfl (fun K218 hK218 => ?_) (AllReadyE.cons rfl (fun K219 hK219 => ?_) AllReadyE.nil))
        · rw [if_pos (by kernel_rfl)]
          go_simp
          go_at_call 20
          refine (hblind y2).mono ?_
          rintro e y3 ⟨rfl, hB3⟩
          try go_simp
          have hC3 := hC2.trans (hB3.mono hC2.size)
          have hz3 := hB3.size
          have hR27 := hR27.keep hB3
          have htq := there_only htq (Only.of_below (S := fun _ => False) hB3) (fun h => h)
          refine hK218 _ _ (fun _ => hSk.out _ hC3) ?_
          clear hK218 K218 hS2
          have hS3 := hSk.out _ hC3
          refine wpAnyE_ready (rs := [19, 24]) (by kernel_rfl) (by simp) ?_
          refine (AllReadyE.cons rfl (fun K220 hK220 => ?_) (AllReadyE.cons rfl (fun K221 hK221 => ?_) AllReadyE.nil))
          · rw [if_pos (by kernel_rfl)]
            go_simp
            obtain ⟨hb25, hB4, hz4⟩ := HBW.out y3
            generalize hq4 : cf y3 = c25 at *
            clear hq4
            generalize hq4 : bw y3 = y4 at *
            clear hq4
            have hC4 := hC3.trans (hB4.mono hC3.size)
            have hR27 := hR27.keep hB4
            have htq := there_only htq (Only.of_below (S := fun _ => False) hB4) (fun h => h)
            refine hK220 _ _ (fun _ => hSk.out _ hC4) ?_
            clear hK220 K220 hS3
            have hS4 := hSk.out _ hC4
            refine wpAnyE_take (i := 20) (v := ?v_p222) rfl (by kernel_rfl) (by kernel_rfl) (by kernel_rfl) (by kernel_rfl) (by kernel_rfl) (fun _ _ _ h => h) (Or.inl ⟨by kernel_rfl, ?y_p222⟩) (by assumption) ?r_p222
            case y_p222 => intro wE hSw; obtain ⟨q0, q1, q2, q3, q4, q5, q6, q7, q8⟩ := hSw; go_simp; try with_reducible rfl
            case' r_p222 => ((try simp only [Act.put]); (try simp only [List.setIfInBounds_toArray]); (try simp only [List.set_cons_zero, List.set_cons_succ]))
            refine wpAnyE_ready (rs := [24]) (by kernel_rfl) (by simp) ?_
            refine (AllReadyE.cons rfl (fun K223 hK223 => ?_) AllReadyE.nil)
            · refine step_appsv rfl _ _ 24 rfl it zz Try.underlying24 hti htz hsz1 hby hzc (by omega) hR27 (hsrc.out _ hC4) hlm hC4.size (by rfl) (by rfl) ?_
              intro v30 y5 hR30 hg hown
              rw [List.nil_append, List.take_of_length_le (Nat.le_refl _)] at hR30
              have hC5 := hC4.grown hg hC4.size (fun q hq => hR27.own_ge q hq)
              have hz5 := hg.size
              have hb25 := hb25.only' (Only.of_grown (S := fun k => (Value.slice (some ⟨y1.heap.size, 0, none⟩) 0 0).ownBlock = some k) hg (fun q h => h)) (fun _ k hk e => by have h1 : y3.heap.size = k := Option.some.inj hk; have h2 : y1.heap.size = k := Option.some.inj e; omega)
              have htq := there_only htq (Only.of_grown (S := fun k => (Value.slice (some ⟨y1.heap.size, 0, none⟩) 0 0).ownBlock = some k) hg (fun q h => h)) (fun e => by have h2 : y1.heap.size = y0.heap.size := Option.some.inj e; omega)
              have hlt30 := hR30.own_lt
              obtain ⟨ao30, c30, hv30, hz1, hz2, hz3⟩ := hR30.val
              clear hz1 hz2 hz3
              rw [List.length_map] at hv30
              subst hv30
              refine hK223 _ _ (fun _ => hSk.out _ hC5) ?_
              clear hK223 K223 hS4 hg hR27
              have hS5 := hSk.out _ hC5
              ((simp only [Act.put]); (try simp only [List.setIfInBounds_toArray]); (try simp only [List.set_cons_zero, List.set_cons_succ]))
              refine wpAnyE_take (i := 25) (v := ?v_p224) rfl (by kernel_rfl) (by kernel_rfl) (by kernel_rfl) (by kernel_rfl) (by kernel_rfl) (fun _ _ _ h => h) (Or.inl ⟨by kernel_rfl, ?y_p224⟩) (by assumption) ?r_p224
              case y_p224 => intro wE hSw; obtain ⟨q0, q1, q2, q3, q4, q5, q6, q7, q8⟩ := hSw; go_simp; try with_reducible rfl
              case' r_p224 => ((try simp only [Act.put]); (try simp only [List.setIfInBounds_toArray]); (try simp only [List.set_cons_zero, List.set_cons_succ]))
              obtain ⟨hst, hT⟩ := to_leaf x w2 y5 y0.heap.size (some ⟨y3.heap.size, 0, none⟩) x.m.row.set.length c25 ao30 x.m.ats.length c30 (HMF.out _ _ _ _ _ _) hK.1 htq hb25 hR30.rd (fun k hk => by have h1 : y3.heap.size = k := Option.some.inj hk; omega) (fun k hk => by have h3 := hlt30 k hk; exact hown.elim (fun e => by have h1 : y1.heap.size = k := Option.some.inj (e.symm.trans hk); omega) (fun e => by have h1 : y4.heap.size = k := Option.some.inj (e.symm.trans hk); omega)) (by omega) (by omega) (hB20.trans (hC5.mono (by omega)))
              refine wpAnyE_ready (rs := [27]) (by kernel_rfl) (by simp) ?_
              refine AllReadyE.cons rfl (fun K225 hK225 => ?_) AllReadyE.nil
              rw [if_pos (by kernel_rfl)]
              go_simp
              refine hK225 _ _ (fun h => Bool.noConfusion (show true = false from h)) ?_
              clear hK225 K225
              refine wpAnyE_done (by kernel_rfl) ?_ _
              have HT := Lib.hid hT
              clear hT hst hb25 hR30 htq hlt30 hown
              go_wp2_with fail
              go_meet
              exact HT.out
          · refine step_appsv rfl _ _ 24 rfl it zz Try.underlying24 hti htz hsz1 hby hzc (by omega) hR27 (hsrc.out _ hC3) hlm hC3.size (by rfl) (by rfl) ?_
            intro v30 y4 hR30 hg hown
            rw [List.nil_append, List.take_of_length_le (Nat.le_refl _)] at hR30
            have hC4 := hC3.grown hg hC3.size (fun q hq => hR27.own_ge q hq)
            have hz4 := hg.size
            have htq := there_only htq (Only.of_grown (S := fun k => (Value.slice (some ⟨y1.heap.size, 0, none⟩) 0 0).ownBlock = some k) hg (fun q h => h)) (fun e => by have h2 : y1.heap.size = y0.heap.size := Option.some.inj e; omega)
            have hlt30 := hR30.own_lt
            obtain ⟨ao30, c30, hv30, hz1, hz2, hz3⟩ := hR30.val
            clear hz1 hz2 hz3
            rw [List.length_map] at hv30
            subst hv30
            refine hK221 _ _ (fun _ => hSk.out _ hC4) ?_
            clear hK221 K221 hS3 hg hR27
            have hS4 := hSk.out _ hC4
            ((simp only [Act.put]); (try simp only [List.setIfInBounds_toArray]); (try simp only [List.set_cons_zero, List.set_cons_succ]))
            refine wpAnyE_ready (rs := [19]) (by kernel_rfl) (by simp) ?_
            refine (AllReadyE.cons rfl (fun K226 hK226 => ?_) AllReadyE.nil)
            · rw [if_pos (by kernel_rfl)]
              go_simp
              obtain ⟨hb25, hB5, hz5⟩ := HBW.out y4
              generalize hq5 : cf y4 = c25 at *
              clear hq5
              generalize hq5 : bw y4 = y5 at *
              clear hq5
              have hC5 := hC4.trans (hB5.mono hC4.size)
              have hR30 := hR30.keep hB5
              have htq := there_only htq (Only.of_below (S := fun _ => False) hB5) (fun h => h)
              refine hK226 _ _ (fun _ => hSk.out _ hC5) ?_
              clear hK226 K226 hS4
              have hS5 := hSk.out _ hC5
              refine wpAnyE_take (i := 20) (v := ?v_p227) rfl (by kernel_rfl) (by kernel_rfl) (by kernel_rfl) (by kernel_rfl) (by kernel_rfl) (fun _ _ _ h => h) (Or.inl ⟨by kernel_rfl, ?y_p227⟩) (by assumption) ?r_p227
              case y_p227 => intro wE hSw; obtain ⟨q0, q1, q2, q3, q4, q5, q6, q7, q8⟩ := hSw; go_simp; try with_reducible rfl
              case' r_p227 => ((try simp only [Act.put]); (try simp only [List.setIfInBounds_toArray]); (try simp only [List.set_cons_zero, List.set_cons_succ]))
              refine wpAnyE_take (i := 25) (v := ?v_p228) rfl (by kernel_rfl) (by kernel_rfl) (by kernel_rfl) (by kernel_rfl) (by kernel_rfl) (fun _ _ _ h => h) (Or.inl ⟨by kernel_rfl, ?y_p228⟩) (by assumption) ?r_p228
              case y_p228 => intro wE hSw; obtain ⟨q0, q1, q2, q3, q4, q5, q6, q7, q8⟩ := hSw; go_simp; try with_reducible rfl
              case' r_p228 => ((try simp only [Act.put]); (try simp only [List.setIfInBounds_toArray]); (try simp only [List.set_cons_zero, List.set_cons_succ]))
              obtain ⟨hst, hT⟩ := to_leaf x w2 y5 y0.heap.size (some ⟨y4.heap.size, 0, none⟩) x.m.row.set.length c25 ao30 x.m.ats.length c30 (HMF.out _ _ _ _ _ _) hK.1 htq hb25 hR30.rd (fun k hk => by have h1 : y4.heap.size = k := Option.some.inj hk; omega) (fun k hk => by have h3 := hlt30 k hk; exact hown.elim (fun e => by have h1 : y1.heap.size = k := Option.some.inj (e.symm.trans hk); omega) (fun e => by have h1 : y3.heap.size = k := Option.some.inj (e.symm.trans hk); omega)) (by omega) (by omega) (hB20.trans (hC5.mono (by omega)))
              refine wpAnyE_ready (rs := [27]) (by kernel_rfl) (by simp) ?_
              refine AllReadyE.cons rfl (fun K229 hK229 => ?_) AllReadyE.nil
              rw [if_pos (by kernel_rfl)]
              go_simp
              refine hK229 _ _ (fun h => Bool.noConfusion (show true = false from h)) ?_
              clear hK229 K229
              refine wpAnyE_done (by kernel_rfl) ?_ _
              have HT := Lib.hid hT
              clear hT hst hb25 hR30 htq hlt30 hown
              go_wp2_with fail
              go_meet
              exact HT.out
        · rw [if_pos (by kernel_rfl)]
          go_simp
          obtain ⟨hb25, hB3, hz3⟩ := HBW.out y2
          generalize hq3 : cf y2 = c25 at *
          clear hq3
          generalize hq3 : bw y2 = y3 at *
          clear hq3
          have hC3 := hC2.trans (hB3.mono hC2.size)
          have hR27 := hR27.keep hB3
          have htq := there_only htq (Only.of_below (S := fun _ => False) hB3) (fun h => h)
          refine hK219 _ _ (fun _ => hSk.out _ hC3) ?_
          clear hK219 K219 hS2
          have hS3 := hSk.out _ hC3
          refine wpAnyE_ready (rs := [15]) (by kernel_rfl) (by simp) ?_
          refine (AllReadyE.cons rfl (fun K230 hK230 => ?_) AllReadyE.nil)
          · rw [if_pos (by kernel_rfl)]
            go_simp
            go_at_call 20
            refine (hblind y3).mono ?_
            rintro e y4 ⟨rfl, hB4⟩
            try go_simp
            have hC4 := hC3.trans (hB4.mono hC3.size)
            have hz4 := hB4.size
            have hb25 := hb25.keep hB4
            have hR27 := hR27.keep hB4
            have htq := there_only htq (Only.of_below (S := fun _ => False) hB4) (fun h => h)
            refine hK230 _ _ (fun _ => hSk.out _ hC4) ?_
            clear hK230 K230 hS3
            have hS4 := hSk.out _ hC4
            refine wpAnyE_take (i := 20) (v := ?v_p231) rfl (by kernel_rfl) (by kernel_rfl) (by kernel_rfl) (by kernel_rfl) (by kernel_rfl) (fun _ _ _ h => h) (Or.inl ⟨by kernel_rfl, ?y_p231⟩) (by assumption) ?r_p231
            case y_p231 => intro wE hSw; obtain ⟨q0, q1, q2, q3, q4, q5, q6, q7, q8⟩ := hSw; go_simp; try with_reducible rfl
            case' r_p231 => ((try simp only [Act.put]); (try simp only [List.setIfInBounds_toArray]); (try simp only [List.set_cons_zero, List.set_cons_succ]))
            refine wpAnyE_ready (rs := [24]) (by kernel_rfl) (by simp) ?_
            refine (AllReadyE.cons rfl (fun K232 hK232 => ?_) AllReadyE.nil)
            · refine step_appsv rfl _ _ 24 rfl it zz Try.underlying24 hti htz hsz1 hby hzc (by omega) hR27 (hsrc.out _ hC4) hlm hC4.size (by rfl) (by rfl) ?_
              intro v30 y5 hR30 hg hown
              rw [List.nil_append, List.take_of_length_le (Nat.le_refl _)] at hR30
              have hC5 := hC4.grown hg hC4.size (fun q hq => hR27.own_ge q hq)
              have hz5 := hg.size
              have hb25 := hb25.only' (Only.of_grown (S := fun k => (Value.slice (some ⟨y1.heap.size, 0, none⟩) 0 0).ownBlock = some k) hg (fun q h => h)) (fun _ k hk e => by have h1 : y2.heap.size = k := Option.some.inj hk; have h2 : y1.heap.size = k := Option.some.inj e; omega)
              have htq := there_only htq (Only.of_grown (S := fun k => (Value.slice (some ⟨y1.heap.size, 0, none⟩) 0 0).ownBlock = some k) hg (fun q h => h)) (fun e => by have h2 : y1.heap.size = y0.heap.size := Option.some.inj e; omega)
              have hlt30 := hR30.own_lt
              obtain ⟨ao30, c30, hv30, hz1, hz2, hz3⟩ := hR30.val
              clear hz1 hz2 hz3
              rw [List.length_map] at hv30
              subst hv30
              refine hK232 _ _ (fun _ => hSk.out _ hC5) ?_
              clear hK232 K232 hS4 hg hR27
              have hS5 := hSk.out _ hC5
              ((simp only [Act.put]); (try simp only [List.setIfInBounds_toArray]); (try simp only [List.set_cons_zero, List.set_cons_succ]))
              refine wpAnyE_take (i := 25) (v := ?v_p233) rfl (by kernel_rfl) (by kernel_rfl) (by kernel_rfl) (by kernel_rfl) (by kernel_rfl) (fun _ _ _ h => h) (Or.inl ⟨by kernel_rfl, ?y_p233⟩) (by assumption) ?r_p233
              case y_p233 => intro wE hSw; obtain ⟨q0, q1, q2, q3, q4, q5, q6, q7, q8⟩ := hSw; go_simp; try with_reducible rfl
              case' r_p233 => ((try simp only [Act.put]); (try simp only [List.setIfInBounds_toArray]); (try simp only [List.set_cons_zero, List.set_cons_succ]))
              obtain ⟨hst, hT⟩ := to_leaf x w2 y5 y0.heap.size (some ⟨y2.heap.size, 0, none⟩) x.m.row.set.length c25 ao30 x.m.ats.length c30 (HMF.out _ _ _ _ _ _) hK.1 htq hb25 hR30.rd (fun k hk => by have h1 : y2.heap.size = k := Option.some.inj hk; omega) (fun k hk => by have h3 := hlt30 k hk; exact hown.elim (fun e => by have h1 : y1.heap.size = k := Option.some.inj (e.symm.trans hk); omega) (fun e => by have h1 : y4.heap.size = k := Option.some.inj (e.symm.trans hk); omega)) (by omega) (by omega) (hB20.trans (hC5.mono (by omega)))
              refine wpAnyE_ready (rs := [27]) (by kernel_rfl) (by simp) ?_
              refine AllReadyE.cons rfl (fun K234 hK234 => ?_) AllReadyE.nil
              rw [if_pos (by kernel_rfl)]
              go_simp
              refine hK234 _ _ (fun h => Bool.noConfusion (show true = false from h)) ?_
              clear hK234 K234
              refine wpAnyE_done (by kernel_rfl) ?_ _
              have HT := Lib.hid hT
              clear hT hst hb25 hR30 htq hlt30 hown
              go_wp2_with fail
              go_meet
              exact HT.out
  case rest =>
    obtain ⟨q, av, sv, rfl, hq2, hqw, hqr0, htq0, hsv0, hav0, hsvo, havo, hB0⟩ := hcut
    clear hal
    have hbx3 := rangeAt_keep hbx2 hB0
    have c8 : wc.cell? ⟨w.heap.size, 8, none⟩ = some x.av := by simpa using hbx3 8 _ rfl
    have c9 : wc.cell? ⟨w.heap.size, 9, none⟩ = some (.slice do_ x.m.digs.length dc) := by
      have h9 := hbx3 9 x.dv rfl
      rw [hdv, Nat.zero_add] at h9
      exact h9
    have c10 : wc.cell? ⟨w.heap.size, 10, none⟩ = some (.slice ro x.m.rows.length rc) := by
      have h9 := hbx3 10 x.rv rfl
      rw [hrv, Nat.zero_add] at h9
      exact h9
    have ty3 := there_only ty2 (Only.of_below (S := fun _ => False) hB0) (fun h => h)
    have hB3w := hB2.trans (hB0.mono hB2.size)
    have hs0 := hB0.size
    have hbl : w.heap.size < wc.heap.size := by omega
    obtain ⟨ao3, ac3, hav3⟩ := hav0.shape
    obtain ⟨so3, sc3, hsv3⟩ := hsv0.shape
    rw [List.length_map] at hav3
    subst hav3
    subst hsv3
    clear hbx2 hbx3 ty2 hB2 hB0 c8 haa hats
    have hbq : ¬ w.heap.size = q := by omega
    obtain ⟨it, zz, hti, htz, hzc, hsz1, hby⟩ := big32.elt
    rw [zK_len] at hzc hsz1
    have HK := Lib.hid hK
    go_wp2_with fail
    go_loopw [4] (fun j wr => ∃ (i : Nat) (ds : List (List UInt8)) (dvv : Value), i ≤ x.m.digs.length ∧ j = .int .i64 i ∧ ds = x.m.digs.take i ∧ RW wr wc.heap.size 34 32 dvv (ds.map (·.map bv)) ∧
      wr.rangeAt q 0 (MV.C ⟨⟨x.m.kind, x.m.frm, x.m.ask, x.m.err, x.m.hold, x.m.level, x.m.row, x.m.ats, ds, []⟩, .slice so3 x.m.row.set.length sc3, .slice ao3 x.m.ats.length ac3, dvv, .slice none 0 0, []⟩) ∧ wr.there q 0 42 ∧ Only (fun k => k = q) wc wr) (fun j _ => x.m.digs.length - (intOf j).toNat)
    case atStart => exact ⟨0, [], .slice none 0 0, Nat.zero_le _, rfl, by simp, RW.nil _ _ _ _, hqr0, htq0, Only.refl _ _⟩
    case round =>
      obtain ⟨i, ds, dvv, hi, rfl, hds, hR, hqr, htr, hEr⟩ := hrel
      have hszr := hEr.size
      have c9r := (hEr.cell (p := ⟨w.heap.size, 9, none⟩) hbl hbq).trans c9
      have c10r := (hEr.cell (p := ⟨w.heap.size, 10, none⟩) hbl hbq).trans c10
      have hi0 : (0 : Int) ≤ i := Int.natCast_nonneg _
      have hdsl : ds.length = i := by rw [hds, List.length_take]; omega
      obtain ⟨ro3, rc3, hvv, hz1, hz2, hz3⟩ := hR.val
      clear hz1 hz2 hz3
      rw [List.length_map] at hvv
      subst hvv
      by_cases hlt : i < x.m.digs.length
      · have hlt2 : (i : Int) < x.m.digs.length := by omega
        obtain ⟨ga, oa, rfl, hcl⟩ := hdd (fun e => by rw [e] at hlt; simp at hlt)
        have hBw : Below w.heap.size w wr := hB3w.trans (hEr.to_below (by omega) (fun k hk => by omega))
        have hcell := rangeAt_keep (hcl i hlt) hBw
        have hd32 := hK.2.1 x.m.digs[i] (List.getElem_mem hlt)
        have hf : ds ++ [x.m.digs[i]] = x.m.digs.take (i + 1) := by rw [hds, List.take_succ_eq_append_getElem hlt]
        have hgal : ga < w.heap.size := World.block_lt_of_cell? w _ (hcl i hlt 0 (.string ⟨(x.m.digs[i]).toArray⟩) rfl)
        generalize x.m.digs[i] = dg at *
        have e0 : wr.drew.cell? ⟨ga, oa + i, none⟩ = some (.string ⟨dg.toArray⟩) := by have := hcell 0 (.string ⟨dg.toArray⟩) rfl; rwa [Nat.add_zero, Nat.mul_one] at this
        have hkc := (MV.range hqr hK.1).2.2.2.1
        have c40 : wr.drew.cell? ⟨q, 40, none⟩ = some (.slice ro3 ds.length rc3) := hkc
        have f40 := there_cell htr 40 (by omega)
        have hlm : (ds.map (·.map bv)).length + 1 ≤ 100000000 := by rw [List.length_map, hdsl]; omega
        have hqlr : q < wr.drew.heap.size := (show q < wr.heap.size by omega)
        have hblr : w.heap.size < wr.drew.heap.size := (show w.heap.size < wr.heap.size by omega)
        have hgad : ga < wr.drew.heap.size := by omega
        have hROq : ∀ k, (Value.slice ro3 ds.length rc3).ownBlock = some k → ¬ k = q := fun k hk e => by have := hR.own_ge k hk; omega
        have hdl32 : (dg.map bv).length = zK.length := by rw [List.length_map, zK_len, hd32]
        have HX := Lib.hid (And.intro hqr (And.intro htr (And.intro hEr (And.intro hR (And.intro hds (And.intro hf hBw))))))
        have c9d : wr.drew.cell? ⟨w.heap.size, 9, none⟩ = some (.slice (some ⟨ga, oa, none⟩) x.m.digs.length dc) := c9r
        have hbT := fun w => run_bsT big32 Try.underlying38 w (dg.map bv) hdl32 (by rw [zK_len]; omega) (by rw [zK_len]; omega)
        have hbl32 := fun w => blind_32 dg hd32 w
        have hRd := hR.drew
        have hsrc := fun w => rangeAt_alloc_new w (dg.map bv) 34
        have hone := bv_one dg
        clear hqr htr hEr hR hds hcell hcl hBw c10r hkc
        generalize hkb : dg.map bv = kb at *
        have HKB := Lib.hid hkb
        clear hkb
        obtain ⟨ka, hka⟩ : ∃ ka, kb.toArray = ka := ⟨_, rfl⟩
        rw [hka] at hbl32 hbT
        simp only [hka] at hbT hbl32 hsrc
        rw [hdsl] at c40 hRd hROq
        go_upto_region 5 with (fail)
        clear c9r
        refine wp_region_E 11 (fun w' => w'.cell? ⟨q, 40, none⟩ = some (.slice ro3 i rc3) ∧ w'.cell? ⟨w.heap.size, 9, none⟩ = some (.slice (some ⟨ga, oa, none⟩) x.m.digs.length dc) ∧ w'.cell? ⟨ga, oa + i, none⟩ = some (.string ⟨dg.toArray⟩)) (by kernel_rfl) ?_
        have hS0 := And.intro c40 (And.intro c9d e0)
        have HKA := Lib.hid hka
        clear hka
        refine wpAnyE_take (i := 0) (v := ?v_c0) rfl (by kernel_rfl) (by kernel_rfl) (by kernel_rfl) (by kernel_rfl) (by kernel_rfl) (fun _ _ _ h => h) (Or.inl ⟨by kernel_rfl, ?y_c0⟩) (by assumption) ?r_c0
        case y_c0 => intro wE hSw; obtain ⟨q0, q1, q2⟩ := hSw; go_simp; try with_reducible rfl
        case' r_c0 => ((try simp only [Act.put]); (try simp only [List.setIfInBounds_toArray]); (try simp only [List.set_cons_zero, List.set_cons_succ]))
        refine wpAnyE_take (i := 1) (v := ?v_c1) rfl (by kernel_rfl) (by kernel_rfl) (by kernel_rfl) (by kernel_rfl) (by kernel_rfl) (fun _ _ _ h => h) (Or.inl ⟨by kernel_rfl, ?y_c1⟩) (by assumption) ?r_c1
        case y_c1 => intro wE hSw; obtain ⟨q0, q1, q2⟩ := hSw; go_simp; try with_reducible rfl
        case' r_c1 => ((try simp only [Act.put]); (try simp only [List.setIfInBounds_toArray]); (try simp only [List.set_cons_zero, List.set_cons_succ]))
        refine wpAnyE_take (i := 2) (v := ?v_c2) rfl (by kernel_rfl) (by kernel_rfl) (by kernel_rfl) (by kernel_rfl) (by kernel_rfl) (fun _ _ _ h => h) (Or.inl ⟨by kernel_rfl, ?y_c2⟩) (by assumption) ?r_c2
        case y_c2 => intro wE hSw; obtain ⟨q0, q1, q2⟩ := hSw; go_simp; try with_reducible rfl
        case' r_c2 => ((try simp only [Act.put]); (try simp only [List.setIfInBounds_toArray]); (try simp only [List.set_cons_zero, List.set_cons_succ]))
        refine wpAnyE_take (i := 3) (v := ?v_c3) rfl (by kernel_rfl) (by kernel_rfl) (by kernel_rfl) (by kernel_rfl) (by kernel_rfl) (fun _ _ _ h => h) (Or.inl ⟨by kernel_rfl, ?y_c3⟩) (by assumption) ?r_c3
        case y_c3 => intro wE hSw; obtain ⟨q0, q1, q2⟩ := hSw; go_simp; try with_reducible rfl
        case' r_c3 => ((try simp only [Act.put]); (try simp only [List.setIfInBounds_toArray]); (try simp only [List.set_cons_zero, List.set_cons_succ]))
        refine wpAnyE_take (i := 4) (v := ?v_c4) rfl (by kernel_rfl) (by kernel_rfl) (by kernel_rfl) (by kernel_rfl) (by kernel_rfl) (fun _ _ _ h => h) (Or.inl ⟨by kernel_rfl, ?y_c4⟩) (by assumption) ?r_c4
        case y_c4 => intro wE hSw; obtain ⟨q0, q1, q2⟩ := hSw; go_simp; try with_reducible rfl
        case' r_c4 => ((try simp only [Act.put]); (try simp only [List.setIfInBounds_toArray]); (try simp only [List.set_cons_zero, List.set_cons_succ]))
        refine wpAnyE_take (i := 5) (v := ?v_c5) rfl (by kernel_rfl) (by kernel_rfl) (by kernel_rfl) (by kernel_rfl) (by kernel_rfl) (fun _ _ _ h => h) (Or.inl ⟨by kernel_rfl, ?y_c5⟩) (by assumption) ?r_c5
        case y_c5 => intro wE hSw; obtain ⟨q0, q1, q2⟩ := hSw; go_simp; try with_reducible rfl
        case' r_c5 => ((try simp only [Act.put]); (try simp only [List.setIfInBounds_toArray]); (try simp only [List.set_cons_zero, List.set_cons_succ]))
        refine wpAnyE_take (i := 6) (v := ?v_c6) rfl (by kernel_rfl) (by kernel_rfl) (by kernel_rfl) (by kernel_rfl) (by kernel_rfl) (fun _ _ _ h => h) (Or.inl ⟨by kernel_rfl, ?y_c6⟩) (by assumption) ?r_c6
        case y_c6 => intro wE hSw; obtain ⟨q0, q1, q2⟩ := hSw; go_simp; try with_reducible rfl
        case' r_c6 => ((try simp only [Act.put]); (try simp only [List.setIfInBounds_toArray]); (try simp only [List.set_cons_zero, List.set_cons_succ]))
        refine wpAnyE_ready (rs := [7]) (by kernel_rfl) (by simp) ?_
        refine AllReadyE.cons rfl (fun KC hKC => ?_) AllReadyE.nil
        rw [if_pos (by kernel_rfl)]
        go_simp
        go_at_call 20
        refine (hbl32 _).mono ?_
        rintro e w6 ⟨rfl, hB6⟩
        try go_simp
        have hS1 := And.intro ((hB6.cell (p := ⟨q, 40, none⟩) hqlr).trans c40) (And.intro ((hB6.cell (p := ⟨w.heap.size, 9, none⟩) hblr).trans c9d) ((hB6.cell (p := ⟨ga, oa + i, none⟩) hgad).trans e0))
        refine hKC _ _ (fun _ => hS1) ?_
        clear hKC KC hS0
        have f6 := (hB6.frozen (p := ⟨q, 40, none⟩) hqlr).trans f40
        have hR6 := hRd.keep hB6
        have hz6 := hB6.size
        have hA : Below w6.heap.size w6 (w6.alloc (.cells ka 34)) := (Below.refl _ _).alloc (Nat.le_refl _) _
        have hRA := hR6.keep hA
        have hsrcA := hsrc w6
        have hge2 : wc.heap.size ≤ (w6.alloc (.cells ka 34)).heap.size := Nat.le_trans (Nat.le_trans hszr hz6) hA.size
        have hS2 := And.intro ((hA.cell (p := ⟨q, 40, none⟩) (Nat.lt_of_lt_of_le hqlr hz6)).trans hS1.1) (And.intro ((hA.cell (p := ⟨w.heap.size, 9, none⟩) (Nat.lt_of_lt_of_le hblr hz6)).trans hS1.2.1) ((hA.cell (p := ⟨ga, oa + i, none⟩) (Nat.lt_of_lt_of_le hgad hz6)).trans hS1.2.2))
        have f7 := (hA.frozen (p := ⟨q, 40, none⟩) (Nat.lt_of_lt_of_le hqlr hz6)).trans f6
        refine wpAnyE_ready (rs := [8]) (by kernel_rfl) (by simp) ?_
        refine AllReadyE.cons rfl (fun KD hKD => ?_) AllReadyE.nil
        rw [if_pos (by kernel_rfl)]
        go_simp
        refine hKD _ _ (fun _ => hS2) ?_
        clear hKD KD hS1
        refine wpAnyE_ready (rs := [9]) (by kernel_rfl) (by simp) ?_
        refine AllReadyE.cons rfl (fun KE hKE => ?_) AllReadyE.nil
        refine step_appr rfl _ _ 38 rfl it zz Try.underlying38 hti htz hsz1 hby hzc (by omega) hRA hsrcA hdl32 hone hlm hge2 (by rfl) (by rfl) ?_
        intro v18 w18 hR18 hg18 hn18
        have hqn : some q ≠ (Value.slice ro3 i rc3).ownBlock := fun e => hROq q e.symm rfl
        have hbn : some w.heap.size ≠ (Value.slice ro3 i rc3).ownBlock := fun e => by have := hRA.own_ge _ e.symm; omega
        have hgn : some ga ≠ (Value.slice ro3 i rc3).ownBlock := fun e => by have := hRA.own_ge _ e.symm; omega
        have hqA : q < (w6.alloc (.cells ka 34)).heap.size := Nat.lt_of_lt_of_le hqlr (Nat.le_trans hz6 hA.size)
        have c40' := hg18.cell hS2.1 hqn
        have f40' := (World.frozen?_of_block (hg18.block q hqA hqn)).trans f7
        have hS3 := And.intro c40' (And.intro (hg18.cell hS2.2.1 hbn) (hg18.cell hS2.2.2 hgn))
        refine hKE _ _ (fun _ => hS3) ?_
        clear hKE KE
        ((simp only [Act.put]); (try simp only [List.setIfInBounds_toArray]); (try simp only [List.set_cons_zero, List.set_cons_succ]))
        refine wpAnyE_take (i := 10) (v := ?v_d10) rfl (by kernel_rfl) (by kernel_rfl) (by kernel_rfl) (by kernel_rfl) (by kernel_rfl) (fun _ _ _ h => h) (Or.inl ⟨by kernel_rfl, ?y_d10⟩) (by assumption) ?r_d10
        case y_d10 => intro wE hSw; obtain ⟨q0, q1, q2⟩ := hSw; go_simp; try with_reducible rfl
        case' r_d10 => ((try simp only [Act.put]); (try simp only [List.setIfInBounds_toArray]); (try simp only [List.set_cons_zero, List.set_cons_succ]))
        obtain ⟨ao8, cap8, hv18, hz1, hz2, hz3⟩ := hR18.val
        clear hz1 hz2 hz3
        simp only [List.length_append, List.length_map, List.length_cons, List.length_nil, Nat.zero_add, hdsl] at hv18
        subst hv18
        refine wpAnyE_ready (rs := [11]) (by kernel_rfl) (by simp) ?_
        refine AllReadyE.cons rfl (fun KF hKF => ?_) AllReadyE.nil
        rw [if_pos (by kernel_rfl)]
        go_simp
        refine hKF _ _ (fun h => Bool.noConfusion (show true = false from h)) ?_
        clear hKF KF
        refine wpAnyE_done (by kernel_rfl) ?_ _
        obtain ⟨hqr, htr, hEr, hR, hds, hf, hBw⟩ := HX.out
        have hB06 : Below wr.heap.size wr w6 := Below.of_drew hB6
        have hBA := hB06.trans (hA.mono hB06.size)
        have ho18 : Only (fun k => (Value.slice ro3 i rc3).ownBlock = some k) wr w18 := (Only.of_below (S := fun k => (Value.slice ro3 i rc3).ownBlock = some k) hBA).trans (Only.of_grown (S := fun k => (Value.slice ro3 i rc3).ownBlock = some k) hg18 (fun q h => h)) (fun _ _ h => h)
        have ho19 := Only.set1 w18 q 40 (.slice ao8 (i + 1) cap8)
        have hqr18 := rangeAt_only hqr ho18 (fun e => hqn e.symm)
        have hq19 := rangeAt_set hqr18 40 (.slice ao8 (i + 1) cap8)
        rw [C_set40 _ HK.out.1 (ds ++ [dg]) (.slice ao8 (i + 1) cap8)] at hq19
        have ht19 := there_set (there_only htr ho18 (fun e => hqn e.symm)) 40 (.slice ao8 (i + 1) cap8)
        have hsz18 := ho18.size
        have hR19 := hR18.only ho19 (fun k hk e => hn18.elim (fun h => hROq k (h.symm.trans hk) e) (fun h => by have h2 := Option.some.inj (h.symm.trans hk); have h5 : k = q := e; rw [← h2] at h5; omega))
        have hE19 : Only (fun k => k = q) wc (w18.setCell ⟨q, 40, none⟩ (.slice ao8 (i + 1) cap8)) := (hEr.trans ho18 (fun k hk e => by have := hRA.own_ge k e; omega)).trans ho19 (fun _ _ e => e)
        rw [show (ds.map (·.map bv)) ++ [kb] = (ds ++ [dg]).map (·.map bv) by rw [List.map_append, ← HKB.out]; rfl] at hR19
        have HF := Lib.hid (And.intro hf (And.intro hR19 (And.intro hq19 (And.intro ht19 hE19))))
        clear hR19 hq19 ht19 hE19 hqr18 ho19 ho18 hR18 hg18 hn18 hqr htr hEr hR hds hf hBw hRA hsrcA hA hS2 hS3 c40' f40' c40 f40 f6 f7 c9d e0 HX hBA hB06 hB6 hR6 hRd hbT hbl32 hsrc hone
        go_wp2_with fail
        go_roundw
        case rel => exact ⟨i + 1, _, _, hlt, by go_num, HF.out.1, HF.out.2⟩
        case measure => simp [intOf]; omega
      · have hie : i = x.m.digs.length := by omega
        subst hie
        have hds2 : ds = x.m.digs := by rw [hds, List.take_of_length_le (Nat.le_refl _)]
        have hB4 : Below w.heap.size w wr := hB3w.trans (hEr.to_below (by omega) (fun k hk => by omega))
        have hsv4 := hsv0.only hEr (fun k hk => (hsvo k hk).1)
        have hav4 := hav0.only hEr (fun k hk => (havo k hk).1)
        have hql4 : q < wr.heap.size := by omega
        have hbl4 : w.heap.size < wr.heap.size := by omega
        have ty4 := there_only ty3 hEr (show ¬ w.heap.size + 1 = q by omega)
        have hsvo4 : ∀ k, (Value.slice so3 x.m.row.set.length sc3).ownBlock = some k → k ≠ q ∧ k < wr.heap.size ∧ w2.heap.size ≤ k := fun k hk => by have := hsvo k hk; omega
        have havo4 : ∀ k, (Value.slice ao3 x.m.ats.length ac3).ownBlock = some k → k ≠ q ∧ k < wr.heap.size ∧ w2.heap.size ≤ k := fun k hk => by have := havo k hk; omega
        have HD := Lib.hid (And.intro hds2 (And.intro hsv4 (And.intro hav4 (And.intro hR (And.intro hsvo4 havo4)))))
        have HM := Lib.hid (And.intro hqr (And.intro htr (And.intro hB4 ty4)))
        have hRge := hR.own_ge
        have hRlt := hR.own_lt
        clear hds hds2 hsv4 hav4 hsvo4 havo4 hB4 hEr htr hqr hR hdd hdn hlt ty4 ty3 hsv0 hav0 hsvo havo hqr0 htq0 c9 c10 hB3w
        go_wp2_with fail
        clear c9r
        generalize wr = w4 at *
        clear hti htz hzc hsz1 hby
        obtain ⟨it, zz, hti, htz, hzc, hsz1, hby⟩ := bigR.elt
        rw [zR_len] at hzc hsz1
        go_loopw [5] (fun j wr => ∃ (i : Nat) (ys : List RV) (dvv : Value), i ≤ x.m.rows.length ∧ j = .int .i64 i ∧ ys.map RV.d = x.m.rows.take i ∧ RW wr w4.heap.size 37 33 dvv (ys.map RV.C) ∧
          (∀ y ∈ ys, y.At wr ∧ ∀ k, y.sv.ownBlock = some k → w4.heap.size ≤ k ∧ k < wr.heap.size ∧ dvv.ownBlock ≠ some k) ∧
          wr.rangeAt q 0 (MV.C ⟨⟨x.m.kind, x.m.frm, x.m.ask, x.m.err, x.m.hold, x.m.level, x.m.row, x.m.ats, ds, []⟩, .slice so3 x.m.row.set.length sc3, .slice ao3 x.m.ats.length ac3, .slice ro3 ds.length rc3, dvv, ys⟩) ∧ wr.there q 0 42 ∧ Only (fun k => k = q) w4 wr) (fun j _ => x.m.rows.length - (intOf j).toNat)
        case atStart => exact ⟨0, [], .slice none 0 0, Nat.zero_le _, rfl, by simp, RW.nil _ _ _ _, by simp, HM.out.1, HM.out.2.1, Only.refl _ _⟩
        case round =>
          obtain ⟨i, ys, dvv, hi, rfl, hyd, hR, hys, hqr, htr, hEr⟩ := hrel
          have hszr := hEr.size
          have c10q := (hEr.cell (p := ⟨w.heap.size, 10, none⟩) hbl4 hbq).trans c10r
          have hi0 : (0 : Int) ≤ i := Int.natCast_nonneg _
          have hysl : ys.length = i := by have := congrArg List.length hyd; rw [List.length_map, List.length_take] at this; omega
          obtain ⟨ro4, rc4, hvv, hz1, hz2, hz3⟩ := hR.val
          clear hz1 hz2 hz3
          rw [List.length_map] at hvv
          subst hvv
          by_cases hlt : i < x.m.rows.length
          · have hlt2 : (i : Int) < x.m.rows.length := by omega
            obtain ⟨ga, oa, rfl, hcl⟩ := hrr (fun e => by rw [e] at hlt; simp at hlt)
            have hBw : Below w.heap.size w wr := HM.out.2.2.1.trans (hEr.to_below (by omega) (fun k hk => by omega))
            have hcell := rangeAt_keep (hcl i hlt) hBw
            have hrk := hK.2.2 x.m.rows[i] (List.getElem_mem hlt)
            have hrs := hbig.2.2.2.2.2.2 x.m.rows[i] (List.getElem_mem hlt)
            have hf : ys.map RV.d ++ [x.m.rows[i]] = x.m.rows.take (i + 1) := by rw [hyd, List.take_succ_eq_append_getElem hlt]
            have hgal : ga < w.heap.size := World.block_lt_of_cell? w _ (hcl i hlt 0 (.string ⟨(x.m.rows[i]).key.toArray⟩) rfl)
            generalize x.m.rows[i] = r at *
            have e0 : wr.drew.cell? ⟨ga, oa + i * 2, none⟩ = some (.string ⟨r.key.toArray⟩) := by have := hcell 0 (.string ⟨r.key.toArray⟩) rfl; rwa [Nat.add_zero] at this
            have e1 : wr.drew.cell? ⟨ga, oa + i * 2 + 1, none⟩ = some (.string ⟨r.set.toArray⟩) := hcell 1 (.string ⟨r.set.toArray⟩) rfl
            have c41 : wr.drew.cell? ⟨q, 41, none⟩ = some (.slice ro4 ys.length rc4) := (MV.range hqr hK.1).2.2.2.2
            have f41 := there_cell htr 41 (by omega)
            have hlm : (ys.map RV.C).length + 1 ≤ 100000000 := by rw [List.length_map, hysl]; omega
            have hROq : ∀ k, (Value.slice ro4 ys.length rc4).ownBlock = some k → ¬ k = q := fun k hk e => by have := hR.own_ge k hk; omega
            have c10d : wr.drew.cell? ⟨w.heap.size, 10, none⟩ = some (.slice (some ⟨ga, oa, none⟩) x.m.rows.length rc) := c10q
            have hblind := fun w => blind_32 r.key hrk w
            obtain ⟨cf, bw, hconv, hbw⟩ := conv_fun r.set hrs
            have HBW := Lib.hid hbw
            have hk32 : (r.key.map bv).length = 32 := by rw [List.length_map]; exact hrk
            obtain ⟨rf, hrf⟩ : ∃ rf : Option Addr → Nat → Nat → Array Value, ∀ ao n c, rf ao n c = (r.key.map bv ++ [Value.slice ao n c]).toArray := ⟨fun ao n c => (r.key.map bv ++ [Value.slice ao n c]).toArray, fun _ _ _ => rfl⟩
            have hblR : ∀ (w : World) (ao : Option Addr) (n c : Nat), (blR #[(0, .agg (r.key.map bv).toArray), (1, .slice ao n c)]).run Try.prog w = .ok (.agg (rf ao n c)) w := fun w ao n c => by rw [hrf]; exact run_blR r.key hrk w ao n c
            have hbT : ∀ (w : World) (ao : Option Addr) (n c : Nat), (bsT 39 #[(0, .agg (rf ao n c))]).run Try.prog w = .ok (.slice (some ⟨w.heap.size, 0, none⟩) 1 1) (w.alloc (.cells (rf ao n c) 37)) := fun w ao n c => by
              rw [hrf]
              exact run_bsT bigR Try.underlying39 w (r.key.map bv ++ [Value.slice ao n c]) (by rw [List.length_append, hk32, zR_len]; rfl) (by rw [zR_len]; omega) (by rw [zR_len]; omega)
            have HRF := Lib.hid hrf
            clear hrf hbw
            obtain ⟨kb, hkb⟩ : ∃ kb, kb = (r.key.map bv).toArray := ⟨_, rfl⟩
            rw [← hkb] at hblR
            have hblind : ∀ w, Calls Try.prog 20 #[.string ⟨r.key.toArray⟩] w fun e w' => e = .returned (.agg kb) ∧ Below w.heap.size w w' := by rw [hkb]; exact hblind
            have hRd := hR.drew
            have hBy : Below wr.heap.size wr wr.drew := (Below.refl _ _).drew
            have hsy : wr.heap.size ≤ wr.drew.heap.size := Nat.le_refl _
            have HX := Lib.hid (And.intro hqr (And.intro htr (And.intro hEr (And.intro hR (And.intro hys (And.intro hf hBw))))))
            clear hkb hqr htr hEr hR hys hyd hcell hcl hBw hf hk32
            rw [hysl] at c41 hRd hROq
            go_upto_region 9 with (fail)
            clear c10q
            refine wp_region_E 20 (fun w' => w'.cell? ⟨q, 41, none⟩ = some (.slice ro4 i rc4) ∧ w'.cell? ⟨w.heap.size, 10, none⟩ = some (.slice (some ⟨ga, oa, none⟩) x.m.rows.length rc) ∧ w'.cell? ⟨ga, oa + i * 2, none⟩ = some (.string ⟨r.key.toArray⟩) ∧ w'.cell? ⟨ga, oa + i * 2 + 1, none⟩ = some (.string ⟨r.set.toArray⟩)) (by kernel_rfl) ?_
            have hS0 := And.intro c41 (And.intro c10d (And.intro e0 e1))
            have f41d : wr.drew.frozen? ⟨q, 41, none⟩ = false := f41
            clear f41
            generalize wr.drew = y0 at *
            have hqy : q < y0.heap.size := by omega
            have hby0 : w.heap.size < y0.heap.size := by omega
            have hgy : ga < y0.heap.size := by omega
            have hSk := Lib.hid (fun (w' : World) (hb : Below y0.heap.size y0 w') => And.intro ((hb.cell (p := ⟨q, 41, none⟩) hqy).trans c41) (And.intro ((hb.cell (p := ⟨w.heap.size, 10, none⟩) hby0).trans c10d) (And.intro ((hb.cell (p := ⟨ga, oa + i * 2, none⟩) hgy).trans e0) ((hb.cell (p := ⟨ga, oa + i * 2 + 1, none⟩) hgy).trans e1))))
            have hC0 : Below y0.heap.size y0 y0 := Below.refl _ _
            clear c41 c10d e0 e1
            refine wpAnyE_take (i := 0) (v := ?v_e0) rfl (by kernel_rfl) (by kernel_rfl) (by kernel_rfl) (by kernel_rfl) (by kernel_rfl) (fun _ _ _ h => h) (Or.inl ⟨by kernel_rfl, ?y_e0⟩) (by assumption) ?r_e0
            case y_e0 => intro wE hSw; obtain ⟨q0, q1, q2, q3⟩ := hSw; go_simp; try with_reducible rfl
            case' r_e0 => ((try simp only [Act.put]); (try simp only [List.setIfInBounds_toArray]); (try simp only [List.set_cons_zero, List.set_cons_succ]))
            refine wpAnyE_take (i := 1) (v := ?v_e1) rfl (by kernel_rfl) (by kernel_rfl) (by kernel_rfl) (by kernel_rfl) (by kernel_rfl) (fun _ _ _ h => h) (Or.inl ⟨by kernel_rfl, ?y_e1⟩) (by assumption) ?r_e1
            case y_e1 => intro wE hSw; obtain ⟨q0, q1, q2, q3⟩ := hSw; go_simp; try with_reducible rfl
            case' r_e1 => ((try simp only [Act.put]); (try simp only [List.setIfInBounds_toArray]); (try simp only [List.set_cons_zero, List.set_cons_succ]))
            refine wpAnyE_take (i := 2) (v := ?v_e2) rfl (by kernel_rfl) (by kernel_rfl) (by kernel_rfl) (by kernel_rfl) (by kernel_rfl) (fun _ _ _ h => h) (Or.inl ⟨by kernel_rfl, ?y_e2⟩) (by assumption) ?r_e2
            case y_e2 => intro wE hSw; obtain ⟨q0, q1, q2, q3⟩ := hSw; go_simp; try with_reducible rfl
            case' r_e2 => ((try simp only [Act.put]); (try simp only [List.setIfInBounds_toArray]); (try simp only [List.set_cons_zero, List.set_cons_succ]))
            refine wpAnyE_take (i := 3) (v := ?v_e3) rfl (by kernel_rfl) (by kernel_rfl) (by kernel_rfl) (by kernel_rfl) (by kernel_rfl) (fun _ _ _ h => h) (Or.inl ⟨by kernel_rfl, ?y_e3⟩) (by assumption) ?r_e3
            case y_e3 => intro wE hSw; obtain ⟨q0, q1, q2, q3⟩ := hSw; go_simp; try with_reducible rfl
            case' r_e3 => ((try simp only [Act.put]); (try simp only [List.setIfInBounds_toArray]); (try simp only [List.set_cons_zero, List.set_cons_succ]))
            refine wpAnyE_take (i := 4) (v := ?v_e4) rfl (by kernel_rfl) (by kernel_rfl) (by kernel_rfl) (by kernel_rfl) (by kernel_rfl) (fun _ _ _ h => h) (Or.inl ⟨by kernel_rfl, ?y_e4⟩) (by assumption) ?r_e4
            case y_e4 => intro wE hSw; obtain ⟨q0, q1, q2, q3⟩ := hSw; go_simp; try with_reducible rfl
            case' r_e4 => ((try simp only [Act.put]); (try simp only [List.setIfInBounds_toArray]); (try simp only [List.set_cons_zero, List.set_cons_succ]))
            refine wpAnyE_take (i := 5) (v := ?v_e5) rfl (by kernel_rfl) (by kernel_rfl) (by kernel_rfl) (by kernel_rfl) (by kernel_rfl) (fun _ _ _ h => h) (Or.inl ⟨by kernel_rfl, ?y_e5⟩) (by assumption) ?r_e5
            case y_e5 => intro wE hSw; obtain ⟨q0, q1, q2, q3⟩ := hSw; go_simp; try with_reducible rfl
            case' r_e5 => ((try simp only [Act.put]); (try simp only [List.setIfInBounds_toArray]); (try simp only [List.set_cons_zero, List.set_cons_succ]))
            refine wpAnyE_take (i := 6) (v := ?v_e6) rfl (by kernel_rfl) (by kernel_rfl) (by kernel_rfl) (by kernel_rfl) (by kernel_rfl) (fun _ _ _ h => h) (Or.inl ⟨by kernel_rfl, ?y_e6⟩) (by assumption) ?r_e6
            case y_e6 => intro wE hSw; obtain ⟨q0, q1, q2, q3⟩ := hSw; go_simp; try with_reducible rfl
            case' r_e6 => ((try simp only [Act.put]); (try simp only [List.setIfInBounds_toArray]); (try simp only [List.set_cons_zero, List.set_cons_succ]))
            refine wpAnyE_take (i := 7) (v := ?v_e7) rfl (by kernel_rfl) (by kernel_rfl) (by kernel_rfl) (by kernel_rfl) (by kernel_rfl) (fun _ _ _ h => h) (Or.inl ⟨by kernel_rfl, ?y_e7⟩) (by assumption) ?r_e7
            case y_e7 => intro wE hSw; obtain ⟨q0, q1, q2, q3⟩ := hSw; go_simp; try with_reducible rfl
            case' r_e7 => ((try simp only [Act.put]); (try simp only [List.setIfInBounds_toArray]); (try simp only [List.set_cons_zero, List.set_cons_succ]))
            refine wpAnyE_take (i := 9) (v := ?v_e9) rfl (by kernel_rfl) (by kernel_rfl) (by kernel_rfl) (by kernel_rfl) (by kernel_rfl) (fun _ _ _ h => h) (Or.inl ⟨by kernel_rfl, ?y_e9⟩) (by assumption) ?r_e9
            case y_e9 => intro wE hSw; obtain ⟨q0, q1, q2, q3⟩ := hSw; go_simp; try with_reducible rfl
            case' r_e9 => ((try simp only [Act.put]); (try simp only [List.setIfInBounds_toArray]); (try simp only [List.set_cons_zero, List.set_cons_succ]))
            refine wpAnyE_take (i := 10) (v := ?v_e10) rfl (by kernel_rfl) (by kernel_rfl) (by kernel_rfl) (by kernel_rfl) (by kernel_rfl) (fun _ _ _ h => h) (Or.inl ⟨by kernel_rfl, ?y_e10⟩) (by assumption) ?r_e10
            case y_e10 => intro wE hSw; obtain ⟨q0, q1, q2, q3⟩ := hSw; go_simp; try with_reducible rfl
            case' r_e10 => ((try simp only [Act.put]); (try simp only [List.setIfInBounds_toArray]); (try simp only [List.set_cons_zero, List.set_cons_succ]))
            refine wpAnyE_take (i := 11) (v := ?v_e11) rfl (by kernel_rfl) (by kernel_rfl) (by kernel_rfl) (by kernel_rfl) (by kernel_rfl) (fun _ _ _ h => h) (Or.inl ⟨by kernel_rfl, ?y_e11⟩) (by assumption) ?r_e11
            case y_e11 => intro wE hSw; obtain ⟨q0, q1, q2, q3⟩ := hSw; go_simp; try with_reducible rfl
            case' r_e11 => ((try simp only [Act.put]); (try simp only [List.setIfInBounds_toArray]); (try simp only [List.set_cons_zero, List.set_cons_succ]))
            refine wpAnyE_take (i := 12) (v := ?v_e12) rfl (by kernel_rfl) (by kernel_rfl) (by kernel_rfl) (by kernel_rfl) (by kernel_rfl) (fun _ _ _ h => h) (Or.inl ⟨by kernel_rfl, ?y_e12⟩) (by assumption) ?r_e12
            case y_e12 => intro wE hSw; obtain ⟨q0, q1, q2, q3⟩ := hSw; go_simp; try with_reducible rfl
            case' r_e12 => ((try simp only [Act.put]); (try simp only [List.setIfInBounds_toArray]); (try simp only [List.set_cons_zero, List.set_cons_succ]))
            refine wpAnyE_take (i := 13) (v := ?v_e13) rfl (by kernel_rfl) (by kernel_rfl) (by kernel_rfl) (by kernel_rfl) (by kernel_rfl) (fun _ _ _ h => h) (Or.inl ⟨by kernel_rfl, ?y_e13⟩) (by assumption) ?r_e13
            case y_e13 => intro wE hSw; obtain ⟨q0, q1, q2, q3⟩ := hSw; go_simp; try with_reducible rfl
            case' r_e13 => ((try simp only [Act.put]); (try simp only [List.setIfInBounds_toArray]); (try simp only [List.set_cons_zero, List.set_cons_succ]))
            refine wpAnyE_take (i := 14) (v := ?v_e14) rfl (by kernel_rfl) (by kernel_rfl) (by kernel_rfl) (by kernel_rfl) (by kernel_rfl) (fun _ _ _ h => h) (Or.inl ⟨by kernel_rfl, ?y_e14⟩) (by assumption) ?r_e14
            case y_e14 => intro wE hSw; obtain ⟨q0, q1, q2, q3⟩ := hSw; go_simp; try with_reducible rfl
            case' r_e14 => ((try simp only [Act.put]); (try simp only [List.setIfInBounds_toArray]); (try simp only [List.set_cons_zero, List.set_cons_succ]))
            refine wpAnyE_ready (rs := [8, 15]) (by kernel_rfl) (by simp) ?_
            refine AllReadyE.cons rfl (fun KX0 hKX0 => ?_) (AllReadyE.cons rfl (fun KX0 hKX0 => ?_) AllReadyE.nil)
            · rw [if_pos (by kernel_rfl)]
              go_simp
              go_at_call 20
              refine (hblind y0).mono ?_
              rintro e y1 ⟨rfl, hB1⟩
              try go_simp
              have hC1 := hC0.trans (hB1.mono hC0.size)
              have hz1 := hB1.size
              refine hKX0 _ _ (fun _ => hSk.out _ hC1) ?_
              clear hKX0 KX0 hS0
              have hS1 := hSk.out _ hC1
              refine wpAnyE_ready (rs := [15]) (by kernel_rfl) (by simp) ?_
              refine AllReadyE.cons rfl (fun KX1 hKX1 => ?_) AllReadyE.nil
              rw [if_pos (by kernel_rfl)]
              go_simp
              obtain ⟨hb25, hB2, hz2⟩ := HBW.out y1
              generalize hq2 : cf y1 = c25 at *
              clear hq2
              generalize hq2 : bw y1 = y2 at *
              clear hq2
              have hC2 := hC1.trans (hB2.mono hC1.size)
              refine hKX1 _ _ (fun _ => hSk.out _ hC2) ?_
              clear hKX1 KX1 hS1
              have hS2 := hSk.out _ hC2
              refine wpAnyE_take (i := 16) (v := ?v_p235) rfl (by kernel_rfl) (by kernel_rfl) (by kernel_rfl) (by kernel_rfl) (by kernel_rfl) (fun _ _ _ h => h) (Or.inl ⟨by kernel_rfl, ?y_p235⟩) (by assumption) ?r_p235
              case y_p235 => intro wE hSw; obtain ⟨q0, q1, q2, q3⟩ := hSw; go_simp; try with_reducible rfl
              case' r_p235 => ((try simp only [Act.put]); (try simp only [List.setIfInBounds_toArray]); (try simp only [List.set_cons_zero, List.set_cons_succ]))
              obtain ⟨R, hR25⟩ : ∃ R, rf (some ⟨y1.heap.size, 0, none⟩) r.set.length c25 = R := ⟨_, rfl⟩
              have hRC : R = (RV.C ⟨r.key, .slice (some ⟨y1.heap.size, 0, none⟩) r.set.length c25, r.set⟩).toArray := by rw [← hR25, HRF.out]; rfl
              have hA : Below y2.heap.size y2 (y2.alloc (.cells R 37)) := (Below.refl _ _).alloc (Nat.le_refl _) _
              have hbR := hbT y2 (some ⟨y1.heap.size, 0, none⟩) r.set.length c25
              rw [hR25] at hbR
              have hsrcA : (y2.alloc (.cells R 37)).rangeAt y2.heap.size 0 (RV.C ⟨r.key, .slice (some ⟨y1.heap.size, 0, none⟩) r.set.length c25, r.set⟩) := by rw [hRC]; exact rangeAt_alloc_new y2 _ 37
              have hRA := (hRd.keep hC2).keep hA
              have hC3 := hC2.trans (hA.mono hC2.size)
              have hyn : (RV.mk r.key (.slice (some ⟨y1.heap.size, 0, none⟩) r.set.length c25) r.set).At (y2.alloc (.cells R 37)) := ⟨hrk, hb25.keep hA⟩
              have hcl := RV.C_len hyn
              have hco := RV.C_one hyn
              have hge2 : w4.heap.size ≤ (y2.alloc (.cells R 37)).heap.size := Nat.le_trans (Nat.le_trans hszr hsy) hC3.size
              have hS3 := hSk.out _ hC3
              have f41x := (hC3.frozen (p := ⟨q, 41, none⟩) hqy).trans f41d
              have hza : y2.heap.size < (y2.alloc (.cells R 37)).heap.size := by simp
              rw [hR25]
              clear hbT hblR hRC hR25
              refine wpAnyE_ready (rs := [17]) (by kernel_rfl) (by simp) ?_
              refine AllReadyE.cons rfl (fun KL hKL => ?_) AllReadyE.nil
              rw [if_pos (by kernel_rfl)]
              go_simp
              refine hKL _ _ (fun _ => hS3) ?_
              clear hKL KL hS2 hbR
              generalize hyq : y2.alloc (.cells R 37) = y3 at *
              clear hyq
              refine wpAnyE_ready (rs := [18]) (by kernel_rfl) (by simp) ?_
              refine AllReadyE.cons rfl (fun KN hKN => ?_) AllReadyE.nil
              refine step_appr rfl _ _ 39 rfl it zz Try.underlying39 hti htz hsz1 hby hzc (by omega) hRA hsrcA hcl hco hlm hge2 (by rfl) (by rfl) ?_
              intro v18 w18 hR18 hg18 hn18
              have hqn : some q ≠ (Value.slice ro4 i rc4).ownBlock := fun e => hROq q e.symm rfl
              have hbn : some w.heap.size ≠ (Value.slice ro4 i rc4).ownBlock := fun e => by have := hRA.own_ge _ e.symm; omega
              have hgn : some ga ≠ (Value.slice ro4 i rc4).ownBlock := fun e => by have := hRA.own_ge _ e.symm; omega
              have hqA : q < y3.heap.size := Nat.lt_of_lt_of_le hqy hC3.size
              have c41' := hg18.cell hS3.1 hqn
              have f41' := (World.frozen?_of_block (hg18.block q hqA hqn)).trans f41x
              have hS4 := And.intro c41' (And.intro (hg18.cell hS3.2.1 hbn) (And.intro (hg18.cell hS3.2.2.1 hgn) (hg18.cell hS3.2.2.2 hgn)))
              refine hKN _ _ (fun _ => hS4) ?_
              clear hKN KN
              ((simp only [Act.put]); (try simp only [List.setIfInBounds_toArray]); (try simp only [List.set_cons_zero, List.set_cons_succ]))
              refine wpAnyE_take (i := 19) (v := ?v_p236) rfl (by kernel_rfl) (by kernel_rfl) (by kernel_rfl) (by kernel_rfl) (by kernel_rfl) (fun _ _ _ h => h) (Or.inl ⟨by kernel_rfl, ?y_p236⟩) (by assumption) ?r_p236
              case y_p236 => intro wE hSw; obtain ⟨q0, q1, q2, q3⟩ := hSw; go_simp; try with_reducible rfl
              case' r_p236 => ((try simp only [Act.put]); (try simp only [List.setIfInBounds_toArray]); (try simp only [List.set_cons_zero, List.set_cons_succ]))
              obtain ⟨ao8, cap8, hv18, hz1, hz2, hz3⟩ := hR18.val
              clear hz1 hz2 hz3
              simp only [List.length_append, List.length_map, List.length_cons, List.length_nil, Nat.zero_add, hysl] at hv18
              subst hv18
              refine wpAnyE_ready (rs := [20]) (by kernel_rfl) (by simp) ?_
              refine AllReadyE.cons rfl (fun KP hKP => ?_) AllReadyE.nil
              rw [if_pos (by kernel_rfl)]
              go_simp
              refine hKP _ _ (fun h => Bool.noConfusion (show true = false from h)) ?_
              clear hKP KP
              refine wpAnyE_done (by kernel_rfl) ?_ _
              obtain ⟨hqr, htr, hEr, hR, hys, hf, hBw⟩ := HX.out
              have hB03 : Below wr.heap.size wr y3 := hBy.trans (hC3.mono hsy)
              have ho18 : Only (fun k => (Value.slice ro4 i rc4).ownBlock = some k) wr w18 := (Only.of_below (S := fun k => (Value.slice ro4 i rc4).ownBlock = some k) hB03).trans (Only.of_grown (S := fun k => (Value.slice ro4 i rc4).ownBlock = some k) hg18 (fun q h => h)) (fun _ _ h => h)
              have ho19 := Only.set1 w18 q 41 (.slice ao8 (i + 1) cap8)
              have hqr18 := rangeAt_only hqr ho18 (fun e => hqn e.symm)
              have hq19 := rangeAt_set hqr18 41 (.slice ao8 (i + 1) cap8)
              rw [C_set41 _ HK.out.1 (ys ++ [RV.mk r.key (.slice (some ⟨y1.heap.size, 0, none⟩) r.set.length c25) r.set]) (.slice ao8 (i + 1) cap8)] at hq19
              have ht19 := there_set (there_only htr ho18 (fun e => hqn e.symm)) 41 (.slice ao8 (i + 1) cap8)
              have hsz18 := hg18.size
              have hs19 := ho19.size
              have hR19 := hR18.only ho19 (fun k hk e => hn18.elim (fun h => hROq k (h.symm.trans hk) e) (fun h => by have h2 : y3.heap.size = k := Option.some.inj (h.symm.trans hk); omega))
              have hE19 : Only (fun k => k = q) w4 (w18.setCell ⟨q, 41, none⟩ (.slice ao8 (i + 1) cap8)) := (hEr.trans ho18 (fun k hk e => by have := hRA.own_ge k e; omega)).trans ho19 (fun _ _ e => e)
              have hyN : ∀ y ∈ ys ++ [RV.mk r.key (.slice (some ⟨y1.heap.size, 0, none⟩) r.set.length c25) r.set], y.At (w18.setCell ⟨q, 41, none⟩ (.slice ao8 (i + 1) cap8)) ∧ ∀ k, y.sv.ownBlock = some k → w4.heap.size ≤ k ∧ k < (w18.setCell ⟨q, 41, none⟩ (.slice ao8 (i + 1) cap8)).heap.size ∧ (Value.slice ao8 (i + 1) cap8).ownBlock ≠ some k := by
                intro y hy
                rcases List.mem_append.1 hy with hy | hy
                · obtain ⟨hyA, hyo⟩ := hys y hy
                  have hyo2 : ∀ k, y.sv.ownBlock = some k → w4.heap.size ≤ k ∧ k < wr.heap.size ∧ (Value.slice ro4 i rc4).ownBlock ≠ some k := by rw [← hysl]; exact hyo
                  refine ⟨⟨hyA.1, (hyA.2.only ho18 (fun k hk e => (hyo2 k hk).2.2 e)).only ho19 (fun k hk e => by have := hyo2 k hk; omega)⟩, fun k hk => ?_⟩
                  have h1 := hyo2 k hk
                  refine ⟨h1.1, by omega, fun e => hn18.elim (fun h => h1.2.2 (h.symm.trans e)) (fun h => ?_)⟩
                  have h2 : y3.heap.size = k := Option.some.inj (h.symm.trans e)
                  omega
                · rw [List.mem_singleton.1 hy]
                  have hown : ∀ k, (Value.slice (some ⟨y1.heap.size, 0, none⟩) r.set.length c25).ownBlock = some k → y1.heap.size = k := fun k hk => Option.some.inj hk
                  refine ⟨⟨hrk, (hyn.2.only (Only.of_grown (S := fun k => (Value.slice ro4 i rc4).ownBlock = some k) hg18 (fun q h => h)) (fun k hk e => by have h1 := hown k hk; have h2 := hRd.own_lt k e; omega)).only ho19 (fun k hk e => by have h1 := hown k hk; omega)⟩, fun k hk => ?_⟩
                  have h1 := hown k hk
                  refine ⟨by omega, by omega, fun e => hn18.elim (fun h => ?_) (fun h => ?_)⟩
                  · have h2 := hRd.own_lt k (h.symm.trans e); omega
                  · have h2 : y3.heap.size = k := Option.some.inj (h.symm.trans e)
                    omega
              rw [show (ys.map RV.C) ++ [_] = (ys ++ [RV.mk r.key (.slice (some ⟨y1.heap.size, 0, none⟩) r.set.length c25) r.set]).map RV.C by rw [List.map_append]; rfl] at hR19
              have hfN : (ys ++ [RV.mk r.key (.slice (some ⟨y1.heap.size, 0, none⟩) r.set.length c25) r.set]).map RV.d = x.m.rows.take (i + 1) := by rw [List.map_append]; exact hf
              have HF := Lib.hid (And.intro hfN (And.intro hR19 (And.intro hyN (And.intro hq19 (And.intro ht19 hE19)))))
              clear hfN hyN hR19 hq19 ht19 hE19 hqr18 ho19 ho18 hR18 hg18 hn18 hqr htr hEr hR hys hf hBw hRA hsrcA hA hS3 hS4 c41' f41' f41x f41d HX hyn hcl hco hRd hb25 hconv hblind HRF HBW
              go_wp2_with fail
              go_roundw
              case rel => exact ⟨i + 1, _, _, hlt, by go_num, HF.out⟩
              case measure => simp [intOf]; omega
            · rw [if_pos (by kernel_rfl)]
              go_simp
              obtain ⟨hb25, hB1, hz1⟩ := HBW.out y0
              generalize hq1 : cf y0 = c25 at *
              clear hq1
              generalize hq1 : bw y0 = y1 at *
              clear hq1
              have hC1 := hC0.trans (hB1.mono hC0.size)
              refine hKX0 _ _ (fun _ => hSk.out _ hC1) ?_
              clear hKX0 KX0 hS0
              have hS1 := hSk.out _ hC1
              refine wpAnyE_ready (rs := [8]) (by kernel_rfl) (by simp) ?_
              refine AllReadyE.cons rfl (fun KX1 hKX1 => ?_) AllReadyE.nil
              rw [if_pos (by kernel_rfl)]
              go_simp
              go_at_call 20
              refine (hblind y1).mono ?_
              rintro e y2 ⟨rfl, hB2⟩
              try go_simp
              have hC2 := hC1.trans (hB2.mono hC1.size)
              have hz2 := hB2.size
              have hb25 := hb25.keep hB2
              refine hKX1 _ _ (fun _ => hSk.out _ hC2) ?_
              clear hKX1 KX1 hS1
              have hS2 := hSk.out _ hC2
              refine wpAnyE_take (i := 16) (v := ?v_p237) rfl (by kernel_rfl) (by kernel_rfl) (by kernel_rfl) (by kernel_rfl) (by kernel_rfl) (fun _ _ _ h => h) (Or.inl ⟨by kernel_rfl, ?y_p237⟩) (by assumption) ?r_p237
              case y_p237 => intro wE hSw; obtain ⟨q0, q1, q2, q3⟩ := hSw; go_simp; try with_reducible rfl
              case' r_p237 => ((try simp only [Act.put]); (try simp only [List.setIfInBounds_toArray]); (try simp only [List.set_cons_zero, List.set_cons_succ]))
              obtain ⟨R, hR25⟩ : ∃ R, rf (some ⟨y0.heap.size, 0, none⟩) r.set.length c25 = R := ⟨_, rfl⟩
              have hRC : R = (RV.C ⟨r.key, .slice (some ⟨y0.heap.size, 0, none⟩) r.set.length c25, r.set⟩).toArray := by rw [← hR25, HRF.out]; rfl
              have hA : Below y2.heap.size y2 (y2.alloc (.cells R 37)) := (Below.refl _ _).alloc (Nat.le_refl _) _
              have hbR := hbT y2 (some ⟨y0.heap.size, 0, none⟩) r.set.length c25
              rw [hR25] at hbR
              have hsrcA : (y2.alloc (.cells R 37)).rangeAt y2.heap.size 0 (RV.C ⟨r.key, .slice (some ⟨y0.heap.size, 0, none⟩) r.set.length c25, r.set⟩) := by rw [hRC]; exact rangeAt_alloc_new y2 _ 37
              have hRA := (hRd.keep hC2).keep hA
              have hC3 := hC2.trans (hA.mono hC2.size)
              have hyn : (RV.mk r.key (.slice (some ⟨y0.heap.size, 0, none⟩) r.set.length c25) r.set).At (y2.alloc (.cells R 37)) := ⟨hrk, hb25.keep hA⟩
              have hcl := RV.C_len hyn
              have hco := RV.C_one hyn
              have hge2 : w4.heap.size ≤ (y2.alloc (.cells R 37)).heap.size := Nat.le_trans (Nat.le_trans hszr hsy) hC3.size
              have hS3 := hSk.out _ hC3
              have f41x := (hC3.frozen (p := ⟨q, 41, none⟩) hqy).trans f41d
              have hza : y2.heap.size < (y2.alloc (.cells R 37)).heap.size := by simp
              rw [hR25]
              clear hbT hblR hRC hR25
              refine wpAnyE_ready (rs := [17]) (by kernel_rfl) (by simp) ?_
              refine AllReadyE.cons rfl (fun KL hKL => ?_) AllReadyE.nil
              rw [if_pos (by kernel_rfl)]
              go_simp
              refine hKL _ _ (fun _ => hS3) ?_
              clear hKL KL hS2 hbR
              generalize hyq : y2.alloc (.cells R 37) = y3 at *
              clear hyq
              refine wpAnyE_ready (rs := [18]) (by kernel_rfl) (by simp) ?_
              refine AllReadyE.cons rfl (fun KN hKN => ?_) AllReadyE.nil
              refine step_appr rfl _ _ 39 rfl it zz Try.underlying39 hti htz hsz1 hby hzc (by omega) hRA hsrcA hcl hco hlm hge2 (by rfl) (by rfl) ?_
              intro v18 w18 hR18 hg18 hn18
              have hqn : some q ≠ (Value.slice ro4 i rc4).ownBlock := fun e => hROq q e.symm rfl
              have hbn : some w.heap.size ≠ (Value.slice ro4 i rc4).ownBlock := fun e => by have := hRA.own_ge _ e.symm; omega
              have hgn : some ga ≠ (Value.slice ro4 i rc4).ownBlock := fun e => by have := hRA.own_ge _ e.symm; omega
              have hqA : q < y3.heap.size := Nat.lt_of_lt_of_le hqy hC3.size
              have c41' := hg18.cell hS3.1 hqn
              have f41' := (World.frozen?_of_block (hg18.block q hqA hqn)).trans f41x
              have hS4 := And.intro c41' (And.intro (hg18.cell hS3.2.1 hbn) (And.intro (hg18.cell hS3.2.2.1 hgn) (hg18.cell hS3.2.2.2 hgn)))
              refine hKN _ _ (fun _ => hS4) ?_
              clear hKN KN
              ((simp only [Act.put]); (try simp only [List.setIfInBounds_toArray]); (try simp only [List.set_cons_zero, List.set_cons_succ]))
              refine wpAnyE_take (i := 19) (v := ?v_p238) rfl (by kernel_rfl) (by kernel_rfl) (by kernel_rfl) (by kernel_rfl) (by kernel_rfl) (fun _ _ _ h => h) (Or.inl ⟨by kernel_rfl, ?y_p238⟩) (by assumption) ?r_p238
              case y_p238 => intro wE hSw; obtain ⟨q0, q1, q2, q3⟩ := hSw; go_simp; try with_reducible rfl
              case' r_p238 => ((try simp only [Act.put]); (try simp only [List.setIfInBounds_toArray]); (try simp only [List.set_cons_zero, List.set_cons_succ]))
              obtain ⟨ao8, cap8, hv18, hz1, hz2, hz3⟩ := hR18.val
              clear hz1 hz2 hz3
              simp only [List.length_append, List.length_map, List.length_cons, List.length_nil, Nat.zero_add, hysl] at hv18
              subst hv18
              refine wpAnyE_ready (rs := [20]) (by kernel_rfl) (by simp) ?_
              refine AllReadyE.cons rfl (fun KP hKP => ?_) AllReadyE.nil
              rw [if_pos (by kernel_rfl)]
              go_simp
              refine hKP _ _ (fun h => Bool.noConfusion (show true = false from h)) ?_
              clear hKP KP
              refine wpAnyE_done (by kernel_rfl) ?_ _
              obtain ⟨hqr, htr, hEr, hR, hys, hf, hBw⟩ := HX.out
              have hB03 : Below wr.heap.size wr y3 := hBy.trans (hC3.mono hsy)
              have ho18 : Only (fun k => (Value.slice ro4 i rc4).ownBlock = some k) wr w18 := (Only.of_below (S := fun k => (Value.slice ro4 i rc4).ownBlock = some k) hB03).trans (Only.of_grown (S := fun k => (Value.slice ro4 i rc4).ownBlock = some k) hg18 (fun q h => h)) (fun _ _ h => h)
              have ho19 := Only.set1 w18 q 41 (.slice ao8 (i + 1) cap8)
              have hqr18 := rangeAt_only hqr ho18 (fun e => hqn e.symm)
              have hq19 := rangeAt_set hqr18 41 (.slice ao8 (i + 1) cap8)
              rw [C_set41 _ HK.out.1 (ys ++ [RV.mk r.key (.slice (some ⟨y0.heap.size, 0, none⟩) r.set.length c25) r.set]) (.slice ao8 (i + 1) cap8)] at hq19
              have ht19 := there_set (there_only htr ho18 (fun e => hqn e.symm)) 41 (.slice ao8 (i + 1) cap8)
              have hsz18 := hg18.size
              have hs19 := ho19.size
              have hR19 := hR18.only ho19 (fun k hk e => hn18.elim (fun h => hROq k (h.symm.trans hk) e) (fun h => by have h2 : y3.heap.size = k := Option.some.inj (h.symm.trans hk); omega))
              have hE19 : Only (fun k => k = q) w4 (w18.setCell ⟨q, 41, none⟩ (.slice ao8 (i + 1) cap8)) := (hEr.trans ho18 (fun k hk e => by have := hRA.own_ge k e; omega)).trans ho19 (fun _ _ e => e)
              have hyN : ∀ y ∈ ys ++ [RV.mk r.key (.slice (some ⟨y0.heap.size, 0, none⟩) r.set.length c25) r.set], y.At (w18.setCell ⟨q, 41, none⟩ (.slice ao8 (i + 1) cap8)) ∧ ∀ k, y.sv.ownBlock = some k → w4.heap.size ≤ k ∧ k < (w18.setCell ⟨q, 41, none⟩ (.slice ao8 (i + 1) cap8)).heap.size ∧ (Value.slice ao8 (i + 1) cap8).ownBlock ≠ some k := by
                intro y hy
                rcases List.mem_append.1 hy with hy | hy
                · obtain ⟨hyA, hyo⟩ := hys y hy
                  have hyo2 : ∀ k, y.sv.ownBlock = some k → w4.heap.size ≤ k ∧ k < wr.heap.size ∧ (Value.slice ro4 i rc4).ownBlock ≠ some k := by rw [← hysl]; exact hyo
                  refine ⟨⟨hyA.1, (hyA.2.only ho18 (fun k hk e => (hyo2 k hk).2.2 e)).only ho19 (fun k hk e => by have := hyo2 k hk; omega)⟩, fun k hk => ?_⟩
                  have h1 := hyo2 k hk
                  refine ⟨h1.1, by omega, fun e => hn18.elim (fun h => h1.2.2 (h.symm.trans e)) (fun h => ?_)⟩
                  have h2 : y3.heap.size = k := Option.some.inj (h.symm.trans e)
                  omega
                · rw [List.mem_singleton.1 hy]
                  have hown : ∀ k, (Value.slice (some ⟨y0.heap.size, 0, none⟩) r.set.length c25).ownBlock = some k → y0.heap.size = k := fun k hk => Option.some.inj hk
                  refine ⟨⟨hrk, (hyn.2.only (Only.of_grown (S := fun k => (Value.slice ro4 i rc4).ownBlock = some k) hg18 (fun q h => h)) (fun k hk e => by have h1 := hown k hk; have h2 := hRd.own_lt k e; omega)).only ho19 (fun k hk e => by have h1 := hown k hk; omega)⟩, fun k hk => ?_⟩
                  have h1 := hown k hk
                  refine ⟨by omega, by omega, fun e => hn18.elim (fun h => ?_) (fun h => ?_)⟩
                  · have h2 := hRd.own_lt k (h.symm.trans e); omega
                  · have h2 : y3.heap.size = k := Option.some.inj (h.symm.trans e)
                    omega
              rw [show (ys.map RV.C) ++ [_] = (ys ++ [RV.mk r.key (.slice (some ⟨y0.heap.size, 0, none⟩) r.set.length c25) r.set]).map RV.C by rw [List.map_append]; rfl] at hR19
              have hfN : (ys ++ [RV.mk r.key (.slice (some ⟨y0.heap.size, 0, none⟩) r.set.length c25) r.set]).map RV.d = x.m.rows.take (i + 1) := by rw [List.map_append]; exact hf
              have HF := Lib.hid (And.intro hfN (And.intro hR19 (And.intro hyN (And.intro hq19 (And.intro ht19 hE19)))))
              clear hfN hyN hR19 hq19 ht19 hE19 hqr18 ho19 ho18 hR18 hg18 hn18 hqr htr hEr hR hys hf hBw hRA hsrcA hA hS3 hS4 c41' f41' f41x f41d HX hyn hcl hco hRd hb25 hconv hblind HRF HBW
              go_wp2_with fail
              go_roundw
              case rel => exact ⟨i + 1, _, _, hlt, by go_num, HF.out⟩
              case measure => simp [intOf]; omega
          · have hie2 : i = x.m.rows.length := by omega
            subst hie2
            have hyd2 : ys.map RV.d = x.m.rows := by rw [hyd, List.take_of_length_le (Nat.le_refl _)]
            obtain ⟨hds2, hsv4, hav4, hRd, hsvo4, havo4⟩ := HD.out
            have hsv5 := hsv4.only hEr (fun k hk => (hsvo4 k hk).1)
            have hav5 := hav4.only hEr (fun k hk => (havo4 k hk).1)
            have hRd5 := hRd.only hEr (fun k hk e => by have h1 := hRd.own_ge k hk; omega)
            have hB5 : Below w.heap.size w wr := HM.out.2.2.1.trans (hEr.to_below (by omega) (fun k hk => by omega))
            have ht5 : wr.there (w.heap.size + 1) 0 42 := there_only HM.out.2.2.2 hEr (show ¬ w.heap.size + 1 = q by omega)
            obtain ⟨y, hy⟩ : ∃ y : MV, y = ⟨⟨x.m.kind, x.m.frm, x.m.ask, x.m.err, x.m.hold, x.m.level, x.m.row, x.m.ats, ds, x.m.rows⟩, .slice so3 x.m.row.set.length sc3, .slice ao3 x.m.ats.length ac3, .slice ro3 ds.length rc3, .slice ro4 ys.length rc4, ys⟩ := ⟨_, rfl⟩
            have hym : y.m = x.m := by rw [hy, hds2]
            have yrow : y.row = ⟨x.m.row.key, .slice so3 x.m.row.set.length sc3, x.m.row.set⟩ := by rw [hy]; rfl
            have yav : y.av = .slice ao3 x.m.ats.length ac3 := by rw [hy]
            have ydv : y.dv = .slice ro3 ds.length rc3 := by rw [hy]
            have yrv : y.rv = .slice ro4 ys.length rc4 := by rw [hy]
            have yys : y.ys = ys := by rw [hy]
            have hAt : ∀ w', Bsl w' (.slice so3 x.m.row.set.length sc3) x.m.row.set → Rd w' 1 (.slice ao3 x.m.ats.length ac3) (x.m.ats.map intC) → Rd w' 32 (.slice ro3 ds.length rc3) (ds.map (·.map bv)) → Rd w' 33 (.slice ro4 ys.length rc4) (ys.map RV.C) → (∀ y ∈ ys, y.At w') → y.At w' := fun w' a1 a2 a3 a4 a5 => by
              unfold MV.At
              rw [yrow, yav, ydv, yrv, yys, hym, ← hds2]
              exact ⟨⟨HK.out.1, a1⟩, a2, a3, a4, a5, hyd2.symm, hbig⟩
            have hyA : y.At wr := hAt wr hsv5 hav5 hRd5.rd hR.rd (fun z hz => (hys z hz).1)
            have hqr : wr.rangeAt q 0 y.C := by rw [hy]; exact hqr
            have hlx := MV.C_len hyA
            have hox := MV.C_one hyA
            have hld := run_ldT bigM wr q 0 y.C hqr (by rw [hlx, zM_len])
            have hst := run_stT bigM wr (w.heap.size + 1) 0 y.C (by rw [hlx]; exact ht5) (by rw [hlx, zM_len]) hox
            have hlv := run_lvT bigM _ (w.heap.size + 1) 0 y.C (World.rangeAt_setCells_same wr (w.heap.size + 1) 0 y.C (by rw [hlx]; exact ht5)) (by rw [hlx, zM_len])
            have hoF := Only.setCells1 (b := w.heap.size + 1) y.C 0 wr
            have hyF : y.At (wr.setCells (w.heap.size + 1) 0 y.C) := hAt _ (hsv5.only hoF (fun k hk e => by have := hsvo4 k hk; omega)) (hav5.only hoF (fun k hk e => by have := havo4 k hk; omega)) (hRd5.only hoF (fun k hk e => by have := hRd5.own_ge k hk; omega)).rd (hR.only hoF (fun k hk e => by have := hR.own_ge k hk; omega)).rd
              (fun z hz => ⟨(hys z hz).1.1, (hys z hz).1.2.only hoF (fun k hk e => by have := (hys z hz).2 k hk; omega)⟩)
            have HF := Lib.hid (And.intro hym (And.intro hyF (Go.Proofs.Ytanghmpphlmpkaa.Below.setCells (show w.heap.size ≤ w.heap.size + 1 by omega) y.C 0 hB5)))
            clear hAt yrow yav ydv yrv yys hym hyF hyA hy hqr htr hoF hox hlx hR hEr hRd5 hav5 hsv5 ht5 hB5 hRd hav4 hsv4 hds2 hsvo4 havo4 hyd2 hyd hrr hys
            generalize hyc : y.C = yC at *
            have HYC := Lib.hid hyc
            clear hyc
            go_wp2_with fail
            refine bodyPost_ret (results_cell Try.results8 rfl hlv) rfl ?_
            exact ⟨y, by rw [HYC.out], HF.out⟩
end Go.Proofs.Ytanghmpphlmpkaa

