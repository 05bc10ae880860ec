/- The walk of (*msg.Msg).rest, kind by kind. -/
import Derived.Test.YtjhocaleampamaaDoorMsgRL
import Derived.Test.YtjhocaleampamaaDoorRowApp
import Derived.Deep.RegionLaw
namespace Go.Proofs.YtjhocaleampamaaDoor
open Go.RowKit
set_option linter.unusedVariables false
attribute [local go_sem ↓] alT_R stT_R ldT_R alT_32 stT_32 ldT_32 cpK_eq bsT_32 bsT_R
def nilV : Value := .slice none 0 0
def mv0 (k f a : Int) : MV := ⟨MD.none k f a, .slice none 0 0, .slice none 0 0, .slice none 0 0, .slice none 0 0, []⟩
/-- All blocks of a message lie behind n. -/
def MV.Ge (x : MV) (n : Nat) : Prop := (∀ k, x.sv.ownBlock = some k → n ≤ k) ∧ (∀ k, x.av.ownBlock = some k → n ≤ k) ∧ (∀ k, x.dv.ownBlock = some k → n ≤ k) ∧ (∀ k, x.rv.ownBlock = some k → n ≤ k) ∧ ∀ y ∈ x.ys, ∀ k, y.sv.ownBlock = some k → n ≤ k
theorem MV.At.only {S : Nat → Prop} {w w' : World} {x : MV} {n : Nat} (h : x.At w) (hg : x.Ge n) (ho : Only S w w') (hS : ∀ k, S k → k < n) : x.At w' := by
  obtain ⟨h1, h2, h3, h4, h5, h6, h7⟩ := h
  obtain ⟨g1, g2, g3, g4, g5⟩ := hg
  have hh : ∀ {v : Value}, (∀ k, v.ownBlock = some k → n ≤ k) → ∀ k, v.ownBlock = some k → ¬ S k := fun hv k hk e => by have := hv k hk; have := hS k e; omega
  exact ⟨⟨h1.1, h1.2.only ho (hh g1)⟩, h2.only ho (hh g2), h3.only ho (hh g3), h4.only ho (hh g4), fun y hy => ⟨(h5 y hy).1, (h5 y hy).2.only ho (hh (g5 y hy))⟩, h6, h7⟩
theorem mvAt_zero (w : World) (k f a : Int) (hk : i64 k) (hf : i64 f) (ha : i64 a) : (mv0 k f a).At w := by
  refine ⟨⟨z32_len, ?_⟩, ?_, ?_, ?_, by simp [mv0], rfl, ⟨⟨hk, hf, ha, ?_, ?_, ?_⟩, by simp [mv0, MD.none], ?_⟩⟩
  · exact ⟨none, 0, rfl, Nat.le_refl _, by omega, fun _ => rfl, fun h => absurd rfl h⟩
  · exact Rd.nil _ _
  · exact Rd.nil _ _
  · exact Rd.nil _ _
  · unfold i64 mv0 MD.none; dsimp only; omega
  · unfold i64 mv0 MD.none; dsimp only; omega
  · unfold i64 mv0 MD.none; dsimp only; omega
  · unfold mv0 MD.none; simp
theorem nil_Ge (n : Nat) : ∀ k, (Value.slice none 0 0).ownBlock = some k → n ≤ k := fun k h => by cases h
theorem mv0_Ge (k f a : Int) (n : Nat) : (mv0 k f a).Ge n := ⟨nil_Ge n, nil_Ge n, nil_Ge n, nil_Ge n, fun y hy => by cases hy⟩
def mv6 (f a n1 : Int) (xs : List Int) (av : Value) (ds : List (List UInt8)) (dv : Value) : MV := ⟨⟨6, f, a, 0, 0, n1, ⟨z32, []⟩, xs, ds, []⟩, .slice none 0 0, av, dv, .slice none 0 0, []⟩
def mv7 (f a : Int) (xs : List Int) (av : Value) (ys : List RV) (rv : Value) : MV := ⟨⟨7, f, a, 0, 0, 0, ⟨z32, []⟩, xs, [], ys.map RV.d⟩, .slice none 0 0, av, .slice none 0 0, rv, ys⟩
theorem C_set3 (x : MV) (e : Int) : x.C.set 3 (.int .i64 e) = ({ x with m := { x.m with err := e } } : MV).C := rfl
theorem C_set4 (x : MV) (e : Int) : x.C.set 4 (.int .i64 e) = ({ x with m := { x.m with hold := e } } : MV).C := rfl
theorem C_set5 (x : MV) (e : Int) : x.C.set 5 (.int .i64 e) = ({ x with m := { x.m with level := e } } : MV).C := rfl
theorem C_set39 (x : MV) (h : x.m.row.key.length = 32) (l : List Int) (v : Value) : x.C.set 39 v = ({ x with av := v, m := { x.m with ats := l } } : MV).C := by
  have h2 : x.row.C.length = 33 := by unfold RV.C MV.row; simp [h]
  unfold MV.C
  rw [List.set_append_right _ _ (by simp), List.set_append_right _ _ (by simp [h2])]
  simp [h2]; rfl
theorem C_set40 (x : MV) (h : x.m.row.key.length = 32) (l : List (List UInt8)) (v : Value) : x.C.set 40 v = ({ x with dv := v, m := { x.m with digs := l } } : MV).C := by
  have h2 : x.row.C.length = 33 := by unfold RV.C MV.row; simp [h]
  unfold MV.C
  rw [List.set_append_right _ _ (by simp), List.set_append_right _ _ (by simp [h2])]
  simp [h2]; rfl
theorem C_set41 (x : MV) (h : x.m.row.key.length = 32) (l : List RV) (v : Value) : x.C.set 41 v = ({ x with rv := v, ys := l, m := { x.m with rows := l.map RV.d } } : MV).C := by
  have h2 : x.row.C.length = 33 := by unfold RV.C MV.row; simp [h]
  unfold MV.C
  rw [List.set_append_right _ _ (by simp), List.set_append_right _ _ (by simp [h2])]
  simp [h2]; rfl
/-- A row is written into a message. -/
theorem C_row {w : World} {q : Nat} {x : MV} (y : RV) (h : w.rangeAt q 0 x.C) (hk : x.m.row.key.length = 32) (hy : y.key.length = 32) : (w.setCells q 6 y.C).rangeAt q 0 ({ x with sv := y.sv, m := { x.m with row := y.d } } : MV).C := by
  have h2 : x.row.C.length = 33 := by unfold RV.C MV.row; simp [hk]
  have h3 : y.C.length = 33 := by unfold RV.C; simp [hy]
  exact rangeAt_part (xs := [.int .i64 x.m.kind, .int .i64 x.m.frm, .int .i64 x.m.ask, .int .i64 x.m.err, .int .i64 x.m.hold, .int .i64 x.m.level]) h (by rw [h2, h3])
theorem there_cell {w : World} {b n : Nat} (h : w.there b 0 n) (j : Nat) (hj : j < n) : w.frozen? ⟨b, j, none⟩ = false := by
  have := (h j hj).2
  rwa [Nat.zero_add] at this
theorem Only.set1 (w : World) (b j : Nat) (v : Value) : Only (· = b) w (w.setCell ⟨b, j, none⟩ v) := Only.setCell (S := (· = b)) (Only.refl _ _) (p := ⟨b, j, none⟩) (fun _ => rfl) _
theorem there_setCells0 {w : World} {b n o : Nat} {vs : List Value} (h : w.there b 0 n) : (w.setCells b o vs).there b 0 n := World.there_setCells h _ _ _
set_option maxRecDepth 100000 in
set_option maxHeartbeats 1000000 in
theorem mrest_1 (f a : Int) (w : World) {p q : Nat} {gi : Option Nat} {d : IK} (hI : InAt w p gi d) (hl : d.b.length ≤ 1000000) (hq : w.rangeAt q 0 (mv0 1 f a).C) (ht : w.there q 0 42) (hqp : q ≠ p) (hqg : gi ≠ some q) (hf : i64 f) (ha : i64 a) :
    Calls Tryd.prog 35 #[.pointer (some ⟨q, 0, none⟩), .pointer (some ⟨p, 0, none⟩)] w fun e w' => ∃ (x : MV) (d2 : IK), e = .returned (.bool true) ∧ x.At w' ∧ x.Ge w.heap.size ∧ w'.rangeAt q 0 x.C ∧ w'.there q 0 42 ∧ InAt w' p gi d2 ∧ Stp d (pRest 1 f a) d2 x.m ∧ Only (fun i => i = p ∨ i = q) w w' := by
  have hpl := hI.lt
  have hgl : ∀ k, gi = some k → k < w.heap.size := by obtain ⟨_, _, _, _, _, _, _, h3, _⟩ := hI; exact h3
  have hqg2 : ∀ k, gi = some k → ¬ k = q := fun k hk e => hqg (e ▸ hk)
  have hA0 := mvAt_zero w 1 f a (by unfold i64; omega) hf ha
  have hG0 := mv0_Ge 1 f a w.heap.size
  have hk0 : (mv0 1 f a).m.row.key.length = 32 := z32_len
  obtain ⟨⟨c0, c1, c2, c3, c4, c5⟩, crr, c39, c40, c41⟩ := MV.range hq hk0
  have hql : q < w.heap.size := World.block_lt_of_cell? w _ c0
  change w.cell? ⟨q, 0, none⟩ = some (.int .i64 1) at c0
  clear c1 c2 crr
  go_enter Tryd.func35, Tryd.ntmps35
  go_wp2_with fail
  refine (mrow_any w hI hl).mono ?_
  rintro e w1 ⟨y, d2, rfl, hyA, hyG, hyl, hI1, hS1, hE1⟩
  have hq1 := rangeAt_only hq hE1 hqp
  have ht1 := there_only ht hE1 hqp
  have hst := run_stT bigR w1 q 6 y.C (by rw [RV.C_len hyA]; exact there_part ht1 (by omega)) (by rw [RV.C_len hyA, zR_len]) (RV.C_one hyA)
  have hq2 := C_row y hq1 hk0 hyA.1
  have ho2 := Only.setCells1 (b := q) y.C 6 w1
  have ht2 := there_setCells0 (o := 6) (vs := y.C) ht1
  have hI2 := hI1.only ho2 (fun e => hqp e.symm) hqg2
  have hyA2 : y.At (w1.setCells q 6 y.C) := ⟨hyA.1, hyA.2.only ho2 (fun k hk e => by have := hyG k hk; omega)⟩
  have hAx : MV.At (w1.setCells q 6 y.C) { mv0 1 f a with sv := y.sv, m := { (mv0 1 f a).m with row := y.d } } := by
    obtain ⟨_, h2, h3, h4, h5, h6, h7, h8, h9, h10, h11, h12, h13⟩ := hA0
    exact ⟨hyA2, Rd.nil _ _, Rd.nil _ _, Rd.nil _ _, by simp [mv0], h6, h7, h8, (show y.set.length ≤ 1000000 by omega), h10, h11, h12, h13⟩
  have hEx : Only (fun i => i = p ∨ i = q) w (w1.setCells q 6 y.C) := (hE1.mono (fun _ _ e => .inl e)).trans ho2 (fun _ _ e => .inr e)
  have hSx : Stp d (pRest 1 f a) d2 { (mv0 1 f a).m with row := y.d } := by
    unfold pRest
    rw [if_pos (by omega)]
    exact hS1.next (f := fun r => pOf { MD.none 1 f a with row := r }) (Stp.of _ _)
  have HF := Lib.hid (And.intro hAx (And.intro hq2 (And.intro ht2 (And.intro hI2 (And.intro hSx hEx)))))
  have HG := Lib.hid hyG
  clear hAx hq2 ht2 hI2 hSx hEx hyA2 ho2 hq1 ht1 hI1 hS1 hE1 hyG hq ht hA0 hG0 c3 c4 c5 c39 c40 c41
  go_wp2_with fail
  go_ret
  obtain ⟨h1, h2, h3, h4, h5, h6⟩ := HF.out
  exact ⟨_, d2, rfl, h1, ⟨fun k hk => (HG.out k hk).1, nil_Ge _, nil_Ge _, nil_Ge _, fun y hy => by cases hy⟩, h2, h3, h4, h5, h6⟩
set_option maxRecDepth 100000 in
set_option maxHeartbeats 1000000 in
theorem mrest_4 (f a : Int) (w : World) {p q : Nat} {gi : Option Nat} {d : IK} (hI : InAt w p gi d) (hl : d.b.length ≤ 1000000) (hq : w.rangeAt q 0 (mv0 4 f a).C) (ht : w.there q 0 42) (hqp : q ≠ p) (hqg : gi ≠ some q) (hf : i64 f) (ha : i64 a) :
    Calls Tryd.prog 35 #[.pointer (some ⟨q, 0, none⟩), .pointer (some ⟨p, 0, none⟩)] w fun e w' => ∃ (x : MV) (d2 : IK), e = .returned (.bool true) ∧ x.At w' ∧ x.Ge w.heap.size ∧ w'.rangeAt q 0 x.C ∧ w'.there q 0 42 ∧ InAt w' p gi d2 ∧ Stp d (pRest 4 f a) d2 x.m ∧ Only (fun i => i = p ∨ i = q) w w' := by
  have hpl := hI.lt
  have hgl : ∀ k, gi = some k → k < w.heap.size := by obtain ⟨_, _, _, _, _, _, _, h3, _⟩ := hI; exact h3
  have hqg2 : ∀ k, gi = some k → ¬ k = q := fun k hk e => hqg (e ▸ hk)
  have hA0 := mvAt_zero w 4 f a (by unfold i64; omega) hf ha
  have hG0 := mv0_Ge 4 f a w.heap.size
  have hk0 : (mv0 4 f a).m.row.key.length = 32 := z32_len
  obtain ⟨⟨c0, c1, c2, c3, c4, c5⟩, crr, c39, c40, c41⟩ := MV.range hq hk0
  have hql : q < w.heap.size := World.block_lt_of_cell? w _ c0
  change w.cell? ⟨q, 0, none⟩ = some (.int .i64 4) at c0
  clear c1 c2 crr
  go_enter Tryd.func35, Tryd.ntmps35
  go_wp2_with fail
  refine (mrow_any w hI hl).mono ?_
  rintro e w1 ⟨y, d2, rfl, hyA, hyG, hyl, hI1, hS1, hE1⟩
  have hq1 := rangeAt_only hq hE1 hqp
  have ht1 := there_only ht hE1 hqp
  have hst := run_stT bigR w1 q 6 y.C (by rw [RV.C_len hyA]; exact there_part ht1 (by omega)) (by rw [RV.C_len hyA, zR_len]) (RV.C_one hyA)
  have hq2 := C_row y hq1 hk0 hyA.1
  have ho2 := Only.setCells1 (b := q) y.C 6 w1
  have ht2 := there_setCells0 (o := 6) (vs := y.C) ht1
  have hI2 := hI1.only ho2 (fun e => hqp e.symm) hqg2
  have hyA2 : y.At (w1.setCells q 6 y.C) := ⟨hyA.1, hyA.2.only ho2 (fun k hk e => by have := hyG k hk; omega)⟩
  have hAx : MV.At (w1.setCells q 6 y.C) { mv0 4 f a with sv := y.sv, m := { (mv0 4 f a).m with row := y.d } } := by
    obtain ⟨_, h2, h3, h4, h5, h6, h7, h8, h9, h10, h11, h12, h13⟩ := hA0
    exact ⟨hyA2, Rd.nil _ _, Rd.nil _ _, Rd.nil _ _, by simp [mv0], h6, h7, h8, (show y.set.length ≤ 1000000 by omega), h10, h11, h12, h13⟩
  have hEx : Only (fun i => i = p ∨ i = q) w (w1.setCells q 6 y.C) := (hE1.mono (fun _ _ e => .inl e)).trans ho2 (fun _ _ e => .inr e)
  have hSx : Stp d (pRest 4 f a) d2 { (mv0 4 f a).m with row := y.d } := by
    unfold pRest
    rw [if_pos (by omega)]
    exact hS1.next (f := fun r => pOf { MD.none 4 f a with row := r }) (Stp.of _ _)
  have HF := Lib.hid (And.intro hAx (And.intro hq2 (And.intro ht2 (And.intro hI2 (And.intro hSx hEx)))))
  have HG := Lib.hid hyG
  clear hAx hq2 ht2 hI2 hSx hEx hyA2 ho2 hq1 ht1 hI1 hS1 hE1 hyG hq ht hA0 hG0 c3 c4 c5 c39 c40 c41
  go_wp2_with fail
  go_ret
  obtain ⟨h1, h2, h3, h4, h5, h6⟩ := HF.out
  exact ⟨_, d2, rfl, h1, ⟨fun k hk => (HG.out k hk).1, nil_Ge _, nil_Ge _, nil_Ge _, fun y hy => by cases hy⟩, h2, h3, h4, h5, h6⟩
set_option maxRecDepth 100000 in
set_option maxHeartbeats 1000000 in
theorem mrest_2 (f a : Int) (w : World) {p q : Nat} {gi : Option Nat} {d : IK} (hI : InAt w p gi d) (hl : d.b.length ≤ 1000000) (hq : w.rangeAt q 0 (mv0 2 f a).C) (ht : w.there q 0 42) (hqp : q ≠ p) (hqg : gi ≠ some q) (hf : i64 f) (ha : i64 a) :
    Calls Tryd.prog 35 #[.pointer (some ⟨q, 0, none⟩), .pointer (some ⟨p, 0, none⟩)] w fun e w' => ∃ (x : MV) (d2 : IK), e = .returned (.bool true) ∧ x.At w' ∧ x.Ge w.heap.size ∧ w'.rangeAt q 0 x.C ∧ w'.there q 0 42 ∧ InAt w' p gi d2 ∧ Stp d (pRest 2 f a) d2 x.m ∧ Only (fun i => i = p ∨ i = q) w w' := by
  have hpl := hI.lt
  have hgl : ∀ k, gi = some k → k < w.heap.size := by obtain ⟨_, _, _, _, _, _, _, h3, _⟩ := hI; exact h3
  have hqg2 : ∀ k, gi = some k → ¬ k = q := fun k hk e => hqg (e ▸ hk)
  have hA0 := mvAt_zero w 2 f a (by unfold i64; omega) hf ha
  have hG0 := mv0_Ge 2 f a w.heap.size
  have hk0 : (mv0 2 f a).m.row.key.length = 32 := z32_len
  obtain ⟨⟨c0, c1, c2, c3, c4, c5⟩, crr, c39, c40, c41⟩ := MV.range hq hk0
  have hql : q < w.heap.size := World.block_lt_of_cell? w _ c0
  change w.cell? ⟨q, 0, none⟩ = some (.int .i64 2) at c0
  clear c1 c2 crr
  have f3 := there_cell ht 3 (by omega)
  go_enter Tryd.func35, Tryd.ntmps35
  go_wp2_with fail
  refine (ismall_any 255 w hI hl).mono ?_
  rintro e w1 ⟨rfl, hI1, hE1⟩
  have hS1 := Stp.num d 1 255
  have hb := numN_b d 1 255 (by omega)
  generalize d.numN 1 255 = n1 at *
  generalize d.numS 1 255 = d1 at *
  have hq1 := rangeAt_only hq hE1 hqp
  have ht1 := there_only ht hE1 hqp
  have c3 := (hE1.cell (p := ⟨q, 3, none⟩) hql hqp).trans c3
  have f3 := (hE1.frozen (p := ⟨q, 3, none⟩) hql hqp).trans f3
  have ho2 := Only.set1 w1 q 3 (.int .i64 n1)
  have hq2 := rangeAt_set hq1 3 (.int .i64 n1)
  rw [C_set3] at hq2
  have ht2 := there_set ht1 3 (.int .i64 n1)
  have hI2 := hI1.only ho2 (fun e => hqp e.symm) hqg2
  have hAx : MV.At (w1.setCell ⟨q, 3, none⟩ (.int .i64 n1)) { mv0 2 f a with m := { (mv0 2 f a).m with err := n1 } } := by
    obtain ⟨h1, h2, h3, h4, h5, h6, ⟨g1, g2, g3, g4, g5, g6⟩, h8, h9, h10, h11, h12, h13⟩ := hA0
    exact ⟨⟨h1.1, none, 0, rfl, Nat.le_refl _, by omega, fun _ => rfl, fun h => absurd rfl h⟩, Rd.nil _ _, Rd.nil _ _, Rd.nil _ _, by simp [mv0], h6, ⟨g1, g2, g3, (by unfold i64; dsimp only; omega), g5, g6⟩, h8, h9, h10, h11, h12, h13⟩
  have hEx : Only (fun i => i = p ∨ i = q) w (w1.setCell ⟨q, 3, none⟩ (.int .i64 n1)) := (hE1.mono (fun _ _ e => .inl e)).trans ho2 (fun _ _ e => .inr e)
  have hSx : Stp d (pRest 2 f a) d1 { (mv0 2 f a).m with err := n1 } := by
    unfold pRest
    rw [if_neg (by omega), if_pos rfl]
    exact hS1.next (f := fun e => pOf { MD.none 2 f a with err := e }) (Stp.of _ _)
  have HF := Lib.hid (And.intro hAx (And.intro hq2 (And.intro ht2 (And.intro hI2 (And.intro hSx hEx)))))
  clear hAx hq2 ht2 hI2 hSx hEx ho2 hq1 ht1 hI1 hS1 hE1 hq ht hA0 hG0 c4 c5 c39 c40 c41
  go_wp2_with fail
  go_ret
  obtain ⟨h1, h2, h3, h4, h5, h6⟩ := HF.out
  exact ⟨_, d1, rfl, h1, mv0_Ge 2 f a _, h2, h3, h4, h5, h6⟩
set_option maxRecDepth 100000 in
set_option maxHeartbeats 1000000 in
theorem mrest_3 (f a : Int) (w : World) {p q : Nat} {gi : Option Nat} {d : IK} (hI : InAt w p gi d) (hl : d.b.length ≤ 1000000) (hq : w.rangeAt q 0 (mv0 3 f a).C) (ht : w.there q 0 42) (hqp : q ≠ p) (hqg : gi ≠ some q) (hf : i64 f) (ha : i64 a) :
    Calls Tryd.prog 35 #[.pointer (some ⟨q, 0, none⟩), .pointer (some ⟨p, 0, none⟩)] w fun e w' => ∃ (x : MV) (d2 : IK), e = .returned (.bool true) ∧ x.At w' ∧ x.Ge w.heap.size ∧ w'.rangeAt q 0 x.C ∧ w'.there q 0 42 ∧ InAt w' p gi d2 ∧ Stp d (pRest 3 f a) d2 x.m ∧ Only (fun i => i = p ∨ i = q) w w' := by
  have hpl := hI.lt
  have hgl : ∀ k, gi = some k → k < w.heap.size := by obtain ⟨_, _, _, _, _, _, _, h3, _⟩ := hI; exact h3
  have hqg2 : ∀ k, gi = some k → ¬ k = q := fun k hk e => hqg (e ▸ hk)
  have hA0 := mvAt_zero w 3 f a (by unfold i64; omega) hf ha
  have hG0 := mv0_Ge 3 f a w.heap.size
  have hk0 : (mv0 3 f a).m.row.key.length = 32 := z32_len
  obtain ⟨⟨c0, c1, c2, c3, c4, c5⟩, crr, c39, c40, c41⟩ := MV.range hq hk0
  have hql : q < w.heap.size := World.block_lt_of_cell? w _ c0
  change w.cell? ⟨q, 0, none⟩ = some (.int .i64 3) at c0
  clear c1 c2 crr
  clear c3 c4 c5 c39 c40 c41
  go_enter Tryd.func35, Tryd.ntmps35
  go_wp2_with fail
  go_region_law (first
    | (go_simp; go_at_call 59; refine (ifixed_any 32 w.drew (hI.keep ((Below.refl _ _).drew)) hl).mono ?_; rintro e w3 ⟨v3, rfl, hv3, hI3, hE3⟩; have hE3 := Only.of_drew hE3; have ht3 := there_only ht hE3 hqp; have hcp := fun ty => run_cpK w3 ty q 6 v3 (d.fixL 32) hv3.bsl (there_part ht3 (by omega)); obtain ⟨so3, sc3, hsv3⟩ := hv3.bsl.shape; rw [hsv3] at hcp))
  all_goals
    rw [← List.map_take]
    have hq3 := rangeAt_only hq hE3 hqp
    have h8 : (mv0 3 f a).C = [.int .i64 3, .int .i64 f, .int .i64 a, .int .i64 0, .int .i64 0, .int .i64 0] ++ (zK ++ ([.slice none 0 0] ++ [.slice none 0 0, .slice none 0 0, .slice none 0 0])) := by unfold MV.C RV.C; rw [List.append_assoc]; rfl
    rw [h8] at hq3
    have hq4 := range_cp (l := d.fixL 32) hq3
    clear h8
    have ht4 := there_setCells0 (o := 6) (vs := (d.fixL 32).take 32 |>.map bv) ht3
    have ho4 := Only.setCells1 (b := q) ((d.fixL 32).take 32 |>.map bv) 6 w3
    have hI4 := hI3.only ho4 (fun e => hqp e.symm) hqg2
    have hEx : Only (fun i => i = p ∨ i = q) w (w3.setCells q 6 ((d.fixL 32).take 32 |>.map bv)) := (hE3.mono (fun _ _ e => .inl e)).trans ho4 (fun _ _ e => .inr e)
    have hpk := padK_len (d.fixL 32)
    have hAx : MV.At (w3.setCells q 6 ((d.fixL 32).take 32 |>.map bv)) { mv0 3 f a with m := { (mv0 3 f a).m with row := ⟨padK (d.fixL 32), []⟩ } } := by
      obtain ⟨h1, h2, h3, h4, h5, h6, h7, h8, h9, h10, h11, h12, h13⟩ := hA0
      exact ⟨⟨hpk, none, 0, rfl, Nat.le_refl _, by omega, fun _ => rfl, fun h => absurd rfl h⟩, Rd.nil _ _, Rd.nil _ _, Rd.nil _ _, by simp [mv0], h6, h7, h8, h9, h10, h11, h12, h13⟩
    have hSx : Stp d (pRest 3 f a) (d.fixS 32) { (mv0 3 f a).m with row := ⟨padK (d.fixL 32), []⟩ } := by
      unfold pRest
      rw [if_neg (by omega), if_neg (by omega), if_pos rfl]
      have h1 : Stp d (pFix 32) (d.fixS 32) (d.fixL 32) := Stp.fix d 32
      have h2 : Stp d (pFix 32) (d.fixS 32) (padK (d.fixL 32)) := h1.val (fun he => (padK_32 (fixL_32 he)).symm)
      exact h2.next (f := fun x => pOf { MD.none 3 f a with row := ⟨x, []⟩ }) (Stp.of _ _)
    have hq5 : (w3.setCells q 6 ((d.fixL 32).take 32 |>.map bv)).rangeAt q 0 ({ mv0 3 f a with m := { (mv0 3 f a).m with row := ⟨padK (d.fixL 32), []⟩ } } : MV).C := by
      have h8 : ({ mv0 3 f a with m := { (mv0 3 f a).m with row := ⟨padK (d.fixL 32), []⟩ } } : MV).C = [.int .i64 3, .int .i64 f, .int .i64 a, .int .i64 0, .int .i64 0, .int .i64 0] ++ ((padK (d.fixL 32)).map bv ++ ([.slice none 0 0] ++ [.slice none 0 0, .slice none 0 0, .slice none 0 0])) := by unfold MV.C RV.C; rw [List.append_assoc]; rfl
      rw [h8]; exact hq4
    have HF := Lib.hid (And.intro hAx (And.intro hq5 (And.intro ht4 (And.intro hI4 (And.intro hSx hEx)))))
    clear hAx hq4 hq5 ht4 hI4 hSx hEx ho4 hq3 hcp ht3 hv3 hsv3 hI3 hE3 hA0 hG0
    generalize w3.setCells q 6 ((d.fixL 32).take 32 |>.map bv) = w4 at *
    go_wp2_with fail
    go_ret
    obtain ⟨h1, h2, h3, h4, h5, h6⟩ := HF.out
    exact ⟨rfl, _, h1, mv0_Ge 3 f a _, h2, h3, _, h4, h5, h6⟩
set_option maxRecDepth 100000 in
set_option maxHeartbeats 1000000 in
theorem mrest_5 (f a : Int) (w : World) {p q : Nat} {gi : Option Nat} {d : IK} (hI : InAt w p gi d) (hl : d.b.length ≤ 1000000) (hq : w.rangeAt q 0 (mv0 5 f a).C) (ht : w.there q 0 42) (hqp : q ≠ p) (hqg : gi ≠ some q) (hf : i64 f) (ha : i64 a) :
    Calls Tryd.prog 35 #[.pointer (some ⟨q, 0, none⟩), .pointer (some ⟨p, 0, none⟩)] w fun e w' => ∃ (x : MV) (d2 : IK), e = .returned (.bool true) ∧ x.At w' ∧ x.Ge w.heap.size ∧ w'.rangeAt q 0 x.C ∧ w'.there q 0 42 ∧ InAt w' p gi d2 ∧ Stp d (pRest 5 f a) d2 x.m ∧ Only (fun i => i = p ∨ i = q) w w' := by
  have hpl := hI.lt
  have hgl : ∀ k, gi = some k → k < w.heap.size := by obtain ⟨_, _, _, _, _, _, _, h3, _⟩ := hI; exact h3
  have hqg2 : ∀ k, gi = some k → ¬ k = q := fun k hk e => hqg (e ▸ hk)
  have hA0 := mvAt_zero w 5 f a (by unfold i64; omega) hf ha
  have hG0 := mv0_Ge 5 f a w.heap.size
  have hk0 : (mv0 5 f a).m.row.key.length = 32 := z32_len
  obtain ⟨⟨c0, c1, c2, c3, c4, c5⟩, crr, c39, c40, c41⟩ := MV.range hq hk0
  have hql : q < w.heap.size := World.block_lt_of_cell? w _ c0
  change w.cell? ⟨q, 0, none⟩ = some (.int .i64 5) at c0
  clear c1 c2 crr
  have f4 := there_cell ht 4 (by omega)
  go_enter Tryd.func35, Tryd.ntmps35
  go_wp2_with fail
  refine (ismall_any 7 w hI hl).mono ?_
  rintro e w1 ⟨rfl, hI1, hE1⟩
  have hS1 := Stp.num d 1 7
  have hb := numN_b d 1 7 (by omega)
  generalize d.numN 1 7 = n1 at *
  generalize d.numS 1 7 = d1 at *
  have hd1 := hS1.1
  have hq1 := rangeAt_only hq hE1 hqp
  have ht1 := there_only ht hE1 hqp
  have c4 := (hE1.cell (p := ⟨q, 4, none⟩) hql hqp).trans c4
  have f4 := (hE1.frozen (p := ⟨q, 4, none⟩) hql hqp).trans f4
  have ho2 := Only.set1 w1 q 4 (.int .i64 n1)
  have hq2 := rangeAt_set hq1 4 (.int .i64 n1)
  rw [C_set4] at hq2
  have ht2 := there_set ht1 4 (.int .i64 n1)
  have hI2 := hI1.only ho2 (fun e => hqp e.symm) hqg2
  have hE2 : Only (fun i => i = p ∨ i = q) w (w1.setCell ⟨q, 4, none⟩ (.int .i64 n1)) := (hE1.mono (fun _ _ e => .inl e)).trans ho2 (fun _ _ e => .inr e)
  clear hq1 ht1 ho2 hI1 hE1 hq ht hI c3 c5 c39 c40 c41
  go_wp2_with fail
  generalize w1.setCell ⟨q, 4, none⟩ (.int .i64 n1) = w2 at *
  have hsz2 := hE2.size
  refine (mrow_any w2 hI2 (by omega)).mono ?_
  rintro e w3 ⟨y, d2, rfl, hyA, hyG, hyl, hI3, hS3, hE3⟩
  have hq3 := rangeAt_only hq2 hE3 hqp
  have ht3 := there_only ht2 hE3 hqp
  have hst := run_stT bigR w3 q 6 y.C (by rw [RV.C_len hyA]; exact there_part ht3 (by omega)) (by rw [RV.C_len hyA, zR_len]) (RV.C_one hyA)
  have hq4 := C_row y hq3 hk0 hyA.1
  have ho4 := Only.setCells1 (b := q) y.C 6 w3
  have ht4 := there_setCells0 (o := 6) (vs := y.C) ht3
  have hI4 := hI3.only ho4 (fun e => hqp e.symm) hqg2
  have hyA2 : y.At (w3.setCells q 6 y.C) := ⟨hyA.1, hyA.2.only ho4 (fun k hk e => by have := hyG k hk; omega)⟩
  have hAx : MV.At (w3.setCells q 6 y.C) { mv0 5 f a with sv := y.sv, m := { (mv0 5 f a).m with hold := n1, row := y.d } } := by
    obtain ⟨_, h2, h3, h4, h5, h6, ⟨g1, g2, g3, g4, g5, g6⟩, h8, h9, h10, h11, h12, h13⟩ := hA0
    exact ⟨hyA2, Rd.nil _ _, Rd.nil _ _, Rd.nil _ _, by simp [mv0], h6, ⟨g1, g2, g3, g4, (by unfold i64; dsimp only; omega), g6⟩, h8, (show y.set.length ≤ 1000000 by omega), h10, h11, h12, h13⟩
  have hEx : Only (fun i => i = p ∨ i = q) w (w3.setCells q 6 y.C) := (hE2.trans hE3 (fun _ _ e => .inl e)).trans ho4 (fun _ _ e => .inr e)
  have hSx : Stp d (pRest 5 f a) d2 { (mv0 5 f a).m with hold := n1, row := y.d } := by
    unfold pRest
    rw [if_neg (by omega), if_neg (by omega), if_neg (by omega), if_pos rfl]
    exact hS1.next (f := fun h => pThen pRow fun r => pOf { MD.none 5 f a with hold := h, row := r }) (hS3.next (f := fun r => pOf { MD.none 5 f a with hold := n1, row := r }) (Stp.of _ _))
  have HF := Lib.hid (And.intro hAx (And.intro hq4 (And.intro ht4 (And.intro hI4 (And.intro hSx hEx)))))
  have HG := Lib.hid hyG
  clear hAx hq4 ht4 hI4 hSx hEx hyA2 ho4 hq3 ht3 hI3 hS1 hS3 hE3 hyG hq2 ht2 hA0 hG0 hI2 hE2
  go_wp2_with fail
  go_ret
  obtain ⟨h1, h2, h3, h4, h5, h6⟩ := HF.out
  exact ⟨_, d2, rfl, h1, ⟨fun k hk => Nat.le_trans hsz2 (HG.out k hk).1, nil_Ge _, nil_Ge _, nil_Ge _, fun y hy => by cases hy⟩, h2, h3, h4, h5, h6⟩
set_option maxRecDepth 100000 in
set_option maxHeartbeats 1000000 in
theorem mrest_6 (f a : Int) (w : World) {p q : Nat} {gi : Option Nat} {d : IK} (hI : InAt w p gi d) (hl : d.b.length ≤ 1000000) (hq : w.rangeAt q 0 (mv0 6 f a).C) (ht : w.there q 0 42) (hqp : q ≠ p) (hqg : gi ≠ some q) (hf : i64 f) (ha : i64 a) :
    Calls Tryd.prog 35 #[.pointer (some ⟨q, 0, none⟩), .pointer (some ⟨p, 0, none⟩)] w fun e w' => ∃ (x : MV) (d2 : IK), e = .returned (.bool true) ∧ x.At w' ∧ x.Ge w.heap.size ∧ w'.rangeAt q 0 x.C ∧ w'.there q 0 42 ∧ InAt w' p gi d2 ∧ Stp d (pRest 6 f a) d2 x.m ∧ Only (fun i => i = p ∨ i = q) w w' := by
  have hpl := hI.lt
  have hgl : ∀ k, gi = some k → k < w.heap.size := by obtain ⟨_, _, _, _, _, _, _, h3, _⟩ := hI; exact h3
  have hqg2 : ∀ k, gi = some k → ¬ k = q := fun k hk e => hqg (e ▸ hk)
  have hA0 := mvAt_zero w 6 f a (by unfold i64; omega) hf ha
  have hG0 := mv0_Ge 6 f a w.heap.size
  have hk0 : (mv0 6 f a).m.row.key.length = 32 := z32_len
  obtain ⟨⟨c0, c1, c2, c3, c4, c5⟩, crr, c39, c40, c41⟩ := MV.range hq hk0
  have hql : q < w.heap.size := World.block_lt_of_cell? w _ c0
  change w.cell? ⟨q, 0, none⟩ = some (.int .i64 6) at c0
  clear c1 c2 crr
  have f5 := there_cell ht 5 (by omega)
  have hu38 := Tryd.underlying42
  obtain ⟨it, zz, hti, htz, hzc, hsz1, hby⟩ := big32.elt
  rw [zK_len] at hzc hsz1
  go_enter Tryd.func35, Tryd.ntmps35
  go_wp2_with fail
  refine (ismall_any 4 w hI hl).mono ?_
  rintro e w1 ⟨rfl, hI1, hE1⟩
  have hS1 := Stp.num d 1 4
  have hb := numN_b d 1 4 (by omega)
  generalize d.numN 1 4 = n1 at *
  generalize d.numS 1 4 = d1 at *
  have hd1 := hS1.1
  have hq1 := rangeAt_only hq hE1 hqp
  have ht1 := there_only ht hE1 hqp
  have c5 := (hE1.cell (p := ⟨q, 5, none⟩) hql hqp).trans c5
  have f5 := (hE1.frozen (p := ⟨q, 5, none⟩) hql hqp).trans f5
  have ho2 := Only.set1 w1 q 5 (.int .i64 n1)
  have hq2 := rangeAt_set hq1 5 (.int .i64 n1)
  rw [C_set5] at hq2
  change World.rangeAt _ q 0 (mv6 f a n1 [] (.slice none 0 0) [] (.slice none 0 0)).C at hq2
  have ht2 := there_set ht1 5 (.int .i64 n1)
  have hI2 := hI1.only ho2 (fun e => hqp e.symm) hqg2
  have hE2 : Only (fun i => i = p ∨ i = q) w (w1.setCell ⟨q, 5, none⟩ (.int .i64 n1)) := (hE1.mono (fun _ _ e => .inl e)).trans ho2 (fun _ _ e => .inr e)
  clear hq1 ht1 ho2 hI1 hE1 hq ht hI c3 c4 c39 c40 c41
  go_wp2_with fail
  generalize w1.setCell ⟨q, 5, none⟩ (.int .i64 n1) = w2 at *
  have hsz2 := hE2.size
  refine (mlist_any w2 hI2 (by omega)).mono ?_
  rintro e w3 ⟨av, xs, d2, rfl, hR3, hx64, hxl, hI3, hS3, hE3⟩
  obtain ⟨vo, vc, hvv, hz1, hz2, hz3⟩ := hR3.val
  clear hz1 hz2 hz3
  rw [List.length_map] at hvv
  subst hvv
  have hd2 := hS3.1
  have hR3 := hR3.mono hsz2
  have hq3 := rangeAt_only hq2 hE3 hqp
  have ht3 := there_only ht2 hE3 hqp
  obtain ⟨_, _, c39, _, _⟩ := MV.range hq3 z32_len
  have f39 := there_cell ht3 39 (by omega)
  have ho4 := Only.set1 w3 q 39 (.slice vo xs.length vc)
  have hq4 := rangeAt_set hq3 39 (.slice vo xs.length vc)
  rw [C_set39 _ z32_len xs] at hq4
  change World.rangeAt _ q 0 (mv6 f a n1 xs (.slice vo xs.length vc) [] (.slice none 0 0)).C at hq4
  have ht4 := there_set ht3 39 (.slice vo xs.length vc)
  have hI4 := hI3.only ho4 (fun e => hqp e.symm) hqg2
  have hR4 := hR3.only ho4 (fun k hk e => by have := hR3.own_ge k hk; omega)
  have hE4 : Only (fun i => i = p ∨ i = q) w (w3.setCell ⟨q, 39, none⟩ (.slice vo xs.length vc)) := (hE2.trans hE3 (fun _ _ e => .inl e)).trans ho4 (fun _ _ e => .inr e)
  clear hq3 ht3 ho4 hI3 hE3 hE2 hR3 hq2 ht2 hI2
  go_wp2_with fail
  generalize w3.setCell ⟨q, 39, none⟩ (.slice vo xs.length vc) = w4 at *
  have hsz4 := hE4.size
  refine (ismall_any 255 w4 hI4 (by omega)).mono ?_
  rintro e w5 ⟨rfl, hI5, hE5⟩
  have hS5 := Stp.num d2 1 255
  have hb5 := numN_b d2 1 255 (by omega)
  generalize d2.numN 1 255 = n5 at *
  obtain ⟨N, rfl⟩ := Int.eq_ofNat_of_zero_le hb5.1
  have hN : N ≤ 255 := by omega
  generalize d2.numS 1 255 = d5 at *
  have hd5 := hS5.1
  have hq5 := rangeAt_only hq4 hE5 hqp
  have ht5 := there_only ht4 hE5 hqp
  have hR5 := hR4.only hE5 (fun k hk e => by have := hR4.own_ge k hk; omega)
  have hE5 : Only (fun i => i = p ∨ i = q) w w5 := hE4.trans hE5 (fun _ _ e => .inl e)
  clear hq4 ht4 hI4 hR4 hE4 c39 f39 c5 f5
  have HS := Lib.hid (And.intro hS1 (And.intro hS3 hS5))
  clear hS1 hS3 hS5
  go_wp2_with fail
  go_loopw [61] (fun j wr => ∃ (k : Nat) (ds : List (List UInt8)) (dvv : Value) (dk : IK), k ≤ N ∧ j = .int .i64 k ∧ ds.length = k ∧ RW wr w.heap.size 22 32 dvv (ds.map (·.map bv)) ∧
    wr.rangeAt q 0 (mv6 f a n1 xs (.slice vo xs.length vc) ds dvv).C ∧ wr.there q 0 42 ∧ InAt wr p gi dk ∧ Stp d5 (pRep (pFix 32) k) dk ds ∧
    RW wr w.heap.size 3 1 (.slice vo xs.length vc) (xs.map intC) ∧ (∀ k, (Value.slice vo xs.length vc).ownBlock = some k → dvv.ownBlock ≠ some k) ∧ Only (fun i => i = p ∨ i = q) w wr) (fun j _ => N - (intOf j).toNat)
  case atStart => exact ⟨0, [], .slice none 0 0, d5, Nat.zero_le _, rfl, rfl, RW.nil _ _ _ _, hq5, ht5, hI5, Stp.of _ _, hR5, (fun _ _ h => by cases h), hE5⟩
  case round =>
    obtain ⟨k, ds, dvv, dk, hk, rfl, hdl, hR, hqr, htr, hIr, hSr, hRa, hdj, hEr⟩ := hrel
    clear hq5 ht5 hI5 hR5 hE5
    have hszr := hEr.size
    by_cases hlt : k < N
    · subst hdl
      have hlt2 : (ds.length : Int) < N := by omega
      have hk0' : (0 : Int) ≤ ds.length := Int.natCast_nonneg _
      have hdk := hSr.1
      obtain ⟨ro, rc, hvv, hz1, hz2, hz3⟩ := hR.val
      clear hz1 hz2 hz3
      rw [List.length_map] at hvv
      subst hvv
      obtain ⟨_, _, _, c40, _⟩ := MV.range hqr z32_len
      have f40 := there_cell htr 40 (by omega)
      have hqlr : q < wr.heap.size := by omega
      have hal := run_alT big32 wr
      have hA1 : Below wr.heap.size wr (wr.alloc (.cells zK.toArray 22)) := (Below.refl _ _).alloc (Nat.le_refl _) _
      have htn := there_new wr zK 22
      have hrn := rangeAt_alloc_new wr zK 22
      rw [zK_len] at htn
      have c40 := (hA1.cell (p := ⟨q, 40, none⟩) hqlr).trans c40
      have f40 := (hA1.frozen (p := ⟨q, 40, none⟩) hqlr).trans f40
      have hqr := rangeAt_keep hqr hA1
      have htr := there_only htr (Only.of_below (S := fun _ => False) hA1) (fun h => h)
      have hIr := hIr.keep hA1
      have hRb := hR.own_lt
      have hRab := hRa.own_lt
      have hR := hR.keep hA1
      have hRa := hRa.keep hA1
      have hEr : Only (fun i => i = p ∨ i = q) w (wr.alloc (.cells zK.toArray 22)) := hEr.trans (Only.of_below (S := fun i => i = p ∨ i = q) hA1) (fun _ _ e => e)
      have hszA : (wr.alloc (.cells zK.toArray 22)).heap.size = wr.heap.size + 1 := by simp
      clear hA1
      go_wp2_with fail
      generalize wr.alloc (.cells zK.toArray 22) = wa at *
      clear hal
      generalize hbb : wr.heap.size = b at *
      have hbp : ¬ b = p := by omega
      have hbq : ¬ b = q := by omega
      have hRlt := hR.own_lt
      go_region_law (first
        | (go_simp; go_at_call 59; refine (ifixed_any 32 wa.drew (hIr.keep ((Below.refl _ _).drew)) (by omega)).mono ?_; rintro e w6 ⟨v6, rfl, hv6, hI6, hE6⟩; have hE6 := Only.of_drew hE6; have ht6 := there_only htn hE6 hbp; have hcp := fun ty => run_cpK w6 ty b 0 v6 (dk.fixL 32) hv6.bsl ht6; obtain ⟨so6, sc6, hsv6⟩ := hv6.bsl.shape; rw [hsv6] at hcp))
      all_goals
        rw [← List.map_take]
        have hr6 := rangeAt_only hrn hE6 hbp
        have hr7 := range_cpK (l := dk.fixL 32) hr6
        have ho7 := Only.setCells1 (b := b) ((dk.fixL 32).take 32 |>.map bv) 0 w6
        have hE7 : Only (fun i => i = p ∨ i = b) wa (w6.setCells b 0 ((dk.fixL 32).take 32 |>.map bv)) := (hE6.mono (fun _ _ e => .inl e)).trans ho7 (fun _ _ e => .inr e)
        have c40 := (hE7.cell (p := ⟨q, 40, none⟩) (show q < wa.heap.size by omega) (fun e => e.elim (fun e => hqp e) (fun e => hbq e.symm))).trans c40
        have f40 := (hE7.frozen (p := ⟨q, 40, none⟩) (show q < wa.heap.size by omega) (fun e => e.elim (fun e => hqp e) (fun e => hbq e.symm))).trans f40
        have hq7 := rangeAt_only hqr hE7 (fun e => e.elim (fun e => hqp e) (fun e => hbq e.symm))
        have ht7 := there_only htr hE7 (fun e => e.elim (fun e => hqp e) (fun e => hbq e.symm))
        have hI7 := hI6.only ho7 (fun e => hbp e.symm) (fun k hk e => by have := hgl k hk; omega)
        have hR7 := hR.only hE7 (fun k hk e => e.elim (fun e => by have := hR.own_ge k hk; omega) (fun e => by have := hRb k hk; omega))
        have hRa7 := hRa.only hE7 (fun k hk e => e.elim (fun e => by have := hRa.own_ge k hk; omega) (fun e => by have := hRab k hk; omega))
        have hEE7 : Only (fun i => i = p ∨ i = q) w (w6.setCells b 0 ((dk.fixL 32).take 32 |>.map bv)) := by
          have h1 : Only (fun i => (i = p ∨ i = q) ∨ i = b) w (w6.setCells b 0 ((dk.fixL 32).take 32 |>.map bv)) := (hEr.mono (fun _ _ e => .inl e)).trans hE7 (fun _ _ e => e.elim (fun e => .inl (.inl e)) .inr)
          exact h1.mono (fun i hi e => e.elim id (fun e => by omega))
        have hS7 : Stp dk (pFix 32) (dk.fixS 32) (padK (dk.fixL 32)) := by
          have h1 : Stp dk (pFix 32) (dk.fixS 32) (dk.fixL 32) := Stp.fix dk 32
          exact h1.val (fun he => (padK_32 (fixL_32 he)).symm)
        have hpk := padK_len (dk.fixL 32)
        have hsz7 := hE7.size
        clear hr6 hcp ht6 hv6 hsv6 hI6 hE6 ho7 hqr htr hIr hR hRa hEr hrn htn hE7
        generalize w6.setCells b 0 ((dk.fixL 32).take 32 |>.map bv) = w7 at *
        generalize hpv : padK (dk.fixL 32) = key at *
        clear hpv
        generalize dk.fixS 32 = d7 at *
        have hk32 : (key.map bv).length = 32 := by rw [List.length_map, hpk]
        have hld := run_ldT big32 w7.drew b 0 (key.map bv) hr7 (by rw [hk32, zK_len])
        have hbs := run_bsT big32 hu38 w7.drew (key.map bv) (by rw [hk32, zK_len]) (by rw [zK_len]; omega) (by rw [zK_len]; omega)
        have hA : Below w7.drew.heap.size w7.drew (w7.drew.alloc (.cells (key.map bv).toArray 22)) := (Below.refl _ _).alloc (Nat.le_refl _) _
        have hsrcA : (w7.drew.alloc (.cells (key.map bv).toArray 22)).rangeAt w7.heap.size 0 (key.map bv) := rangeAt_alloc_new w7.drew _ _
        have hRA := (RW.drew hR7).keep hA
        have hq7l : q < w7.drew.heap.size := show q < w7.heap.size by omega
        have c40A := (hA.cell (p := ⟨q, 40, none⟩) hq7l).trans c40
        have f40A := (hA.frozen (p := ⟨q, 40, none⟩) hq7l).trans f40
        have c40B : (w7.alloc (.cells (key.map bv).toArray 22)).cell? ⟨q, 40, none⟩ = some (.slice ro ds.length rc) := c40A
        have hldA := run_ldT big32 (w7.drew.alloc (.cells (key.map bv).toArray 22)) b 0 (key.map bv) (World.rangeAt_alloc (w := w7.drew) hr7 _) (by rw [hk32, zK_len])
        have hone := bv_one key
        have hlm : (ds.map (·.map bv)).length + 1 ≤ 100000000 := by rw [List.length_map]; omega
        have hbase : w.heap.size ≤ (w7.drew.alloc (.cells (key.map bv).toArray 22)).heap.size := Nat.le_trans (show w.heap.size ≤ w7.heap.size by omega) hA.size
        have hROq : ∀ k, (Value.slice ro ds.length rc).ownBlock = some k → ¬ k = q := fun k hk e => by have := hR7.own_ge k hk; omega
        have hROp : ∀ k, (Value.slice ro ds.length rc).ownBlock = some k → ¬ k = p := fun k hk e => by have := hR7.own_ge k hk; omega
        have hA0s := hA.size
        have HX := Lib.hid (And.intro hq7 (And.intro ht7 (And.intro hI7 (And.intro hRa7 (And.intro hEE7 (And.intro (hSr.snoc hS7) hA))))))
        clear hq7 ht7 hI7 hRa7 hEE7 hSr hS7 hR7 hr7 hA
        go_wp2_with fail
        go_region_law (first
          | (refine step_appr rfl _ _ 42 rfl it zz hu38 hti htz hsz1 hby hzc (by omega) hRA hsrcA hk32 hone hlm hbase (by rfl) (by rfl) ?_; intro v8 w8 hR8 hg8 hn8; obtain ⟨ao8, cap8, hv8, _, _, _⟩ := hR8.val; simp only [List.length_append, List.length_map, List.length_cons, List.length_nil, Nat.zero_add] at hv8; subst hv8; have hc8 : w8.cell? ⟨q, 40, none⟩ = some (.slice ro ds.length rc) := hg8.cell c40A (fun e => hROq _ e.symm rfl); have hf8 : w8.frozen? ⟨q, 40, none⟩ = false := (World.frozen?_of_block (hg8.block q (Nat.lt_of_lt_of_le hq7l hA0s) (fun e => hROq _ e.symm rfl))).trans f40A))
        all_goals
          obtain ⟨hq7, ht7, hI7, hRa7, hEE7, hS8, hA⟩ := HX.out
          have hRA8 := hRA.own_lt
          have ho8 : Only (fun k => (Value.slice ro ds.length rc).ownBlock = some k) (w7.drew.alloc (.cells (key.map bv).toArray 22)) w8 := Only.of_grown hg8 (fun q h => h)
          have hE8 : Only (fun k => (Value.slice ro ds.length rc).ownBlock = some k) w7 w8 := ((Only.of_below (S := fun k => (Value.slice ro ds.length rc).ownBlock = some k) hA).trans ho8 (fun _ _ h => h)).of_drew
          have ho9 := Only.set1 w8 q 40 (.slice ao8 (ds.length + 1) cap8)
          have hq9 := rangeAt_set (rangeAt_only hq7 hE8 (fun e => hROq _ e rfl)) 40 (.slice ao8 (ds.length + 1) cap8)
          rw [C_set40 _ z32_len (ds ++ [key])] at hq9
          change World.rangeAt _ q 0 (mv6 f a n1 xs (.slice vo xs.length vc) (ds ++ [key]) (.slice ao8 (ds.length + 1) cap8)).C at hq9
          have ht9 := there_set (there_only ht7 hE8 (fun e => hROq _ e rfl)) 40 (.slice ao8 (ds.length + 1) cap8)
          have hI9 := (hI7.only hE8 (fun e => hROp _ e rfl) (fun k hk e => by have := hRA.own_ge k e; have := hgl k hk; omega)).only ho9 (fun e => hqp e.symm) hqg2
          have hsA : w7.heap.size ≤ (w7.drew.alloc (.cells (key.map bv).toArray 22)).heap.size := hA0s
          have hRa8 := hRa7.only hE8 (fun k hk e => hdj k hk e)
          have hRa9 := hRa8.only ho9 (fun k hk e => by have := hRa7.own_ge k hk; omega)
          have hR9 := hR8.only ho9 (fun k hk e => hn8.elim (fun h => hROq k (h.symm.trans hk) e) (fun h => by have h2 : (w7.drew.alloc (.cells (key.map bv).toArray 22)).heap.size = k := Option.some.inj (h.symm.trans hk); have h3 : q < w7.heap.size := hq7l; omega))
          have hdj9 : ∀ k, (Value.slice vo xs.length vc).ownBlock = some k → (Value.slice ao8 (ds.length + 1) cap8).ownBlock ≠ some k := fun k hk e => hn8.elim (fun h => hdj k hk (h.symm.trans e)) (fun h => by have h2 : (w7.drew.alloc (.cells (key.map bv).toArray 22)).heap.size = k := Option.some.inj (h.symm.trans e); have := hRa7.own_lt k hk; omega)
          have hE9 : Only (fun i => i = p ∨ i = q) w (w8.setCell ⟨q, 40, none⟩ (.slice ao8 (ds.length + 1) cap8)) := (hEE7.trans hE8 (fun i hi e => by have := hRA.own_ge i e; omega)).trans ho9 (fun _ _ e => .inr e)
          rw [show (ds.map (·.map bv)) ++ [key.map bv] = (ds ++ [key]).map (·.map bv) by simp] at hR9
          have HF := Lib.hid (And.intro hR9 (And.intro hq9 (And.intro ht9 (And.intro hI9 (And.intro hS8 (And.intro hRa9 (And.intro hdj9 hE9)))))))
          clear hR9 hq9 ht9 hI9 hS8 hRa9 hdj9 hE9 hRa8 ho9 hE8 ho8 hR8 hg8 hn8 hq7 ht7 hI7 hRa7 hEE7 hA hRA hsrcA hld hldA hbs
          go_wp2_with fail
          go_roundw
          case rel => exact ⟨ds.length + 1, ds ++ [key], _, d7, hlt, by go_num, by simp, HF.out⟩
          case measure => simp [intOf]; omega
    · have hke : k = N := by omega
      subst hke
      obtain ⟨hS1, hS3, hS5⟩ := HS.out
      have hSx : Stp d (pRest 6 f a) dk (mv6 f a n1 xs (.slice vo xs.length vc) ds dvv).m := by
        unfold pRest
        rw [if_neg (by omega), if_neg (by omega), if_neg (by omega), if_neg (by omega), if_pos rfl]
        refine hS1.next (f := fun l => pThen (pMany (pNum 8 255)) fun at2 => pThen (pMany (pFix 32)) fun ds => pOf { MD.none 6 f a with level := l, ats := at2, digs := ds }) (hS3.next (f := fun at2 => pThen (pMany (pFix 32)) fun ds => pOf { MD.none 6 f a with level := n1, ats := at2, digs := ds }) ?_)
        refine Stp.next (f := fun ds => pOf { MD.none 6 f a with level := n1, ats := xs, digs := ds }) (x := ds) ?_ (Stp.of _ _)
        exact hS5.next (f := fun n => pRep (pFix 32) n.toNat) (x := (k : Int)) (by rw [Int.toNat_natCast]; exact hSr)
      have hAx : MV.At wr (mv6 f a n1 xs (.slice vo xs.length vc) ds dvv) := by
        obtain ⟨h1, h2, h3, h4, h5, h6, ⟨⟨g1, g2, g3, g4, g5, g6⟩, h8, h9, h10, h11, h12, h13⟩⟩ := hA0
        exact ⟨⟨z32_len, none, 0, rfl, Nat.le_refl _, by omega, fun _ => rfl, fun h => absurd rfl h⟩, hRa.rd, hR.rd, Rd.nil _ _, by simp [mv6], rfl, ⟨⟨g1, g2, g3, g4, g5, (by unfold i64 mv6; dsimp only; omega)⟩, hx64, h9, (show xs.length ≤ 1000 by omega), (show ds.length ≤ 1000 by omega), h12, h13⟩⟩
      have hGx : MV.Ge (mv6 f a n1 xs (.slice vo xs.length vc) ds dvv) w.heap.size := ⟨nil_Ge _, hRa.own_ge, hR.own_ge, nil_Ge _, fun y hy => by cases hy⟩
      have HF := Lib.hid (And.intro hAx (And.intro hGx (And.intro hqr (And.intro htr (And.intro hIr (And.intro hSx hEr))))))
      have HD := Lib.hid hdl
      clear hAx hGx hqr htr hIr hSx hEr hR hRa hdl hSr hS1 hS3 hS5 hdj hA0 hG0
      go_wp2_with fail
      go_ret
      obtain ⟨h1, h2, h3, h4, h5, h6, h7⟩ := HF.out
      first | exact ⟨_, dk, rfl, h1, h2, h3, h4, h5, h6, h7⟩ | exact ⟨rfl, _, h1, h2, h3, h4, dk, h5, h6, h7⟩
set_option maxRecDepth 100000 in
set_option maxHeartbeats 1000000 in
theorem mrest_7 (f a : Int) (w : World) {p q : Nat} {gi : Option Nat} {d : IK} (hI : InAt w p gi d) (hl : d.b.length ≤ 1000000) (hq : w.rangeAt q 0 (mv0 7 f a).C) (ht : w.there q 0 42) (hqp : q ≠ p) (hqg : gi ≠ some q) (hf : i64 f) (ha : i64 a) :
    Calls Tryd.prog 35 #[.pointer (some ⟨q, 0, none⟩), .pointer (some ⟨p, 0, none⟩)] w fun e w' => ∃ (x : MV) (d2 : IK), e = .returned (.bool true) ∧ x.At w' ∧ x.Ge w.heap.size ∧ w'.rangeAt q 0 x.C ∧ w'.there q 0 42 ∧ InAt w' p gi d2 ∧ Stp d (pRest 7 f a) d2 x.m ∧ Only (fun i => i = p ∨ i = q) w w' := by
  have hpl := hI.lt
  have hgl : ∀ k, gi = some k → k < w.heap.size := by obtain ⟨_, _, _, _, _, _, _, h3, _⟩ := hI; exact h3
  have hqg2 : ∀ k, gi = some k → ¬ k = q := fun k hk e => hqg (e ▸ hk)
  have hA0 := mvAt_zero w 7 f a (by unfold i64; omega) hf ha
  have hG0 := mv0_Ge 7 f a w.heap.size
  have hk0 : (mv0 7 f a).m.row.key.length = 32 := z32_len
  obtain ⟨⟨c0, c1, c2, c3, c4, c5⟩, crr, c39, c40, c41⟩ := MV.range hq hk0
  have hql : q < w.heap.size := World.block_lt_of_cell? w _ c0
  change w.cell? ⟨q, 0, none⟩ = some (.int .i64 7) at c0
  clear c1 c2 crr
  have hu39 := Tryd.underlying43
  obtain ⟨it, zz, hti, htz, hzc, hsz1, hby⟩ := bigR.elt
  rw [zR_len] at hzc hsz1
  go_enter Tryd.func35, Tryd.ntmps35
  go_wp2_with fail
  refine (mlist_any w hI (by omega)).mono ?_
  rintro e w3 ⟨av, xs, d2, rfl, hR3, hx64, hxl, hI3, hS3, hE3⟩
  obtain ⟨vo, vc, hvv, hz1, hz2, hz3⟩ := hR3.val
  clear hz1 hz2 hz3
  rw [List.length_map] at hvv
  subst hvv
  have hd2 := hS3.1
  have hq3 := rangeAt_only hq hE3 hqp
  have ht3 := there_only ht hE3 hqp
  have c39 := (hE3.cell (p := ⟨q, 39, none⟩) hql hqp).trans c39
  have f39 := there_cell ht3 39 (by omega)
  have ho4 := Only.set1 w3 q 39 (.slice vo xs.length vc)
  have hq4 := rangeAt_set hq3 39 (.slice vo xs.length vc)
  rw [C_set39 _ z32_len xs] at hq4
  change World.rangeAt _ q 0 (mv7 f a xs (.slice vo xs.length vc) [] (.slice none 0 0)).C at hq4
  have ht4 := there_set ht3 39 (.slice vo xs.length vc)
  have hI4 := hI3.only ho4 (fun e => hqp e.symm) hqg2
  have hR4 := hR3.only ho4 (fun k hk e => by have := hR3.own_ge k hk; omega)
  have hE4 : Only (fun i => i = p ∨ i = q) w (w3.setCell ⟨q, 39, none⟩ (.slice vo xs.length vc)) := (hE3.mono (fun _ _ e => .inl e)).trans ho4 (fun _ _ e => .inr e)
  clear hq3 ht3 ho4 hI3 hE3 hR3 hq ht hI c3 c4 c5 c40 c41
  go_wp2_with fail
  generalize w3.setCell ⟨q, 39, none⟩ (.slice vo xs.length vc) = w4 at *
  have hsz4 := hE4.size
  refine (ismall_any 255 w4 hI4 (by omega)).mono ?_
  rintro e w5 ⟨rfl, hI5, hE5⟩
  have hS5 := Stp.num d2 1 255
  have hb5 := numN_b d2 1 255 (by omega)
  generalize d2.numN 1 255 = n5 at *
  obtain ⟨N, rfl⟩ := Int.eq_ofNat_of_zero_le hb5.1
  have hN : N ≤ 255 := by omega
  generalize d2.numS 1 255 = d5 at *
  have hd5 := hS5.1
  have hq5 := rangeAt_only hq4 hE5 hqp
  have ht5 := there_only ht4 hE5 hqp
  have hR5 := hR4.only hE5 (fun k hk e => by have := hR4.own_ge k hk; omega)
  have hE5 : Only (fun i => i = p ∨ i = q) w w5 := hE4.trans hE5 (fun _ _ e => .inl e)
  clear hq4 ht4 hI4 hR4 hE4 c39 f39
  have HS := Lib.hid (And.intro hS3 hS5)
  clear hS3 hS5
  go_wp2_with fail
  go_loopw [87] (fun j wr => ∃ (k : Nat) (ys : List RV) (rvv : Value) (dk : IK), k ≤ N ∧ j = .int .i64 k ∧ ys.length = k ∧ RW wr w.heap.size 41 33 rvv (ys.map RV.C) ∧
    wr.rangeAt q 0 (mv7 f a xs (.slice vo xs.length vc) ys rvv).C ∧ wr.there q 0 42 ∧ InAt wr p gi dk ∧ Stp d5 (pRep pRow k) dk (ys.map RV.d) ∧
    RW wr w.heap.size 3 1 (.slice vo xs.length vc) (xs.map intC) ∧ (∀ k, (Value.slice vo xs.length vc).ownBlock = some k → rvv.ownBlock ≠ some k) ∧
    (∀ y ∈ ys, y.At wr ∧ y.set.length ≤ 1000000 ∧ ∀ k, y.sv.ownBlock = some k → w.heap.size ≤ k ∧ k < wr.heap.size ∧ rvv.ownBlock ≠ some k) ∧ Only (fun i => i = p ∨ i = q) w wr) (fun j _ => N - (intOf j).toNat)
  case atStart => exact ⟨0, [], .slice none 0 0, d5, Nat.zero_le _, rfl, rfl, RW.nil _ _ _ _, hq5, ht5, hI5, Stp.of _ _, hR5, (fun _ _ h => by cases h), by simp, hE5⟩
  case round =>
    obtain ⟨k, ys, rvv, dk, hk, rfl, hdl, hR, hqr, htr, hIr, hSr, hRa, hdj, hys, hEr⟩ := hrel
    clear hq5 ht5 hI5 hR5 hE5
    have hszr := hEr.size
    by_cases hlt : k < N
    · subst hdl
      have hlt2 : (ys.length : Int) < N := by omega
      have hk0' : (0 : Int) ≤ ys.length := Int.natCast_nonneg _
      have hdk := hSr.1
      obtain ⟨ro, rc, hvv, hz1, hz2, hz3⟩ := hR.val
      clear hz1 hz2 hz3
      rw [List.length_map] at hvv
      subst hvv
      obtain ⟨_, _, _, _, c41⟩ := MV.range hqr z32_len
      change wr.cell? ⟨q, 41, none⟩ = some (.slice ro ys.length rc) at c41
      have f41 := there_cell htr 41 (by omega)
      have hqlr : q < wr.heap.size := by omega
      have hROq : ∀ k, (Value.slice ro ys.length rc).ownBlock = some k → ¬ k = q := fun k hk e => by have := hR.own_ge k hk; omega
      have hROp : ∀ k, (Value.slice ro ys.length rc).ownBlock = some k → ¬ k = p := fun k hk e => by have := hR.own_ge k hk; omega
      have hRb := hR.own_lt
      have hlm : (ys.map RV.C).length + 1 ≤ 100000000 := by rw [List.length_map]; omega
      have HX := Lib.hid (And.intro hqr (And.intro htr (And.intro hRa (And.intro hdj (And.intro hys (And.intro hEr hSr))))))
      clear hqr htr hRa hdj hys hEr hSr
      go_wp2_with fail
      go_region_law (first
        | (go_simp; go_at_call 58; refine (mrow_any wr.drew (hIr.keep (Below.refl _ _).drew) (by omega)).mono ?_; rintro e w6 ⟨y, d7, rfl, hyA, hyG, hyl, hI6, hS6, hE6⟩; have hE6 := Only.of_drew hE6; have c41' := (hE6.cell (p := ⟨q, 41, none⟩) hqlr hqp).trans c41; have f41' := (hE6.frozen (p := ⟨q, 41, none⟩) hqlr hqp).trans f41; have hyC := RV.C_len hyA; have hbs := run_bsT bigR hu39 w6 y.C (by rw [hyC, zR_len]) (by rw [zR_len]; omega) (by rw [zR_len]; omega); have hone := RV.C_one hyA; have hA : Below w6.heap.size w6 (w6.alloc (.cells y.C.toArray 41)) := (Below.refl _ _).alloc (Nat.le_refl _) _; have hsrcA := rangeAt_alloc_new w6 y.C 41; have hR6 := hR.only hE6 hROp; have hRA := hR6.keep hA; have hq6l : q < w6.heap.size := (Nat.lt_of_lt_of_le hqlr hE6.size); have c41A := (hA.cell (p := ⟨q, 41, none⟩) hq6l).trans c41'; have f41A := (hA.frozen (p := ⟨q, 41, none⟩) hq6l).trans f41'; have hA0s := hA.size; have hbase : w.heap.size ≤ (w6.alloc (.cells y.C.toArray 41)).heap.size := Nat.le_trans (Nat.le_trans hszr hE6.size) hA0s; have HH := Lib.hid (And.intro hyA (And.intro hyG (And.intro hI6 (And.intro hS6 (And.intro hE6 (And.intro hA hR6)))))); clear hyA hyG hI6 hS6 hE6 hA hR6)
        | (refine step_appr rfl _ _ 43 rfl it zz hu39 hti htz hsz1 hby hzc (by omega) hRA hsrcA hyC hone hlm hbase (by rfl) (by rfl) ?_; intro v8 w8 hR8 hg8 hn8; obtain ⟨ao8, cap8, hv8, _, _, _⟩ := hR8.val; simp only [List.length_append, List.length_map, List.length_cons, List.length_nil, Nat.zero_add] at hv8; subst hv8; have hc8 : w8.cell? ⟨q, 41, none⟩ = some (.slice ro ys.length rc) := hg8.cell c41A (fun e => hROq _ e.symm rfl); have hf8 : w8.frozen? ⟨q, 41, none⟩ = false := (World.frozen?_of_block (hg8.block q (Nat.lt_of_lt_of_le hq6l hA0s) (fun e => hROq _ e.symm rfl))).trans f41A))
      all_goals
        obtain ⟨hqr, htr, hRa, hdj, hys, hEr, hSr⟩ := HX.out
        obtain ⟨hyA, hyG, hI6, hS6, hE6, hA, hR6⟩ := HH.out
        have hs6 := hE6.size
        have ho8 : Only (fun k => (Value.slice ro ys.length rc).ownBlock = some k) (w6.alloc (.cells y.C.toArray 41)) w8 := Only.of_grown hg8 (fun q h => h)
        have hE8 : Only (fun k => (Value.slice ro ys.length rc).ownBlock = some k) w6 w8 := (Only.of_below (S := fun k => (Value.slice ro ys.length rc).ownBlock = some k) hA).trans ho8 (fun _ _ h => h)
        have ho9 := Only.set1 w8 q 41 (.slice ao8 (ys.length + 1) cap8)
        have hs8 := hE8.size
        have hs9 := ho9.size
        have hq9 := rangeAt_set (rangeAt_only (rangeAt_only hqr hE6 hqp) hE8 (fun e => hROq _ e rfl)) 41 (.slice ao8 (ys.length + 1) cap8)
        rw [C_set41 _ z32_len (ys ++ [y])] at hq9
        change World.rangeAt _ q 0 (mv7 f a xs (.slice vo xs.length vc) (ys ++ [y]) (.slice ao8 (ys.length + 1) cap8)).C at hq9
        have ht9 := there_set (there_only (there_only htr hE6 hqp) hE8 (fun e => hROq _ e rfl)) 41 (.slice ao8 (ys.length + 1) cap8)
        have hI9 := (hI6.only hE8 (fun e => hROp _ e rfl) (fun k hk e => by have := hR6.own_ge k e; have := hgl k hk; omega)).only ho9 (fun e => hqp e.symm) hqg2
        have hRa6 := hRa.only hE6 (fun k hk e => by have := hRa.own_ge k hk; omega)
        have hRa8 := hRa6.only hE8 (fun k hk e => hdj k hk e)
        have hRa9 := hRa8.only ho9 (fun k hk e => by have := hRa6.own_ge k hk; omega)
        have hR9 := hR8.only ho9 (fun k hk e => hn8.elim (fun h => hROq k (h.symm.trans hk) e) (fun h => by have h2 : (w6.alloc (.cells y.C.toArray 41)).heap.size = k := Option.some.inj (h.symm.trans hk); omega))
        have hdj9 : ∀ k, (Value.slice vo xs.length vc).ownBlock = some k → (Value.slice ao8 (ys.length + 1) cap8).ownBlock ≠ some k := fun k hk e => hn8.elim (fun h => hdj k hk (h.symm.trans e)) (fun h => by have h2 : (w6.alloc (.cells y.C.toArray 41)).heap.size = k := Option.some.inj (h.symm.trans e); have := hRa6.own_lt k hk; omega)
        have hyG6 : ∀ k, y.sv.ownBlock = some k → w.heap.size ≤ k ∧ k < w6.heap.size ∧ (Value.slice ro ys.length rc).ownBlock ≠ some k := fun k hk => by
          obtain ⟨h1, h2⟩ := hyG k hk
          have h3 : wr.heap.size ≤ k := h1
          exact ⟨Nat.le_trans hszr h3, h2, fun e => by have := hRb k e; omega⟩
        have hall : ∀ z ∈ ys ++ [y], z.At w6 ∧ z.set.length ≤ 1000000 ∧ ∀ k, z.sv.ownBlock = some k → w.heap.size ≤ k ∧ k < w6.heap.size ∧ (Value.slice ro ys.length rc).ownBlock ≠ some k := fun z hz => by
          rcases List.mem_append.1 hz with hz | hz
          · obtain ⟨h1, h2, h3⟩ := hys z hz
            exact ⟨⟨h1.1, h1.2.only hE6 (fun k hk e => by have := h3 k hk; omega)⟩, h2, fun k hk => ⟨(h3 k hk).1, Nat.lt_of_lt_of_le (h3 k hk).2.1 hs6, (h3 k hk).2.2⟩⟩
          · rw [List.mem_singleton.1 hz]; exact ⟨hyA, by omega, hyG6⟩
        have hys9 : ∀ z ∈ ys ++ [y], z.At (w8.setCell ⟨q, 41, none⟩ (.slice ao8 (ys.length + 1) cap8)) ∧ z.set.length ≤ 1000000 ∧ ∀ k, z.sv.ownBlock = some k → w.heap.size ≤ k ∧ k < (w8.setCell ⟨q, 41, none⟩ (.slice ao8 (ys.length + 1) cap8)).heap.size ∧ (Value.slice ao8 (ys.length + 1) cap8).ownBlock ≠ some k := fun z hz => by
          obtain ⟨h1, h2, h3⟩ := hall z hz
          refine ⟨⟨h1.1, (h1.2.only hE8 (fun k hk e => (h3 k hk).2.2 e)).only ho9 (fun k hk e => by have := h3 k hk; omega)⟩, h2, fun k hk => ⟨(h3 k hk).1, by have := (h3 k hk).2.1; omega, fun e => hn8.elim (fun h => (h3 k hk).2.2 (h.symm.trans e)) (fun h => ?_)⟩⟩
          have h4 : (w6.alloc (.cells y.C.toArray 41)).heap.size = k := Option.some.inj (h.symm.trans e)
          have := (h3 k hk).2.1
          omega
        have hE9 : Only (fun i => i = p ∨ i = q) w (w8.setCell ⟨q, 41, none⟩ (.slice ao8 (ys.length + 1) cap8)) := ((hEr.trans hE6 (fun _ _ e => .inl e)).trans hE8 (fun i hi e => by have := hR6.own_ge i e; omega)).trans ho9 (fun _ _ e => .inr e)
        rw [show (ys.map RV.C) ++ [y.C] = (ys ++ [y]).map RV.C by simp] at hR9
        have hS9 : Stp d5 (pRep pRow (ys.length + 1)) d7 ((ys ++ [y]).map RV.d) := by rw [List.map_append]; exact hSr.snoc hS6
        have HF := Lib.hid (And.intro hR9 (And.intro hq9 (And.intro ht9 (And.intro hI9 (And.intro hS9 (And.intro hRa9 (And.intro hdj9 (And.intro hys9 hE9))))))))
        clear hR9 hq9 ht9 hI9 hS9 hRa9 hdj9 hys9 hE9 hRa8 hRa6 hall hyG6 ho9 hE8 ho8 hR8 hg8 hn8 hqr htr hRa hdj hys hEr hSr hyA hyG hI6 hS6 hE6 hA hR6 hRA hsrcA hbs
        go_wp2_with fail
        go_roundw
        case rel => exact ⟨ys.length + 1, ys ++ [y], _, d7, hlt, by go_num, by simp, HF.out⟩
        case measure => simp [intOf]; omega
    · have hke : k = N := by omega
      subst hke
      obtain ⟨hS3, hS5⟩ := HS.out
      have hSx : Stp d (pRest 7 f a) dk (mv7 f a xs (.slice vo xs.length vc) ys rvv).m := by
        unfold pRest
        rw [if_neg (by omega), if_neg (by omega), if_neg (by omega), if_neg (by omega), if_neg (by omega), if_pos rfl]
        refine hS3.next (f := fun at2 => pThen (pMany pRow) fun rs => pOf { MD.none 7 f a with ats := at2, rows := rs }) ?_
        refine Stp.next (f := fun rs => pOf { MD.none 7 f a with ats := xs, rows := rs }) (x := ys.map RV.d) ?_ (Stp.of _ _)
        exact hS5.next (f := fun n => pRep pRow n.toNat) (x := (k : Int)) (by rw [Int.toNat_natCast]; exact hSr)
      have hAx : MV.At wr (mv7 f a xs (.slice vo xs.length vc) ys rvv) := by
        obtain ⟨h1, h2, h3, h4, h5, h6, ⟨g, h8, h9, h10, h11, h12, h13⟩⟩ := hA0
        exact ⟨⟨z32_len, none, 0, rfl, Nat.le_refl _, by omega, fun _ => rfl, fun h => absurd rfl h⟩, hRa.rd, Rd.nil _ _, hR.rd, fun y hy => (hys y hy).1, rfl, ⟨g, hx64, h9, (show xs.length ≤ 1000 by omega), h11, (show (ys.map RV.d).length ≤ 1000 by rw [List.length_map]; omega), fun r hr => by
          obtain ⟨y, hy, rfl⟩ := List.mem_map.1 hr
          exact (hys y hy).2.1⟩⟩
      have hGx : MV.Ge (mv7 f a xs (.slice vo xs.length vc) ys rvv) w.heap.size := ⟨nil_Ge _, hRa.own_ge, nil_Ge _, hR.own_ge, fun y hy k hk => ((hys y hy).2.2 k hk).1⟩
      have HF := Lib.hid (And.intro hAx (And.intro hGx (And.intro hqr (And.intro htr (And.intro hIr (And.intro hSx hEr))))))
      have HD := Lib.hid hdl
      clear hAx hGx hqr htr hIr hSx hEr hR hRa hdl hSr hS3 hS5 hdj hys hA0 hG0
      go_wp2_with fail
      go_ret
      obtain ⟨h1, h2, h3, h4, h5, h6, h7⟩ := HF.out
      first | exact ⟨_, dk, rfl, h1, h2, h3, h4, h5, h6, h7⟩ | exact ⟨rfl, _, h1, h2, h3, h4, dk, h5, h6, h7⟩
end Go.Proofs.YtjhocaleampamaaDoor
