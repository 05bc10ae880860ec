/- casketlaw22.tame. -/
import Derived.Test.YtanghmpphlmpkaaMsgT1
import Derived.Test.YtanghmpphlmpkaaMsgB
import Derived.Test.YtanghmpphlmpkaaRegE
import Derived.Deep.RegionHeldLaw
import Derived.BigRegion
import Derived.Deep.DeepCutAuto
import Derived.Deep.CutBlock
namespace Go.Proofs.Ytanghmpphlmpkaa
open Go.RowKit
set_option linter.unusedVariables false
attribute [local go_sem ↓] alT_X ldT_X stT_X stT_F ldT_F
theorem wp_appsv {w : World} {ops : Array Oper} {rest : List Oper} {o : Oper} {a : Act} {Q : Exit → Act → World → Prop} (hgd : o.guard = none) (s x : Operand) (t : TypeId)
    (ho : o.op = .call { callee := .builtin .append, args := #[s, x], argTypes := #[t, t] })
    {base : Nat} {e : TypeId} {sz : Nat} {v v2 : Value} {rs ns : List (List Value)} (i : TypeInfo) (z : Value) (ht : Try.prog.underlying t = some (.slice e)) (hi : Try.prog.info? e = some i) (hz : i.zero = some z) (hsz : i.size = sz)
    (hby : i.bytes ≤ 1000) (hzs : z.cells.size = sz) (hpos : 0 < sz) (h : RW w base e sz v rs) (hs : Src w sz v2 ns)
    (hlen : rs.length + ns.length ≤ 100000000) (hb : base ≤ w.heap.size) (hes : a.eval s = v) (hx : a.eval x = v2)
    (hK : ∀ v' w', RW w' base e sz v' (rs ++ ns) → w.grownBy w' v.ownBlock → (v'.ownBlock = v.ownBlock ∨ v'.ownBlock = some w.heap.size) → wpList Try.prog ops Q rest (a.put o.dst v') w') :
    wpList Try.prog ops Q (o :: rest) a w := by
  refine wpList_plain hgd fun K hK' => ?_
  obtain ⟨v', w', hrun, k1, k2, k3⟩ := run_appsv i z ht hi hz hsz hby hzs hpos o.type h hs hlen hb
  unfold Oper.wp execOp
  simp only [ho, resolve, invoke, builtin, Sem.run_bind, Sem.run_pure, Result.andThen_ok, List.map_toArray, List.map_cons, List.map_nil, hes, hx, hrun]
  exact hK' _ _ (hK v' w' k1 k2 k3)
theorem Rd.srcI {w : World} {ao : Option Addr} {n cap : Nat} {l : List Int} (h : Rd w 1 (.slice ao n cap) (l.map intC)) {k : Nat} (hk : k ≤ l.length) (hne : k = 0 → (Value.slice ao k cap) = .slice none 0 0 ∨ ∃ ad, ao = some ad) : Src w 1 (.slice ao k cap) ((l.take k).map intC) := by
  have hl : ((l.take k).map intC).length = k := by rw [List.length_map, List.length_take]; omega
  refine ⟨by intro q hq; obtain ⟨y, _, rfl⟩ := List.mem_map.1 hq; rfl, intC_one _, ?_⟩
  obtain ⟨_, ao2, cap2, e, _, _, h5⟩ := h
  by_cases h0 : l = []
  · subst h0
    have hk0 : k = 0 := by simpa using hk
    subst hk0
    rcases hne rfl with e1 | ⟨ad, rfl⟩
    · exact .inl ⟨e1, rfl⟩
    · exact .inr ⟨ad, cap, rfl, by simp⟩
  · obtain ⟨g, o, rfl, hr⟩ := h5 (by simpa using h0)
    injection e with e1 e2 e3
    refine .inr ⟨⟨g, o, none⟩, cap, by rw [hl, e1], fun j u hu => ?_⟩
    have hf : ∀ xs : List Int, (xs.map intC).flatten = xs.map fun n => Value.int .i64 n := fun xs => by
      induction xs with
      | nil => rfl
      | cons x t ih => simp only [List.map_cons, List.flatten_cons, ih]; rfl
    rw [hf] at hu
    have hj : j < k := by have := (List.getElem?_eq_some_iff.1 hu).1; simp at this; omega
    have h1 := hr j (by rw [List.length_map]; omega) 0 u (by
      rw [List.getElem_map]
      rw [List.getElem?_map, List.getElem?_take, if_pos hj, List.getElem?_eq_getElem (by omega), Option.map_some] at hu
      exact hu)
    rw [Addr.add_mid]
    rw [Nat.mul_one, Nat.add_zero] at h1
    exact h1
theorem min_cut (n : Nat) (m : Nat) (hm : m ≤ 100000) : ∃ k : Nat, k ≤ n ∧ k ≤ m ∧ (if (m : Int) < (n : Int) then (m : Int) else (n : Int)) = (k : Int) ∧ (if m < n then (m : Int) else (n : Int)) = (k : Int) := by
  by_cases h : m < n
  · exact ⟨m, by omega, by omega, by rw [if_pos (by omega)], by rw [if_pos h]⟩
  · exact ⟨n, by omega, by omega, by rw [if_neg (by omega)], by rw [if_neg h]⟩
theorem strT (l : List UInt8) (k : Nat) : (⟨l.toArray⟩ : ByteArray).extract 0 k = ⟨(l.take k).toArray⟩ := by rw [strI_extract, List.drop_zero]
theorem take_byte {l : List UInt8} {k : Nat} (h : k ≤ l.length) : (l.take k).length = k := by rw [List.length_take]; omega
def MD.Small (m : MD) : Prop := m.row.set.length ≤ 200 ∧ m.ats.length ≤ 260 ∧ m.digs.length ≤ 260 ∧ m.rows.length ≤ 260 ∧ ∀ r ∈ m.rows, r.set.length ≤ 60
theorem MD.Small.len {m : MD} (h : m.Small) (hK : m.K32) : (bytesM m).length ≤ 100000 := by
  obtain ⟨b1, b2, b3, b4, b5⟩ := h
  have h1 := smallL_len m.kind
  have h2 := smallL_len m.frm
  have h3 := numL_len m.ask
  have h4 := smallL_len m.err
  have h5 := smallL_len m.hold
  have h6 := smallL_len m.level
  have hk : m.row.key.length = 32 := hK.1
  have hr : (rowB m.row).length ≤ 236 := by unfold rowB; rw [List.length_append, bytesL_len]; omega
  have ha : (manyB numL m.ats).length ≤ 2081 := by
    have h1 := flat_le numL m.ats 8 (fun x _ => numL_len x)
    have h2 := smallL_len m.ats.length
    unfold manyB; rw [List.length_append]; omega
  have hd : (manyB (fun v => v) m.digs).length ≤ 8321 := by
    have h1 := flat_le (fun v : List UInt8 => v) m.digs 32 (fun y hy => by rw [hK.2.1 y hy]; exact Nat.le_refl _)
    have h2 := smallL_len m.digs.length
    unfold manyB; rw [List.length_append]; omega
  have hR : (manyB rowB m.rows).length ≤ 24961 := by
    have h1 := flat_le rowB m.rows 96 (fun y hy => by
      have e1 := hK.2.2 y hy
      have e2 := b5 y hy
      unfold rowB; rw [List.length_append, bytesL_len]; omega)
    have h2 := smallL_len m.rows.length
    unfold manyB; rw [List.length_append]; omega
  unfold bytesM headB restB
  simp only [List.length_append]
  split
  · omega
  split
  · omega
  split
  · omega
  split
  · rw [List.length_append]; omega
  split
  · simp only [List.length_append]; omega
  split
  · rw [List.length_append]; omega
  · simp; omega
def T1 (w8 wx : World) (dvv : Value) : Prop := ∃ ds : List (List UInt8), ds.length ≤ 260 ∧ (∀ y ∈ ds, y.length = 32) ∧ RW wx w8.heap.size 9 1 dvv (ds.map strC) ∧ Below w8.heap.size w8 wx
def T2 (w9 wx : World) (dvv : Value) : Prop := ∃ rs : List RwD, rs.length ≤ 260 ∧ (∀ y ∈ rs, y.key.length = 32 ∧ y.set.length ≤ 60) ∧ RW wx w9.heap.size 23 2 dvv (rs.map rrC) ∧ Below w9.heap.size w9 wx
set_option maxRecDepth 100000 in
set_option maxHeartbeats 4000000 in
theorem tame_any (x : FV) (w : World) (hx : x.At w) (hln : x.m.row.set.length ≤ 9223372036854775807 ∧ ∀ r ∈ x.m.rows, r.set.length ≤ 9223372036854775807) (hnil : ∀ n c, x.av = .slice none n c → c = 0) :
    Calls Try.prog 6 #[.agg x.C.toArray] w fun e w' => ∃ y : FV, e = .returned (.agg y.C.toArray) ∧ y.At w' ∧ y.m.Big ∧ y.m.Small ∧ y.m.K32 ∧ (∀ n c, y.av = .slice none n c → c = 0) ∧ y.Ge w.heap.size ∧ Below w.heap.size w w' := by
  obtain ⟨⟨k, f, a, er, hd, lv, ⟨key, set⟩, ats, digs, rows⟩, av, dv, rv⟩ := x
  obtain ⟨xa, xd, xr, hats64, hm64⟩ := hx
  dsimp only at xa xd xr hats64 hm64 hln
  have HNIL := Lib.hid hnil
  clear hnil
  obtain ⟨ao, ac, rfl, xaa⟩ := xa.rec
  obtain ⟨do_, dc, rfl, xdd⟩ := xd.rec
  obtain ⟨ro, rc, rfl, xrr⟩ := xr.rec
  have hal : (ats.length : Int) ≤ 9223372036854775807 := by obtain ⟨_, ao, cap, e, l1, l2, _⟩ := xa; rw [List.length_map] at l1; omega
  have hac : ats.length ≤ ac ∧ ac ≤ 9223372036854775807 := by obtain ⟨_, ao2, cap, e, l1, l2, _⟩ := xa; injection e with e1 e2 e3; subst e3; rw [List.length_map] at l1; exact ⟨l1, l2⟩
  have hdl : (digs.length : Int) ≤ 9223372036854775807 := by obtain ⟨_, ao, cap, e, l1, l2, _⟩ := xd; rw [List.length_map] at l1; omega
  have hrl : (rows.length : Int) ≤ 9223372036854775807 := by obtain ⟨_, ao, cap, e, l1, l2, _⟩ := xr; rw [List.length_map] at l1; omega
  obtain ⟨ns, hns1, hns2, ens0, ens0'⟩ := min_cut set.length 200 (by omega)
  obtain ⟨na, hna1, hna2, ena0, ena0'⟩ := min_cut ats.length 260 (by omega)
  have ens : (if (200 : Int) < (set.length : Int) then 200 else (set.length : Int)) = (ns : Int) := ens0
  have ena : (if (260 : Int) < (ats.length : Int) then 260 else (ats.length : Int)) = (na : Int) := ena0
  have ena' : (if 260 < ats.length then (260 : Int) else (ats.length : Int)) = (na : Int) := ena0'
  clear ens0 ens0' ena0 ena0'
  rw [show FV.C ⟨⟨k, f, a, er, hd, lv, ⟨key, set⟩, ats, digs, rows⟩, .slice ao ats.length ac, .slice do_ digs.length dc, .slice ro rows.length rc⟩ = [.int .i64 k, .int .i64 f, .int .i64 a, .int .i64 er, .int .i64 hd, .int .i64 lv, .string ⟨key.toArray⟩, .string ⟨set.toArray⟩, .slice ao ats.length ac, .slice do_ digs.length dc, .slice ro rows.length rc] from rfl]
  have bx := rangeAt_alloc_new w [.int .i64 k, .int .i64 f, .int .i64 a, .int .i64 er, .int .i64 hd, .int .i64 lv, .string ⟨key.toArray⟩, .string ⟨set.toArray⟩, .slice ao ats.length ac, .slice do_ digs.length dc, .slice ro rows.length rc] 28
  have tx := there_new w [.int .i64 k, .int .i64 f, .int .i64 a, .int .i64 er, .int .i64 hd, .int .i64 lv, .string ⟨key.toArray⟩, .string ⟨set.toArray⟩, .slice ao ats.length ac, .slice do_ digs.length dc, .slice ro rows.length rc] 28
  have hA1 : Below w.heap.size w (w.alloc (.cells [Value.int .i64 k, .int .i64 f, .int .i64 a, .int .i64 er, .int .i64 hd, .int .i64 lv, .string ⟨key.toArray⟩, .string ⟨set.toArray⟩, .slice ao ats.length ac, .slice do_ digs.length dc, .slice ro rows.length rc].toArray 28)) := (Below.refl _ _).alloc (Nat.le_refl _) _
  have hs1 : (w.alloc (.cells [Value.int .i64 k, .int .i64 f, .int .i64 a, .int .i64 er, .int .i64 hd, .int .i64 lv, .string ⟨key.toArray⟩, .string ⟨set.toArray⟩, .slice ao ats.length ac, .slice do_ digs.length dc, .slice ro rows.length rc].toArray 28)).heap.size = w.heap.size + 1 := by simp
  change World.there _ w.heap.size 0 11 at tx
  generalize hcx : [Value.int .i64 k, .int .i64 f, .int .i64 a, .int .i64 er, .int .i64 hd, .int .i64 lv, .string ⟨key.toArray⟩, .string ⟨set.toArray⟩, .slice ao ats.length ac, .slice do_ digs.length dc, .slice ro rows.length rc] = cx at *
  have HCX := Lib.hid hcx
  clear hcx
  have hal0 := fun w => run_alT bigX w
  have hzl : (fv0 0 0 0).C.length = 11 := rfl
  generalize hcz : (fv0 0 0 0).C = cz at *
  have HCZ := Lib.hid hcz
  clear hcz
  go_enter Try.func6, Try.ntmps6
  go_wp2_with fail
  generalize hw1 : w.alloc (.cells cx.toArray 28) = w1 at *
  have hA2 : Below w1.heap.size w1 (w1.alloc (.cells cz.toArray 28)) := (Below.refl _ _).alloc (Nat.le_refl _) _
  have hs2 : (w1.alloc (.cells cz.toArray 28)).heap.size = w.heap.size + 2 := by simp; omega
  have bx2 := rangeAt_keep bx hA2
  have tx2 := there_only tx (Only.of_below (S := fun _ => False) hA2) (fun h => h)
  have ty2 := there_new w1 cz 28
  rw [hzl, hs1] at ty2
  have hB2 := hA1.trans (hA2.mono hA1.size)
  clear bx tx hA1 hA2 hw1 hal0
  generalize w1.alloc (.cells cz.toArray 28) = w2 at *
  rw [← HCX.out] at bx2
  have c6 : w2.drew.cell? ⟨w.heap.size, 6, none⟩ = some (.string ⟨key.toArray⟩) := by simpa using bx2 6 _ rfl
  have c7 : w2.drew.cell? ⟨w.heap.size, 7, none⟩ = some (.string ⟨set.toArray⟩) := by simpa using bx2 7 _ rfl
  have hex := strT set ns
  have hnsb : (ns : Int) ≤ set.length := by omega
  have hszs : (⟨set.toArray⟩ : ByteArray).size = set.length := by simp [ByteArray.size]
  refine wp_region_E 15 (fun w' => w'.cell? ⟨w.heap.size, 6, none⟩ = some (.string ⟨key.toArray⟩) ∧ w'.cell? ⟨w.heap.size, 7, none⟩ = some (.string ⟨set.toArray⟩)) (by kernel_rfl) ?_
  have hS0 := And.intro c6 c7
  refine wpAnyE_take (i := 0) (v := ?v_a0) rfl (by kernel_rfl) (by kernel_rfl) (by kernel_rfl) (by kernel_rfl) (by kernel_rfl) (fun _ _ _ h => h) (Or.inl ⟨by kernel_rfl, ?y_a0⟩) (by assumption) ?r_a0
  case y_a0 => intro wE hSw; obtain ⟨q6, q7⟩ := hSw; go_simp; try with_reducible rfl
  case' r_a0 => ((try simp only [Act.put]); (try simp only [List.setIfInBounds_toArray]); (try simp only [List.set_cons_zero, List.set_cons_succ]))
  refine wpAnyE_take (i := 1) (v := ?v_a1) rfl (by kernel_rfl) (by kernel_rfl) (by kernel_rfl) (by kernel_rfl) (by kernel_rfl) (fun _ _ _ h => h) (Or.inl ⟨by kernel_rfl, ?y_a1⟩) (by assumption) ?r_a1
  case y_a1 => intro wE hSw; obtain ⟨q6, q7⟩ := hSw; go_simp; try with_reducible rfl
  case' r_a1 => ((try simp only [Act.put]); (try simp only [List.setIfInBounds_toArray]); (try simp only [List.set_cons_zero, List.set_cons_succ]))
  refine wpAnyE_take (i := 2) (v := ?v_a2) rfl (by kernel_rfl) (by kernel_rfl) (by kernel_rfl) (by kernel_rfl) (by kernel_rfl) (fun _ _ _ h => h) (Or.inl ⟨by kernel_rfl, ?y_a2⟩) (by assumption) ?r_a2
  case y_a2 => intro wE hSw; obtain ⟨q6, q7⟩ := hSw; go_simp; try with_reducible rfl
  case' r_a2 => ((try simp only [Act.put]); (try simp only [List.setIfInBounds_toArray]); (try simp only [List.set_cons_zero, List.set_cons_succ]))
  refine wpAnyE_take (i := 4) (v := ?v_a4) rfl (by kernel_rfl) (by kernel_rfl) (by kernel_rfl) (by kernel_rfl) (by kernel_rfl) (fun _ _ _ h => h) (Or.inl ⟨by kernel_rfl, ?y_a4⟩) (by assumption) ?r_a4
  case y_a4 => intro wE hSw; obtain ⟨q6, q7⟩ := hSw; go_simp; try with_reducible rfl
  case' r_a4 => ((try simp only [Act.put]); (try simp only [List.setIfInBounds_toArray]); (try simp only [List.set_cons_zero, List.set_cons_succ]))
  refine wpAnyE_take (i := 5) (v := ?v_a5) rfl (by kernel_rfl) (by kernel_rfl) (by kernel_rfl) (by kernel_rfl) (by kernel_rfl) (fun _ _ _ h => h) (Or.inl ⟨by kernel_rfl, ?y_a5⟩) (by assumption) ?r_a5
  case y_a5 => intro wE hSw; obtain ⟨q6, q7⟩ := hSw; go_simp; try with_reducible rfl
  case' r_a5 => ((try simp only [Act.put]); (try simp only [List.setIfInBounds_toArray]); (try simp only [List.set_cons_zero, List.set_cons_succ]))
  refine wpAnyE_take (i := 6) (v := ?v_a6) rfl (by kernel_rfl) (by kernel_rfl) (by kernel_rfl) (by kernel_rfl) (by kernel_rfl) (fun _ _ _ h => h) (Or.inl ⟨by kernel_rfl, ?y_a6⟩) (by assumption) ?r_a6
  case y_a6 => intro wE hSw; obtain ⟨q6, q7⟩ := hSw; go_simp; try with_reducible rfl
  case' r_a6 => ((try simp only [Act.put]); (try simp only [List.setIfInBounds_toArray]); (try simp only [List.set_cons_zero, List.set_cons_succ]))
  refine wpAnyE_take (i := 7) (v := ?v_a7) rfl (by kernel_rfl) (by kernel_rfl) (by kernel_rfl) (by kernel_rfl) (by kernel_rfl) (fun _ _ _ h => h) (Or.inl ⟨by kernel_rfl, ?y_a7⟩) (by assumption) ?r_a7
  case y_a7 => intro wE hSw; obtain ⟨q6, q7⟩ := hSw; go_simp; try with_reducible rfl
  case' r_a7 => ((try simp only [Act.put]); (try simp only [List.setIfInBounds_toArray]); (try simp only [List.set_cons_zero, List.set_cons_succ]))
  refine wpAnyE_take (i := 8) (v := ?v_a8) rfl (by kernel_rfl) (by kernel_rfl) (by kernel_rfl) (by kernel_rfl) (by kernel_rfl) (fun _ _ _ h => h) (Or.inl ⟨by kernel_rfl, ?y_a8⟩) (by assumption) ?r_a8
  case y_a8 => intro wE hSw; obtain ⟨q6, q7⟩ := hSw; go_simp; try with_reducible rfl
  case' r_a8 => ((try simp only [Act.put]); (try simp only [List.setIfInBounds_toArray]); (try simp only [List.set_cons_zero, List.set_cons_succ]))
  refine wpAnyE_take (i := 9) (v := ?v_a9) rfl (by kernel_rfl) (by kernel_rfl) (by kernel_rfl) (by kernel_rfl) (by kernel_rfl) (fun _ _ _ h => h) (Or.inl ⟨by kernel_rfl, ?y_a9⟩) (by assumption) ?r_a9
  case y_a9 => intro wE hSw; obtain ⟨q6, q7⟩ := hSw; go_simp; try with_reducible rfl
  case' r_a9 => ((try simp only [Act.put]); (try simp only [List.setIfInBounds_toArray]); (try simp only [List.set_cons_zero, List.set_cons_succ]))
  refine wpAnyE_take (i := 10) (v := ?v_a10) rfl (by kernel_rfl) (by kernel_rfl) (by kernel_rfl) (by kernel_rfl) (by kernel_rfl) (fun _ _ _ h => h) (Or.inl ⟨by kernel_rfl, ?y_a10⟩) (by assumption) ?r_a10
  case y_a10 => intro wE hSw; obtain ⟨q6, q7⟩ := hSw; go_simp; try with_reducible rfl
  case' r_a10 => ((try simp only [Act.put]); (try simp only [List.setIfInBounds_toArray]); (try simp only [List.set_cons_zero, List.set_cons_succ]))
  refine wpAnyE_take (i := 11) (v := ?v_a11) rfl (by kernel_rfl) (by kernel_rfl) (by kernel_rfl) (by kernel_rfl) (by kernel_rfl) (fun _ _ _ h => h) (Or.inl ⟨by kernel_rfl, ?y_a11⟩) (by assumption) ?r_a11
  case y_a11 => intro wE hSw; obtain ⟨q6, q7⟩ := hSw; go_simp; try with_reducible rfl
  case' r_a11 => ((try simp only [Act.put]); (try simp only [List.setIfInBounds_toArray]); (try simp only [List.set_cons_zero, List.set_cons_succ]))
  refine wpAnyE_take (i := 12) (v := .string ⟨(set.take ns).toArray⟩) rfl (by kernel_rfl) (by kernel_rfl) (by kernel_rfl) (by kernel_rfl) (by kernel_rfl) (fun _ _ _ h => h) (Or.inl ⟨by kernel_rfl, ?y_a12⟩) (by assumption) ?r_a12
  case y_a12 => intro wE hSw; obtain ⟨q6, q7⟩ := hSw; go_simp; try with_reducible rfl
  case' r_a12 => ((try simp only [Act.put]); (try simp only [List.setIfInBounds_toArray]); (try simp only [List.set_cons_zero, List.set_cons_succ]))
  refine wpAnyE_ready (rs := [3]) (by kernel_rfl) (by simp) ?_
  refine AllReadyE.cons rfl (fun KA hKA => ?_) AllReadyE.nil
  rw [if_pos (by kernel_rfl)]
  go_simp
  go_at_call 15
  refine (wide_any key _).mono ?_
  rintro e w4 ⟨rfl, hB4⟩
  have hl2 : w.heap.size < w2.drew.heap.size := (show w.heap.size < w2.heap.size by omega)
  have hS4 := And.intro ((hB4.cell (p := ⟨w.heap.size, 6, none⟩) hl2).trans c6) ((hB4.cell (p := ⟨w.heap.size, 7, none⟩) hl2).trans c7)
  try go_simp
  refine hKA _ _ (fun _ => hS4) ?_
  clear hKA KA hS0
  refine wpAnyE_take (i := 13) (v := ?v_b13) rfl (by kernel_rfl) (by kernel_rfl) (by kernel_rfl) (by kernel_rfl) (by kernel_rfl) (fun _ _ _ h => h) (Or.inl ⟨by kernel_rfl, ?y_b13⟩) (by assumption) ?r_b13
  case y_b13 => intro wE hSw; obtain ⟨q6, q7⟩ := hSw; go_simp; try with_reducible rfl
  case' r_b13 => ((try simp only [Act.put]); (try simp only [List.setIfInBounds_toArray]); (try simp only [List.set_cons_zero, List.set_cons_succ]))
  refine wpAnyE_take (i := 14) (v := ?v_b14) rfl (by kernel_rfl) (by kernel_rfl) (by kernel_rfl) (by kernel_rfl) (by kernel_rfl) (fun _ _ _ h => h) (Or.inl ⟨by kernel_rfl, ?y_b14⟩) (by assumption) ?r_b14
  case y_b14 => intro wE hSw; obtain ⟨q6, q7⟩ := hSw; go_simp; try with_reducible rfl
  case' r_b14 => ((try simp only [Act.put]); (try simp only [List.setIfInBounds_toArray]); (try simp only [List.set_cons_zero, List.set_cons_succ]))
  clear hS4 c6 c7
  have hB4' : Below w2.heap.size w2 w4 := Below.of_drew hB4
  have bx4 := rangeAt_keep bx2 hB4'
  have tx4 := there_only tx2 (Only.of_below (S := fun _ => False) hB4') (fun h => h)
  have ty4 := there_only ty2 (Only.of_below (S := fun _ => False) hB4') (fun h => h)
  have hB4w := hB2.trans (hB4'.mono hB2.size)
  have hs4 := hB4'.size
  clear hB4 hB4' hB2 bx2 tx2 ty2
  have hst := run_stT bigF w4 w.heap.size 6 [.string ⟨(padK key).toArray⟩, .string ⟨(set.take ns).toArray⟩] (there_part tx4 (by show 6 + 2 ≤ 11; omega)) rfl (by intro u hu; simp at hu; rcases hu with rfl | rfl <;> rfl)
  have bx5 := rangeAt_part (xs := [.int .i64 k, .int .i64 f, .int .i64 a, .int .i64 er, .int .i64 hd, .int .i64 lv]) (bs := [.string ⟨key.toArray⟩, .string ⟨set.toArray⟩]) (cs := [.slice ao ats.length ac, .slice do_ digs.length dc, .slice ro rows.length rc]) (ds := [.string ⟨(padK key).toArray⟩, .string ⟨(set.take ns).toArray⟩]) bx4 rfl
  have ho5 := Only.setCells1 (b := w.heap.size) [.string ⟨(padK key).toArray⟩, .string ⟨(set.take ns).toArray⟩] 6 w4
  have tx5 := World.there_setCells tx4 w.heap.size 6 [.string ⟨(padK key).toArray⟩, .string ⟨(set.take ns).toArray⟩]
  refine wpAnyE_ready (rs := [15]) (by kernel_rfl) (by simp) ?_
  refine AllReadyE.cons rfl (fun KB hKB => ?_) AllReadyE.nil
  rw [if_pos (by kernel_rfl)]
  go_simp
  refine hKB _ _ (fun h => Bool.noConfusion (show true = false from h)) ?_
  clear hKB KB
  refine wpAnyE_done (by kernel_rfl) ?_ _
  have hB5 := Go.Proofs.Ytanghmpphlmpkaa.Below.setCells (Nat.le_refl w.heap.size) [Value.string ⟨(padK key).toArray⟩, .string ⟨(set.take ns).toArray⟩] 6 hB4w
  have ty5 := there_only ty4 ho5 (by omega)
  have hs5 := ho5.size
  clear hst tx4 ty4 bx4 hB4w ho5 ens hnsb hszs hex
  generalize hkk : padK key = key2 at *
  have hk32 : key2.length = 32 := by rw [← hkk]; exact padK_len _
  have hset2 : (set.take ns).length ≤ 200 := by rw [List.length_take]; omega
  generalize set.take ns = set2 at *
  clear hkk hns1 hns2
  simp only [List.cons_append, List.nil_append] at bx5
  generalize w4.setCells w.heap.size 6 [Value.string ⟨key2.toArray⟩, .string ⟨set2.toArray⟩] = w5 at *
  have c8 : w5.cell? ⟨w.heap.size, 8, none⟩ = some (.slice ao ats.length ac) := by simpa using bx5 8 _ rfl
  have f8 := there_cell tx5 8 (by omega)
  obtain ⟨it, zz, hti, htz, hzc, hsz1, hby⟩ := Try.int_parts
  have hA6 : Below w5.heap.size w5 (w5.alloc (.cells #[] 3)) := (Below.refl _ _).alloc (Nat.le_refl _) _
  have hR6 : RW (w5.alloc (.cells #[] 3)) w5.heap.size 3 1 (.slice (some ⟨w5.heap.size, 0, none⟩) 0 0) [] := ⟨World.ownsRow_made w5 #[] 0 (Nat.le_refl _) (by decide) (by simp), by intro q hq; cases hq⟩
  have hSrc := ((xa.keep hB5).keep hA6).srcI hna1 (fun h0 => by
    cases ao with
    | some ad => exact .inr ⟨ad, rfl⟩
    | none => exact .inl (by rw [HNIL.out _ _ rfl, h0]))
  have hnaL : (ats.take na).length = na := by rw [List.length_take]; omega
  have hlm : ([] : List (List Value)).length + ((ats.take na).map intC).length ≤ 100000000 := by rw [List.length_map, hnaL]; simp; omega
  have hge6 := hA6.size
  have hnab : (na : Int) ≤ ac := by omega
  have hna0 : (0 : Int) ≤ na := Int.natCast_nonneg _
  have c8A := (hA6.cell (p := ⟨w.heap.size, 8, none⟩) (show w.heap.size < w5.heap.size by omega)).trans c8
  have HB5 := Lib.hid (And.intro bx5 (And.intro tx5 (And.intro ty5 hB5)))
  clear bx5 tx5 ty5 hB5 c8
  go_wp2_with (at_builtin; refine wp_appsv rfl _ _ 24 rfl it zz Try.underlying24 hti htz hsz1 hby hzc (by omega) hR6 hSrc hlm hge6 (by rfl) (by rfl) ?_)
  intro v7 w7 hR7 hg7 hn7
  rw [← List.map_take] at hR7
  obtain ⟨bx5, tx5, ty5, hB5⟩ := HB5.out
  have ho7 : Only (fun k => k = w5.heap.size) w5 w7 := (Only.of_below (S := fun k => k = w5.heap.size) hA6).trans (Only.of_grown (S := fun k => k = w5.heap.size) hg7 (fun q hq => (Option.some.inj hq).symm)) (fun _ _ h => h)
  have hlt5 : w.heap.size < w5.heap.size := by omega
  have hbx7 := rangeAt_only bx5 ho7 (by omega)
  have tx7 := there_only tx5 ho7 (by omega)
  have ty7 := there_only ty5 ho7 (by omega)
  have hs7 := ho7.size
  have hB7 : Below w.heap.size w w7 := hB5.trans (ho7.to_below (by omega) (fun k hk => by omega))
  obtain ⟨ao7, cap7, hv7, hz1, hz2, hz3⟩ := hR7.val
  clear hz1 hz2 hz3
  rw [List.length_map] at hv7
  have hats2 : ∀ n ∈ ats.take na, i64 n := fun n hn => hats64 n (List.mem_of_mem_take hn)
  have hatl : (ats.take na).length ≤ 260 := by rw [hnaL]; exact hna2
  generalize ats.take na = ats2 at *
  subst hv7
  have c8 : w7.cell? ⟨w.heap.size, 8, none⟩ = some (.slice ao ats.length ac) := by simpa using hbx7 8 _ rfl
  have f8 := there_cell tx7 8 (by omega)
  have bx8 := rangeAt_set hbx7 8 (.slice ao7 ats2.length cap7)
  simp only [List.set_cons_succ, List.set_cons_zero] at bx8
  have tx8 := there_set tx7 8 (.slice ao7 ats2.length cap7)
  have ho8 := Only.set1 w7 w.heap.size 8 (.slice ao7 ats2.length cap7)
  have ty8 := there_only ty7 ho8 (by omega)
  have hR8 := hR7.only ho8 (fun k hk e => by have := hR7.own_ge k hk; omega)
  have hB8 : Below w.heap.size w (w7.setCell ⟨w.heap.size, 8, none⟩ (.slice ao7 ats2.length cap7)) := hB7.trans (ho8.to_below (by omega) (fun k hk => by omega))
  have hs8 := ho8.size
  have HW := Lib.hid (And.intro bx8 (And.intro tx8 (And.intro ty8 (And.intro hR8 (And.intro hB8 (And.intro hats2 hatl))))))
  clear bx5 tx5 ty5 hB5 ho7 hbx7 tx7 ty7 hB7 bx8 tx8 ty8 hR8 hB8 hats2 hR7 hg7 hn7 hR6 hSrc hA6 c8A HB5 ena ena' hlm hge6 hnaL hnab hna0 hna1 hna2 hac hal xaa xa ho8
  go_upto_block 0 with (fail)
  generalize w7.setCell ⟨w.heap.size, 8, none⟩ (.slice ao7 ats2.length cap7) = w8 at *
  clear c8 f8 hti htz hzc hsz1 hby
  obtain ⟨it, zz, hti, htz, hzc, hsz1, hby⟩ := Try.str_parts
  have hlt8 : w.heap.size < w8.heap.size := by omega
  have hbx0 := HW.out.1
  have c9 : w8.cell? ⟨w.heap.size, 9, none⟩ = some (.slice do_ digs.length dc) := by simpa using hbx0 9 _ rfl
  clear hbx0
  go_cut [3, 4] (fun dvv _ wx => T1 w8 wx dvv)
  case first =>
    go_wp2_with fail
    go_loopw [3, 4] (fun dvv j wr => ∃ (i : Nat) (ds : List (List UInt8)), i ≤ digs.length ∧ i ≤ 260 ∧ j = .int .i64 i ∧ ds.length = i ∧ (∀ y ∈ ds, y.length = 32) ∧ RW wr w8.heap.size 9 1 dvv (ds.map strC) ∧ Below w8.heap.size w8 wr) (fun _ j _ => 260 - (intOf j).toNat)
    case atStart => exact ⟨0, [], Nat.zero_le _, by omega, rfl, rfl, by simp, RW.nil _ _ _ _, Below.refl _ _⟩
    case round =>
      obtain ⟨i, ds, hi1, hi2, rfl, hdsl, hds32, hR, hBr⟩ := hrel
      have c9r := (hBr.cell (p := ⟨w.heap.size, 9, none⟩) hlt8).trans c9
      have hi0 : (0 : Int) ≤ i := Int.natCast_nonneg _
      by_cases hlt : i < digs.length ∧ i < 260
      · obtain ⟨hlt1, hlt3⟩ := hlt
        have hlt2 : (i : Int) < digs.length := by omega
        have hlt4 : (i : Int) < 260 := by omega
        have hlt5' : i < 260 := hlt3
        obtain ⟨ga, oa, rfl, hcl⟩ := xdd (fun e => by rw [e] at hlt1; simp at hlt1)
        have hBw : Below w.heap.size w wr := HW.out.2.2.2.2.1.trans (hBr.mono HW.out.2.2.2.2.1.size)
        have hcell := rangeAt_keep (hcl i hlt1) hBw 0 (.string ⟨digs[i].toArray⟩) rfl
        rw [Nat.mul_one, Nat.add_zero] at hcell
        generalize hdg : digs[i] = dg at *
        subst hdsl
        obtain ⟨ro3, rc3, hvv, hz1, hz2, hz3⟩ := hR.val
        clear hz1 hz2 hz3
        rw [List.length_map] at hvv
        subst hvv
        have hwd := fun w => wide_any dg w
        have hdl32 := padK_len dg
        generalize padK dg = dg2 at *
        have HQ := Lib.hid (And.intro hds32 (And.intro hBr (And.intro hR hdl32)))
        clear hds32 hBr hR hcl hdg hBw hdl32
        go_wp2_with fail
        refine (hwd _).mono ?_
        rintro e w9 ⟨rfl, hB9⟩
        obtain ⟨hds32, hBr, hR, hdl32⟩ := HQ.out
        have hA : Below w9.heap.size w9 (w9.alloc (.cells #[.string ⟨dg2.toArray⟩] 9)) := (Below.refl _ _).alloc (Nat.le_refl _) _
        have hRA := (hR.keep hB9).keep hA
        have hsA : RW (w9.alloc (.cells #[.string ⟨dg2.toArray⟩] 9)) 0 9 1 (.slice (some ⟨w9.heap.size, 0, none⟩) 1 1) [[.string ⟨dg2.toArray⟩]] := ⟨World.ownsRow_lit _ _ 1 (Nat.zero_le _) (by unfold maxLen; omega) rfl, by intro q hq; rw [List.mem_singleton.1 hq]; rfl⟩
        have hlm : (ds.map strC).length + 1 ≤ 100000000 := by rw [List.length_map]; omega
        have hge2 : w8.heap.size ≤ (w9.alloc (.cells #[.string ⟨dg2.toArray⟩] 9)).heap.size := Nat.le_trans (Nat.le_trans hBr.size hB9.size) hA.size
        have hB9' := hBr.trans (hB9.mono hBr.size)
        have HB9 := Lib.hid (hB9'.trans (hA.mono hB9'.size))
        clear hR hB9 hA hBr hwd hB9' hds32
        go_wp2_with (at_builtin; refine wp_apprs rfl _ _ 25 rfl it zz Try.underlying25 hti htz hsz1 hby hzc (by omega) hRA hsA rfl (by intro u hu; simp at hu; subst hu; rfl) hlm hge2 (by rfl) (by rfl) ?_)
        intro v10 w10 hR10 hg10 hn10 hnil10
        have hB10 : Below w8.heap.size w8 w10 := HB9.out.grown hg10 HB9.out.size (fun q hq => hRA.own_ge q hq)
        have HF := Lib.hid (And.intro hR10 (And.intro hB10 hdl32))
        clear hR10 hB10 hg10 hn10 hnil10 hRA hsA hdl32
        go_wp2_with fail
        go_roundw
        case rel =>
          obtain ⟨hR10, hB10, hdl32⟩ := HF.out
          refine ⟨ds.length + 1, ds ++ [dg2], by omega, by omega, by go_num, by simp, fun y hy => ?_, ?_, hB10⟩
          · rcases List.mem_append.1 hy with hy | hy
            · exact HQ.out.1 y hy
            · rw [List.mem_singleton.1 hy]; exact hdl32
          · rw [List.map_append]; exact hR10
        case measure => simp [intOf]; omega
      · subst hdsl
        obtain ⟨ro3, rc3, hvv, hz1, hz2, hz3⟩ := hR.val
        clear hz1 hz2 hz3
        rw [List.length_map] at hvv
        subst hvv
        have HQ := Lib.hid (show T1 w8 wr _ from ⟨ds, hi2, hds32, hR, hBr⟩)
        clear hds32 hR hBr
        have hor : (¬ (ds.length : Int) < digs.length) ∨ ((ds.length : Int) < digs.length ∧ ¬ (ds.length : Int) < 260) := by omega
        rcases hor with hq | ⟨hq, hq2⟩
        · go_wp2_with fail
          go_meet
          exact HQ.out
        · go_wp2_with fail
          go_meet
          exact HQ.out
  case rest =>
    obtain ⟨ds, hdl260, hds32, hR, hBr⟩ := hcut
    obtain ⟨ro3, rc3, hvv, hz1, hz2, hz3⟩ := hR.val
    clear hz1 hz2 hz3
    rw [List.length_map] at hvv
    subst hvv
    have htr := there_only HW.out.2.1 (Only.of_below (S := fun _ => False) hBr) (fun h => h)
    have f9 := there_cell htr 9 (by omega)
    have c9r := (hBr.cell (p := ⟨w.heap.size, 9, none⟩) hlt8).trans c9
    have HQ := Lib.hid (And.intro hds32 (And.intro hBr (And.intro hR (And.intro htr hdl260))))
    clear hds32 hBr hR htr c9 hdl260
    obtain ⟨hds32, hBr, hR, htr, hdl260⟩ := HQ.out
    obtain ⟨bx8, tx8, ty8, hR8, hB8, hats2, hatl⟩ := HW.out
    have hbxr := rangeAt_keep bx8 hBr
    have tyr := there_only ty8 (Only.of_below (S := fun _ => False) hBr) (fun h => h)
    have hRar := hR8.keep hBr
    have hBwr := hB8.trans (hBr.mono hB8.size)
    have bx9 := rangeAt_set hbxr 9 (.slice ro3 ds.length rc3)
    simp only [List.set_cons_succ, List.set_cons_zero] at bx9
    have ho9 := Only.set1 wc w.heap.size 9 (.slice ro3 ds.length rc3)
    have tx9 := there_set htr 9 (.slice ro3 ds.length rc3)
    have hszr := hBr.size
    have ty9 := there_only tyr ho9 (by omega)
    have hRa9 := hRar.only ho9 (fun k hk e => by have := hRar.own_ge k hk; omega)
    have hRd9 := hR.only ho9 (fun k hk e => by have := hR.own_ge k hk; omega)
    have hB9 : Below w.heap.size w (wc.setCell ⟨w.heap.size, 9, none⟩ (.slice ro3 ds.length rc3)) := hBwr.trans (ho9.to_below (by omega) (fun k hk => by omega))
    have hs9 := ho9.size
    have HW9 := Lib.hid (And.intro bx9 (And.intro tx9 (And.intro ty9 (And.intro hRa9 (And.intro hRd9 (And.intro hB9 (And.intro hds32 hdl260)))))))
    have HATS := Lib.hid (And.intro hats2 hatl)
    clear bx8 tx8 ty8 hR8 hB8 hats2 hatl hbxr tyr hRar hBwr bx9 tx9 ty9 hRa9 hRd9 hB9 hds32 hBr hR htr ho9 hdl260 HQ HW
    go_upto_block 2 with (fail)
    generalize wc.setCell ⟨w.heap.size, 9, none⟩ (.slice ro3 ds.length rc3) = w9 at *
    clear c9r f9
    clear hti htz hzc hsz1 hby
    obtain ⟨it, zz, hti, htz, hzc, hsz1, hby⟩ := Try.row_parts
    have hlt9 : w.heap.size < w9.heap.size := by omega
    have hbx0 := HW9.out.1
    have c10 : w9.cell? ⟨w.heap.size, 10, none⟩ = some (.slice ro rows.length rc) := by simpa using hbx0 10 _ rfl
    clear hbx0
    go_cut [5, 6] (fun dvv _ wx => T2 w9 wx dvv)
    case first =>
      go_wp2_with fail
      go_loopw [5, 6] (fun dvv j wz => ∃ (i : Nat) (rs : List RwD), i ≤ rows.length ∧ i ≤ 260 ∧ j = .int .i64 i ∧ rs.length = i ∧ (∀ y ∈ rs, y.key.length = 32 ∧ y.set.length ≤ 60) ∧ RW wz w9.heap.size 23 2 dvv (rs.map rrC) ∧ Below w9.heap.size w9 wz) (fun _ j _ => 260 - (intOf j).toNat)
      case atStart => exact ⟨0, [], Nat.zero_le _, by omega, rfl, rfl, by simp, RW.nil _ _ _ _, Below.refl _ _⟩
      case round =>
        obtain ⟨i2, rs, hi1, hi2, rfl, hrsl, hrsK, hR, hBr⟩ := hrel
        have c10r := (hBr.cell (p := ⟨w.heap.size, 10, none⟩) hlt9).trans c10
        have hi0 : (0 : Int) ≤ i2 := Int.natCast_nonneg _
        by_cases hlt : i2 < rows.length ∧ i2 < 260
        · obtain ⟨hlt1, hlt3⟩ := hlt
          have hlt2 : (i2 : Int) < rows.length := by omega
          have hlt4 : (i2 : Int) < 260 := by omega
          obtain ⟨ga, oa, rfl, hcl⟩ := xrr (fun e => by rw [e] at hlt1; simp at hlt1)
          have hBw : Below w.heap.size w wr := HW9.out.2.2.2.2.2.1.trans (hBr.mono HW9.out.2.2.2.2.2.1.size)
          have hcell := rangeAt_keep (hcl i2 hlt1) hBw
          generalize hdg : rows[i2] = dg at *
          have hsl := hln.2 dg (by rw [← hdg]; exact List.getElem_mem _)
          have e0 : wr.drew.cell? ⟨ga, oa + i2 * 2, none⟩ = some (.string ⟨dg.key.toArray⟩) := by have := hcell 0 (.string ⟨dg.key.toArray⟩) rfl; rwa [Nat.add_zero] at this
          have e1 : wr.drew.cell? ⟨ga, oa + i2 * 2 + 1, none⟩ = some (.string ⟨dg.set.toArray⟩) := hcell 1 (.string ⟨dg.set.toArray⟩) rfl
          have c10d : wr.drew.cell? ⟨w.heap.size, 10, none⟩ = some (.slice (some ⟨ga, oa, none⟩) rows.length rc) := c10r
          have hgl : ga < wr.heap.size := World.block_lt_of_cell? wr _ e0
          have hglw : ga < w.heap.size := World.block_lt_of_cell? w _ (hcl i2 hlt1 0 (.string ⟨dg.key.toArray⟩) (by rw [hdg]; rfl))
          subst hrsl
          obtain ⟨ro4, rc4, hvv, hz1, hz2, hz3⟩ := hR.val
          clear hz1 hz2 hz3
          rw [List.length_map] at hvv
          subst hvv
          obtain ⟨n6, hn61, hn62, en0, en0'⟩ := min_cut dg.set.length 60 (by omega)
          have en : (if (60 : Int) < (dg.set.length : Int) then 60 else (dg.set.length : Int)) = (n6 : Int) := en0
          clear en0 en0'
          have hwd := fun w => wide_any dg.key w
          have hdl32 := padK_len dg.key
          have hex := strT dg.set n6
          have hn6b : (n6 : Int) ≤ dg.set.length := by omega
          have hszs : (⟨dg.set.toArray⟩ : ByteArray).size = dg.set.length := by simp [ByteArray.size]
          have ht6 : (dg.set.take n6).length ≤ 60 := by rw [List.length_take]; omega
          generalize padK dg.key = kk2 at *
          generalize dg.set.take n6 = ss2 at *
          have hlm : (rs.map rrC).length + 1 ≤ 100000000 := by rw [List.length_map]; omega
          have hown := hR.own_ge
          have hbox : some w.heap.size ≠ (Value.slice ro4 rs.length rc4).ownBlock := fun e => by have := hown _ e.symm; omega
          have hgan : some ga ≠ (Value.slice ro4 rs.length rc4).ownBlock := fun e => by have := hown _ e.symm; omega
          have hlw : w.heap.size < wr.heap.size := by have := hBr.size; omega
          have hs9r := hBr.size
          have HQ := Lib.hid (And.intro hrsK (And.intro hBr (And.intro hR (And.intro hdl32 ht6))))
          clear hrsK hBr hcl hdg hBw hdl32 hcell ht6
          go_upto_region 13 with (fail)
          clear c10r
          go_region_held_law (fun w' => w'.cell? ⟨w.heap.size, 10, none⟩ = some (.slice (some ⟨ga, oa, none⟩) rows.length rc) ∧ w'.cell? ⟨ga, oa + rs.length * 2, none⟩ = some (.string ⟨dg.key.toArray⟩) ∧ w'.cell? ⟨ga, oa + rs.length * 2 + 1, none⟩ = some (.string ⟨dg.set.toArray⟩)) (first | exact ⟨c10d, e0, e1⟩ | exact ⟨c10x, e0x, e1x⟩ | exact ⟨c10A, e0A, e1A⟩ | exact ⟨hg11.cell c10A hbox, hg11.cell e0A hgan, hg11.cell e1A hgan⟩ | go_keep) (first
            | (go_at_call 15; refine (hwd _).mono ?_; rintro e w10 ⟨rfl, hB10⟩; have c10x := (hB10.cell (p := ⟨w.heap.size, 10, none⟩) hlw).trans c10d; have e0x := (hB10.cell (p := ⟨ga, oa + rs.length * 2, none⟩) hgl).trans e0; have e1x := (hB10.cell (p := ⟨ga, oa + rs.length * 2 + 1, none⟩) hgl).trans e1; have hbs := run_bsT bigF Try.underlying26 w10 [.string ⟨kk2.toArray⟩, .string ⟨ss2.toArray⟩] rfl (by decide) (by decide); have hA : Below w10.heap.size w10 (w10.alloc (.cells #[.string ⟨kk2.toArray⟩, .string ⟨ss2.toArray⟩] 23)) := (Below.refl _ _).alloc (Nat.le_refl _) _; have hsrcA := rangeAt_alloc_new w10 [.string ⟨kk2.toArray⟩, .string ⟨ss2.toArray⟩] 23; have hRA := (HQ.out.2.2.1.keep (Below.of_drew hB10)).keep hA; have hlw10 : w.heap.size < w10.heap.size := Nat.lt_of_lt_of_le hlw hB10.size; have hgl10 : ga < w10.heap.size := Nat.lt_of_lt_of_le hgl hB10.size; have c10A := (hA.cell (p := ⟨w.heap.size, 10, none⟩) hlw10).trans c10x; have e0A := (hA.cell (p := ⟨ga, oa + rs.length * 2, none⟩) hgl10).trans e0x; have e1A := (hA.cell (p := ⟨ga, oa + rs.length * 2 + 1, none⟩) hgl10).trans e1x; have hge2 : w9.heap.size ≤ (w10.alloc (.cells #[.string ⟨kk2.toArray⟩, .string ⟨ss2.toArray⟩] 23)).heap.size := Nat.le_trans (Nat.le_trans hs9r hB10.size) hA.size)
            | (refine step_appr rfl _ _ 26 rfl it zz Try.underlying26 hti htz hsz1 hby hzc (by omega) hRA hsrcA rfl (by intro u hu; simp at hu; rcases hu with rfl | rfl <;> rfl) hlm hge2 (by rfl) (by rfl) ?_; intro v11 w11 hR11 hg11 hn11))
          all_goals
            obtain ⟨hrsK, hBr, hR, hdl32, ht6⟩ := HQ.out
            have hB10' := hBr.trans ((Below.of_drew hB10).mono hBr.size)
            have hBA := hB10'.trans (hA.mono hB10'.size)
            have hB11 : Below w9.heap.size w9 w11 := hBA.grown hg11 hBA.size (fun q hq => hRA.own_ge q hq)
            have HF := Lib.hid (And.intro hR11 (And.intro hB11 (And.intro hdl32 ht6)))
            clear hR11 hB11 hg11 hn11 hRA hsrcA hdl32 ht6 hB10' hBA hA hB10 hbs hrsK hBr hR hwd
            go_wp2_with fail
            go_roundw
            case rel =>
              obtain ⟨hR11, hB11, hdl32, ht6⟩ := HF.out
              refine ⟨rs.length + 1, rs ++ [⟨kk2, ss2⟩], by omega, by omega, by go_num, by simp, fun y hy => ?_, ?_, hB11⟩
              · rcases List.mem_append.1 hy with hy | hy
                · exact HQ.out.1 y hy
                · rw [List.mem_singleton.1 hy]; exact ⟨hdl32, ht6⟩
              · rw [List.map_append]; exact hR11
            case measure => simp [intOf]; omega
        · subst hrsl
          obtain ⟨ro4, rc4, hvv, hz1, hz2, hz3⟩ := hR.val
          clear hz1 hz2 hz3
          rw [List.length_map] at hvv
          subst hvv
          have HQ := Lib.hid (show T2 w9 wr _ from ⟨rs, hi2, hrsK, hR, hBr⟩)
          clear hrsK hR hBr
          have hor : (¬ (rs.length : Int) < rows.length) ∨ ((rs.length : Int) < rows.length ∧ ¬ (rs.length : Int) < 260) := by omega
          rcases hor with hq | ⟨hq, hq2⟩
          · go_wp2_with fail
            go_meet
            exact HQ.out
          · go_wp2_with fail
            go_meet
            exact HQ.out
    case rest =>
      obtain ⟨rs, hrl260, hrsK, hR, hBr⟩ := hcut
      obtain ⟨ro4, rc4, hvv, hz1, hz2, hz3⟩ := hR.val
      clear hz1 hz2 hz3
      rw [List.length_map] at hvv
      subst hvv
      have c10r := (hBr.cell (p := ⟨w.heap.size, 10, none⟩) hlt9).trans c10
      have htz9 := there_only HW9.out.2.1 (Only.of_below (S := fun _ => False) hBr) (fun h => h)
      have f10 := there_cell htz9 10 (by omega)
      obtain ⟨bx9, tx9, ty9, hRa9, hRd9, hB9, hds32, hdl260⟩ := HW9.out
      obtain ⟨hats2, hatl⟩ := HATS.out
      have bxz := rangeAt_keep bx9 hBr
      have tyz := there_only ty9 (Only.of_below (S := fun _ => False) hBr) (fun h => h)
      have hRaz := hRa9.keep hBr
      have hRdz := hRd9.keep hBr
      have hBz := hB9.trans (hBr.mono hB9.size)
      have bxA := rangeAt_set bxz 10 (.slice ro4 rs.length rc4)
      simp only [List.set_cons_succ, List.set_cons_zero] at bxA
      have hoA := Only.set1 wc w.heap.size 10 (.slice ro4 rs.length rc4)
      have hszz := hBr.size
      have tyA := there_only tyz hoA (by omega)
      have hRaA := hRaz.only hoA (fun k hk e => by have := hRaz.own_ge k hk; omega)
      have hRdA := hRdz.only hoA (fun k hk e => by have := hRdz.own_ge k hk; omega)
      have hRrA := hR.only hoA (fun k hk e => by have := hR.own_ge k hk; omega)
      have hBA : Below w.heap.size w (wc.setCell ⟨w.heap.size, 10, none⟩ (.slice ro4 rs.length rc4)) := hBz.trans (hoA.to_below (by omega) (fun k hk => by omega))
      have hsA := hoA.size
      obtain ⟨y, hy⟩ : ∃ y : FV, y = ⟨⟨k, f, a, er, hd, lv, ⟨key2, set2⟩, ats2, ds, rs⟩, .slice ao7 ats2.length cap7, .slice ro3 ds.length rc3, .slice ro4 rs.length rc4⟩ := ⟨_, rfl⟩
      have hyA : y.At (wc.setCell ⟨w.heap.size, 10, none⟩ (.slice ro4 rs.length rc4)) := by rw [hy]; exact ⟨hRaA.rd, hRdA.rd, hRrA.rd, hats2, hm64⟩
      have hyC : y.C = [.int .i64 k, .int .i64 f, .int .i64 a, .int .i64 er, .int .i64 hd, .int .i64 lv, .string ⟨key2.toArray⟩, .string ⟨set2.toArray⟩, .slice ao7 ats2.length cap7, .slice ro3 ds.length rc3, .slice ro4 rs.length rc4] := by rw [hy]; rfl
      rw [← hyC] at bxA
      have hyG : y.Ge (w.heap.size + 2) := by
        rw [hy]
        exact ⟨fun k hk => by have := hRaA.own_ge k hk; omega, fun k hk => by have := hRdA.own_ge k hk; omega, fun k hk => by have := hRrA.own_ge k hk; omega⟩
      have hyB : y.m.Big := by
        rw [hy]
        exact ⟨hm64, hats2, (by show set2.length ≤ _; omega), (by show ats2.length ≤ _; omega), (by show ds.length ≤ _; omega), (by show rs.length ≤ _; omega), fun r hr => by have := (hrsK r hr).2; omega⟩
      have hyS : y.m.Small := by
        rw [hy]
        exact ⟨hset2, hatl, hdl260, hrl260, fun r hr => (hrsK r hr).2⟩
      have hyK : y.m.K32 := by
        rw [hy]
        exact ⟨hk32, hds32, fun r hr => (hrsK r hr).1⟩
      have hyN : ∀ n c, y.av = .slice none n c → c = 0 := by
        rw [hy]
        intro n c e
        injection e with e1 e2 e3
        rw [e1, e3] at hRaA
        exact RW.nil0 hRaA
      have hlx : y.C.length = cz.length := by rw [hzl]; rfl
      have hox := FV.C_one hyA
      have hld := run_ldT bigX (wc.setCell ⟨w.heap.size, 10, none⟩ (.slice ro4 rs.length rc4)) w.heap.size 0 y.C bxA rfl
      have hst := run_stT bigX (wc.setCell ⟨w.heap.size, 10, none⟩ (.slice ro4 rs.length rc4)) (w.heap.size + 1) 0 y.C (by rw [hlx, hzl]; exact tyA) rfl hox
      have hlv := run_lvT bigX _ (w.heap.size + 1) 0 y.C (World.rangeAt_setCells_same (wc.setCell ⟨w.heap.size, 10, none⟩ (.slice ro4 rs.length rc4)) (w.heap.size + 1) 0 y.C (by rw [hlx, hzl]; exact tyA)) rfl
      have hoF := Only.setCells1 (b := w.heap.size + 1) y.C 0 (wc.setCell ⟨w.heap.size, 10, none⟩ (.slice ro4 rs.length rc4))
      have hyF := hyA.only hyG hoF (fun k hk => by omega)
      have HF := Lib.hid (And.intro hyF (And.intro hyB (And.intro hyS (And.intro hyK (And.intro hyN (And.intro (show y.Ge w.heap.size from ⟨fun k hk => Nat.le_trans (by omega) (hyG.1 k hk), fun k hk => Nat.le_trans (by omega) (hyG.2.1 k hk), fun k hk => Nat.le_trans (by omega) (hyG.2.2 k hk)⟩) (Go.Proofs.Ytanghmpphlmpkaa.Below.setCells (show w.heap.size ≤ w.heap.size + 1 by omega) y.C 0 hBA)))))))
      clear hyF hyB hyS hyK hyN hyA hyG hyC hy bxA hoF hox hlx hrsK hR hBr bx9 tx9 ty9 hRa9 hRd9 hB9 hds32 hats2 bxz tyz hRaz hRdz hBz hoA tyA hRaA hRdA hRrA hBA htz9 c10
      generalize hyc : y.C = yC at *
      have HYC := Lib.hid hyc
      clear hyc
      go_wp2_with fail
      refine bodyPost_ret (results_cell Try.results6 rfl hlv) rfl ?_
      exact ⟨y, by rw [HYC.out], HF.out⟩
end Go.Proofs.Ytanghmpphlmpkaa

