/- caskettop.CasketHides: the walk. -/
import Derived.Test.YtembfelckbmgiaaDoorEnvE
import Derived.Test.YtembfelckbmgiaaDoorStands
import Derived.Test.YtembfelckbmgiaaDoorOpenRows
import Derived.Deep.DeepCutAuto
namespace Go.Proofs.YtembfelckbmgiaaDoor
open Go.RowKit Big
set_option linter.unusedVariables false
def k1 : List UInt8 := 1 :: List.replicate 31 0
/-- Each byte mixed with one. -/
def xorL (c : UInt8) (l : List UInt8) : List UInt8 := l.map (· ^^^ c)
theorem xorL_len (c : UInt8) (l : List UInt8) : (xorL c l).length = l.length := List.length_map _
theorem xorL_inj (c : UInt8) (a b : List UInt8) (h : xorL c a = xorL c b) : a = b := by
  have hx : ∀ l : List UInt8, xorL c (xorL c l) = l := fun l => by
    unfold xorL
    rw [List.map_map]
    conv => rhs; rw [← List.map_id l]
    apply List.map_congr_left
    intro x _
    show (x ^^^ c) ^^^ c = x
    rw [UInt8.xor_assoc, UInt8.xor_self, UInt8.xor_zero]
  have := congrArg (xorL c) h
  rwa [hx, hx] at this
theorem numN_map (c : UInt8) (x : List UInt8) (ns : List (List UInt8)) : numN (xorL c x) (ns.map (xorL c)) = numN x ns := by
  unfold numN
  rw [posL_map (xorL_inj c), List.length_map]
theorem addN_map (c : UInt8) (x : List UInt8) (ns : List (List UInt8)) : addN (xorL c x) (ns.map (xorL c)) = (addN x ns).map (xorL c) := by
  unfold addN
  rw [posL_map (xorL_inj c)]
  cases posL x ns <;> simp
/-- The first k bytes mixed. -/
def mixK (c : UInt8) (l : List UInt8) (k : Nat) : List UInt8 := xorL c (l.take k) ++ l.drop k
theorem mixK_len (c : UInt8) (l : List UInt8) (k : Nat) : (mixK c l k).length = l.length := by unfold mixK; rw [List.length_append, xorL_len, List.length_take, List.length_drop]; omega
theorem mixK_zero (c : UInt8) (l : List UInt8) : mixK c l 0 = l := by simp [mixK, xorL]
theorem mixK_all (c : UInt8) (l : List UInt8) : mixK c l l.length = xorL c l := by simp [mixK]
theorem mixK_get (c : UInt8) (l : List UInt8) (k : Nat) (h : k < l.length) : (mixK c l k).getD k 0 = l.getD k 0 := by
  unfold mixK
  simp only [List.getD]
  rw [List.getElem?_append_right (by rw [xorL_len, List.length_take]; omega), xorL_len, List.length_take, Nat.min_eq_left (by omega), Nat.sub_self, List.getElem?_drop, Nat.add_zero]
theorem mixK_step (c : UInt8) (l : List UInt8) (k : Nat) (h : k < l.length) : (mixK c l k).set k (l.getD k 0 ^^^ c) = mixK c l (k + 1) := by
  unfold mixK
  have hl : (xorL c (l.take k)).length = k := by rw [xorL_len, List.length_take]; omega
  rw [List.set_append_right _ _ (by omega), hl, Nat.sub_self, List.drop_eq_getElem_cons h, List.set_cons_zero, List.take_succ_eq_append_getElem h]
  unfold xorL
  rw [List.map_append, List.append_assoc]
  simp [List.getD, h]
/-- A note that came in. -/
structure NoteD where
  nv : Value
  n : List UInt8
  vv : Value
  v : List UInt8
  del : Bool
def noteC (y : NoteD) : List Value := [y.nv, y.vv, .bool y.del]
def NotesAt (w : World) (v : Value) (ys : List NoteD) : Prop := RowsAt w v 3 noteC ys ∧ ∀ y ∈ ys, Bsl w y.nv y.n ∧ Bsl w y.vv y.v
/-- Behind i notes: the two vaults hold the same, but for the names, which are mixed with a byte. -/
def HidesAt (w wr : World) (c : UInt8) (K : List UInt8) (p bn bu bt p' bn' bu' bt' i : Nat) : Prop := ∃ ns cs ts ts', VaultAt wr p K bn bu bt ns (usedL 0 cs) ts ∧ VaultAt wr p' K bn' bu' bt' (ns.map (xorL c)) (usedL 0 cs) ts' ∧ TsOk ts cs ∧ TsOk ts' cs ∧ (∀ c ∈ cs, c ≤ i) ∧ cs.length ≤ i ∧ ns.length ≤ i ∧ Below w.heap.size w wr
theorem umod60 (x : Int) : ∃ q : Nat, q ≤ 59 ∧ wrap64 ((IntKind.u64.wrap x).tmod 60) = (q : Int) := by
  have h1 : 0 ≤ (IntKind.u64.wrap x).tmod 60 := by rw [IntKind.wrap_u64]; exact Int.tmod_nonneg _ (by omega)
  have h2 : (IntKind.u64.wrap x).tmod 60 < 60 := by rw [IntKind.wrap_u64]; exact Int.tmod_lt_of_pos _ (by omega)
  exact ⟨((IntKind.u64.wrap x).tmod 60).toNat, by omega, by rw [wrap64]; omega⟩
attribute [local go_sem ↓] alT_H stT_H ldT_H alT_E stT_E ldT_E mkV_eq
set_option maxRecDepth 100000 in
set_option maxHeartbeats 8000000 in
theorem casketHides_walk (v0 : Value) (ys : List NoteD) (by_ : UInt8) (w : World) (hl : NotesAt w v0 ys) (hsh : ShaAt w) :
    Calls Tryd.prog 3 #[v0, .int .u8 by_.toNat] w fun e w' => e = .returned (.bool true) ∧ Below w.heap.size w w' := by
  have hid : ∀ w, Calls Tryd.prog 4 #[.agg #[.int .u8 1, .int .u8 0, .int .u8 0, .int .u8 0, .int .u8 0, .int .u8 0, .int .u8 0, .int .u8 0, .int .u8 0, .int .u8 0, .int .u8 0, .int .u8 0, .int .u8 0, .int .u8 0, .int .u8 0, .int .u8 0, .int .u8 0, .int .u8 0, .int .u8 0, .int .u8 0, .int .u8 0, .int .u8 0, .int .u8 0, .int .u8 0, .int .u8 0, .int .u8 0, .int .u8 0, .int .u8 0, .int .u8 0, .int .u8 0, .int .u8 0, .int .u8 0]] w fun e w' => ∃ p bn bu bt, e = .returned (.pointer (some ⟨p, 0, none⟩)) ∧ VaultAt w' p k1 bn bu bt [] [] [] ∧ (w.heap.size ≤ p ∧ w.heap.size ≤ bn ∧ w.heap.size ≤ bu ∧ w.heap.size ≤ bt) ∧ Below w.heap.size w w' := fun w => ideal_any k1 w rfl
  have hK := Lib.hid (show k1.length = 32 from rfl)
  generalize k1 = K at *
  have HL := Lib.hid hl
  clear hl
  go_enter Tryd.func3, Tryd.ntmps3
  go_wp2_with fail
  refine (hid _).mono ?_
  rintro e w1 ⟨p, bn, bu, bt, rfl, hV1, hle1, hB1⟩
  go_wp2_with fail
  refine (hid _).mono ?_
  rintro e w2 ⟨p', bn', bu', bt', rfl, hV2, hle2, hB2⟩
  have hlt1 := And.intro hV1.1.2.1 (And.intro hV1.2.2.1.lt (And.intro hV1.2.2.2.1.lt hV1.2.2.2.2.lt))
  have hV1 := hV1.keep hB2
  have hB2 := hB1.trans (hB2.mono hB1.size)
  have hst := stands_any w2 (hsh.keep hB2)
  clear hid
  go_wp2_with fail
  refine hst.mono ?_
  rintro e w3 ⟨rfl, hB3⟩
  have hV13 := hV1.keep hB3
  have hV23 := hV2.keep hB3
  have hB03 := hB2.trans (hB3.mono hB2.size)
  have HS := Lib.hid (And.intro hlt1 (And.intro hle1 hle2))
  have hcu := by_.toNat_lt
  clear hV1 hV2 hB1 hB2 hB3 hst hlt1 hle1 hle2
  generalize w1.heap.size = B2 at *
  obtain ⟨ao, cap, hv0⟩ : ∃ ao cap, v0 = .slice ao ys.length cap := by obtain ⟨⟨a, c, e, _⟩, _⟩ := HL.out; exact ⟨a, c, e⟩
  subst hv0
  go_wp2_with fail
  go_loopw [7] (fun iv wr => ∃ i : Nat, i ≤ 10 ∧ i ≤ ys.length ∧ iv = .int .i64 (i : Int) ∧ HidesAt w wr by_ K p bn bu bt p' bn' bu' bt' i) (fun iv _ => 10 - (intOf iv).toNat)
  case atStart => exact ⟨0, by omega, by omega, rfl, [], [], [], [], hV13, hV23, fun e he => (by cases he), fun e he => (by cases he), fun c hc => (by cases hc), Nat.le_refl _, Nat.le_refl _, hB03⟩
  case round =>
    obtain ⟨i, hi10, hil, rfl, hR⟩ := hrel
    clear hV13 hV23 hB03
    by_cases hlt : i < ys.length ∧ i < 10
    · have h1 : (i : Int) < ys.length := by omega
      have h2 : (i : Int) < 10 := by omega
      obtain ⟨y, hy⟩ : ∃ y, ys[i]? = some y := ⟨ys[i]'(by omega), by simp [show i < ys.length by omega]⟩
      obtain ⟨ns, cs, ts, ts', hV, hV', hT, hT', hcs, hcl, hnl, hB⟩ := hR
      obtain ⟨nb, noff, hao, hnc⟩ : ∃ b off, ao = some ⟨b, off, none⟩ ∧ ∀ j, j < 3 → w.cell? ⟨b, off + i * 3 + j, none⟩ = (noteC y)[j]? := by
        obtain ⟨⟨a, c2, e, _, _, _, h4⟩, _⟩ := HL.out
        simp only [Value.slice.injEq] at e
        obtain ⟨rfl, _, rfl⟩ := e
        obtain ⟨b, off, e, hc⟩ := h4 (by intro e; rw [e] at h1; simp at h1; omega)
        refine ⟨b, off, e, fun j hj => ?_⟩
        have := hc i (by omega) j hj
        rw [(List.getElem?_eq_some_iff.1 hy).2] at this
        exact this
      subst hao
      have hn0 : w.cell? ⟨nb, noff + i * 3, none⟩ = some y.nv := hnc 0 (by omega)
      have hn1 : w.cell? ⟨nb, noff + i * 3 + 1, none⟩ = some y.vv := hnc 1 (by omega)
      have hn2 : w.cell? ⟨nb, noff + i * 3 + 2, none⟩ = some (.bool y.del) := hnc 2 (by omega)
      have hnl2 : nb < w.heap.size := World.block_lt_of_cell? w _ hn0
      go_wp2_with fail
      go_cut [8, 9] (fun nv mv wx => OB wx wr.heap.size nv (y.n.take 40) ∧ OB wx wr.heap.size mv (y.n.take 40) ∧ (∀ k, nv.ownBlock = some k → mv.ownBlock ≠ some k) ∧ Below wr.heap.size wr wx)
      case first =>
        have hfa : ∀ w', Below wr.heap.size wr w' → w'.cell? ⟨nb, noff + i * 3, none⟩ = some y.nv := fun w' hB' => by
          have h0 := (hB.trans (hB'.mono hB.size)).cell (p := ⟨nb, noff + i * 3, none⟩) hnl2
          rw [h0]; exact hn0
        refine wp_region_El 13 (fun w' => Below wr.heap.size wr w') #[false, false, false, false, false, false, false, false, false, false, false, false, false, false] (by kernel_rfl) (by kernel_rfl) ?_
        have hS0 : Below wr.heap.size wr wr.drew := (Below.refl _ _).drew
        refine wpAnyE_take (i := 0) (v := ?v_a0) rfl (by kernel_rfl) (by kernel_rfl) (by kernel_rfl) (by kernel_rfl) (by kernel_rfl) (fun _ _ _ h => h) (Or.inl ⟨by kernel_rfl, ?y_a0⟩) (by assumption) ?r_a0
        case y_a0 => intro wE hSw; have q0 := hfa wE hSw; go_simp; try with_reducible rfl
        case' r_a0 => ((try simp only [Act.put, List.getElem_toArray, List.getElem_cons_zero]); (try simp only [List.setIfInBounds_toArray]); (try simp only [List.set_cons_zero, List.set_cons_succ]))
        refine wpAnyE_take (i := 1) (v := ?v_a1) rfl (by kernel_rfl) (by kernel_rfl) (by kernel_rfl) (by kernel_rfl) (by kernel_rfl) (fun _ _ _ h => h) (Or.inl ⟨by kernel_rfl, ?y_a1⟩) (by assumption) ?r_a1
        case y_a1 => intro wE hSw; have q0 := hfa wE hSw; go_simp; try with_reducible rfl
        case' r_a1 => ((try simp only [Act.put, List.getElem_toArray, List.getElem_cons_zero, List.getElem_cons_succ]); (try simp only [List.setIfInBounds_toArray]); (try simp only [List.set_cons_zero, List.set_cons_succ]))
        refine wpAnyE_take (i := 2) (v := ?v_a2) rfl (by kernel_rfl) (by kernel_rfl) (by kernel_rfl) (by kernel_rfl) (by kernel_rfl) (fun _ _ _ h => h) (Or.inl ⟨by kernel_rfl, ?y_a2⟩) (by assumption) ?r_a2
        case y_a2 => intro wE hSw; have q0 := hfa wE hSw; go_simp; try with_reducible rfl
        case' r_a2 => ((try simp only [Act.put, List.getElem_toArray, List.getElem_cons_zero, List.getElem_cons_succ]); (try simp only [List.setIfInBounds_toArray]); (try simp only [List.set_cons_zero, List.set_cons_succ]))
        refine wpAnyE_take (i := 3) (v := ?v_a3) rfl (by kernel_rfl) (by kernel_rfl) (by kernel_rfl) (by kernel_rfl) (by kernel_rfl) (fun _ _ _ h => h) (Or.inl ⟨by kernel_rfl, ?y_a3⟩) (by assumption) ?r_a3
        case y_a3 => intro wE hSw; have q0 := hfa wE hSw; go_simp; try with_reducible rfl
        case' r_a3 => ((try simp only [Act.put, List.getElem_toArray, List.getElem_cons_zero, List.getElem_cons_succ]); (try simp only [List.setIfInBounds_toArray]); (try simp only [List.set_cons_zero, List.set_cons_succ]))
        refine wpAnyE_take (i := 4) (v := ?v_a4) rfl (by kernel_rfl) (by kernel_rfl) (by kernel_rfl) (by kernel_rfl) (by kernel_rfl) (fun _ _ _ h => h) (Or.inl ⟨by kernel_rfl, ?y_a4⟩) (by assumption) ?r_a4
        case y_a4 => intro wE hSw; have q0 := hfa wE hSw; go_simp; try with_reducible rfl
        case' r_a4 => ((try simp only [Act.put, List.getElem_toArray, List.getElem_cons_zero, List.getElem_cons_succ]); (try simp only [List.setIfInBounds_toArray]); (try simp only [List.set_cons_zero, List.set_cons_succ]))
        refine wpAnyE_take (i := 6) (v := ?v_a6) rfl (by kernel_rfl) (by kernel_rfl) (by kernel_rfl) (by kernel_rfl) (by kernel_rfl) (fun _ _ _ h => h) (Or.inl ⟨by kernel_rfl, ?y_a6⟩) (by assumption) ?r_a6
        case y_a6 => intro wE hSw; have q0 := hfa wE hSw; go_simp; try with_reducible rfl
        case' r_a6 => ((try simp only [Act.put, List.getElem_toArray, List.getElem_cons_zero, List.getElem_cons_succ]); (try simp only [List.setIfInBounds_toArray]); (try simp only [List.set_cons_zero, List.set_cons_succ]))
        refine wpAnyE_take (i := 7) (v := ?v_a7) rfl (by kernel_rfl) (by kernel_rfl) (by kernel_rfl) (by kernel_rfl) (by kernel_rfl) (fun _ _ _ h => h) (Or.inl ⟨by kernel_rfl, ?y_a7⟩) (by assumption) ?r_a7
        case y_a7 => intro wE hSw; have q0 := hfa wE hSw; go_simp; try with_reducible rfl
        case' r_a7 => ((try simp only [Act.put, List.getElem_toArray, List.getElem_cons_zero, List.getElem_cons_succ]); (try simp only [List.setIfInBounds_toArray]); (try simp only [List.set_cons_zero, List.set_cons_succ]))
        refine wpAnyE_take (i := 8) (v := ?v_a8) rfl (by kernel_rfl) (by kernel_rfl) (by kernel_rfl) (by kernel_rfl) (by kernel_rfl) (fun _ _ _ h => h) (Or.inl ⟨by kernel_rfl, ?y_a8⟩) (by assumption) ?r_a8
        case y_a8 => intro wE hSw; have q0 := hfa wE hSw; go_simp; try with_reducible rfl
        case' r_a8 => ((try simp only [Act.put, List.getElem_toArray, List.getElem_cons_zero, List.getElem_cons_succ]); (try simp only [List.setIfInBounds_toArray]); (try simp only [List.set_cons_zero, List.set_cons_succ]))
        refine wpAnyE_take (i := 9) (v := ?v_a9) rfl (by kernel_rfl) (by kernel_rfl) (by kernel_rfl) (by kernel_rfl) (by kernel_rfl) (fun _ _ _ h => h) (Or.inl ⟨by kernel_rfl, ?y_a9⟩) (by assumption) ?r_a9
        case y_a9 => intro wE hSw; have q0 := hfa wE hSw; go_simp; try with_reducible rfl
        case' r_a9 => ((try simp only [Act.put, List.getElem_toArray, List.getElem_cons_zero, List.getElem_cons_succ]); (try simp only [List.setIfInBounds_toArray]); (try simp only [List.set_cons_zero, List.set_cons_succ]))
        refine wpAnyE_take (i := 10) (v := ?v_a10) rfl (by kernel_rfl) (by kernel_rfl) (by kernel_rfl) (by kernel_rfl) (by kernel_rfl) (fun _ _ _ h => h) (Or.inl ⟨by kernel_rfl, ?y_a10⟩) (by assumption) ?r_a10
        case y_a10 => intro wE hSw; have q0 := hfa wE hSw; go_simp; try with_reducible rfl
        case' r_a10 => ((try simp only [Act.put, List.getElem_toArray, List.getElem_cons_zero, List.getElem_cons_succ]); (try simp only [List.setIfInBounds_toArray]); (try simp only [List.set_cons_zero, List.set_cons_succ]))
        have hbn : ∀ w', Below wr.heap.size wr w' → Bsl w' y.nv y.n := fun w' hB' => (HL.out.2 y (List.mem_of_getElem? hy)).1.keep (hB.trans (hB'.mono hB.size))
        refine wpAnyE_ready (rs := [5]) (by kernel_rfl) (by simp) ?_
        refine AllReadyE.cons rfl (fun KA hKA => ?_) AllReadyE.nil
        rw [if_pos (by kernel_rfl)]
        go_simp
        refine (cut_any y.nv y.n 40 wr.drew (hbn wr.drew (Below.refl _ _).drew) (by omega) (by omega)).mono ?_
        rintro e w2 ⟨v8, rfl, ho2, hB2'⟩
        have hS2 : Below wr.heap.size wr w2 := (Below.refl _ _).drew.trans hB2'
        try go_simp
        refine hKA _ _ (fun _ => hS2) ?_
        clear hKA KA
        refine wpAnyE_ready (rs := [11]) (by kernel_rfl) (by simp) ?_
        refine AllReadyE.cons rfl (fun KA hKA => ?_) AllReadyE.nil
        rw [if_pos (by kernel_rfl)]
        go_simp
        refine (cut_any y.nv y.n 40 w2 (hbn w2 hS2) (by omega) (by omega)).mono ?_
        rintro e w3' ⟨v9, rfl, ho3, hB3'⟩
        have hS3 : Below wr.heap.size wr w3' := hS2.trans (hB3'.mono hS2.size)
        have ho2' : OB w3' wr.heap.size v8 (y.n.take 40) := ho2.keep hB3'
        have ho3' : OB w3' wr.heap.size v9 (y.n.take 40) := ho3.mono hS2.size
        have hds : ∀ k, v8.ownBlock = some k → v9.ownBlock ≠ some k := fun k h8 h9 => by
          have := ho2.own_lt k h8
          have := ho3.own_ge k h9
          omega
        try go_simp
        refine hKA _ _ (fun _ => hS3) ?_
        clear hKA KA
        refine wpAnyE_ready (rs := [12]) (by kernel_rfl) (by simp) ?_
        refine AllReadyE.cons rfl (fun KA hKA => ?_) AllReadyE.nil
        rw [if_pos (by kernel_rfl)]
        go_simp
        refine hKA _ _ (fun _ => hS3) ?_
        clear hKA KA
        refine wpAnyE_ready (rs := [13]) (by kernel_rfl) (by simp) ?_
        refine AllReadyE.cons rfl (fun KA hKA => ?_) AllReadyE.nil
        rw [if_pos (by kernel_rfl)]
        go_simp
        refine hKA _ _ (fun h => Bool.noConfusion (show true = false from h)) ?_
        clear hKA KA
        refine wpAnyE_done (by kernel_rfl) ?_ _
        go_wp2_with fail
        go_meet
        exact ⟨ho2', ho3', hds, hS3⟩
      case rest =>
        obtain ⟨hN, hM, hdis, hBc⟩ := hcut
        obtain ⟨a8, c8, rfl⟩ := hN.val'
        obtain ⟨a9, c9, rfl⟩ := hM.val'
        have hTl : (y.n.take 40).length ≤ 40 := by rw [List.length_take]; omega
        generalize y.n.take 40 = T at *
        have HD := Lib.hid hdis
        have HTL := Lib.hid hTl
        have hBwc : Below w.heap.size w wc := hB.trans (hBc.mono hB.size)
        have hVc := hV.keep hBc
        have hVc' := hV'.keep hBc
        have HLV := Lib.hid (And.intro (And.intro hV.1.2.1 (And.intro hV.2.2.1.lt (And.intro hV.2.2.2.1.lt hV.2.2.2.2.lt))) (And.intro (And.intro hV'.1.2.1 (And.intro hV'.2.2.1.lt (And.intro hV'.2.2.2.1.lt hV'.2.2.2.2.lt))) (And.intro hB.size hBc.size)))
        clear hV hV' hB hBc hdis
        generalize wr.heap.size = Br at *
        go_wp2_with fail
        go_loopw [10] (fun kv wx => ∃ k : Nat, k ≤ T.length ∧ kv = .int .i64 (k : Int) ∧ OB wx Br (.slice a9 T.length c9) (mixK by_ T k) ∧ Only (fun b => (Value.slice a9 T.length c9).ownBlock = some b) wc wx) (fun kv _ => T.length - (intOf kv).toNat)
        case atStart => exact ⟨0, Nat.zero_le _, rfl, by rw [mixK_zero]; exact hM, Only.refl _ _⟩
        case round =>
          obtain ⟨k, hk, rfl, hMk, hOk⟩ := hrel
          by_cases hkt : k < T.length
          · have hkt' : (k : Int) < T.length := by omega
            obtain ⟨g9, c9', he9, -⟩ := hMk.shape (by intro e; have := mixK_len by_ T k; rw [e] at this; simp at this; omega)
            simp only [Value.slice.injEq] at he9
            obtain ⟨rfl, _, rfl⟩ := he9
            have hck := hMk.cell (mixK_len by_ T k).symm (j := k) (by rw [mixK_len]; exact hkt)
            have hfk := hMk.free (mixK_len by_ T k).symm k
            rw [mixK_get _ _ _ hkt] at hck
            have hset := hMk.set (mixK_len by_ T k).symm k (T.getD k 0 ^^^ by_)
            rw [mixK_step _ _ _ hkt] at hset
            have hxy : bits BinOp.xor IntKind.u8 ((T.getD k 0).toNat : Int) (by_.toNat : Int) = ((T.getD k 0 ^^^ by_).toNat : Int) := by rw [u8_xor_nat _ _ (T.getD k 0).toNat_lt by_.toNat_lt, UInt8.toNat_xor]
            generalize T.getD k 0 = x8 at *
            have hx8 : x8.toNat < 256 := x8.toNat_lt
            generalize x8 ^^^ by_ = z8 at *
            have HSET := Lib.hid hset
            have HOK := Lib.hid hOk
            have HTL2 := Lib.hid HTL.out
            clear hset hOk hM hN
            go_wp2_with fail
            go_roundw
            case rel =>
              refine ⟨k + 1, by omega, by go_num, HSET.out, HOK.out.setCell (p := ⟨g9, k, none⟩) (fun _ => rfl) _⟩
            case measure => simp [intOf]; omega
          · have hkn : ¬ (k : Int) < T.length := by omega
            have hke : k = T.length := by omega
            rw [hke, mixK_all] at hMk
            clear hke hk hM
            clear hkt
            have hNx := hN.only hOk (fun k h h2 => HD.out k h h2)
            have hown9 : ∀ b, (Value.slice a9 T.length c9).ownBlock = some b → Br ≤ b := fun b hb => hMk.own_ge b hb
            have hlv := HLV.out
            have hVx := hVc.only hOk (fun h => by have := hown9 _ h; omega) (fun h => by have := hown9 _ h; omega) (fun h => by have := hown9 _ h; omega) (fun h => by have := hown9 _ h; omega)
            have hVx' := hVc'.only hOk (fun h => by have := hown9 _ h; omega) (fun h => by have := hown9 _ h; omega) (fun h => by have := hown9 _ h; omega) (fun h => by have := hown9 _ h; omega)
            have hBx : Below w.heap.size w wr := hBwc.trans (hOk.to_below hBwc.size (fun b hb => by have := hown9 b hb; omega))
            have hbr : Br ≤ wr.heap.size := by have := hOk.size; omega
            clear hVc hVc' hBwc hOk hN HD hown9 hlv
            have hq1 : wr.cell? ⟨nb, noff + i * 3 + 1, none⟩ = some y.vv := (hBx.cell (p := ⟨nb, noff + i * 3 + 1, none⟩) hnl2).trans hn1
            have hca := cut_any y.vv y.v 59 wr ((HL.out.2 y (List.mem_of_getElem? hy)).2.keep hBx) (by omega) (by omega)
            go_wp2_with fail
            refine hca.mono ?_
            rintro e w4 ⟨v11, rfl, hA4, hB4⟩
            clear hca hq1
            have hA4 : OB w4 Br v11 (y.v.take 59) := hA4.mono hbr
            have hAl : (y.v.take 59).length ≤ 59 := by rw [List.length_take]; omega
            generalize y.v.take 59 = A at *
            obtain ⟨a11, c11, rfl⟩ := hA4.val'
            have hV4 := hVx.keep hB4
            have hV4' := hVx'.keep hB4
            have hN4 := hNx.keep hB4
            have hM4 := hMk.keep hB4
            have hB04 := hBx.trans (hB4.mono hBx.size)
            have hbr4 : Br ≤ w4.heap.size := by have := hB4.size; omega
            clear hVx hVx' hNx hMk hBx hB4 hbr
            obtain ⟨m, hm59, hmv⟩ := umod60 ((by_.toNat : Int) * ((A.length : Int) + 1))
            have HMV := Lib.hid hmv
            clear hmv
            obtain ⟨w5, hmk, hO5, hB5, hs5⟩ := mkV_made w4 m (by omega)
            have hO5 := hO5.mono hbr4
            have hV5 := hV4.keep hB5
            have hV5' := hV4'.keep hB5
            have hN5 := hN4.keep hB5
            have hM5 := hM4.keep hB5
            have hA5 := hA4.keep hB5
            have hB05 := hB04.trans (hB5.mono hB04.size)
            have hbr5 : Br ≤ w5.heap.size := by omega
            have hZl : (List.replicate m (0 : UInt8)).length = m := List.length_replicate
            generalize List.replicate m (0 : UInt8) = Z at *
            clear hV4 hV4' hN4 hM4 hA4 hB04 hB5
            obtain ⟨w6, w7, hal6, hst7, hH7, hB7, hs7⟩ := bigH.madeV w5 (headC (i + 1)) rfl (headC_one _)
            rw [show (headC (i + 1)).toArray = #[.int .i64 1, .int .i64 ((i : Int) + 1), .int .i64 1, .int .i64 ((i : Int) + 1), .slice none 0 0] by simp [headC]] at hst7
            have hV7 := hV5.keep hB7
            have hV7' := hV5'.keep hB7
            have hN7 := hN5.keep hB7
            have hM7 := hM5.keep hB7
            have hA7 := hA5.keep hB7
            have hO7 := hO5.keep hB7
            have hB07 := hB05.trans (hB7.mono hB05.size)
            have hbr7 : Br ≤ w7.heap.size := by omega
            have hlt5 : w5.heap.size < w7.heap.size := by omega
            clear hV5 hV5' hN5 hM5 hA5 hO5 hB05 hB7 hs5 hs7
            have hmv := HMV.out
            go_wp2_with fail
            clear hmv HMV hmk hal6 hst7
            have hHd := hH7
            have hBd := hB07
            have hSB : ∀ k, Br ≤ k → ¬ (fun k => k = bn ∨ k = bu ∨ k = bt) k := fun k hk => by rintro (e | e | e) <;> (have hz := HLV.out; omega)
            have hSB2 : ∀ k, Br ≤ k → ¬ (fun k => k = bn' ∨ k = bu' ∨ k = bt') k := fun k hk => by rintro (e | e | e) <;> (have hz := HLV.out; omega)
            have hfa : ∀ wE, Only (fun k => k = bn ∨ k = bu ∨ k = bt) w7 wE → (ldT 35 (.pointer (some ⟨w5.heap.size, 0, none⟩))).run Tryd.prog wE = .ok (.agg #[.int .i64 1, .int .i64 ((i : Int) + 1), .int .i64 1, .int .i64 ((i : Int) + 1), .slice none 0 0]) wE ∧ wE.cell? ⟨nb, noff + i * 3 + 2, none⟩ = some (.bool y.del) := fun wE hSw => by
              refine ⟨?_, ?_⟩
              · have := bigH.ldV (hHd.only hSw (hSB _ hbr5)) rfl
                rwa [show (headC (i + 1)).toArray = #[.int .i64 1, .int .i64 ((i : Int) + 1), .int .i64 1, .int .i64 ((i : Int) + 1), .slice none 0 0] by simp [headC]] at this
              · have hz := HLV.out
                have hz2 := HS.out
                rw [hSw.cell (p := ⟨nb, noff + i * 3 + 2, none⟩) (by show nb < _; have := hBd.size; omega) (by rintro (e | e | e) <;> (have e : nb = _ := e; omega)), hBd.cell (p := ⟨nb, noff + i * 3 + 2, none⟩) hnl2]
                exact hn2
            have hse : ∀ wx, Below w7.heap.size w7 wx → Calls Tryd.prog 7 #[.pointer (some ⟨p, 0, none⟩), (.slice a8 T.length c8), .agg #[.int .i64 1, .int .i64 ((i : Int) + 1), .int .i64 1, .int .i64 ((i : Int) + 1), .slice none 0 0], (.slice a11 A.length c11), .bool y.del] wx fun e w' => ∃ E er, e = .returned (.tuple #[.agg E.toArray, .int .i64 er]) ∧ SealRes wx.heap.size w' K p bn bu bt ns cs ts T (i + 1) E er ∧ Only (fun k => k = bn ∨ k = bu ∨ k = bt) wx w' := fun wx hBw => by
              have := eseal_both (.slice a8 T.length c8) (.slice a11 A.length c11) T A (i + 1) y.del wx (hV7.keep hBw) hT (fun h => by have := hcs _ h; omega) ⟨by omega, by omega⟩ (by omega) (by omega) (hN7.keep hBw).bsl (hA7.keep hBw).bsl (by have := HTL.out; omega) (by omega)
              rwa [show (headC (i + 1)).toArray = #[.int .i64 1, .int .i64 ((i : Int) + 1), .int .i64 1, .int .i64 ((i : Int) + 1), .slice none 0 0] by simp [headC]] at this
            go_cut [14, 15] (fun pv ev wx => ∃ g E er, pv = .pointer (some ⟨g, 0, none⟩) ∧ ev = .int .i64 er ∧ w7.heap.size ≤ g ∧ LV wx g E ∧ SealRes w7.heap.size wx K p bn bu bt ns cs ts T (i + 1) E er ∧ Only (fun k => k = bn ∨ k = bu ∨ k = bt) w7 wx)
            case first =>
              refine wp_region_El 15 (fun w' => Only (fun k => k = bn ∨ k = bu ∨ k = bt) w7 w') #[false, false, false, false, false, false, false, false, false, false, false, false, false, false, false, false] (by kernel_rfl) (by kernel_rfl) ?_
              have hS0 : Only (fun k => k = bn ∨ k = bu ∨ k = bt) w7 w7.drew := (Only.refl _ _).drew
              refine wpAnyE_take (i := 0) (v := ?v_ea0) rfl (by kernel_rfl) (by kernel_rfl) (by kernel_rfl) (by kernel_rfl) (by kernel_rfl) (fun _ _ _ h => h) (Or.inl ⟨by kernel_rfl, ?y_ea0⟩) (by assumption) ?r_ea0
              case y_ea0 => intro wE hSw; obtain ⟨q0, q1⟩ := hfa wE hSw; go_simp; try with_reducible rfl
              case' r_ea0 => ((try simp only [Act.put, List.getElem_toArray, List.getElem_cons_zero]); (try simp only [List.setIfInBounds_toArray]); (try simp only [List.set_cons_zero, List.set_cons_succ]))
              refine wpAnyE_take (i := 1) (v := ?v_ea1) rfl (by kernel_rfl) (by kernel_rfl) (by kernel_rfl) (by kernel_rfl) (by kernel_rfl) (fun _ _ _ h => h) (Or.inl ⟨by kernel_rfl, ?y_ea1⟩) (by assumption) ?r_ea1
              case y_ea1 => intro wE hSw; obtain ⟨q0, q1⟩ := hfa wE hSw; go_simp; try with_reducible rfl
              case' r_ea1 => ((try simp only [Act.put, List.getElem_toArray, List.getElem_cons_zero, List.getElem_cons_succ]); (try simp only [List.setIfInBounds_toArray]); (try simp only [List.set_cons_zero, List.set_cons_succ]))
              refine wpAnyE_take (i := 2) (v := ?v_ea2) rfl (by kernel_rfl) (by kernel_rfl) (by kernel_rfl) (by kernel_rfl) (by kernel_rfl) (fun _ _ _ h => h) (Or.inl ⟨by kernel_rfl, ?y_ea2⟩) (by assumption) ?r_ea2
              case y_ea2 => intro wE hSw; obtain ⟨q0, q1⟩ := hfa wE hSw; go_simp; try with_reducible rfl
              case' r_ea2 => ((try simp only [Act.put, List.getElem_toArray, List.getElem_cons_zero, List.getElem_cons_succ]); (try simp only [List.setIfInBounds_toArray]); (try simp only [List.set_cons_zero, List.set_cons_succ]))
              refine wpAnyE_take (i := 3) (v := ?v_ea3) rfl (by kernel_rfl) (by kernel_rfl) (by kernel_rfl) (by kernel_rfl) (by kernel_rfl) (fun _ _ _ h => h) (Or.inl ⟨by kernel_rfl, ?y_ea3⟩) (by assumption) ?r_ea3
              case y_ea3 => intro wE hSw; obtain ⟨q0, q1⟩ := hfa wE hSw; go_simp; try with_reducible rfl
              case' r_ea3 => ((try simp only [Act.put, List.getElem_toArray, List.getElem_cons_zero, List.getElem_cons_succ]); (try simp only [List.setIfInBounds_toArray]); (try simp only [List.set_cons_zero, List.set_cons_succ]))
              refine wpAnyE_take (i := 4) (v := ?v_ea4) rfl (by kernel_rfl) (by kernel_rfl) (by kernel_rfl) (by kernel_rfl) (by kernel_rfl) (fun _ _ _ h => h) (Or.inl ⟨by kernel_rfl, ?y_ea4⟩) (by assumption) ?r_ea4
              case y_ea4 => intro wE hSw; obtain ⟨q0, q1⟩ := hfa wE hSw; go_simp; try with_reducible rfl
              case' r_ea4 => ((try simp only [Act.put, List.getElem_toArray, List.getElem_cons_zero, List.getElem_cons_succ]); (try simp only [List.setIfInBounds_toArray]); (try simp only [List.set_cons_zero, List.set_cons_succ]))
              refine wpAnyE_take (i := 5) (v := ?v_ea5) rfl (by kernel_rfl) (by kernel_rfl) (by kernel_rfl) (by kernel_rfl) (by kernel_rfl) (fun _ _ _ h => h) (Or.inl ⟨by kernel_rfl, ?y_ea5⟩) (by assumption) ?r_ea5
              case y_ea5 => intro wE hSw; obtain ⟨q0, q1⟩ := hfa wE hSw; go_simp; try with_reducible rfl
              case' r_ea5 => ((try simp only [Act.put, List.getElem_toArray, List.getElem_cons_zero, List.getElem_cons_succ]); (try simp only [List.setIfInBounds_toArray]); (try simp only [List.set_cons_zero, List.set_cons_succ]))
              refine wpAnyE_take (i := 6) (v := ?v_ea6) rfl (by kernel_rfl) (by kernel_rfl) (by kernel_rfl) (by kernel_rfl) (by kernel_rfl) (fun _ _ _ h => h) (Or.inl ⟨by kernel_rfl, ?y_ea6⟩) (by assumption) ?r_ea6
              case y_ea6 => intro wE hSw; obtain ⟨q0, q1⟩ := hfa wE hSw; go_simp; try with_reducible rfl
              case' r_ea6 => ((try simp only [Act.put, List.getElem_toArray, List.getElem_cons_zero, List.getElem_cons_succ]); (try simp only [List.setIfInBounds_toArray]); (try simp only [List.set_cons_zero, List.set_cons_succ]))
              refine wpAnyE_take (i := 7) (v := ?v_ea7) rfl (by kernel_rfl) (by kernel_rfl) (by kernel_rfl) (by kernel_rfl) (by kernel_rfl) (fun _ _ _ h => h) (Or.inl ⟨by kernel_rfl, ?y_ea7⟩) (by assumption) ?r_ea7
              case y_ea7 => intro wE hSw; obtain ⟨q0, q1⟩ := hfa wE hSw; go_simp; try with_reducible rfl
              case' r_ea7 => ((try simp only [Act.put, List.getElem_toArray, List.getElem_cons_zero, List.getElem_cons_succ]); (try simp only [List.setIfInBounds_toArray]); (try simp only [List.set_cons_zero, List.set_cons_succ]))
              refine wpAnyE_take (i := 8) (v := ?v_ea8) rfl (by kernel_rfl) (by kernel_rfl) (by kernel_rfl) (by kernel_rfl) (by kernel_rfl) (fun _ _ _ h => h) (Or.inl ⟨by kernel_rfl, ?y_ea8⟩) (by assumption) ?r_ea8
              case y_ea8 => intro wE hSw; obtain ⟨q0, q1⟩ := hfa wE hSw; go_simp; try with_reducible rfl
              case' r_ea8 => ((try simp only [Act.put, List.getElem_toArray, List.getElem_cons_zero, List.getElem_cons_succ]); (try simp only [List.setIfInBounds_toArray]); (try simp only [List.set_cons_zero, List.set_cons_succ]))
              refine wpAnyE_ready (rs := [9, 13]) (by kernel_rfl) (by simp) ?_
              refine AllReadyE.cons rfl (fun KA hKA => ?_) (AllReadyE.cons rfl (fun KA hKA => ?_) AllReadyE.nil)
              · rw [if_pos (by kernel_rfl)]
                go_simp
                refine (hse w7.drew (Below.refl _ _).drew).mono ?_
                rintro e wa ⟨E, er, rfl, hRa, hOa⟩
                have hSa : Only (fun k => k = bn ∨ k = bu ∨ k = bt) w7 wa := hOa.of_drew
                have hHa := hHd.only hSa (hSB _ hbr5)
                try go_simp
                refine hKA _ _ (fun _ => hSa) ?_
                clear hKA KA
                refine wpAnyE_take (i := 10) (v := ?v_eb10) rfl (by kernel_rfl) (by kernel_rfl) (by kernel_rfl) (by kernel_rfl) (by kernel_rfl) (fun _ _ _ h => h) (Or.inl ⟨by kernel_rfl, ?y_eb10⟩) (by assumption) ?r_eb10
                case y_eb10 => intro wE hSw; skip; go_simp; try with_reducible rfl
                case' r_eb10 => ((try simp only [Act.put, List.getElem_toArray, List.getElem_cons_zero, List.getElem_cons_succ]); (try simp only [List.setIfInBounds_toArray]); (try simp only [List.set_cons_zero, List.set_cons_succ]))
                refine wpAnyE_take (i := 11) (v := ?v_eb11) rfl (by kernel_rfl) (by kernel_rfl) (by kernel_rfl) (by kernel_rfl) (by kernel_rfl) (fun _ _ _ h => h) (Or.inl ⟨by kernel_rfl, ?y_eb11⟩) (by assumption) ?r_eb11
                case y_eb11 => intro wE hSw; skip; go_simp; try with_reducible rfl
                case' r_eb11 => ((try simp only [Act.put, List.getElem_toArray, List.getElem_cons_zero, List.getElem_cons_succ]); (try simp only [List.setIfInBounds_toArray]); (try simp only [List.set_cons_zero, List.set_cons_succ]))
                refine wpAnyE_take (i := 12) (v := ?v_eb12) rfl (by kernel_rfl) (by kernel_rfl) (by kernel_rfl) (by kernel_rfl) (by kernel_rfl) (fun _ _ _ h => h) (Or.inl ⟨by kernel_rfl, ?y_eb12⟩) (by assumption) ?r_eb12
                case y_eb12 => intro wE hSw; skip; go_simp; try with_reducible rfl
                case' r_eb12 => ((try simp only [Act.put, List.getElem_toArray, List.getElem_cons_zero, List.getElem_cons_succ]); (try simp only [List.setIfInBounds_toArray]); (try simp only [List.set_cons_zero, List.set_cons_succ]))
                obtain ⟨wb, hal, hLb, hBb, hsb⟩ := bigE.madeV0 wa
                have hSb : Only (fun k => k = bn ∨ k = bu ∨ k = bt) w7 wb := hSa.trans (Only.of_below (S := (fun k => k = bn ∨ k = bu ∨ k = bt)) hBb) (fun _ _ h => h)
                refine wpAnyE_ready (rs := [13]) (by kernel_rfl) (by simp) ?_
                refine AllReadyE.cons rfl (fun KA hKA => ?_) AllReadyE.nil
                rw [if_pos (by kernel_rfl)]
                go_simp
                refine hKA _ _ (fun _ => hSb) ?_
                clear hKA KA
                obtain ⟨wd, hst, hLd, hOd, hsd⟩ := bigE.putV hLb rfl E (by rw [hRa.1, zE_len]) hRa.2.1
                have hgw : w7.heap.size ≤ wa.heap.size := hSa.size
                have hSd : Only (fun k => k = bn ∨ k = bu ∨ k = bt) w7 wd := hSb.trans (T := (· = wa.heap.size)) hOd (fun i hi e => by omega)
                have hRd := hRa.keep (hBb.trans (hOd.to_below (by omega) (fun k hk => by omega)))
                refine wpAnyE_ready (rs := [14]) (by kernel_rfl) (by simp) ?_
                refine AllReadyE.cons rfl (fun KA hKA => ?_) AllReadyE.nil
                rw [if_pos (by kernel_rfl)]
                go_simp
                refine hKA _ _ (fun _ => hSd) ?_
                clear hKA KA
                refine wpAnyE_ready (rs := [15]) (by kernel_rfl) (by simp) ?_
                refine AllReadyE.cons rfl (fun KA hKA => ?_) AllReadyE.nil
                rw [if_pos (by kernel_rfl)]
                go_simp
                refine hKA _ _ (fun h => Bool.noConfusion (show true = false from h)) ?_
                clear hKA KA
                refine wpAnyE_done (by kernel_rfl) ?_ _
                go_wp2_with fail
                go_meet
                exact ⟨wa.heap.size, E, er, rfl, rfl, hgw, hLd, hRd.mono (Nat.le_refl _), hSd⟩
              · rw [if_pos (by kernel_rfl)]
                obtain ⟨wb, hal, hLb, hBb, hsb⟩ := bigE.madeV0 w7.drew
                have hSb : Only (fun k => k = bn ∨ k = bu ∨ k = bt) w7 wb := (Only.of_below (S := (fun k => k = bn ∨ k = bu ∨ k = bt)) hBb).of_drew
                have hal : (alT 38).run Tryd.prog w7.drew = .ok (.pointer (some ⟨w7.heap.size, 0, none⟩)) wb := hal
                have hLb : LV wb w7.heap.size zE := hLb
                have hgb : wb.heap.size = w7.heap.size + 1 := hsb
                have hGB := Lib.hid hgb
                clear hgb hsb
                go_simp
                refine hKA _ _ (fun _ => hSb) ?_
                clear hKA KA
                refine wpAnyE_ready (rs := [9]) (by kernel_rfl) (by simp) ?_
                refine AllReadyE.cons rfl (fun KA hKA => ?_) AllReadyE.nil
                rw [if_pos (by kernel_rfl)]
                go_simp
                refine (hse wb (Below.of_drew hBb)).mono ?_
                rintro e wa ⟨E, er, rfl, hRa, hOa⟩
                have hSa : Only (fun k => k = bn ∨ k = bu ∨ k = bt) w7 wa := hSb.trans hOa (fun _ _ h => h)
                have hLa := hLb.only hOa (show ¬ (fun k => k = bn ∨ k = bu ∨ k = bt) w7.heap.size from (hSB _ hbr7))
                try go_simp
                refine hKA _ _ (fun _ => hSa) ?_
                clear hKA KA
                refine wpAnyE_take (i := 10) (v := ?v_ec10) rfl (by kernel_rfl) (by kernel_rfl) (by kernel_rfl) (by kernel_rfl) (by kernel_rfl) (fun _ _ _ h => h) (Or.inl ⟨by kernel_rfl, ?y_ec10⟩) (by assumption) ?r_ec10
                case y_ec10 => intro wE hSw; skip; go_simp; try with_reducible rfl
                case' r_ec10 => ((try simp only [Act.put, List.getElem_toArray, List.getElem_cons_zero, List.getElem_cons_succ]); (try simp only [List.setIfInBounds_toArray]); (try simp only [List.set_cons_zero, List.set_cons_succ]))
                refine wpAnyE_take (i := 11) (v := ?v_ec11) rfl (by kernel_rfl) (by kernel_rfl) (by kernel_rfl) (by kernel_rfl) (by kernel_rfl) (fun _ _ _ h => h) (Or.inl ⟨by kernel_rfl, ?y_ec11⟩) (by assumption) ?r_ec11
                case y_ec11 => intro wE hSw; skip; go_simp; try with_reducible rfl
                case' r_ec11 => ((try simp only [Act.put, List.getElem_toArray, List.getElem_cons_zero, List.getElem_cons_succ]); (try simp only [List.setIfInBounds_toArray]); (try simp only [List.set_cons_zero, List.set_cons_succ]))
                refine wpAnyE_take (i := 12) (v := ?v_ec12) rfl (by kernel_rfl) (by kernel_rfl) (by kernel_rfl) (by kernel_rfl) (by kernel_rfl) (fun _ _ _ h => h) (Or.inl ⟨by kernel_rfl, ?y_ec12⟩) (by assumption) ?r_ec12
                case y_ec12 => intro wE hSw; skip; go_simp; try with_reducible rfl
                case' r_ec12 => ((try simp only [Act.put, List.getElem_toArray, List.getElem_cons_zero, List.getElem_cons_succ]); (try simp only [List.setIfInBounds_toArray]); (try simp only [List.set_cons_zero, List.set_cons_succ]))
                obtain ⟨wd, hst, hLd, hOd, hsd⟩ := bigE.putV hLa rfl E (by rw [hRa.1, zE_len]) hRa.2.1
                have hSd : Only (fun k => k = bn ∨ k = bu ∨ k = bt) w7 wd := hSa.trans hOd (fun i hi e => by have e : i = w7.heap.size := e; omega)
                have hRd := (hRa.low hOd (fun k hk => by have hk : k = w7.heap.size := hk; have hgb := hGB.out; omega) (fun e => by have hz := HLV.out; have e : p = w7.heap.size := e; omega) (fun e => by have hz := HLV.out; have e : bn = w7.heap.size := e; omega) (fun e => by have hz := HLV.out; have e : bu = w7.heap.size := e; omega) (fun e => by have hz := HLV.out; have e : bt = w7.heap.size := e; omega)).mono (show w7.heap.size ≤ wb.heap.size from hBb.size)
                refine wpAnyE_ready (rs := [14]) (by kernel_rfl) (by simp) ?_
                refine AllReadyE.cons rfl (fun KA hKA => ?_) AllReadyE.nil
                rw [if_pos (by kernel_rfl)]
                go_simp
                refine hKA _ _ (fun _ => hSd) ?_
                clear hKA KA
                refine wpAnyE_ready (rs := [15]) (by kernel_rfl) (by simp) ?_
                refine AllReadyE.cons rfl (fun KA hKA => ?_) AllReadyE.nil
                rw [if_pos (by kernel_rfl)]
                go_simp
                refine hKA _ _ (fun h => Bool.noConfusion (show true = false from h)) ?_
                clear hKA KA
                refine wpAnyE_done (by kernel_rfl) ?_ _
                go_wp2_with fail
                go_meet
                exact ⟨w7.heap.size, E, er, rfl, rfl, Nat.le_refl _, hLd, hRd, hSd⟩
            case rest =>
              obtain ⟨g, E, er, rfl, rfl, hg, hLE, hR1, hO1⟩ := hcut
              obtain ⟨w8, hw8⟩ : ∃ w8, w8 = wc := ⟨_, rfl⟩
              subst hw8
              have hbr8 : Br ≤ w8.heap.size := Nat.le_trans hbr7 hO1.size
              have hBd8 : Below w.heap.size w w8 := hB07.trans (hO1.to_below hB07.size (fun k hk => by have hz := HS.out; rcases hk with e | e | e <;> omega))
              have hHd8 := hHd.only hO1 (hSB _ hbr5)
              have hM8 := hM7.only hO1 (fun k hk => hSB k (hM7.own_ge k hk))
              have hZ8 := hO7.only hO1 (fun k hk => hSB k (hO7.own_ge k hk))
              have hN1 : ∀ k, B2 ≤ k → ¬ (fun k => k = bn ∨ k = bu ∨ k = bt) k := fun k hk => by rintro (e | e | e) <;> (have hz := HS.out; omega)
              have hV8' := hV7'.only hO1 (hN1 _ (by have hz := HS.out; omega)) (hN1 _ (by have hz := HS.out; omega)) (hN1 _ (by have hz := HS.out; omega)) (hN1 _ (by have hz := HS.out; omega))
              clear hHd hBd hfa hse hV7 hV7' hN7 hM7 hA7 hO7 hH7 hB07 hO1 hN1
              have hfa : ∀ wE, Only (fun k => k = bn' ∨ k = bu' ∨ k = bt') w8 wE → (ldT 35 (.pointer (some ⟨w5.heap.size, 0, none⟩))).run Tryd.prog wE = .ok (.agg #[.int .i64 1, .int .i64 ((i : Int) + 1), .int .i64 1, .int .i64 ((i : Int) + 1), .slice none 0 0]) wE ∧ wE.cell? ⟨nb, noff + i * 3 + 2, none⟩ = some (.bool y.del) := fun wE hSw => by
                refine ⟨?_, ?_⟩
                · have := bigH.ldV (hHd8.only hSw (hSB2 _ hbr5)) rfl
                  rwa [show (headC (i + 1)).toArray = #[.int .i64 1, .int .i64 ((i : Int) + 1), .int .i64 1, .int .i64 ((i : Int) + 1), .slice none 0 0] by simp [headC]] at this
                · have hz := HLV.out
                  have hz2 := HS.out
                  have hz3 := hBd8.size
                  rw [hSw.cell (p := ⟨nb, noff + i * 3 + 2, none⟩) (by show nb < _; omega) (by rintro (e | e | e) <;> (have e : nb = _ := e; omega)), hBd8.cell (p := ⟨nb, noff + i * 3 + 2, none⟩) hnl2]
                  exact hn2
              have hse : ∀ wx, Below w8.heap.size w8 wx → Calls Tryd.prog 7 #[.pointer (some ⟨p', 0, none⟩), .slice a9 T.length c9, .agg #[.int .i64 1, .int .i64 ((i : Int) + 1), .int .i64 1, .int .i64 ((i : Int) + 1), .slice none 0 0], .slice (some ⟨w4.heap.size, 0, none⟩) m m, .bool y.del] wx fun e w' => ∃ E er, e = .returned (.tuple #[.agg E.toArray, .int .i64 er]) ∧ SealRes wx.heap.size w' K p' bn' bu' bt' (ns.map (xorL by_)) cs ts' (xorL by_ T) (i + 1) E er ∧ Only (fun k => k = bn' ∨ k = bu' ∨ k = bt') wx w' := fun wx hBw => by
                have := eseal_both (.slice a9 T.length c9) (.slice (some ⟨w4.heap.size, 0, none⟩) m m) (xorL by_ T) Z (i + 1) y.del wx (hV8'.keep hBw) hT' (fun h => by have := hcs _ h; omega) ⟨by omega, by omega⟩ (by omega) (by rw [List.length_map]; omega) (hM8.keep hBw).bsl (hZ8.keep hBw).bsl (by rw [xorL_len]; have := HTL.out; omega) (by omega)
                rwa [show (headC (i + 1)).toArray = #[.int .i64 1, .int .i64 ((i : Int) + 1), .int .i64 1, .int .i64 ((i : Int) + 1), .slice none 0 0] by simp [headC]] at this
              have hgw7 : w7.heap.size ≤ w8.heap.size := by have := hLE.lt; omega
              go_wp2_with fail
              go_cut [16, 17] (fun pv ev wx => ∃ g E er, pv = .pointer (some ⟨g, 0, none⟩) ∧ ev = .int .i64 er ∧ w8.heap.size ≤ g ∧ LV wx g E ∧ SealRes w8.heap.size wx K p' bn' bu' bt' (ns.map (xorL by_)) cs ts' (xorL by_ T) (i + 1) E er ∧ Only (fun k => k = bn' ∨ k = bu' ∨ k = bt') w8 wx)
              case first =>
                refine wp_region_El 15 (fun w' => Only (fun k => k = bn' ∨ k = bu' ∨ k = bt') w8 w') #[false, false, false, false, false, false, false, false, false, false, false, false, false, false, false, false] (by kernel_rfl) (by kernel_rfl) ?_
                have hS0 : Only (fun k => k = bn' ∨ k = bu' ∨ k = bt') w8 w8.drew := (Only.refl _ _).drew
                refine wpAnyE_take (i := 0) (v := ?v_fa0) rfl (by kernel_rfl) (by kernel_rfl) (by kernel_rfl) (by kernel_rfl) (by kernel_rfl) (fun _ _ _ h => h) (Or.inl ⟨by kernel_rfl, ?y_fa0⟩) (by assumption) ?r_fa0
                case y_fa0 => intro wE hSw; obtain ⟨q0, q1⟩ := hfa wE hSw; go_simp; try with_reducible rfl
                case' r_fa0 => ((try simp only [Act.put, List.getElem_toArray, List.getElem_cons_zero]); (try simp only [List.setIfInBounds_toArray]); (try simp only [List.set_cons_zero, List.set_cons_succ]))
                refine wpAnyE_take (i := 1) (v := ?v_fa1) rfl (by kernel_rfl) (by kernel_rfl) (by kernel_rfl) (by kernel_rfl) (by kernel_rfl) (fun _ _ _ h => h) (Or.inl ⟨by kernel_rfl, ?y_fa1⟩) (by assumption) ?r_fa1
                case y_fa1 => intro wE hSw; obtain ⟨q0, q1⟩ := hfa wE hSw; go_simp; try with_reducible rfl
                case' r_fa1 => ((try simp only [Act.put, List.getElem_toArray, List.getElem_cons_zero, List.getElem_cons_succ]); (try simp only [List.setIfInBounds_toArray]); (try simp only [List.set_cons_zero, List.set_cons_succ]))
                refine wpAnyE_take (i := 2) (v := ?v_fa2) rfl (by kernel_rfl) (by kernel_rfl) (by kernel_rfl) (by kernel_rfl) (by kernel_rfl) (fun _ _ _ h => h) (Or.inl ⟨by kernel_rfl, ?y_fa2⟩) (by assumption) ?r_fa2
                case y_fa2 => intro wE hSw; obtain ⟨q0, q1⟩ := hfa wE hSw; go_simp; try with_reducible rfl
                case' r_fa2 => ((try simp only [Act.put, List.getElem_toArray, List.getElem_cons_zero, List.getElem_cons_succ]); (try simp only [List.setIfInBounds_toArray]); (try simp only [List.set_cons_zero, List.set_cons_succ]))
                refine wpAnyE_take (i := 3) (v := ?v_fa3) rfl (by kernel_rfl) (by kernel_rfl) (by kernel_rfl) (by kernel_rfl) (by kernel_rfl) (fun _ _ _ h => h) (Or.inl ⟨by kernel_rfl, ?y_fa3⟩) (by assumption) ?r_fa3
                case y_fa3 => intro wE hSw; obtain ⟨q0, q1⟩ := hfa wE hSw; go_simp; try with_reducible rfl
                case' r_fa3 => ((try simp only [Act.put, List.getElem_toArray, List.getElem_cons_zero, List.getElem_cons_succ]); (try simp only [List.setIfInBounds_toArray]); (try simp only [List.set_cons_zero, List.set_cons_succ]))
                refine wpAnyE_take (i := 4) (v := ?v_fa4) rfl (by kernel_rfl) (by kernel_rfl) (by kernel_rfl) (by kernel_rfl) (by kernel_rfl) (fun _ _ _ h => h) (Or.inl ⟨by kernel_rfl, ?y_fa4⟩) (by assumption) ?r_fa4
                case y_fa4 => intro wE hSw; obtain ⟨q0, q1⟩ := hfa wE hSw; go_simp; try with_reducible rfl
                case' r_fa4 => ((try simp only [Act.put, List.getElem_toArray, List.getElem_cons_zero, List.getElem_cons_succ]); (try simp only [List.setIfInBounds_toArray]); (try simp only [List.set_cons_zero, List.set_cons_succ]))
                refine wpAnyE_take (i := 5) (v := ?v_fa5) rfl (by kernel_rfl) (by kernel_rfl) (by kernel_rfl) (by kernel_rfl) (by kernel_rfl) (fun _ _ _ h => h) (Or.inl ⟨by kernel_rfl, ?y_fa5⟩) (by assumption) ?r_fa5
                case y_fa5 => intro wE hSw; obtain ⟨q0, q1⟩ := hfa wE hSw; go_simp; try with_reducible rfl
                case' r_fa5 => ((try simp only [Act.put, List.getElem_toArray, List.getElem_cons_zero, List.getElem_cons_succ]); (try simp only [List.setIfInBounds_toArray]); (try simp only [List.set_cons_zero, List.set_cons_succ]))
                refine wpAnyE_take (i := 6) (v := ?v_fa6) rfl (by kernel_rfl) (by kernel_rfl) (by kernel_rfl) (by kernel_rfl) (by kernel_rfl) (fun _ _ _ h => h) (Or.inl ⟨by kernel_rfl, ?y_fa6⟩) (by assumption) ?r_fa6
                case y_fa6 => intro wE hSw; obtain ⟨q0, q1⟩ := hfa wE hSw; go_simp; try with_reducible rfl
                case' r_fa6 => ((try simp only [Act.put, List.getElem_toArray, List.getElem_cons_zero, List.getElem_cons_succ]); (try simp only [List.setIfInBounds_toArray]); (try simp only [List.set_cons_zero, List.set_cons_succ]))
                refine wpAnyE_take (i := 7) (v := ?v_fa7) rfl (by kernel_rfl) (by kernel_rfl) (by kernel_rfl) (by kernel_rfl) (by kernel_rfl) (fun _ _ _ h => h) (Or.inl ⟨by kernel_rfl, ?y_fa7⟩) (by assumption) ?r_fa7
                case y_fa7 => intro wE hSw; obtain ⟨q0, q1⟩ := hfa wE hSw; go_simp; try with_reducible rfl
                case' r_fa7 => ((try simp only [Act.put, List.getElem_toArray, List.getElem_cons_zero, List.getElem_cons_succ]); (try simp only [List.setIfInBounds_toArray]); (try simp only [List.set_cons_zero, List.set_cons_succ]))
                refine wpAnyE_take (i := 8) (v := ?v_fa8) rfl (by kernel_rfl) (by kernel_rfl) (by kernel_rfl) (by kernel_rfl) (by kernel_rfl) (fun _ _ _ h => h) (Or.inl ⟨by kernel_rfl, ?y_fa8⟩) (by assumption) ?r_fa8
                case y_fa8 => intro wE hSw; obtain ⟨q0, q1⟩ := hfa wE hSw; go_simp; try with_reducible rfl
                case' r_fa8 => ((try simp only [Act.put, List.getElem_toArray, List.getElem_cons_zero, List.getElem_cons_succ]); (try simp only [List.setIfInBounds_toArray]); (try simp only [List.set_cons_zero, List.set_cons_succ]))
                refine wpAnyE_ready (rs := [9, 13]) (by kernel_rfl) (by simp) ?_
                refine AllReadyE.cons rfl (fun KA hKA => ?_) (AllReadyE.cons rfl (fun KA hKA => ?_) AllReadyE.nil)
                · rw [if_pos (by kernel_rfl)]
                  go_simp
                  refine (hse w8.drew (Below.refl _ _).drew).mono ?_
                  rintro e wa ⟨E, er, rfl, hRa, hOa⟩
                  have hSa : Only (fun k => k = bn' ∨ k = bu' ∨ k = bt') w8 wa := hOa.of_drew
                  have hHa := hHd8.only hSa (hSB2 _ hbr5)
                  try go_simp
                  refine hKA _ _ (fun _ => hSa) ?_
                  clear hKA KA
                  refine wpAnyE_take (i := 10) (v := ?v_fb10) rfl (by kernel_rfl) (by kernel_rfl) (by kernel_rfl) (by kernel_rfl) (by kernel_rfl) (fun _ _ _ h => h) (Or.inl ⟨by kernel_rfl, ?y_fb10⟩) (by assumption) ?r_fb10
                  case y_fb10 => intro wE hSw; skip; go_simp; try with_reducible rfl
                  case' r_fb10 => ((try simp only [Act.put, List.getElem_toArray, List.getElem_cons_zero, List.getElem_cons_succ]); (try simp only [List.setIfInBounds_toArray]); (try simp only [List.set_cons_zero, List.set_cons_succ]))
                  refine wpAnyE_take (i := 11) (v := ?v_fb11) rfl (by kernel_rfl) (by kernel_rfl) (by kernel_rfl) (by kernel_rfl) (by kernel_rfl) (fun _ _ _ h => h) (Or.inl ⟨by kernel_rfl, ?y_fb11⟩) (by assumption) ?r_fb11
                  case y_fb11 => intro wE hSw; skip; go_simp; try with_reducible rfl
                  case' r_fb11 => ((try simp only [Act.put, List.getElem_toArray, List.getElem_cons_zero, List.getElem_cons_succ]); (try simp only [List.setIfInBounds_toArray]); (try simp only [List.set_cons_zero, List.set_cons_succ]))
                  refine wpAnyE_take (i := 12) (v := ?v_fb12) rfl (by kernel_rfl) (by kernel_rfl) (by kernel_rfl) (by kernel_rfl) (by kernel_rfl) (fun _ _ _ h => h) (Or.inl ⟨by kernel_rfl, ?y_fb12⟩) (by assumption) ?r_fb12
                  case y_fb12 => intro wE hSw; skip; go_simp; try with_reducible rfl
                  case' r_fb12 => ((try simp only [Act.put, List.getElem_toArray, List.getElem_cons_zero, List.getElem_cons_succ]); (try simp only [List.setIfInBounds_toArray]); (try simp only [List.set_cons_zero, List.set_cons_succ]))
                  obtain ⟨wb, hal, hLb, hBb, hsb⟩ := bigE.madeV0 wa
                  have hSb : Only (fun k => k = bn' ∨ k = bu' ∨ k = bt') w8 wb := hSa.trans (Only.of_below (S := (fun k => k = bn' ∨ k = bu' ∨ k = bt')) hBb) (fun _ _ h => h)
                  refine wpAnyE_ready (rs := [13]) (by kernel_rfl) (by simp) ?_
                  refine AllReadyE.cons rfl (fun KA hKA => ?_) AllReadyE.nil
                  rw [if_pos (by kernel_rfl)]
                  go_simp
                  refine hKA _ _ (fun _ => hSb) ?_
                  clear hKA KA
                  obtain ⟨wd, hst, hLd, hOd, hsd⟩ := bigE.putV hLb rfl E (by rw [hRa.1, zE_len]) hRa.2.1
                  have hgw : w8.heap.size ≤ wa.heap.size := hSa.size
                  have hSd : Only (fun k => k = bn' ∨ k = bu' ∨ k = bt') w8 wd := hSb.trans (T := (· = wa.heap.size)) hOd (fun i hi e => by omega)
                  have hRd := hRa.keep (hBb.trans (hOd.to_below (by omega) (fun k hk => by omega)))
                  refine wpAnyE_ready (rs := [14]) (by kernel_rfl) (by simp) ?_
                  refine AllReadyE.cons rfl (fun KA hKA => ?_) AllReadyE.nil
                  rw [if_pos (by kernel_rfl)]
                  go_simp
                  refine hKA _ _ (fun _ => hSd) ?_
                  clear hKA KA
                  refine wpAnyE_ready (rs := [15]) (by kernel_rfl) (by simp) ?_
                  refine AllReadyE.cons rfl (fun KA hKA => ?_) AllReadyE.nil
                  rw [if_pos (by kernel_rfl)]
                  go_simp
                  refine hKA _ _ (fun h => Bool.noConfusion (show true = false from h)) ?_
                  clear hKA KA
                  refine wpAnyE_done (by kernel_rfl) ?_ _
                  go_wp2_with fail
                  go_meet
                  exact ⟨wa.heap.size, E, er, rfl, rfl, hgw, hLd, hRd.mono (Nat.le_refl _), hSd⟩
                · rw [if_pos (by kernel_rfl)]
                  obtain ⟨wb, hal, hLb, hBb, hsb⟩ := bigE.madeV0 w8.drew
                  have hSb : Only (fun k => k = bn' ∨ k = bu' ∨ k = bt') w8 wb := (Only.of_below (S := (fun k => k = bn' ∨ k = bu' ∨ k = bt')) hBb).of_drew
                  have hal : (alT 38).run Tryd.prog w8.drew = .ok (.pointer (some ⟨w8.heap.size, 0, none⟩)) wb := hal
                  have hLb : LV wb w8.heap.size zE := hLb
                  have hgb : wb.heap.size = w8.heap.size + 1 := hsb
                  have hGB := Lib.hid hgb
                  clear hgb hsb
                  go_simp
                  refine hKA _ _ (fun _ => hSb) ?_
                  clear hKA KA
                  refine wpAnyE_ready (rs := [9]) (by kernel_rfl) (by simp) ?_
                  refine AllReadyE.cons rfl (fun KA hKA => ?_) AllReadyE.nil
                  rw [if_pos (by kernel_rfl)]
                  go_simp
                  refine (hse wb (Below.of_drew hBb)).mono ?_
                  rintro e wa ⟨E, er, rfl, hRa, hOa⟩
                  have hSa : Only (fun k => k = bn' ∨ k = bu' ∨ k = bt') w8 wa := hSb.trans hOa (fun _ _ h => h)
                  have hLa := hLb.only hOa (show ¬ (fun k => k = bn' ∨ k = bu' ∨ k = bt') w8.heap.size from (hSB2 _ hbr8))
                  try go_simp
                  refine hKA _ _ (fun _ => hSa) ?_
                  clear hKA KA
                  refine wpAnyE_take (i := 10) (v := ?v_fc10) rfl (by kernel_rfl) (by kernel_rfl) (by kernel_rfl) (by kernel_rfl) (by kernel_rfl) (fun _ _ _ h => h) (Or.inl ⟨by kernel_rfl, ?y_fc10⟩) (by assumption) ?r_fc10
                  case y_fc10 => intro wE hSw; skip; go_simp; try with_reducible rfl
                  case' r_fc10 => ((try simp only [Act.put, List.getElem_toArray, List.getElem_cons_zero, List.getElem_cons_succ]); (try simp only [List.setIfInBounds_toArray]); (try simp only [List.set_cons_zero, List.set_cons_succ]))
                  refine wpAnyE_take (i := 11) (v := ?v_fc11) rfl (by kernel_rfl) (by kernel_rfl) (by kernel_rfl) (by kernel_rfl) (by kernel_rfl) (fun _ _ _ h => h) (Or.inl ⟨by kernel_rfl, ?y_fc11⟩) (by assumption) ?r_fc11
                  case y_fc11 => intro wE hSw; skip; go_simp; try with_reducible rfl
                  case' r_fc11 => ((try simp only [Act.put, List.getElem_toArray, List.getElem_cons_zero, List.getElem_cons_succ]); (try simp only [List.setIfInBounds_toArray]); (try simp only [List.set_cons_zero, List.set_cons_succ]))
                  refine wpAnyE_take (i := 12) (v := ?v_fc12) rfl (by kernel_rfl) (by kernel_rfl) (by kernel_rfl) (by kernel_rfl) (by kernel_rfl) (fun _ _ _ h => h) (Or.inl ⟨by kernel_rfl, ?y_fc12⟩) (by assumption) ?r_fc12
                  case y_fc12 => intro wE hSw; skip; go_simp; try with_reducible rfl
                  case' r_fc12 => ((try simp only [Act.put, List.getElem_toArray, List.getElem_cons_zero, List.getElem_cons_succ]); (try simp only [List.setIfInBounds_toArray]); (try simp only [List.set_cons_zero, List.set_cons_succ]))
                  obtain ⟨wd, hst, hLd, hOd, hsd⟩ := bigE.putV hLa rfl E (by rw [hRa.1, zE_len]) hRa.2.1
                  have hSd : Only (fun k => k = bn' ∨ k = bu' ∨ k = bt') w8 wd := hSa.trans hOd (fun i hi e => by have e : i = w8.heap.size := e; omega)
                  have hRd := (hRa.low hOd (fun k hk => by have hk : k = w8.heap.size := hk; have hgb := hGB.out; omega) (fun e => by have hz := HLV.out; have e : p' = w8.heap.size := e; omega) (fun e => by have hz := HLV.out; have e : bn' = w8.heap.size := e; omega) (fun e => by have hz := HLV.out; have e : bu' = w8.heap.size := e; omega) (fun e => by have hz := HLV.out; have e : bt' = w8.heap.size := e; omega)).mono (show w8.heap.size ≤ wb.heap.size from hBb.size)
                  refine wpAnyE_ready (rs := [14]) (by kernel_rfl) (by simp) ?_
                  refine AllReadyE.cons rfl (fun KA hKA => ?_) AllReadyE.nil
                  rw [if_pos (by kernel_rfl)]
                  go_simp
                  refine hKA _ _ (fun _ => hSd) ?_
                  clear hKA KA
                  refine wpAnyE_ready (rs := [15]) (by kernel_rfl) (by simp) ?_
                  refine AllReadyE.cons rfl (fun KA hKA => ?_) AllReadyE.nil
                  rw [if_pos (by kernel_rfl)]
                  go_simp
                  refine hKA _ _ (fun h => Bool.noConfusion (show true = false from h)) ?_
                  clear hKA KA
                  refine wpAnyE_done (by kernel_rfl) ?_ _
                  go_wp2_with fail
                  go_meet
                  exact ⟨w8.heap.size, E, er, rfl, rfl, Nat.le_refl _, hLd, hRd, hSd⟩
              case rest =>
                obtain ⟨g2, E2, er2, rfl, rfl, hg2, hLE2, hR2, hO2⟩ := hcut
                obtain ⟨w9, hw9⟩ : ∃ w9, w9 = wc := ⟨_, rfl⟩
                subst hw9
                have hB9 : Below w.heap.size w w9 := hBd8.trans (hO2.to_below hBd8.size (fun k hk => by have hz := HS.out; have hz2 := HLV.out; rcases hk with e | e | e <;> omega))
                have hN2 : ∀ k, k < B2 → ¬ (fun k => k = bn' ∨ k = bu' ∨ k = bt') k := fun k hk => by rintro (e | e | e) <;> (have hz := HS.out; omega)
                have hR1 := hR1.low hO2 (fun k hk => by have hz := HLV.out; rcases hk with e | e | e <;> omega) (hN2 _ HS.out.1.1) (hN2 _ HS.out.1.2.1) (hN2 _ HS.out.1.2.2.1) (hN2 _ HS.out.1.2.2.2)
                have hLE := hLE.only hO2 (hSB2 _ (Nat.le_trans hbr7 hg))
                clear hfa hse hM8 hZ8 hV8' hHd8 hBd8 hO2 hN2 hSB hSB2 hg hg2 hgw7
                obtain ⟨-, -, hR1⟩ := hR1
                obtain ⟨-, -, hR2⟩ := hR2
                rcases hR1 with ⟨hT0, rfl, hVa⟩ | ⟨hT0, rfl, sv, ts1, rfl, hb1, -, hVa, hTa⟩
                · obtain ⟨rfl, hVb⟩ : er2 = 1 ∧ VaultAt w9 p' K bn' bu' bt' (ns.map (xorL by_)) (usedL 0 cs) ts' := by
                    rcases hR2 with ⟨_, e, h⟩ | ⟨h, _⟩
                    · exact ⟨e, h⟩
                    · exact (h (by rw [hT0]; rfl)).elim
                  clear hR2
                  go_wp2_with fail
                  go_roundw
                  case rel => exact ⟨i + 1, by omega, by omega, by go_num, ns, cs, ts, ts', hVa, hVb, hT, hT', fun c hc => Nat.le_succ_of_le (hcs c hc), Nat.le_succ_of_le hcl, Nat.le_succ_of_le hnl, hB9⟩
                  case measure => simp [intOf]; omega
                · obtain ⟨rfl, sv2, ts2, rfl, hb2, hVb, hTb⟩ : er2 = 0 ∧ ∃ sv ts2, E2 = envC (drawL K 0 (numN T ns) 24) (i + 1) sv ∧ Bsl w9 sv (drawL K 1 (cs.length + 1) (64 + 8)) ∧ VaultAt w9 p' K bn' bu' bt' ((addN T ns).map (xorL by_)) (usedL 0 (cs ++ [i + 1])) ts2 ∧ TsOk ts2 (cs ++ [i + 1]) := by
                    rcases hR2 with ⟨h, _, _⟩ | ⟨_, e, sv, ts2, e2, h1, _, h2, h3⟩
                    · exact (hT0 (List.eq_nil_of_map_eq_nil h)).elim
                    · rw [numN_map] at e2
                      rw [addN_map] at h2
                      exact ⟨e, sv, ts2, e2, h1, h2, h3⟩
                  clear hR2
                  have hkl := drawL_len K 0 (numN T ns) 24
                  have hsl := drawL_len K 1 (cs.length + 1) (64 + 8)
                  generalize drawL K 0 (numN T ns) 24 = key at *
                  generalize drawL K 1 (cs.length + 1) (64 + 8) = sd at *
                  have hld1 := bigE.ldV hLE (by rw [envC_len _ _ _ hkl, zE_len])
                  have hwr := write_any key (i + 1) sv sd w9 hkl ⟨by omega, by omega⟩ hb1 (by omega)
                  have HKL := Lib.hid hkl
                  have HSL := Lib.hid hsl
                  clear hkl hsl
                  go_wp2_with fail
                  refine hwr.mono ?_
                  rintro e w10 ⟨v18, rfl, hP, hBp⟩
                  clear hwr hld1
                  have hLE2 := hLE2.keep hBp
                  have hb2 := hb2.keep hBp
                  have hVa := hVa.keep hBp
                  have hVb := hVb.keep hBp
                  have hB10 := hB9.trans (hBp.mono hB9.size)
                  have hld2 := bigE.ldV hLE2 (by rw [envC_len _ _ _ HKL.out, zE_len])
                  have hwr := write_any key (i + 1) sv2 sd w10 HKL.out ⟨by omega, by omega⟩ hb2 (by have := HSL.out; omega)
                  clear hB9 hBp hLE
                  go_wp2_with fail
                  refine hwr.mono ?_
                  rintro e w11 ⟨v19, rfl, hQ, hBq⟩
                  have hP := hP.keep hBq
                  have hVa := hVa.keep hBq
                  have hVb := hVb.keep hBq
                  have hB11 := hB10.trans (hBq.mono hB10.size)
                  have s1 := run_str w11 hP.bsl
                  have s2 := run_str w11 hQ.bsl
                  clear hwr hld2 hB10 hBq hLE2
                  go_wp2_with fail
                  go_roundw
                  case rel =>
                    refine ⟨i + 1, by omega, by omega, by go_num, addN T ns, cs ++ [i + 1], ts1, ts2, hVa, hVb, hTa, hTb, fun c hc => ?_, ?_, ?_, hB11⟩
                    · rcases List.mem_append.1 hc with h | h
                      · exact Nat.le_succ_of_le (hcs c h)
                      · rw [List.mem_singleton] at h; omega
                    · rw [List.length_append, List.length_singleton]; omega
                    · have := addN_le T ns; omega
                  case measure => simp [intOf]; omega
    · by_cases h1 : (i : Int) < ys.length
      · have h2 : ¬ (i : Int) < 10 := by omega
        obtain ⟨ns, cs, ts, ts', hV, hV', -, -, -, -, -, hB⟩ := hR
        have hct := count_any wr hV
        have hct' := count_any wr hV'
        have HB := Lib.hid hB
        clear hV hV' hB
        go_wp2_with fail
        refine hct.mono ?_
        rintro e w4 ⟨rfl, rfl⟩
        go_wp2_with fail
        refine hct'.mono ?_
        rintro e w4 ⟨rfl, rfl⟩
        clear hct hct'
        go_wp2_with fail
        go_ret
        exact ⟨rfl, HB.out⟩
      · obtain ⟨ns, cs, ts, ts', hV, hV', -, -, -, -, -, hB⟩ := hR
        have hct := count_any wr hV
        have hct' := count_any wr hV'
        have HB := Lib.hid hB
        clear hV hV' hB
        go_wp2_with fail
        refine hct.mono ?_
        rintro e w4 ⟨rfl, rfl⟩
        go_wp2_with fail
        refine hct'.mono ?_
        rintro e w4 ⟨rfl, rfl⟩
        clear hct hct'
        go_wp2_with fail
        go_ret
        exact ⟨rfl, HB.out⟩
end Go.Proofs.YtembfelckbmgiaaDoor
