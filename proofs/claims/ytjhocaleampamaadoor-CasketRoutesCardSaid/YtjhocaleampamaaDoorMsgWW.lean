/- The walk of msg.Write. -/
import Derived.Test.YtjhocaleampamaaDoorMsgWX
import Derived.Test.YtjhocaleampamaaDoorMsgLaw2
namespace Go.Proofs.YtjhocaleampamaaDoor
open Go.RowKit
set_option linter.unusedVariables false
attribute [local go_sem ↓] ldT_M
theorem okM_eq (m : MD) : (!(!inK m.kind 0 7 || !inK m.frm 0 8 || !inK m.ask 0 4611686018427387904 || !restK m)) = okM m := by
  unfold okM headK
  cases hr : restK m with
  | false => simp
  | true =>
    have h1 := rest_kind hr
    have h2 : inK m.kind 0 7 = inK m.kind 1 7 := by unfold inK; exact decide_eq_decide.2 ⟨fun h => ⟨h1, h.2⟩, fun h => ⟨by omega, h.2⟩⟩
    rw [h2]; simp
theorem bytesM_len {w : World} {x : MV} (h : x.At w) : (bytesM x.m).length ≤ 1100000000 := by
  obtain ⟨hrow, _, _, _, hys, hmr, ⟨_, _, bset, bn, bd, br, brs⟩⟩ := id h
  have hK := h.K32
  have h1 := smallL_len x.m.kind
  have h2 := smallL_len x.m.frm
  have h3 := numL_len x.m.ask
  have h4 := smallL_len x.m.err
  have h5 := smallL_len x.m.hold
  have h6 := smallL_len x.m.level
  have hr : (rowB x.m.row).length ≤ 1000036 := RV.B_len hrow bset
  have hk : x.m.row.key.length = 32 := hK.1
  have ha : (manyB numL x.m.ats).length ≤ 8001 := by
    have h1 := flat_le numL x.m.ats 8 (fun x _ => numL_len x)
    have h2 := smallL_len x.m.ats.length
    unfold manyB; rw [List.length_append]; omega
  have hd : (manyB (fun v => v) x.m.digs).length ≤ 32001 := by
    have h1 := flat_le (fun v : List UInt8 => v) x.m.digs 32 (fun y hy => by rw [hK.2.1 y hy]; exact Nat.le_refl _)
    have h2 := smallL_len x.m.digs.length
    unfold manyB; rw [List.length_append]; omega
  have hR : (manyB rowB x.m.rows).length ≤ 1000036001 := by
    have h1 := flat_le rowB x.m.rows 1000036 (fun y hy => by
      rw [hmr] at hy
      obtain ⟨z, hz, rfl⟩ := List.mem_map.1 hy
      exact RV.B_len (hys z hz) (brs z.d (by rw [hmr]; exact List.mem_map_of_mem hz)))
    have h2 := smallL_len x.m.rows.length
    unfold manyB; rw [List.length_append]; omega
  unfold bytesM headB restB
  simp only [List.length_append]
  split
  · omega
  split
  · omega
  split
  · omega
  split
  · rw [List.length_append]; omega
  split
  · simp only [List.length_append]; omega
  split
  · rw [List.length_append]; omega
  · simp; omega
set_option maxRecDepth 100000 in
set_option maxHeartbeats 1000000 in
theorem mwrite_any (x : MV) (w : World) (hx : x.At w) :
    Calls Tryd.prog 8 #[.agg x.C.toArray] w fun e w' => ((okM x.m = true ∧ ∃ v, e = .returned (.tuple #[v, .int .i64 0]) ∧ OB w' w.heap.size v (bytesM x.m)) ∨ (okM x.m = false ∧ e = .returned (.tuple #[.slice none 0 0, .int .i64 2]))) ∧ Below w.heap.size w w' := by
  have hlen := MV.C_len hx
  have hone := MV.C_one hx
  have hu := Tryd.underlying45
  have hi : (Tryd.prog.info? 45).map (·.size) = some x.C.length := by rw [hlen, ← zM_len]; exact bigM.size
  have hbx : (w.alloc (.cells x.C.toArray 45)).rangeAt w.heap.size 0 x.C := rangeAt_alloc_new _ _ _
  have hA : Below w.heap.size w (w.alloc (.cells x.C.toArray 45)) := (Below.refl _ _).alloc (Nat.le_refl _) _
  have hsz : (w.alloc (.cells x.C.toArray 45)).heap.size = w.heap.size + 1 := by simp
  have hbl := bytesM_len hx
  have hok := okM_eq x.m
  obtain ⟨⟨c0, c1, c2, _, _, _⟩, _, _, _, _⟩ := MV.range hbx hx.1.1
  have hbig := hx.2.2.2.2.2.2
  obtain ⟨⟨bk, bf, ba, _, _, _⟩, _⟩ := hbig
  have hrest := fun (w' : World) (p : Nat) (l : List UInt8) (bad : Bool) (g : Option Nat) (B : Nat) => wrest_any x w w' (B := B) (p := p) (l := l) (bad := bad) (g := g) hx
  have hl1 := smallL_len x.m.kind
  have hl2 := smallL_len x.m.frm
  have hl3 := numL_len x.m.ask
  have hlB : bytesM x.m = smallL x.m.kind ++ smallL x.m.frm ++ numL x.m.ask ++ restB x.m := by unfold bytesM headB; simp only [List.append_assoc]
  generalize hcs : x.C = cs at *
  go_enter Tryd.func8, Tryd.ntmps8
  generalize hW1 : w.alloc (.cells cs.toArray 45) = W1 at *
  have hwr := WrAt.fresh W1 W1.heap.size 78 (Nat.le_refl _)
  have hA2 : Below W1.heap.size W1 (W1.alloc (.cells #[.slice none 0 0, .bool false, .bool false] 78)) := (Below.refl _ _).alloc (Nat.le_refl _) _
  have c0 := (hA2.cell (p := ⟨w.heap.size, 0, none⟩) (show w.heap.size < W1.heap.size by omega)).trans c0
  have c1 := (hA2.cell (p := ⟨w.heap.size, 1, none⟩) (show w.heap.size < W1.heap.size by omega)).trans c1
  have c2 := (hA2.cell (p := ⟨w.heap.size, 2, none⟩) (show w.heap.size < W1.heap.size by omega)).trans c2
  have hbx2 := rangeAt_keep hbx hA2
  have hpb : w.heap.size < W1.heap.size := by omega
  have hB2 : Below w.heap.size w (W1.alloc (.cells #[.slice none 0 0, .bool false, .bool false] 78)) := hA.trans (hA2.mono (by omega))
  have hb0 := hB2
  clear hA hA2 hsz hbx
  generalize hP : W1.heap.size = p at *
  go_wp2_with fail
  generalize hW2 : W1.alloc (.cells #[.slice none 0 0, .bool false, .bool false] 78) = W2 at *
  have hne : ∀ {w3 : World} {g : Option Nat}, WEff W2 w3 p none g → ¬ (w.heap.size = p ∨ g = some w.heap.size) := fun hE3 e => e.elim (fun e => by omega) (fun e => hE3.new.elim (fun e2 => by rw [e2] at e; cases e) (fun ⟨m, e2, e4⟩ => by have e5 : m = w.heap.size := Option.some.inj (e2.symm.trans e); have := hB2.size; have := hwr.lt; omega))
  have hlt2 : w.heap.size < W2.heap.size := by have := hwr.lt; omega
  refine (wsmall_any x.m.kind 7 W2 hwr bk.1 bk.2 (by omega) (by simp)).mono ?_
  rintro e w3 ⟨rfl, g3, hW3, hE3⟩
  rw [List.nil_append, Bool.false_or] at hW3
  have c1 := (hE3.only.cell (p := ⟨w.heap.size, 1, none⟩) hlt2 (hne (WEff.refl _ _ _))).trans c1
  have c2 := (hE3.only.cell (p := ⟨w.heap.size, 2, none⟩) hlt2 (hne (WEff.refl _ _ _))).trans c2
  have hbx3 := rangeAt_only hbx2 hE3.only (hne (WEff.refl _ _ _))
  clear c0 hbx2
  go_wp2_with fail
  refine (wsmall_any x.m.frm 8 w3 hW3 bf.1 bf.2 (by omega) (by omega)).mono ?_
  rintro e w4 ⟨rfl, g4, hW4, hE4⟩
  have c2 := (hE4.only.cell (p := ⟨w.heap.size, 2, none⟩) (show w.heap.size < w3.heap.size by have := hE3.only.size; omega) (hne hE3)).trans c2
  have hbx4 := rangeAt_only hbx3 hE4.only (hne hE3)
  have hE4 := hE3.trans hE4
  clear c1 hbx3 hW3 hE3
  go_wp2_with fail
  refine (wnum_any x.m.ask 4611686018427387904 w4 hW4 ba.1 ba.2 (by rw [List.length_append]; omega)).mono ?_
  rintro e w5 ⟨rfl, g5, hW5, hE5⟩
  have hbx5 := rangeAt_only hbx4 hE5.only (hne hE4)
  have hE5 := hE4.trans hE5
  have hld := run_ldT bigM w5 w.heap.size 0 cs hbx5 (by rw [hlen, zM_len])
  clear c2 hbx4 hW4 hE4
  go_wp2_with fail
  refine (hrest w5 p _ _ g5 p (hb0.trans ((hE5.below hwr).mono (by omega))) (by omega) hW5 (by simp only [List.length_append]; omega)).mono ?_
  rintro e w6 ⟨rfl, g6, hW6, hE6⟩
  rw [← hlB] at hW6
  have hE6 := hE5.trans hE6
  have hB6 := hb0.trans ((hE6.below hwr).mono (by omega))
  have hbq : (!inK x.m.kind 0 7 || !inK x.m.frm 0 8 || !inK x.m.ask 0 4611686018427387904 || !restK x.m) = !okM x.m := by rw [← hok, Bool.not_not]
  rw [hbq] at hW6
  obtain ⟨ob, hO, hc, hf, hb⟩ := hW6
  clear hrest hld hbx5 hW5 hE5 hne hE6 hbq
  have hmb := hB6.size
  go_wp2_with fail
  refine (odone_any w6 hO (by omega)).mono ?_
  rintro e w7 ⟨v7, rfl, hov, hB7⟩
  have hc7 := (hB7.cell (p := ⟨p, 2, none⟩) hO.pLt).trans hc
  have hB67 : Below w.heap.size w w7 := hB6.trans (hB7.mono hmb)
  cases hk : okM x.m with
  | true =>
    rw [hk] at hb hc7
    have hob : ob = false := by cases ob with
      | false => rfl
      | true => exact absurd (hb rfl) (by simp)
    subst hob
    have HF := Lib.hid (And.intro (hov.mono hmb) hB67)
    clear hov hO hc hf hb hB7 hB67 hB6
    go_wp2_with fail
    go_ret2
    exact ⟨.inl ⟨hk, v7, rfl, HF.out.1⟩, HF.out.2⟩
  | false =>
    rw [hk] at hc7
    have HF := Lib.hid hB67
    clear hov hO hc hf hb hB7 hB67 hB6
    cases ob with
    | true =>
      go_wp2_with fail
      go_ret2
      first | exact ⟨.inr ⟨hk, rfl⟩, HF.out⟩ | exact ⟨rfl, HF.out⟩
    | false =>
      go_wp2_with fail
      go_ret2
      first | exact ⟨.inr ⟨hk, rfl⟩, HF.out⟩ | exact ⟨rfl, HF.out⟩
end Go.Proofs.YtjhocaleampamaaDoor
