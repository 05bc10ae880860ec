/- The walk of the writer's rest, kind by kind. -/
import Derived.Test.YtjhocaleampamaaDoorMsgWN
namespace Go.Proofs.YtjhocaleampamaaDoor
open Go.RowKit
set_option linter.unusedVariables false
attribute [local go_sem ↓] ldT_R ldT_M alT_R stT_R
theorem RV.B_len {w : World} {y : RV} (h : y.At w) (hs : y.set.length ≤ 1000000) : (rowB y.d).length ≤ 1000036 := by
  unfold rowB bytesL RV.d
  have := h.1
  simp [putLowL_length, this]; omega
set_option maxRecDepth 100000 in
set_option maxHeartbeats 1000000 in
theorem wrest_1 (x : MV) (w0 w : World) {B p : Nat} {l : List UInt8} {bad : Bool} {g : Option Nat} (hx : x.At w0) (hb0 : Below w0.heap.size w0 w) (hB0 : w0.heap.size ≤ B) (h : WrAt w B p l bad g) (hl : l.length ≤ 100) (hk : x.m.kind = 1) :
    Calls Tryd.prog 26 #[.pointer (some ⟨p, 0, none⟩), .agg x.C.toArray] w fun e w' => e = .returned (.tuple #[]) ∧ ∃ g', WrAt w' B p (l ++ restB x.m) (bad || !restK x.m) g' ∧ WEff w w' p g g' := by
  have hR : restB x.m = rowB x.m.row ∧ restK x.m = setK x.m.row := by
    unfold restB restK
    exact ⟨by rw [if_pos (by omega)], by rw [if_pos (by omega)]⟩
  rw [hR.1, hR.2]
  clear hR
  have hlen := MV.C_len hx
  have hone := MV.C_one hx
  have hu := Tryd.underlying45
  have hi : (Tryd.prog.info? 45).map (·.size) = some x.C.length := by rw [hlen, ← zM_len]; exact bigM.size
  have hbx : (w.alloc (.cells x.C.toArray 45)).rangeAt w.heap.size 0 x.C := rangeAt_alloc_new _ _ _
  have hA : Below w.heap.size w (w.alloc (.cells x.C.toArray 45)) := (Below.refl _ _).alloc (Nat.le_refl _) _
  have hsz : (w.alloc (.cells x.C.toArray 45)).heap.size = w.heap.size + 1 := by simp
  obtain ⟨⟨c0, c1, c2, c3, c4, c5⟩, hrr, c39, c40, c41⟩ := MV.range hbx hx.1.1
  have hh := h.keep hA
  have hge := h.ge
  have hpl := h.lt
  have hb1 := hb0.trans (hA.mono hb0.size)
  have HX := Lib.hid hx
  obtain ⟨hrow, hats, hdigs, hrows, hys, hmr, ⟨bk, bf, ba, be, bh, bl⟩, bats, bset, bn, bd, br, brs⟩ := hx
  clear c1 c2 c5 hdigs bk bf ba bl
  generalize hcs : x.C = cs at *
  generalize hkd : x.m.kind = kd at *
  go_enter Tryd.func26, Tryd.ntmps26
  generalize hW1 : w.alloc (.cells cs.toArray 45) = W1 at *
  have hbp : ¬ (w.heap.size = p ∨ g = some w.heap.size) := fun e => e.elim (fun e => by omega) (fun e => by have := (hge.2 _ e).2; omega)
  have hng : ∀ (w3 : World) (g3 : Option Nat), WEff W1 w3 p g g3 → ¬ (w.heap.size = p ∨ g3 = some w.heap.size) := fun w3 g3 hE3 e => e.elim (fun e => hbp (.inl e)) (fun e => hE3.new.elim (fun e2 => hbp (.inr (e2.symm.trans e))) (fun ⟨m, e2, e4⟩ => by have e5 : m = w.heap.size := Option.some.inj (e2.symm.trans e); omega))
  have HA := Lib.hid hA
  have hrC : x.row.C.length = 33 := RV.C_len hrow
  have hldR := fun (w' : World) (hr : w'.rangeAt w.heap.size 6 x.row.C) => run_ldT bigR w' w.heap.size 6 x.row.C hr (by rw [hrC, zR_len])
  have c0b := c0
  subst hk
  clear hA
  have hld1 := hldR W1 hrr
  clear hldR c0b
  go_wp2_with fail
  refine (wrow_any x.row w0 W1 hrow hb1 hB0 hh bset (by omega)).mono ?_
  rintro e w2 ⟨rfl, g2, hW2, hE2⟩
  have HW := Lib.hid (And.intro hW2 hE2)
  clear hW2 hE2 hh hld1
  go_wp2_with fail
  go_end0
  exact ⟨rfl, _, HW.out.1, (WEff.of_below HA.out).trans HW.out.2⟩
set_option maxRecDepth 100000 in
set_option maxHeartbeats 1000000 in
theorem wrest_4 (x : MV) (w0 w : World) {B p : Nat} {l : List UInt8} {bad : Bool} {g : Option Nat} (hx : x.At w0) (hb0 : Below w0.heap.size w0 w) (hB0 : w0.heap.size ≤ B) (h : WrAt w B p l bad g) (hl : l.length ≤ 100) (hk : x.m.kind = 4) :
    Calls Tryd.prog 26 #[.pointer (some ⟨p, 0, none⟩), .agg x.C.toArray] w fun e w' => e = .returned (.tuple #[]) ∧ ∃ g', WrAt w' B p (l ++ restB x.m) (bad || !restK x.m) g' ∧ WEff w w' p g g' := by
  have hR : restB x.m = rowB x.m.row ∧ restK x.m = setK x.m.row := by
    unfold restB restK
    exact ⟨by rw [if_pos (by omega)], by rw [if_pos (by omega)]⟩
  rw [hR.1, hR.2]
  clear hR
  have hlen := MV.C_len hx
  have hone := MV.C_one hx
  have hu := Tryd.underlying45
  have hi : (Tryd.prog.info? 45).map (·.size) = some x.C.length := by rw [hlen, ← zM_len]; exact bigM.size
  have hbx : (w.alloc (.cells x.C.toArray 45)).rangeAt w.heap.size 0 x.C := rangeAt_alloc_new _ _ _
  have hA : Below w.heap.size w (w.alloc (.cells x.C.toArray 45)) := (Below.refl _ _).alloc (Nat.le_refl _) _
  have hsz : (w.alloc (.cells x.C.toArray 45)).heap.size = w.heap.size + 1 := by simp
  obtain ⟨⟨c0, c1, c2, c3, c4, c5⟩, hrr, c39, c40, c41⟩ := MV.range hbx hx.1.1
  have hh := h.keep hA
  have hge := h.ge
  have hpl := h.lt
  have hb1 := hb0.trans (hA.mono hb0.size)
  have HX := Lib.hid hx
  obtain ⟨hrow, hats, hdigs, hrows, hys, hmr, ⟨bk, bf, ba, be, bh, bl⟩, bats, bset, bn, bd, br, brs⟩ := hx
  clear c1 c2 c5 hdigs bk bf ba bl
  generalize hcs : x.C = cs at *
  generalize hkd : x.m.kind = kd at *
  go_enter Tryd.func26, Tryd.ntmps26
  generalize hW1 : w.alloc (.cells cs.toArray 45) = W1 at *
  have hbp : ¬ (w.heap.size = p ∨ g = some w.heap.size) := fun e => e.elim (fun e => by omega) (fun e => by have := (hge.2 _ e).2; omega)
  have hng : ∀ (w3 : World) (g3 : Option Nat), WEff W1 w3 p g g3 → ¬ (w.heap.size = p ∨ g3 = some w.heap.size) := fun w3 g3 hE3 e => e.elim (fun e => hbp (.inl e)) (fun e => hE3.new.elim (fun e2 => hbp (.inr (e2.symm.trans e))) (fun ⟨m, e2, e4⟩ => by have e5 : m = w.heap.size := Option.some.inj (e2.symm.trans e); omega))
  have HA := Lib.hid hA
  have hrC : x.row.C.length = 33 := RV.C_len hrow
  have hldR := fun (w' : World) (hr : w'.rangeAt w.heap.size 6 x.row.C) => run_ldT bigR w' w.heap.size 6 x.row.C hr (by rw [hrC, zR_len])
  have c0b := c0
  subst hk
  clear hA
  have hld1 := hldR W1 hrr
  clear hldR c0b
  go_wp2_with fail
  refine (wrow_any x.row w0 W1 hrow hb1 hB0 hh bset (by omega)).mono ?_
  rintro e w2 ⟨rfl, g2, hW2, hE2⟩
  have HW := Lib.hid (And.intro hW2 hE2)
  clear hW2 hE2 hh hld1
  go_wp2_with fail
  go_end0
  exact ⟨rfl, _, HW.out.1, (WEff.of_below HA.out).trans HW.out.2⟩
set_option maxRecDepth 100000 in
set_option maxHeartbeats 1000000 in
theorem wrest_2 (x : MV) (w0 w : World) {B p : Nat} {l : List UInt8} {bad : Bool} {g : Option Nat} (hx : x.At w0) (hb0 : Below w0.heap.size w0 w) (hB0 : w0.heap.size ≤ B) (h : WrAt w B p l bad g) (hl : l.length ≤ 100) (hk : x.m.kind = 2) :
    Calls Tryd.prog 26 #[.pointer (some ⟨p, 0, none⟩), .agg x.C.toArray] w fun e w' => e = .returned (.tuple #[]) ∧ ∃ g', WrAt w' B p (l ++ restB x.m) (bad || !restK x.m) g' ∧ WEff w w' p g g' := by
  have hR : restB x.m = smallL x.m.err ∧ restK x.m = inK x.m.err 0 255 := by
    unfold restB restK
    exact ⟨by rw [if_neg (by omega), if_pos hk], by rw [if_neg (by omega), if_pos hk]⟩
  rw [hR.1, hR.2]
  clear hR
  have hlen := MV.C_len hx
  have hone := MV.C_one hx
  have hu := Tryd.underlying45
  have hi : (Tryd.prog.info? 45).map (·.size) = some x.C.length := by rw [hlen, ← zM_len]; exact bigM.size
  have hbx : (w.alloc (.cells x.C.toArray 45)).rangeAt w.heap.size 0 x.C := rangeAt_alloc_new _ _ _
  have hA : Below w.heap.size w (w.alloc (.cells x.C.toArray 45)) := (Below.refl _ _).alloc (Nat.le_refl _) _
  have hsz : (w.alloc (.cells x.C.toArray 45)).heap.size = w.heap.size + 1 := by simp
  obtain ⟨⟨c0, c1, c2, c3, c4, c5⟩, hrr, c39, c40, c41⟩ := MV.range hbx hx.1.1
  have hh := h.keep hA
  have hge := h.ge
  have hpl := h.lt
  have hb1 := hb0.trans (hA.mono hb0.size)
  have HX := Lib.hid hx
  obtain ⟨hrow, hats, hdigs, hrows, hys, hmr, ⟨bk, bf, ba, be, bh, bl⟩, bats, bset, bn, bd, br, brs⟩ := hx
  clear c1 c2 c5 hdigs bk bf ba bl
  generalize hcs : x.C = cs at *
  generalize hkd : x.m.kind = kd at *
  go_enter Tryd.func26, Tryd.ntmps26
  generalize hW1 : w.alloc (.cells cs.toArray 45) = W1 at *
  have hbp : ¬ (w.heap.size = p ∨ g = some w.heap.size) := fun e => e.elim (fun e => by omega) (fun e => by have := (hge.2 _ e).2; omega)
  have hng : ∀ (w3 : World) (g3 : Option Nat), WEff W1 w3 p g g3 → ¬ (w.heap.size = p ∨ g3 = some w.heap.size) := fun w3 g3 hE3 e => e.elim (fun e => hbp (.inl e)) (fun e => hE3.new.elim (fun e2 => hbp (.inr (e2.symm.trans e))) (fun ⟨m, e2, e4⟩ => by have e5 : m = w.heap.size := Option.some.inj (e2.symm.trans e); omega))
  have HA := Lib.hid hA
  have hrC : x.row.C.length = 33 := RV.C_len hrow
  have hldR := fun (w' : World) (hr : w'.rangeAt w.heap.size 6 x.row.C) => run_ldT bigR w' w.heap.size 6 x.row.C hr (by rw [hrC, zR_len])
  subst hk
  clear hA hldR
  go_wp2_with fail
  refine (wsmall_any x.m.err 255 W1 hh be.1 be.2 (by omega) (by omega)).mono ?_
  rintro e w2 ⟨rfl, g2, hW2, hE2⟩
  have HW := Lib.hid (And.intro hW2 hE2)
  clear hW2 hE2 hh
  go_wp2_with fail
  go_end0
  exact ⟨rfl, _, HW.out.1, (WEff.of_below HA.out).trans HW.out.2⟩
set_option maxRecDepth 100000 in
set_option maxHeartbeats 1000000 in
theorem wrest_3 (x : MV) (w0 w : World) {B p : Nat} {l : List UInt8} {bad : Bool} {g : Option Nat} (hx : x.At w0) (hb0 : Below w0.heap.size w0 w) (hB0 : w0.heap.size ≤ B) (h : WrAt w B p l bad g) (hl : l.length ≤ 100) (hk : x.m.kind = 3) :
    Calls Tryd.prog 26 #[.pointer (some ⟨p, 0, none⟩), .agg x.C.toArray] w fun e w' => e = .returned (.tuple #[]) ∧ ∃ g', WrAt w' B p (l ++ restB x.m) (bad || !restK x.m) g' ∧ WEff w w' p g g' := by
  have hR : restB x.m = x.m.row.key ∧ restK x.m = true := by
    unfold restB restK
    exact ⟨by rw [if_neg (by omega), if_neg (by omega), if_pos hk], by rw [if_neg (by omega), if_neg (by omega), if_pos hk]⟩
  rw [hR.1, hR.2]
  clear hR
  have hlen := MV.C_len hx
  have hone := MV.C_one hx
  have hu := Tryd.underlying45
  have hi : (Tryd.prog.info? 45).map (·.size) = some x.C.length := by rw [hlen, ← zM_len]; exact bigM.size
  have hbx : (w.alloc (.cells x.C.toArray 45)).rangeAt w.heap.size 0 x.C := rangeAt_alloc_new _ _ _
  have hA : Below w.heap.size w (w.alloc (.cells x.C.toArray 45)) := (Below.refl _ _).alloc (Nat.le_refl _) _
  have hsz : (w.alloc (.cells x.C.toArray 45)).heap.size = w.heap.size + 1 := by simp
  obtain ⟨⟨c0, c1, c2, c3, c4, c5⟩, hrr, c39, c40, c41⟩ := MV.range hbx hx.1.1
  have hh := h.keep hA
  have hge := h.ge
  have hpl := h.lt
  have hb1 := hb0.trans (hA.mono hb0.size)
  have HX := Lib.hid hx
  obtain ⟨hrow, hats, hdigs, hrows, hys, hmr, ⟨bk, bf, ba, be, bh, bl⟩, bats, bset, bn, bd, br, brs⟩ := hx
  clear c1 c2 c5 hdigs bk bf ba bl
  generalize hcs : x.C = cs at *
  generalize hkd : x.m.kind = kd at *
  go_enter Tryd.func26, Tryd.ntmps26
  generalize hW1 : w.alloc (.cells cs.toArray 45) = W1 at *
  have hbp : ¬ (w.heap.size = p ∨ g = some w.heap.size) := fun e => e.elim (fun e => by omega) (fun e => by have := (hge.2 _ e).2; omega)
  have hng : ∀ (w3 : World) (g3 : Option Nat), WEff W1 w3 p g g3 → ¬ (w.heap.size = p ∨ g3 = some w.heap.size) := fun w3 g3 hE3 e => e.elim (fun e => hbp (.inl e)) (fun e => hE3.new.elim (fun e2 => hbp (.inr (e2.symm.trans e))) (fun ⟨m, e2, e4⟩ => by have e5 : m = w.heap.size := Option.some.inj (e2.symm.trans e); omega))
  have HA := Lib.hid hA
  have hrC : x.row.C.length = 33 := RV.C_len hrow
  have hldR := fun (w' : World) (hr : w'.rangeAt w.heap.size 6 x.row.C) => run_ldT bigR w' w.heap.size 6 x.row.C hr (by rw [hrC, zR_len])
  subst hk
  clear hA hldR
  have h32 : x.m.row.key.length = 32 := hrow.1
  have hkb : Bsl W1 (.slice (some ⟨w.heap.size, 6, none⟩) 32 32) x.m.row.key := Bsl.of_range (RV.range hrr hrow.1).1 h32.symm (by have h33 : x.row.key.length = 32 := h32; omega)
  obtain ⟨ob, hO, hc, hf, hb⟩ := hh
  go_wp2_with fail
  go_region_law (first
    | (go_simp; go_at_call 54; refine (ofixed_any _ x.m.row.key _ (OutAt.keep (w := W1) hO (Below.refl _ _).drew) (hkb.keep (w := W1) (Below.refl _ _).drew) (by omega)).mono ?_; rintro e w5 ⟨rfl, g5, hO5, hE5⟩))
  have hE5 := OutEff.of_drew hE5
  have hW5 := WrAt.out hc hf hO5 hE5 hb
  have hW6 : WrAt w5 B p (l ++ x.m.row.key) (bad || !true) g5 := by simpa using hW5
  have HW := Lib.hid (And.intro hW6 (WEff.of_out hE5))
  clear hO hc hf hb hO5 hE5 hW5 hW6 hkb
  go_wp2_with fail
  go_end0
  exact ⟨rfl, _, HW.out.1, (WEff.of_below HA.out).trans HW.out.2⟩
set_option maxRecDepth 100000 in
set_option maxHeartbeats 1000000 in
theorem wrest_5 (x : MV) (w0 w : World) {B p : Nat} {l : List UInt8} {bad : Bool} {g : Option Nat} (hx : x.At w0) (hb0 : Below w0.heap.size w0 w) (hB0 : w0.heap.size ≤ B) (h : WrAt w B p l bad g) (hl : l.length ≤ 100) (hk : x.m.kind = 5) :
    Calls Tryd.prog 26 #[.pointer (some ⟨p, 0, none⟩), .agg x.C.toArray] w fun e w' => e = .returned (.tuple #[]) ∧ ∃ g', WrAt w' B p (l ++ restB x.m) (bad || !restK x.m) g' ∧ WEff w w' p g g' := by
  have hR : restB x.m = smallL x.m.hold ++ rowB x.m.row ∧ restK x.m = (inK x.m.hold 0 7 && setK x.m.row) := by
    unfold restB restK
    exact ⟨by rw [if_neg (by omega), if_neg (by omega), if_neg (by omega), if_pos hk], by rw [if_neg (by omega), if_neg (by omega), if_neg (by omega), if_pos hk]⟩
  rw [hR.1, hR.2]
  clear hR
  have hlen := MV.C_len hx
  have hone := MV.C_one hx
  have hu := Tryd.underlying45
  have hi : (Tryd.prog.info? 45).map (·.size) = some x.C.length := by rw [hlen, ← zM_len]; exact bigM.size
  have hbx : (w.alloc (.cells x.C.toArray 45)).rangeAt w.heap.size 0 x.C := rangeAt_alloc_new _ _ _
  have hA : Below w.heap.size w (w.alloc (.cells x.C.toArray 45)) := (Below.refl _ _).alloc (Nat.le_refl _) _
  have hsz : (w.alloc (.cells x.C.toArray 45)).heap.size = w.heap.size + 1 := by simp
  obtain ⟨⟨c0, c1, c2, c3, c4, c5⟩, hrr, c39, c40, c41⟩ := MV.range hbx hx.1.1
  have hh := h.keep hA
  have hge := h.ge
  have hpl := h.lt
  have hb1 := hb0.trans (hA.mono hb0.size)
  have HX := Lib.hid hx
  obtain ⟨hrow, hats, hdigs, hrows, hys, hmr, ⟨bk, bf, ba, be, bh, bl⟩, bats, bset, bn, bd, br, brs⟩ := hx
  clear c1 c2 c5 hdigs bk bf ba bl
  generalize hcs : x.C = cs at *
  generalize hkd : x.m.kind = kd at *
  go_enter Tryd.func26, Tryd.ntmps26
  generalize hW1 : w.alloc (.cells cs.toArray 45) = W1 at *
  have hbp : ¬ (w.heap.size = p ∨ g = some w.heap.size) := fun e => e.elim (fun e => by omega) (fun e => by have := (hge.2 _ e).2; omega)
  have hng : ∀ (w3 : World) (g3 : Option Nat), WEff W1 w3 p g g3 → ¬ (w.heap.size = p ∨ g3 = some w.heap.size) := fun w3 g3 hE3 e => e.elim (fun e => hbp (.inl e)) (fun e => hE3.new.elim (fun e2 => hbp (.inr (e2.symm.trans e))) (fun ⟨m, e2, e4⟩ => by have e5 : m = w.heap.size := Option.some.inj (e2.symm.trans e); omega))
  have HA := Lib.hid hA
  have hrC : x.row.C.length = 33 := RV.C_len hrow
  have hldR := fun (w' : World) (hr : w'.rangeAt w.heap.size 6 x.row.C) => run_ldT bigR w' w.heap.size 6 x.row.C hr (by rw [hrC, zR_len])
  subst hk
  clear hA
  go_wp2_with fail
  refine (wsmall_any x.m.hold 7 W1 hh bh.1 bh.2 (by omega) (by omega)).mono ?_
  rintro e w2 ⟨rfl, g2, hW2, hE2⟩
  have hl2 : (l ++ smallL x.m.hold).length ≤ 200 := by have := smallL_len x.m.hold; rw [List.length_append]; omega
  have hr2 := rangeAt_only hrr hE2.only hbp
  have hld2 := hldR w2 hr2
  have hb2 := hb1.trans ((hE2.below hh).mono hB0)
  clear hldR
  go_wp2_with fail
  refine (wrow_any x.row w0 w2 hrow hb2 hB0 hW2 bset (by omega)).mono ?_
  rintro e w3 ⟨rfl, g3, hW3, hE3⟩
  have hW4 : WrAt w3 B p (l ++ (smallL x.m.hold ++ rowB x.m.row)) (bad || !(inK x.m.hold 0 7 && setK x.m.row)) g3 := by
    rw [← List.append_assoc, Bool.not_and, ← Bool.or_assoc]; exact hW3
  have HW := Lib.hid (And.intro hW4 (hE2.trans hE3))
  clear hW2 hE2 hW3 hE3 hW4 hh hld2 hrr hr2
  go_wp2_with fail
  go_end0
  exact ⟨rfl, _, HW.out.1, (WEff.of_below HA.out).trans HW.out.2⟩
set_option maxRecDepth 100000 in
set_option maxHeartbeats 1000000 in
theorem wrest_6 (x : MV) (w0 w : World) {B p : Nat} {l : List UInt8} {bad : Bool} {g : Option Nat} (hx : x.At w0) (hb0 : Below w0.heap.size w0 w) (hB0 : w0.heap.size ≤ B) (h : WrAt w B p l bad g) (hl : l.length ≤ 100) (hk : x.m.kind = 6) :
    Calls Tryd.prog 26 #[.pointer (some ⟨p, 0, none⟩), .agg x.C.toArray] w fun e w' => e = .returned (.tuple #[]) ∧ ∃ g', WrAt w' B p (l ++ restB x.m) (bad || !restK x.m) g' ∧ WEff w w' p g g' := by
  have hR : restB x.m = smallL x.m.level ++ (manyB numL x.m.ats ++ manyB (fun v => v) x.m.digs) ∧ restK x.m = (inK x.m.level 0 4 && listK x.m.ats && decide (x.m.digs.length ≤ 255)) := by
    unfold restB restK
    exact ⟨by rw [if_neg (by omega), if_neg (by omega), if_neg (by omega), if_neg (by omega), if_pos hk], by rw [if_neg (by omega), if_neg (by omega), if_neg (by omega), if_neg (by omega), if_pos hk]⟩
  rw [hR.1, hR.2]
  clear hR
  have hlen := MV.C_len hx
  have hone := MV.C_one hx
  have hu := Tryd.underlying45
  have hi : (Tryd.prog.info? 45).map (·.size) = some x.C.length := by rw [hlen, ← zM_len]; exact bigM.size
  have hbx : (w.alloc (.cells x.C.toArray 45)).rangeAt w.heap.size 0 x.C := rangeAt_alloc_new _ _ _
  have hA : Below w.heap.size w (w.alloc (.cells x.C.toArray 45)) := (Below.refl _ _).alloc (Nat.le_refl _) _
  have hsz : (w.alloc (.cells x.C.toArray 45)).heap.size = w.heap.size + 1 := by simp
  obtain ⟨⟨c0, c1, c2, c3, c4, c5⟩, hrr, c39, c40, c41⟩ := MV.range hbx hx.1.1
  have hh := h.keep hA
  have hge := h.ge
  have hpl := h.lt
  have hb1 := hb0.trans (hA.mono hb0.size)
  have HX := Lib.hid hx
  obtain ⟨hrow, hats, hdigs, hrows, hys, hmr, ⟨bk, bf, ba, be, bh, bl⟩, bats, bset, bn, bd, br, brs⟩ := hx
  clear c1 c2 c5 hdigs bk bf ba bl
  generalize hcs : x.C = cs at *
  generalize hkd : x.m.kind = kd at *
  go_enter Tryd.func26, Tryd.ntmps26
  generalize hW1 : w.alloc (.cells cs.toArray 45) = W1 at *
  have hbp : ¬ (w.heap.size = p ∨ g = some w.heap.size) := fun e => e.elim (fun e => by omega) (fun e => by have := (hge.2 _ e).2; omega)
  have hng : ∀ (w3 : World) (g3 : Option Nat), WEff W1 w3 p g g3 → ¬ (w.heap.size = p ∨ g3 = some w.heap.size) := fun w3 g3 hE3 e => e.elim (fun e => hbp (.inl e)) (fun e => hE3.new.elim (fun e2 => hbp (.inr (e2.symm.trans e))) (fun ⟨m, e2, e4⟩ => by have e5 : m = w.heap.size := Option.some.inj (e2.symm.trans e); omega))
  have HA := Lib.hid hA
  have hrC : x.row.C.length = 33 := RV.C_len hrow
  have hldR := fun (w' : World) (hr : w'.rangeAt w.heap.size 6 x.row.C) => run_ldT bigR w' w.heap.size 6 x.row.C hr (by rw [hrC, zR_len])
  subst hk
  clear hA hldR
  have hldM := run_ldT bigM W1 w.heap.size 0 cs hbx (by rw [hlen, zM_len])
  have hnd := wnodes_any x w0 W1 HX.out hb1 hB0 hh (by omega)
  rw [hcs] at hnd
  go_wp2_with fail
  refine hnd.mono ?_
  rintro e w2 ⟨rfl, g2, hW2, hE2⟩
  have HW := Lib.hid (And.intro hW2 hE2)
  clear hW2 hE2 hh hnd hldM
  go_wp2_with fail
  go_end0
  exact ⟨rfl, _, HW.out.1, (WEff.of_below HA.out).trans HW.out.2⟩
set_option maxRecDepth 100000 in
set_option maxHeartbeats 1000000 in
theorem wrest_7 (x : MV) (w0 w : World) {B p : Nat} {l : List UInt8} {bad : Bool} {g : Option Nat} (hx : x.At w0) (hb0 : Below w0.heap.size w0 w) (hB0 : w0.heap.size ≤ B) (h : WrAt w B p l bad g) (hl : l.length ≤ 100) (hk : x.m.kind = 7) :
    Calls Tryd.prog 26 #[.pointer (some ⟨p, 0, none⟩), .agg x.C.toArray] w fun e w' => e = .returned (.tuple #[]) ∧ ∃ g', WrAt w' B p (l ++ restB x.m) (bad || !restK x.m) g' ∧ WEff w w' p g g' := by
  have hR : restB x.m = manyB numL x.m.ats ++ manyB rowB x.m.rows ∧ restK x.m = (listK x.m.ats && decide (x.m.rows.length ≤ 255) && x.m.rows.all setK) := by
    unfold restB restK
    exact ⟨by rw [if_neg (by omega), if_neg (by omega), if_neg (by omega), if_neg (by omega), if_neg (by omega), if_pos hk], by rw [if_neg (by omega), if_neg (by omega), if_neg (by omega), if_neg (by omega), if_neg (by omega), if_pos hk]⟩
  rw [hR.1, hR.2]
  clear hR
  have hlen := MV.C_len hx
  have hone := MV.C_one hx
  have hu := Tryd.underlying45
  have hi : (Tryd.prog.info? 45).map (·.size) = some x.C.length := by rw [hlen, ← zM_len]; exact bigM.size
  have hbx : (w.alloc (.cells x.C.toArray 45)).rangeAt w.heap.size 0 x.C := rangeAt_alloc_new _ _ _
  have hA : Below w.heap.size w (w.alloc (.cells x.C.toArray 45)) := (Below.refl _ _).alloc (Nat.le_refl _) _
  have hsz : (w.alloc (.cells x.C.toArray 45)).heap.size = w.heap.size + 1 := by simp
  obtain ⟨⟨c0, c1, c2, c3, c4, c5⟩, hrr, c39, c40, c41⟩ := MV.range hbx hx.1.1
  have hh := h.keep hA
  have hge := h.ge
  have hpl := h.lt
  have hb1 := hb0.trans (hA.mono hb0.size)
  have HX := Lib.hid hx
  obtain ⟨hrow, hats, hdigs, hrows, hys, hmr, ⟨bk, bf, ba, be, bh, bl⟩, bats, bset, bn, bd, br, brs⟩ := hx
  clear c1 c2 c5 hdigs bk bf ba bl
  generalize hcs : x.C = cs at *
  generalize hkd : x.m.kind = kd at *
  go_enter Tryd.func26, Tryd.ntmps26
  generalize hW1 : w.alloc (.cells cs.toArray 45) = W1 at *
  have hbp : ¬ (w.heap.size = p ∨ g = some w.heap.size) := fun e => e.elim (fun e => by omega) (fun e => by have := (hge.2 _ e).2; omega)
  have hng : ∀ (w3 : World) (g3 : Option Nat), WEff W1 w3 p g g3 → ¬ (w.heap.size = p ∨ g3 = some w.heap.size) := fun w3 g3 hE3 e => e.elim (fun e => hbp (.inl e)) (fun e => hE3.new.elim (fun e2 => hbp (.inr (e2.symm.trans e))) (fun ⟨m, e2, e4⟩ => by have e5 : m = w.heap.size := Option.some.inj (e2.symm.trans e); omega))
  have HA := Lib.hid hA
  have hrC : x.row.C.length = 33 := RV.C_len hrow
  have hldR := fun (w' : World) (hr : w'.rangeAt w.heap.size 6 x.row.C) => run_ldT bigR w' w.heap.size 6 x.row.C hr (by rw [hrC, zR_len])
  subst hk
  clear hA hldR
  obtain ⟨ao, ac, hav⟩ := hats.shape
  rw [List.length_map] at hav
  obtain ⟨ro, rc, hrv, hrc⟩ := hrows.rec
  have hrl : x.m.rows.length = x.ys.length := by rw [hmr, List.length_map]
  rw [hav] at c39 hats
  rw [hrv] at c41
  go_wp2_with fail
  refine (wlist_any x.m.ats _ w0 W1 hats bats bn hb1 hB0 hh (by omega)).mono ?_
  rintro e w2 ⟨rfl, g2, hW2, hE2⟩
  have hl2 : (l ++ manyB numL x.m.ats).length ≤ 10000 := by
    have h1 := flat_le numL x.m.ats 8 (fun x _ => numL_len x)
    have h2 := smallL_len x.m.ats.length
    have h3 : (manyB numL x.m.ats).length ≤ 8001 := by unfold manyB; rw [List.length_append]; omega
    rw [List.length_append]; omega
  have c41 := (hE2.only.cell (p := ⟨w.heap.size, 41, none⟩) (show w.heap.size < W1.heap.size by omega) hbp).trans c41
  clear c39
  go_wp2_with fail
  refine (wsmall_any x.ys.length 255 w2 hW2 (by omega) (by omega) (by omega) (by omega)).mono ?_
  rintro e w3 ⟨rfl, g3, hW3, hE3⟩
  have c41 := (hE3.only.cell (p := ⟨w.heap.size, 41, none⟩) (show w.heap.size < w2.heap.size by have := hE2.only.size; omega) (hng _ _ hE2)).trans c41
  have hE3 := hE2.trans hE3
  clear hW2 hE2
  have hyl : (x.ys.length : Int) ≤ 1000 := by omega
  have HH := Lib.hid hh
  clear hh
  go_wp2_with fail
  generalize hL0 : l ++ manyB numL x.m.ats = l0 at *
  have HL0 := Lib.hid hL0
  clear hL0
  go_loopw [62] (fun j wr => ∃ k : Nat, k ≤ x.ys.length ∧ j = .int .i64 k ∧ ∃ gk, WrAt wr B p (l0 ++ smallL x.ys.length ++ ((x.ys.take k).map fun y => rowB y.d).flatten) (((bad || !listK x.m.ats) || !inK x.ys.length 0 255) || !((x.ys.take k).all fun y => setK y.d)) gk ∧ WEff W1 wr p g gk) (fun j _ => x.ys.length - (intOf j).toNat)
  case atStart => exact ⟨0, Nat.zero_le _, rfl, g3, by simpa using hW3, hE3⟩
  case round =>
    obtain ⟨k, hk, rfl, gk, hWk, hEk⟩ := hrel
    clear hW3 hE3 c41
    by_cases hlt : k < x.ys.length
    · have hlt2 : (k : Int) < x.ys.length := by omega
      have hk0 : (0 : Int) ≤ k := Int.natCast_nonneg _
      obtain ⟨gd, od, rfl, hcl⟩ := hrc (fun e => by rw [e] at hlt; simp at hlt)
      have hBk := hEk.below HH.out
      have hrng := rangeAt_keep (hcl k hlt) (hb1.trans (hBk.mono hB0))
      have hf := flat_take (fun y : RV => rowB y.d) x.ys k hlt
      have hal2 := all_take (fun y : RV => setK y.d) x.ys k hlt
      have hyA := hys _ (List.getElem_mem hlt)
      have hyS : x.ys[k].set.length ≤ 1000000 := brs x.ys[k].d (by rw [hmr]; exact List.mem_map_of_mem (List.getElem_mem hlt))
      have hlk : (l0 ++ smallL x.ys.length ++ ((x.ys.take k).map fun y => rowB y.d).flatten).length ≤ 1100000000 := by
        have h1 := flat_le (fun y : RV => rowB y.d) (x.ys.take k) 1000036 (fun y hy => RV.B_len (hys y (List.mem_of_mem_take hy)) (brs y.d (by rw [hmr]; exact List.mem_map_of_mem (List.mem_of_mem_take hy))))
        rw [List.length_take] at h1
        have h2 := smallL_len x.ys.length
        rw [List.length_append, List.length_append]; omega
      generalize x.ys[k] = y at *
      have hyC : y.C.length = 33 := RV.C_len hyA
      have hyO := RV.C_one hyA
      have hld := run_ldT bigR wr gd (od + k * 33) y.C hrng (by rw [hyC, zR_len])
      have hal := run_alT bigR wr
      have hst := run_stT bigR (wr.alloc (.cells zR.toArray 41)) wr.heap.size 0 y.C (by have := there_new wr zR 41; rw [zR_len] at this; rw [hyC]; exact this) (by rw [hyC, zR_len]) hyO
      obtain ⟨hv1, hv2, hv3, _⟩ := var_new wr zR y.C 41 (by rw [hyC, zR_len])
      have HF := Lib.hid (And.intro hf hal2)
      clear hf hal2 hcl hrc hrng
      go_wp2_with fail
      have hWn := hWk.keep hv2
      have hEn : WEff W1 ((wr.alloc (.cells zR.toArray 41)).setCells wr.heap.size 0 y.C) p g gk := hEk.trans (WEff.of_below hv2)
      have hld2 := run_ldT bigR _ wr.heap.size 0 y.C hv1 (by rw [hyC, zR_len])
      have hbn := hb1.trans ((hBk.trans (hv2.mono (by have := hWk.ge.1; have := hWk.lt; omega))).mono hB0)
      generalize (wr.alloc (.cells zR.toArray 41)).setCells wr.heap.size 0 y.C = wn at *
      clear hld hal hst hv1 hv2 hv3 hWk hEk
      go_wp2_with fail
      rw [hld2]
      go_wp2_with fail
      refine (wrow_any y w0 wn hyA hbn hB0 hWn hyS (by omega)).mono ?_
      rintro e w5 ⟨rfl, g5, hW5, hE5⟩
      have HW := Lib.hid (And.intro hW5 (hEn.trans hE5))
      clear hW5 hE5 hWn hEn hld2
      go_wp2_with fail
      go_roundw
      case rel =>
        obtain ⟨hf, ha⟩ := HF.out
        refine ⟨k + 1, hlt, by go_num, g5, ?_, HW.out.2⟩
        rw [hf, ha, ← List.append_assoc, Bool.not_and, ← Bool.or_assoc]
        exact HW.out.1
      case measure => simp [intOf]; omega
    · have hke : k = x.ys.length := by omega
      subst hke
      rw [List.take_of_length_le (Nat.le_refl _)] at hWk
      have hKd : inK (x.ys.length : Int) 0 255 = decide (x.m.rows.length ≤ 255) := by unfold inK; exact decide_eq_decide.2 ⟨fun h => by omega, fun h => by omega⟩
      have hall : x.m.rows.all setK = x.ys.all fun y => setK y.d := by rw [hmr, List.all_map]; rfl
      have hmap : x.m.rows.map rowB = x.ys.map fun y => rowB y.d := by rw [hmr, List.map_map]; rfl
      have hbq : (bad || !listK x.m.ats || !inK x.ys.length 0 255 || !(x.ys.all fun y => setK y.d)) = (bad || !(listK x.m.ats && decide (x.m.rows.length ≤ 255) && x.m.rows.all setK)) := by rw [hKd, hall, Bool.not_and, Bool.not_and, Bool.or_assoc, Bool.or_assoc, Bool.or_assoc]
      rw [hbq, ← HL0.out, show l ++ manyB numL x.m.ats ++ smallL x.ys.length ++ (x.ys.map fun y => rowB y.d).flatten = l ++ (manyB numL x.m.ats ++ manyB rowB x.m.rows) by unfold manyB; rw [hmap, hrl]; simp only [List.append_assoc]] at hWk
      have HW := Lib.hid (And.intro hWk hEk)
      clear hWk hEk hrc hKd hbq hall hmap
      go_wp2_with fail
      go_end0
      exact ⟨rfl, gk, HW.out.1, (WEff.of_below HA.out).trans HW.out.2⟩
set_option maxRecDepth 100000 in
set_option maxHeartbeats 1000000 in
theorem wrest_0 (x : MV) (w0 w : World) {B p : Nat} {l : List UInt8} {bad : Bool} {g : Option Nat} (hx : x.At w0) (hb0 : Below w0.heap.size w0 w) (hB0 : w0.heap.size ≤ B) (h : WrAt w B p l bad g) (hl : l.length ≤ 100) (hk : x.m.kind ≠ 1 ∧ x.m.kind ≠ 2 ∧ x.m.kind ≠ 3 ∧ x.m.kind ≠ 4 ∧ x.m.kind ≠ 5 ∧ x.m.kind ≠ 6 ∧ x.m.kind ≠ 7) :
    Calls Tryd.prog 26 #[.pointer (some ⟨p, 0, none⟩), .agg x.C.toArray] w fun e w' => e = .returned (.tuple #[]) ∧ ∃ g', WrAt w' B p (l ++ restB x.m) (bad || !restK x.m) g' ∧ WEff w w' p g g' := by
  have hR : restB x.m = [] ∧ restK x.m = false := by
    unfold restB restK
    exact ⟨by rw [if_neg (by omega), if_neg (by omega), if_neg (by omega), if_neg (by omega), if_neg (by omega), if_neg (by omega)], by rw [if_neg (by omega), if_neg (by omega), if_neg (by omega), if_neg (by omega), if_neg (by omega), if_neg (by omega)]⟩
  rw [hR.1, hR.2]
  clear hR
  have hlen := MV.C_len hx
  have hone := MV.C_one hx
  have hu := Tryd.underlying45
  have hi : (Tryd.prog.info? 45).map (·.size) = some x.C.length := by rw [hlen, ← zM_len]; exact bigM.size
  have hbx : (w.alloc (.cells x.C.toArray 45)).rangeAt w.heap.size 0 x.C := rangeAt_alloc_new _ _ _
  have hA : Below w.heap.size w (w.alloc (.cells x.C.toArray 45)) := (Below.refl _ _).alloc (Nat.le_refl _) _
  have hsz : (w.alloc (.cells x.C.toArray 45)).heap.size = w.heap.size + 1 := by simp
  obtain ⟨⟨c0, c1, c2, c3, c4, c5⟩, hrr, c39, c40, c41⟩ := MV.range hbx hx.1.1
  have hh := h.keep hA
  have hge := h.ge
  have hpl := h.lt
  have hb1 := hb0.trans (hA.mono hb0.size)
  have HX := Lib.hid hx
  obtain ⟨hrow, hats, hdigs, hrows, hys, hmr, ⟨bk, bf, ba, be, bh, bl⟩, bats, bset, bn, bd, br, brs⟩ := hx
  clear c1 c2 c5 hdigs bk bf ba bl
  generalize hcs : x.C = cs at *
  generalize hkd : x.m.kind = kd at *
  go_enter Tryd.func26, Tryd.ntmps26
  generalize hW1 : w.alloc (.cells cs.toArray 45) = W1 at *
  have hbp : ¬ (w.heap.size = p ∨ g = some w.heap.size) := fun e => e.elim (fun e => by omega) (fun e => by have := (hge.2 _ e).2; omega)
  have hng : ∀ (w3 : World) (g3 : Option Nat), WEff W1 w3 p g g3 → ¬ (w.heap.size = p ∨ g3 = some w.heap.size) := fun w3 g3 hE3 e => e.elim (fun e => hbp (.inl e)) (fun e => hE3.new.elim (fun e2 => hbp (.inr (e2.symm.trans e))) (fun ⟨m, e2, e4⟩ => by have e5 : m = w.heap.size := Option.some.inj (e2.symm.trans e); omega))
  have HA := Lib.hid hA
  have hrC : x.row.C.length = 33 := RV.C_len hrow
  have hldR := fun (w' : World) (hr : w'.rangeAt w.heap.size 6 x.row.C) => run_ldT bigR w' w.heap.size 6 x.row.C hr (by rw [hrC, zR_len])
  obtain ⟨k1, k2, k3, k4, k5, k6, k7⟩ := hk
  clear hA hldR
  have hsb := hh.setBad (b := true) (by simp)
  have hW2 : WrAt (W1.setCell ⟨p, 2, none⟩ (.bool true)) B p (l ++ []) (bad || !false) g := by rw [List.append_nil]; simpa using hsb.1
  have HW := Lib.hid (And.intro hW2 hsb.2)
  obtain ⟨ob, _, hc, hf, _⟩ := hh
  clear hW2 hsb
  go_wp2_with fail
  go_end0
  exact ⟨rfl, _, HW.out.1, (WEff.of_below HA.out).trans HW.out.2⟩
theorem wrest_any (x : MV) (w0 w : World) {B p : Nat} {l : List UInt8} {bad : Bool} {g : Option Nat} (hx : x.At w0) (hb0 : Below w0.heap.size w0 w) (hB0 : w0.heap.size ≤ B) (h : WrAt w B p l bad g) (hl : l.length ≤ 100) :
    Calls Tryd.prog 26 #[.pointer (some ⟨p, 0, none⟩), .agg x.C.toArray] w fun e w' => e = .returned (.tuple #[]) ∧ ∃ g', WrAt w' B p (l ++ restB x.m) (bad || !restK x.m) g' ∧ WEff w w' p g g' := by
  by_cases h1 : x.m.kind = 1
  · exact wrest_1 x w0 w hx hb0 hB0 h hl h1
  by_cases h2 : x.m.kind = 2
  · exact wrest_2 x w0 w hx hb0 hB0 h hl h2
  by_cases h3 : x.m.kind = 3
  · exact wrest_3 x w0 w hx hb0 hB0 h hl h3
  by_cases h4 : x.m.kind = 4
  · exact wrest_4 x w0 w hx hb0 hB0 h hl h4
  by_cases h5 : x.m.kind = 5
  · exact wrest_5 x w0 w hx hb0 hB0 h hl h5
  by_cases h6 : x.m.kind = 6
  · exact wrest_6 x w0 w hx hb0 hB0 h hl h6
  by_cases h7 : x.m.kind = 7
  · exact wrest_7 x w0 w hx hb0 hB0 h hl h7
  exact wrest_0 x w0 w hx hb0 hB0 h hl ⟨h1, h2, h3, h4, h5, h6, h7⟩
end Go.Proofs.YtjhocaleampamaaDoor
