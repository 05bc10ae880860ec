/- The walk of the document's Write. -/
import Derived.Test.YtanghmpphlmpkaaMsgFW
import Derived.Test.YtanghmpphlmpkaaMsgLaw2
namespace Go.Proofs.Ytanghmpphlmpkaa
open Go.RowKit
set_option linter.unusedVariables false
attribute [local go_sem ↓] ldT_F
theorem rows_len {l : List RwD} (h : ∀ r ∈ l, r.key.length = 32) (h2 : ∀ r ∈ l, r.set.length ≤ 1000000) : ∀ r ∈ l, (rowB r).length ≤ 1000036 := by
  intro r hr
  have h1 := h r hr
  have h3 := h2 r hr
  unfold rowB
  rw [List.length_append, bytesL_len, h1]; omega
/-- What the document's Write tells. -/
def FOut (m : MD) : Value := .tuple #[.string ⟨(if okM m then bytesM m else []).toArray⟩, .bool (okM m)]
theorem FOut.bad {m : MD} (h : okM m = false) : FOut m = .tuple #[.string ⟨#[]⟩, .bool false] := by unfold FOut; rw [h]; rfl
theorem FOut.good {m : MD} {s r : List UInt8} (h : headK m = true) (h2 : restK m = true) (hs : headB m = s) (hr : restB m = r) : FOut m = .tuple #[.string ⟨(s ++ r).toArray⟩, .bool true] := by
  have : okM m = true := by unfold okM; rw [h, h2]; rfl
  unfold FOut
  rw [this, ← hs, ← hr]; rfl
theorem FOut.no {m : MD} (h : headK m = false) : FOut m = .tuple #[.string ⟨#[]⟩, .bool false] := FOut.bad (by unfold okM; rw [h]; rfl)
theorem FOut.not {m : MD} (h : restK m = false) : FOut m = .tuple #[.string ⟨#[]⟩, .bool false] := FOut.bad (by unfold okM; rw [h, Bool.and_false])
theorem cat_any (a b : List UInt8) (h : a.length + b.length ≤ 9223372036854775807) : ∃ t : List UInt8, Hid (t = a ++ b) ∧ (∀ w : World, (Op.stringOp .add ⟨a.toArray⟩ ⟨b.toArray⟩).run Try.prog w = .ok (.string ⟨t.toArray⟩) w) ∧ t.length = a.length + b.length :=
  ⟨a ++ b, Lib.hid rfl, run_cat a b h, List.length_append⟩
set_option maxRecDepth 100000 in
set_option maxHeartbeats 4000000 in
theorem fwrite_any (x : FV) (w : World) (hx : x.At w) (hbig : x.m.Big) (hK : x.m.K32) :
    Calls Try.prog 9 #[.agg x.C.toArray] w fun e w' => e = .returned (FOut x.m) ∧ Below w.heap.size w w' := by
  obtain ⟨⟨k, f, a, er, hd, lv, ⟨key, set⟩, ats, digs, rows⟩, av, dv, rv⟩ := x
  obtain ⟨xa, xd, xr, _, _⟩ := hx
  obtain ⟨⟨bk, bf, ba, be, bh, bl⟩, bats, bset, bna, bnd, bnr, brs⟩ := hbig
  obtain ⟨k1, k2, k3⟩ := hK
  dsimp only at xa xd xr bk bf ba be bh bl bats bset bna bnd bnr brs k1 k2 k3
  have hlist := fun w' (hb : Below w.heap.size w w') => flist_any ats av w' (xa.keep hb) bats bna
  obtain ⟨ao, ac, rfl, xaa⟩ := xa.rec
  obtain ⟨do_, dc, rfl, xdd⟩ := xd.rec
  obtain ⟨ro, rc, rfl, xrr⟩ := xr.rec
  clear xa xd xr xaa
  unfold FV.C
  dsimp only
  have bx := rangeAt_alloc_new w [.int .i64 k, .int .i64 f, .int .i64 a, .int .i64 er, .int .i64 hd, .int .i64 lv, .string ⟨key.toArray⟩, .string ⟨set.toArray⟩, .slice ao ats.length ac, .slice do_ digs.length dc, .slice ro rows.length rc] 28
  have hA1 : Below w.heap.size w (w.alloc (.cells [Value.int .i64 k, .int .i64 f, .int .i64 a, .int .i64 er, .int .i64 hd, .int .i64 lv, .string ⟨key.toArray⟩, .string ⟨set.toArray⟩, .slice ao ats.length ac, .slice do_ digs.length dc, .slice ro rows.length rc].toArray 28)) := (Below.refl _ _).alloc (Nat.le_refl _) _
  generalize hcx : [Value.int .i64 k, .int .i64 f, .int .i64 a, .int .i64 er, .int .i64 hd, .int .i64 lv, .string ⟨key.toArray⟩, .string ⟨set.toArray⟩, .slice ao ats.length ac, .slice do_ digs.length dc, .slice ro rows.length rc] = cx at *
  have hCX := Lib.hid hcx
  clear hcx
  obtain ⟨m, hm⟩ : ∃ m : MD, m = ⟨k, f, a, er, hd, lv, ⟨key, set⟩, ats, digs, rows⟩ := ⟨_, rfl⟩
  rw [← hm]
  have hd1 : headB m = smallL k ++ (smallL f ++ numL a) := by rw [hm]; rfl
  have hd2 : headK m = (inK k 1 7 && inK f 0 8 && inK a 0 4611686018427387904) := by rw [hm]; rfl
  have hs1 := smallL_len k
  have hs2 := smallL_len f
  have hs3 := numL_len a
  have HD := Lib.hid hd1
  have HM := Lib.hid hm
  clear hd1 hm
  generalize hout : FOut m = out
  have HO := Lib.hid hout
  clear hout
  have c0 : (w.alloc (.cells cx.toArray 28)).cell? ⟨w.heap.size, 0, none⟩ = some (.int .i64 k) := by have h := bx 0 (.int .i64 k) (by rw [← hCX.out]; rfl); rw [Nat.zero_add] at h; exact h
  have c1 : (w.alloc (.cells cx.toArray 28)).cell? ⟨w.heap.size, 1, none⟩ = some (.int .i64 f) := by have h := bx 1 (.int .i64 f) (by rw [← hCX.out]; rfl); rw [Nat.zero_add] at h; exact h
  have c2 : (w.alloc (.cells cx.toArray 28)).cell? ⟨w.heap.size, 2, none⟩ = some (.int .i64 a) := by have h := bx 2 (.int .i64 a) (by rw [← hCX.out]; rfl); rw [Nat.zero_add] at h; exact h
  go_enter Try.func9, Try.ntmps9
  go_wp2_with fail
  generalize w.alloc (.cells cx.toArray 28) = w1 at *
  have HX := Lib.hid bx
  clear bx
  have stop : ∀ (w' : World), Below w1.heap.size w1 w' → Below w.heap.size w w' := fun w' hb => hA1.trans (hb.mono hA1.size)
  have HST := Lib.hid stop
  have HA := Lib.hid hA1
  have HC := Lib.hid (And.intro c0 (And.intro c1 c2))
  clear stop hA1
  generalize hi1 : inK k 1 7 = i1 at *
  generalize hi2 : inK f 0 8 = i2 at *
  generalize hi3 : inK a 0 4611686018427387904 = i3 at *
  have hf1 := fun w => fin_any k 1 7 w
  have hf2 := fun w => fin_any f 0 8 w
  have hf3 := fun w => fin_any a 0 4611686018427387904 w
  rw [hi1] at hf1
  rw [hi2] at hf2
  rw [hi3] at hf3
  have HI := Lib.hid (And.intro hi1 hd2)
  clear hi1 hi2 hi3 hd2
  refine (hf1 _).mono ?_
  rintro e w2 ⟨rfl, hB2⟩
  have c1 := (hB2.cell (p := ⟨w.heap.size, 1, none⟩) (World.block_lt_of_cell? _ _ c1)).trans c1
  have c2 := (hB2.cell (p := ⟨w.heap.size, 2, none⟩) (World.block_lt_of_cell? _ _ c2)).trans c2
  clear hf1 c0
  cases i1 with
  | false =>
    have HB := Lib.hid hB2
    clear hB2 hf2 hf3 hlist xdd xrr
    go_wp2_with fail
    go_ret2
    exact ⟨by rw [← HO.out, FOut.no (by rw [HI.out.2]; rfl)]; rfl, HST.out _ HB.out⟩
  | true =>
  go_wp2_with fail
  refine (hf2 _).mono ?_
  rintro e w3 ⟨rfl, hB3⟩
  have c2 := (hB3.cell (p := ⟨w.heap.size, 2, none⟩) (World.block_lt_of_cell? _ _ c2)).trans c2
  have hB3 := hB2.trans (hB3.mono hB2.size)
  clear hf2 c1 hB2
  cases i2 with
  | false =>
    have HB := Lib.hid hB3
    clear hB3 hf3 hlist xdd xrr
    go_wp2_with fail
    go_ret2
    exact ⟨by rw [← HO.out, FOut.no (by rw [HI.out.2]; rfl)]; rfl, HST.out _ HB.out⟩
  | true =>
  go_wp2_with fail
  refine (hf3 _).mono ?_
  rintro e w4 ⟨rfl, hB4⟩
  have hB4 := hB3.trans (hB4.mono hB3.size)
  clear hf3 c2 hB3
  cases i3 with
  | false =>
    have HB := Lib.hid hB4
    clear hB4 hlist xdd xrr
    go_wp2_with fail
    go_ret2
    exact ⟨by rw [← HO.out, FOut.no (by rw [HI.out.2]; rfl)]; rfl, HST.out _ HB.out⟩
  | true =>
  obtain ⟨c0, c1, c2⟩ := HC.out
  have u0 := cell_regrown ((hB4.cell (p := ⟨w.heap.size, 0, none⟩) (World.block_lt_of_cell? _ _ c0)).trans c0)
  have u1 := cell_regrown ((hB4.cell (p := ⟨w.heap.size, 1, none⟩) (World.block_lt_of_cell? _ _ c1)).trans c1)
  have u2 := cell_regrown ((hB4.cell (p := ⟨w.heap.size, 2, none⟩) (World.block_lt_of_cell? _ _ c2)).trans c2)
  have cS : ∀ n d os, Calls Try.prog 22 #[.int .i64 n] (Sort.grow (redrawn w4 d) os) fun e w'' => e = .returned (.string ⟨(smallL n).toArray⟩) ∧ ∃ p : Regrown, w'' = Sort.grow (redrawn w4 p.d) p.os := fun n d os => Calls.regrown_of (refSmall_any n _)
  have cN : ∀ d os, Calls Try.prog 23 #[.int .i64 a] (Sort.grow (redrawn w4 d) os) fun e w'' => e = .returned (.string ⟨(numL a).toArray⟩) ∧ ∃ p : Regrown, w'' = Sort.grow (redrawn w4 p.d) p.os := fun d os => Calls.regrown_of (refNum_any a _ ba.2)
  obtain ⟨t1, ht1, hcat1, hl1⟩ := cat_any (smallL k) (smallL f) (by omega)
  obtain ⟨s, ht2, hcat2, hl2⟩ := cat_any t1 (numL a) (by omega)
  clear c0 c1 c2
  go_wp2_with fail
  refine wp_region_quiet_below (by kernel_rfl) (by kernel_rfl) ?_
  repeat (quiet_step (first | (go_at_call 22; exact cS _ _ _) | (go_at_call 23; exact cN _ _)))
  refine wpQuiet_nil ?_
  rintro w5 ⟨⟨d2, os2⟩, rfl⟩
  have hb5 := below_regrown w4 d2 os2
  generalize Sort.grow (redrawn w4 d2) os2 = w5 at *
  have hB5 := hB4.trans (hb5.mono hB4.size)
  clear u0 u1 u2 cS cN hcat1 hcat2 hb5 hB4
  have hsl : s.length ≤ 10 := by omega
  have hs : headB m = s := by rw [HD.out, ht2.out, ht1.out, List.append_assoc]
  clear ht1 ht2 hl1 hl2
  have HS := Lib.hid hs
  have hk17 : 1 ≤ k ∧ k ≤ 7 := inK_iff.1 HI.out.1
  clear hs hs1 hs2 hs3 HD HC
  have bx := rangeAt_keep HX.out hB5
  rw [← hCX.out] at bx
  have c0 : w5.cell? ⟨w.heap.size, 0, none⟩ = some (.int .i64 k) := by simpa using bx 0 _ rfl
  have c3 : w5.cell? ⟨w.heap.size, 3, none⟩ = some (.int .i64 er) := by simpa using bx 3 _ rfl
  have c4 : w5.cell? ⟨w.heap.size, 4, none⟩ = some (.int .i64 hd) := by simpa using bx 4 _ rfl
  have c5 : w5.cell? ⟨w.heap.size, 5, none⟩ = some (.int .i64 lv) := by simpa using bx 5 _ rfl
  have c6 : w5.cell? ⟨w.heap.size, 6, none⟩ = some (.string ⟨key.toArray⟩) := by simpa using bx 6 _ rfl
  have c7 : w5.cell? ⟨w.heap.size, 7, none⟩ = some (.string ⟨set.toArray⟩) := by simpa using bx 7 _ rfl
  have c8 : w5.cell? ⟨w.heap.size, 8, none⟩ = some (.slice ao ats.length ac) := by simpa using bx 8 _ rfl
  have c9 : w5.cell? ⟨w.heap.size, 9, none⟩ = some (.slice do_ digs.length dc) := by simpa using bx 9 _ rfl
  have c10 : w5.cell? ⟨w.heap.size, 10, none⟩ = some (.slice ro rows.length rc) := by simpa using bx 10 _ rfl
  have hB5 := HST.out _ hB5
  have hldr := run_ldT bigF w5 w.heap.size 6 [.string ⟨key.toArray⟩, .string ⟨set.toArray⟩] (by
    intro j v hv
    match j, hv with
    | 0, hv => cases hv; exact c6
    | 1, hv => cases hv; exact c7) rfl
  have hrow := fun w => frow_any ⟨key, set⟩ w (by show key.length ≤ _; omega) bset
  have hrl : (rowB ⟨key, set⟩).length ≤ 1000036 := by unfold rowB; rw [List.length_append, bytesL_len]; show key.length + (4 + set.length) ≤ _; omega
  clear bx HX hCX HA HST
  have hcc : k = 1 ∨ k = 2 ∨ k = 3 ∨ k = 4 ∨ k = 5 ∨ k = 6 ∨ k = 7 := by omega
  clear hk17
  have HK : Hid (headK m = true) := Lib.hid HI.out.2
  clear HI
  rcases hcc with rfl | rfl | rfl | rfl | rfl | rfl | rfl
  · have hR : restB m = rowB ⟨key, set⟩ ∧ restK m = setK ⟨key, set⟩ := by rw [HM.out]; exact ⟨rfl, rfl⟩
    have hok : setK ⟨key, set⟩ = true := setK_iff.2 (by show (set.length : Int) ≤ _; omega)
    have HR := Lib.hid (And.intro hR.1 (hR.2.trans hok))
    dsimp only at hrow
    generalize rowB ⟨key, set⟩ = rb at *
    obtain ⟨t1, ht1, hcat, hl1⟩ := cat_any s rb (by omega)
    clear hR hok hlist xdd xrr c3 c4 c5 c6 c7 c8 c9 c10
    go_wp2_with fail
    refine (hrow _).mono ?_
    rintro e w6 ⟨rfl, hB6⟩
    have c0 := (hB6.cell (p := ⟨w.heap.size, 0, none⟩) (World.block_lt_of_cell? _ _ c0)).trans c0
    have HB := Lib.hid (hB5.trans (hB6.mono hB5.size))
    clear hrow hldr hB5 hB6
    go_wp2_with fail
    go_ret2
    exact ⟨by rw [← HO.out, FOut.good HK.out HR.out.2 HS.out HR.out.1, ← ht1.out]; rfl, HB.out⟩
  · have hR : restB m = smallL er ∧ restK m = inK er 0 255 := by rw [HM.out]; exact ⟨rfl, rfl⟩
    have hsl2 := smallL_len er
    have cS : ∀ d os, Calls Try.prog 22 #[.int .i64 er] (Sort.grow (redrawn w5 d) os) fun e w'' => e = .returned (.string ⟨(smallL er).toArray⟩) ∧ ∃ p : Regrown, w'' = Sort.grow (redrawn w5 p.d) p.os := fun d os => Calls.regrown_of (refSmall_any er _)
    have cI : ∀ d os, Calls Try.prog 21 #[.int .i64 er, .int .i64 0, .int .i64 255] (Sort.grow (redrawn w5 d) os) fun e w'' => e = .returned (.bool (inK er 0 255)) ∧ ∃ p : Regrown, w'' = Sort.grow (redrawn w5 p.d) p.os := fun d os => Calls.regrown_of (fin_any er 0 255 _)
    generalize smallL er = rb at *
    generalize inK er 0 255 = ok at *
    obtain ⟨t1, ht1, hcat, hl1⟩ := cat_any s rb (by omega)
    have HR := Lib.hid hR
    have u3 := cell_regrown c3
    clear hR hlist xdd xrr c4 c5 c6 c7 c8 c9 c10 hldr hrow
    go_wp2_with fail
    refine wp_region_quiet_below (by kernel_rfl) (by kernel_rfl) ?_
    repeat (quiet_step (first | (go_at_call 22; exact cS _ _) | (go_at_call 21; exact cI _ _)))
    refine wpQuiet_nil ?_
    rintro w6 ⟨⟨d2, os2⟩, rfl⟩
    have hB6 := below_regrown w5 d2 os2
    generalize Sort.grow (redrawn w5 d2) os2 = w6 at *
    have HB := Lib.hid (hB5.trans (hB6.mono hB5.size))
    clear u3 cS cI hcat hB5 hB6 c0 c3
    cases ok with
    | true =>
      go_wp2_with fail
      go_ret2
      exact ⟨by rw [← HO.out, FOut.good HK.out HR.out.2 HS.out HR.out.1, ← ht1.out]; rfl, HB.out⟩
    | false =>
      go_wp2_with fail
      go_ret2
      exact ⟨by rw [← HO.out, FOut.not HR.out.2]; rfl, HB.out⟩
  · have hR : restB m = key ∧ restK m = true := by rw [HM.out]; exact ⟨rfl, rfl⟩
    obtain ⟨t1, ht1, hcat, hl1⟩ := cat_any s key (by omega)
    have HR := Lib.hid hR
    have HB := Lib.hid hB5
    clear hR hlist xdd xrr c3 c4 c5 c7 c8 c9 c10 hldr hrow hB5
    go_wp2_with fail
    go_ret2
    exact ⟨by rw [← HO.out, FOut.good HK.out HR.out.2 HS.out HR.out.1, ← ht1.out]; rfl, HB.out⟩
  · have hR : restB m = rowB ⟨key, set⟩ ∧ restK m = setK ⟨key, set⟩ := by rw [HM.out]; exact ⟨rfl, rfl⟩
    have hok : setK ⟨key, set⟩ = true := setK_iff.2 (by show (set.length : Int) ≤ _; omega)
    have HR := Lib.hid (And.intro hR.1 (hR.2.trans hok))
    dsimp only at hrow
    generalize rowB ⟨key, set⟩ = rb at *
    obtain ⟨t1, ht1, hcat, hl1⟩ := cat_any s rb (by omega)
    clear hR hok hlist xdd xrr c3 c4 c5 c6 c7 c8 c9 c10
    go_wp2_with fail
    refine (hrow _).mono ?_
    rintro e w6 ⟨rfl, hB6⟩
    have c0 := (hB6.cell (p := ⟨w.heap.size, 0, none⟩) (World.block_lt_of_cell? _ _ c0)).trans c0
    have HB := Lib.hid (hB5.trans (hB6.mono hB5.size))
    clear hrow hldr hB5 hB6
    go_wp2_with fail
    go_ret2
    exact ⟨by rw [← HO.out, FOut.good HK.out HR.out.2 HS.out HR.out.1, ← ht1.out]; rfl, HB.out⟩
  · have hok : setK ⟨key, set⟩ = true := setK_iff.2 (by show (set.length : Int) ≤ _; omega)
    have hR : restB m = smallL hd ++ rowB ⟨key, set⟩ ∧ restK m = (inK hd 0 7 && setK ⟨key, set⟩) := by rw [HM.out]; exact ⟨rfl, rfl⟩
    rw [hok, Bool.and_true] at hR
    dsimp only at hrow
    generalize rowB ⟨key, set⟩ = rb at *
    have hsl2 := smallL_len hd
    have hS := fun w => refSmall_any hd w
    unfold strV at hS
    have hI := fun w => fin_any hd 0 7 w
    generalize smallL hd = sh at *
    generalize inK hd 0 7 = ok at *
    obtain ⟨t1, ht1, hcat, hl1⟩ := cat_any sh rb (by omega)
    obtain ⟨t2, ht2, hcat2, hl2⟩ := cat_any s t1 (by omega)
    have HR := Lib.hid hR
    clear hR hok hlist xdd xrr c3 c5 c6 c7 c8 c9 c10
    go_wp2_with fail
    refine (hrow _).mono ?_
    rintro e w6 ⟨rfl, hB6⟩
    have c0 := (hB6.cell (p := ⟨w.heap.size, 0, none⟩) (World.block_lt_of_cell? _ _ c0)).trans c0
    have c4 := (hB6.cell (p := ⟨w.heap.size, 4, none⟩) (World.block_lt_of_cell? _ _ c4)).trans c4
    have hB6 := hB5.trans (hB6.mono hB5.size)
    clear hrow hldr hB5
    go_wp2_with fail
    refine (hS _).mono ?_
    rintro e w7 ⟨rfl, hB7⟩
    have c4 := (hB7.cell (p := ⟨w.heap.size, 4, none⟩) (World.block_lt_of_cell? _ _ c4)).trans c4
    have hB7 := hB6.trans (hB7.mono hB6.size)
    clear hS hB6 c0
    go_wp2_with fail
    refine (hI _).mono ?_
    rintro e w8 ⟨rfl, hB8⟩
    have HB := Lib.hid (hB7.trans (hB8.mono hB7.size))
    clear hI hB7 hB8 c4
    cases ok with
    | true =>
      go_wp2_with fail
      go_ret2
      exact ⟨by rw [← HO.out, FOut.good HK.out HR.out.2 HS.out HR.out.1, ← ht1.out, ← ht2.out]; rfl, HB.out⟩
    | false =>
      go_wp2_with fail
      go_ret2
      exact ⟨by rw [← HO.out, FOut.not HR.out.2]; rfl, HB.out⟩
  · have hR : restB m = smallL lv ++ (manyB numL ats ++ (smallL digs.length ++ (digs.map fun v => v).flatten)) ∧ restK m = (inK lv 0 4 && listK ats && decide (digs.length ≤ 255)) := by rw [HM.out]; exact ⟨rfl, rfl⟩
    have hal : (manyB numL ats).length ≤ 8001 := by
      have h1 := flat_le numL ats 8 (fun x _ => numL_len x)
      have h2 := smallL_len ats.length
      unfold manyB; rw [List.length_append]; omega
    have hsl2 := smallL_len lv
    have hsl3 := smallL_len digs.length
    have cS : ∀ d os, ∀ w6, Calls Try.prog 22 #[.int .i64 lv] (Sort.grow (redrawn w6 d) os) fun e w'' => e = .returned (.string ⟨(smallL lv).toArray⟩) ∧ ∃ p : Regrown, w'' = Sort.grow (redrawn w6 p.d) p.os := fun d os w6 => Calls.regrown_of (refSmall_any lv _)
    have cI : ∀ d os, ∀ w6, Calls Try.prog 21 #[.int .i64 lv, .int .i64 0, .int .i64 4] (Sort.grow (redrawn w6 d) os) fun e w'' => e = .returned (.bool (inK lv 0 4)) ∧ ∃ p : Regrown, w'' = Sort.grow (redrawn w6 p.d) p.os := fun d os w6 => Calls.regrown_of (fin_any lv 0 4 _)
    have hSd := fun w => refSmall_any digs.length w
    unfold strV at hSd
    generalize manyB numL ats = mb at *
    generalize smallL lv = sv at *
    generalize hsd : smallL digs.length = sd at *
    generalize listK ats = lk at *
    generalize inK lv 0 4 = ok at *
    have hdle : decide ((digs.length : Int) ≤ 255) = decide (digs.length ≤ 255) := decide_eq_decide.2 ⟨fun h => by omega, fun h => by omega⟩
    obtain ⟨t1, ht1, hcat1, hl1⟩ := cat_any s sv (by omega)
    obtain ⟨t2, ht2, hcat2, hl2⟩ := cat_any t1 mb (by omega)
    obtain ⟨s4, ht3, hcat3, hl3⟩ := cat_any t2 sd (by omega)
    have hl4 : s4.length ≤ 8100 := by omega
    have HS4 : Hid (s ++ (sv ++ (mb ++ sd)) = s4) := Lib.hid (by rw [ht3.out, ht2.out, ht1.out]; simp only [List.append_assoc])
    clear ht1 ht2 ht3
    have HSD := Lib.hid hsd
    clear hsd
    have hll := hlist w5 hB5
    clear hlist xrr c3 c4 c6 c7 c10 hldr hrow hal
    go_wp2_with fail
    refine hll.mono ?_
    rintro e w6 ⟨rfl, hB6⟩
    have c5 := (hB6.cell (p := ⟨w.heap.size, 5, none⟩) (World.block_lt_of_cell? _ _ c5)).trans c5
    have c9 := (hB6.cell (p := ⟨w.heap.size, 9, none⟩) (World.block_lt_of_cell? _ _ c9)).trans c9
    have hB6 := hB5.trans (hB6.mono hB5.size)
    clear hll hB5 c0 c8
    go_wp2_with fail
    obtain ⟨dl, hdl⟩ : ∃ b : Bool, decide (digs.length ≤ 255) = b := ⟨_, rfl⟩
    have hdz : decide ((digs.length : Int) ≤ 255) = dl := hdle.trans hdl
    rw [hdl] at hR
    have HR := Lib.hid hR
    have HDL := Lib.hid hdl
    clear hR hdle hdl
    have u5 := cell_regrown c5
    have u9 := cell_regrown c9
    obtain ⟨okk, hokk⟩ : ∃ b : Bool, b = (lk && ok && dl) := ⟨_, rfl⟩
    have HOK := Lib.hid hokk
    clear hokk
    generalize hQ6 : World.heap w6 = hq6
    clear hQ6 hq6
    have key6 : ∀ (w7 : World), Below w6.heap.size w6 w7 → True := fun _ _ => trivial
    clear key6
    cases lk <;> cases ok <;> cases dl <;>
    · refine wp_region_quiet_below (by kernel_rfl) (by kernel_rfl) ?_
      repeat (quiet_step (first | (go_at_call 22; exact cS _ _ _) | (go_at_call 21; exact cI _ _ _)))
      refine wpQuiet_nil ?_
      rintro w7 ⟨⟨d2, os2⟩, rfl⟩
      have hB7 := below_regrown w6 d2 os2
      generalize Sort.grow (redrawn w6 d2) os2 = w7 at *
      have c9 := (hB7.cell (p := ⟨w.heap.size, 9, none⟩) (World.block_lt_of_cell? _ _ c9)).trans c9
      have hB7 := hB6.trans (hB7.mono hB6.size)
      clear u5 u9 cS cI hcat1 hcat2 hB6 c5 hdz
      go_wp2_with fail
      refine (hSd _).mono ?_
      rintro e w8 ⟨rfl, hB8⟩
      have c9 := (hB8.cell (p := ⟨w.heap.size, 9, none⟩) (World.block_lt_of_cell? _ _ c9)).trans c9
      have hB8 := hB7.trans (hB8.mono hB7.size)
      clear hSd hB7
      go_wp2_with fail
      go_loopw [4, 10] (fun sx j wr => ∃ k : Nat, k ≤ digs.length ∧ j = .int .i64 k ∧ sx = .string ⟨(s4 ++ ((digs.take k).map fun v => v).flatten).toArray⟩ ∧ Below w8.heap.size w8 wr) (fun _ j _ => digs.length - (intOf j).toNat)
      case atStart => exact ⟨0, Nat.zero_le _, rfl, by simp, Below.refl _ _⟩
      case round =>
        obtain ⟨k, hk, rfl, rfl, hBr⟩ := hrel
        have c9 := (hBr.cell (p := ⟨w.heap.size, 9, none⟩) (World.block_lt_of_cell? _ _ c9)).trans c9
        have hBw := hB8.trans (hBr.mono hB8.size)
        by_cases hlt : k < digs.length
        · have hlt2 : (k : Int) < digs.length := by omega
          have hk0 : (0 : Int) ≤ k := Int.natCast_nonneg _
          obtain ⟨ga, oa, rfl, hcl⟩ := xdd (fun e => by rw [e] at hlt; simp at hlt)
          have hcell := rangeAt_keep (hcl k hlt) hBw 0 (.string ⟨digs[k].toArray⟩) rfl
          rw [Nat.mul_one, Nat.add_zero] at hcell
          have hf := flat_take (fun v : List UInt8 => v) digs k hlt
          have hdk := k2 digs[k] (List.getElem_mem hlt)
          have hfl := flat_le (fun v : List UInt8 => v) (digs.take k) 32 (fun y hy => by rw [k2 y (List.mem_of_mem_take hy)]; exact Nat.le_refl _)
          rw [List.length_take] at hfl
          generalize hdd : digs[k] = dg at *
          have hskl : (s4 ++ ((digs.take k).map fun v => v).flatten).length ≤ 100000 := by rw [List.length_append]; omega
          generalize hsk : s4 ++ ((digs.take k).map fun v => v).flatten = sk at *
          obtain ⟨t4, ht4, hcat4, hl4'⟩ := cat_any sk dg (by omega)
          have HF := Lib.hid (And.intro hf hsk)
          have HBr := Lib.hid hBr
          clear hf hcl xdd hBr hBw hB8 hsk hdd hfl hdk
          go_wp2_with fail
          go_roundw
          case rel => exact ⟨k + 1, hlt, by go_num, by rw [HF.out.1, ← List.append_assoc, HF.out.2, ← ht4.out], HBr.out⟩
          case measure => simp [intOf]; omega
        · have hke : k = digs.length := by omega
          subst hke
          rw [List.take_of_length_le (Nat.le_refl _)]
          have HB := Lib.hid hBw
          clear hBw hBr hB8 xdd hcat3 hl3
          generalize hsk : s4 ++ ((digs.map fun v => v).flatten) = sk at *
          have HSK := Lib.hid hsk
          clear hsk
          go_wp2_with fail
          go_ret2
          first
            | exact ⟨by rw [← HO.out, FOut.not (HR.out.2.trans rfl)]; rfl, HB.out⟩
            | exact ⟨by rw [← HO.out, FOut.good HK.out (HR.out.2.trans rfl) HS.out HR.out.1, ← HSK.out, ← HS4.out]; simp only [List.append_assoc]; rfl, HB.out⟩
  · have hR : restB m = manyB numL ats ++ (smallL rows.length ++ (rows.map rowB).flatten) ∧ restK m = (listK ats && decide (rows.length ≤ 255) && rows.all setK) := by rw [HM.out]; exact ⟨rfl, rfl⟩
    have hall : rows.all setK = true := List.all_eq_true.2 fun r hr => setK_iff.2 (by have := brs r hr; omega)
    rw [hall, Bool.and_true] at hR
    have hrls := rows_len k3 brs
    have hal : (manyB numL ats).length ≤ 8001 := by
      have h1 := flat_le numL ats 8 (fun x _ => numL_len x)
      have h2 := smallL_len ats.length
      unfold manyB; rw [List.length_append]; omega
    have hsl3 := smallL_len rows.length
    have cS : ∀ d os, ∀ w6, Calls Try.prog 22 #[.int .i64 rows.length] (Sort.grow (redrawn w6 d) os) fun e w'' => e = .returned (.string ⟨(smallL rows.length).toArray⟩) ∧ ∃ p : Regrown, w'' = Sort.grow (redrawn w6 p.d) p.os := fun d os w6 => Calls.regrown_of (refSmall_any rows.length _)
    generalize manyB numL ats = mb at *
    generalize hsd : smallL rows.length = sd at *
    generalize listK ats = lk at *
    have hdle : decide ((rows.length : Int) ≤ 255) = decide (rows.length ≤ 255) := decide_eq_decide.2 ⟨fun h => by omega, fun h => by omega⟩
    obtain ⟨t1, ht1, hcat1, hl1⟩ := cat_any s mb (by omega)
    obtain ⟨s4, ht2, hcat2, hl2⟩ := cat_any t1 sd (by omega)
    have hl4 : s4.length ≤ 8100 := by omega
    have HS4 : Hid (s ++ (mb ++ sd) = s4) := Lib.hid (by rw [ht2.out, ht1.out]; simp only [List.append_assoc])
    clear ht1 ht2
    have HSD := Lib.hid hsd
    clear hsd
    have hll := hlist w5 hB5
    clear hlist xdd c3 c4 c5 c6 c7 c9 hldr hrow hal hall hrl
    go_wp2_with fail
    refine hll.mono ?_
    rintro e w6 ⟨rfl, hB6⟩
    have c10 := (hB6.cell (p := ⟨w.heap.size, 10, none⟩) (World.block_lt_of_cell? _ _ c10)).trans c10
    have hB6 := hB5.trans (hB6.mono hB5.size)
    clear hll hB5 c0 c8
    go_wp2_with fail
    obtain ⟨dl, hdl⟩ : ∃ b : Bool, decide (rows.length ≤ 255) = b := ⟨_, rfl⟩
    have hdz : decide ((rows.length : Int) ≤ 255) = dl := hdle.trans hdl
    rw [hdl] at hR
    have HR := Lib.hid hR
    have HDL := Lib.hid hdl
    clear hR hdle hdl
    have u10 := cell_regrown c10
    cases lk with
    | true =>
      cases dl with
      | true =>
        refine wp_region_quiet_below (by kernel_rfl) (by kernel_rfl) ?_
        repeat (quiet_step (first | (go_at_call 22; exact cS _ _ _)))
        refine wpQuiet_nil ?_
        rintro w7 ⟨⟨d2, os2⟩, rfl⟩
        have hB7 := below_regrown w6 d2 os2
        generalize Sort.grow (redrawn w6 d2) os2 = w7 at *
        have c10 := (hB7.cell (p := ⟨w.heap.size, 10, none⟩) (World.block_lt_of_cell? _ _ c10)).trans c10
        have hB7 := hB6.trans (hB7.mono hB6.size)
        clear u10 cS hcat1 hcat2 hB6 hdz
        go_wp2_with fail
        go_loopw [4, 5, 13] (fun sx b j wr => ∃ k : Nat, k ≤ rows.length ∧ j = .int .i64 k ∧ sx = .string ⟨(s4 ++ ((rows.take k).map rowB).flatten).toArray⟩ ∧ b = .bool true ∧ Below w7.heap.size w7 wr) (fun _ _ j _ => rows.length - (intOf j).toNat)
        case atStart => exact ⟨0, Nat.zero_le _, rfl, by simp, rfl, Below.refl _ _⟩
        case round =>
          obtain ⟨k, hk, rfl, rfl, rfl, hBr⟩ := hrel
          have c10 := (hBr.cell (p := ⟨w.heap.size, 10, none⟩) (World.block_lt_of_cell? _ _ c10)).trans c10
          have hBw := hB7.trans (hBr.mono hB7.size)
          by_cases hlt : k < rows.length
          · have hlt2 : (k : Int) < rows.length := by omega
            have hk0 : (0 : Int) ≤ k := Int.natCast_nonneg _
            obtain ⟨ga, oa, rfl, hcl⟩ := xrr (fun e => by rw [e] at hlt; simp at hlt)
            have hr1 := rangeAt_keep (hcl k hlt) hBw
            have hf := flat_take rowB rows k hlt
            have hkk := k3 rows[k] (List.getElem_mem hlt)
            have hsk := brs rows[k] (List.getElem_mem hlt)
            have hrk := hrls rows[k] (List.getElem_mem hlt)
            have hfl := flat_le rowB (rows.take k) 1000036 (fun y hy => hrls y (List.mem_of_mem_take hy))
            rw [List.length_take] at hfl
            generalize hdd : rows[k] = n at *
            have hld := run_ldT bigF wr ga (oa + k * 2) (rrC n) hr1 rfl
            unfold rrC at hld
            have hrow := fun w => frow_any n w (by omega) hsk
            have hskl : (s4 ++ ((rows.take k).map rowB).flatten).length ≤ 2000000000 := by rw [List.length_append]; omega
            generalize hsk2 : s4 ++ ((rows.take k).map rowB).flatten = sk at *
            generalize rowB n = rn at *
            obtain ⟨t4, ht4, hcat4, hl4'⟩ := cat_any sk rn (by omega)
            have HF := Lib.hid (And.intro hf hsk2)
            have HBr := Lib.hid hBr
            clear hf hcl xrr hBr hBw hB7 hsk2 hdd hfl hr1 hsk hrls hkk
            go_wp2_with fail
            refine (hrow _).mono ?_
            rintro e w9 ⟨rfl, hB9⟩
            have HB9 := Lib.hid (HBr.out.trans (hB9.mono HBr.out.size))
            clear hrow hld hB9
            go_wp2_with fail
            go_roundw
            case rel => exact ⟨k + 1, hlt, by go_num, by rw [HF.out.1, ← List.append_assoc, HF.out.2, ← ht4.out], rfl, HB9.out⟩
            case measure => simp [intOf]; omega
          · have hke : k = rows.length := by omega
            subst hke
            rw [List.take_of_length_le (Nat.le_refl _)]
            have HB := Lib.hid hBw
            clear hBw hBr hB7 xrr hrls
            generalize hsk : s4 ++ ((rows.map rowB).flatten) = sk at *
            have HSK := Lib.hid hsk
            clear hsk
            go_wp2_with fail
            go_ret2
            first
              | exact ⟨by rw [← HO.out, FOut.not (HR.out.2.trans rfl)]; rfl, HB.out⟩
              | exact ⟨by rw [← HO.out, FOut.good HK.out (HR.out.2.trans rfl) HS.out HR.out.1, ← HSK.out, ← HS4.out]; simp only [List.append_assoc]; rfl, HB.out⟩
      | false =>
        refine wp_region_quiet_below (by kernel_rfl) (by kernel_rfl) ?_
        repeat (quiet_step (first | (go_at_call 22; exact cS _ _ _)))
        refine wpQuiet_nil ?_
        rintro w7 ⟨⟨d2, os2⟩, rfl⟩
        have hB7 := below_regrown w6 d2 os2
        generalize Sort.grow (redrawn w6 d2) os2 = w7 at *
        have c10 := (hB7.cell (p := ⟨w.heap.size, 10, none⟩) (World.block_lt_of_cell? _ _ c10)).trans c10
        have hB7 := hB6.trans (hB7.mono hB6.size)
        clear u10 cS hcat1 hcat2 hB6 hdz
        go_wp2_with fail
        go_loopw [4, 5, 13] (fun sx b j wr => ∃ k : Nat, k ≤ rows.length ∧ j = .int .i64 k ∧ sx = .string ⟨(s4 ++ ((rows.take k).map rowB).flatten).toArray⟩ ∧ b = .bool false ∧ Below w7.heap.size w7 wr) (fun _ _ j _ => rows.length - (intOf j).toNat)
        case atStart => exact ⟨0, Nat.zero_le _, rfl, by simp, rfl, Below.refl _ _⟩
        case round =>
          obtain ⟨k, hk, rfl, rfl, rfl, hBr⟩ := hrel
          have c10 := (hBr.cell (p := ⟨w.heap.size, 10, none⟩) (World.block_lt_of_cell? _ _ c10)).trans c10
          have hBw := hB7.trans (hBr.mono hB7.size)
          by_cases hlt : k < rows.length
          · have hlt2 : (k : Int) < rows.length := by omega
            have hk0 : (0 : Int) ≤ k := Int.natCast_nonneg _
            obtain ⟨ga, oa, rfl, hcl⟩ := xrr (fun e => by rw [e] at hlt; simp at hlt)
            have hr1 := rangeAt_keep (hcl k hlt) hBw
            have hf := flat_take rowB rows k hlt
            have hkk := k3 rows[k] (List.getElem_mem hlt)
            have hsk := brs rows[k] (List.getElem_mem hlt)
            have hrk := hrls rows[k] (List.getElem_mem hlt)
            have hfl := flat_le rowB (rows.take k) 1000036 (fun y hy => hrls y (List.mem_of_mem_take hy))
            rw [List.length_take] at hfl
            generalize hdd : rows[k] = n at *
            have hld := run_ldT bigF wr ga (oa + k * 2) (rrC n) hr1 rfl
            unfold rrC at hld
            have hrow := fun w => frow_any n w (by omega) hsk
            have hskl : (s4 ++ ((rows.take k).map rowB).flatten).length ≤ 2000000000 := by rw [List.length_append]; omega
            generalize hsk2 : s4 ++ ((rows.take k).map rowB).flatten = sk at *
            generalize rowB n = rn at *
            obtain ⟨t4, ht4, hcat4, hl4'⟩ := cat_any sk rn (by omega)
            have HF := Lib.hid (And.intro hf hsk2)
            have HBr := Lib.hid hBr
            clear hf hcl xrr hBr hBw hB7 hsk2 hdd hfl hr1 hsk hrls hkk
            go_wp2_with fail
            refine (hrow _).mono ?_
            rintro e w9 ⟨rfl, hB9⟩
            have HB9 := Lib.hid (HBr.out.trans (hB9.mono HBr.out.size))
            clear hrow hld hB9
            go_wp2_with fail
            go_roundw
            case rel => exact ⟨k + 1, hlt, by go_num, by rw [HF.out.1, ← List.append_assoc, HF.out.2, ← ht4.out], rfl, HB9.out⟩
            case measure => simp [intOf]; omega
          · have hke : k = rows.length := by omega
            subst hke
            rw [List.take_of_length_le (Nat.le_refl _)]
            have HB := Lib.hid hBw
            clear hBw hBr hB7 xrr hrls
            generalize hsk : s4 ++ ((rows.map rowB).flatten) = sk at *
            have HSK := Lib.hid hsk
            clear hsk
            go_wp2_with fail
            go_ret2
            first
              | exact ⟨by rw [← HO.out, FOut.not (HR.out.2.trans rfl)]; rfl, HB.out⟩
              | exact ⟨by rw [← HO.out, FOut.good HK.out (HR.out.2.trans rfl) HS.out HR.out.1, ← HSK.out, ← HS4.out]; simp only [List.append_assoc]; rfl, HB.out⟩
    | false =>
      cases dl with
      | true =>
        refine wp_region_quiet_below (by kernel_rfl) (by kernel_rfl) ?_
        repeat (quiet_step (first | (go_at_call 22; exact cS _ _ _)))
        refine wpQuiet_nil ?_
        rintro w7 ⟨⟨d2, os2⟩, rfl⟩
        have hB7 := below_regrown w6 d2 os2
        generalize Sort.grow (redrawn w6 d2) os2 = w7 at *
        have c10 := (hB7.cell (p := ⟨w.heap.size, 10, none⟩) (World.block_lt_of_cell? _ _ c10)).trans c10
        have hB7 := hB6.trans (hB7.mono hB6.size)
        clear u10 cS hcat1 hcat2 hB6 hdz
        go_wp2_with fail
        go_loopw [4, 5, 13] (fun sx b j wr => ∃ k : Nat, k ≤ rows.length ∧ j = .int .i64 k ∧ sx = .string ⟨(s4 ++ ((rows.take k).map rowB).flatten).toArray⟩ ∧ b = .bool false ∧ Below w7.heap.size w7 wr) (fun _ _ j _ => rows.length - (intOf j).toNat)
        case atStart => exact ⟨0, Nat.zero_le _, rfl, by simp, rfl, Below.refl _ _⟩
        case round =>
          obtain ⟨k, hk, rfl, rfl, rfl, hBr⟩ := hrel
          have c10 := (hBr.cell (p := ⟨w.heap.size, 10, none⟩) (World.block_lt_of_cell? _ _ c10)).trans c10
          have hBw := hB7.trans (hBr.mono hB7.size)
          by_cases hlt : k < rows.length
          · have hlt2 : (k : Int) < rows.length := by omega
            have hk0 : (0 : Int) ≤ k := Int.natCast_nonneg _
            obtain ⟨ga, oa, rfl, hcl⟩ := xrr (fun e => by rw [e] at hlt; simp at hlt)
            have hr1 := rangeAt_keep (hcl k hlt) hBw
            have hf := flat_take rowB rows k hlt
            have hkk := k3 rows[k] (List.getElem_mem hlt)
            have hsk := brs rows[k] (List.getElem_mem hlt)
            have hrk := hrls rows[k] (List.getElem_mem hlt)
            have hfl := flat_le rowB (rows.take k) 1000036 (fun y hy => hrls y (List.mem_of_mem_take hy))
            rw [List.length_take] at hfl
            generalize hdd : rows[k] = n at *
            have hld := run_ldT bigF wr ga (oa + k * 2) (rrC n) hr1 rfl
            unfold rrC at hld
            have hrow := fun w => frow_any n w (by omega) hsk
            have hskl : (s4 ++ ((rows.take k).map rowB).flatten).length ≤ 2000000000 := by rw [List.length_append]; omega
            generalize hsk2 : s4 ++ ((rows.take k).map rowB).flatten = sk at *
            generalize rowB n = rn at *
            obtain ⟨t4, ht4, hcat4, hl4'⟩ := cat_any sk rn (by omega)
            have HF := Lib.hid (And.intro hf hsk2)
            have HBr := Lib.hid hBr
            clear hf hcl xrr hBr hBw hB7 hsk2 hdd hfl hr1 hsk hrls hkk
            go_wp2_with fail
            refine (hrow _).mono ?_
            rintro e w9 ⟨rfl, hB9⟩
            have HB9 := Lib.hid (HBr.out.trans (hB9.mono HBr.out.size))
            clear hrow hld hB9
            go_wp2_with fail
            go_roundw
            case rel => exact ⟨k + 1, hlt, by go_num, by rw [HF.out.1, ← List.append_assoc, HF.out.2, ← ht4.out], rfl, HB9.out⟩
            case measure => simp [intOf]; omega
          · have hke : k = rows.length := by omega
            subst hke
            rw [List.take_of_length_le (Nat.le_refl _)]
            have HB := Lib.hid hBw
            clear hBw hBr hB7 xrr hrls
            generalize hsk : s4 ++ ((rows.map rowB).flatten) = sk at *
            have HSK := Lib.hid hsk
            clear hsk
            go_wp2_with fail
            go_ret2
            first
              | exact ⟨by rw [← HO.out, FOut.not (HR.out.2.trans rfl)]; rfl, HB.out⟩
              | exact ⟨by rw [← HO.out, FOut.good HK.out (HR.out.2.trans rfl) HS.out HR.out.1, ← HSK.out, ← HS4.out]; simp only [List.append_assoc]; rfl, HB.out⟩
      | false =>
        refine wp_region_quiet_below (by kernel_rfl) (by kernel_rfl) ?_
        repeat (quiet_step (first | (go_at_call 22; exact cS _ _ _)))
        refine wpQuiet_nil ?_
        rintro w7 ⟨⟨d2, os2⟩, rfl⟩
        have hB7 := below_regrown w6 d2 os2
        generalize Sort.grow (redrawn w6 d2) os2 = w7 at *
        have c10 := (hB7.cell (p := ⟨w.heap.size, 10, none⟩) (World.block_lt_of_cell? _ _ c10)).trans c10
        have hB7 := hB6.trans (hB7.mono hB6.size)
        clear u10 cS hcat1 hcat2 hB6 hdz
        go_wp2_with fail
        go_loopw [4, 5, 13] (fun sx b j wr => ∃ k : Nat, k ≤ rows.length ∧ j = .int .i64 k ∧ sx = .string ⟨(s4 ++ ((rows.take k).map rowB).flatten).toArray⟩ ∧ b = .bool false ∧ Below w7.heap.size w7 wr) (fun _ _ j _ => rows.length - (intOf j).toNat)
        case atStart => exact ⟨0, Nat.zero_le _, rfl, by simp, rfl, Below.refl _ _⟩
        case round =>
          obtain ⟨k, hk, rfl, rfl, rfl, hBr⟩ := hrel
          have c10 := (hBr.cell (p := ⟨w.heap.size, 10, none⟩) (World.block_lt_of_cell? _ _ c10)).trans c10
          have hBw := hB7.trans (hBr.mono hB7.size)
          by_cases hlt : k < rows.length
          · have hlt2 : (k : Int) < rows.length := by omega
            have hk0 : (0 : Int) ≤ k := Int.natCast_nonneg _
            obtain ⟨ga, oa, rfl, hcl⟩ := xrr (fun e => by rw [e] at hlt; simp at hlt)
            have hr1 := rangeAt_keep (hcl k hlt) hBw
            have hf := flat_take rowB rows k hlt
            have hkk := k3 rows[k] (List.getElem_mem hlt)
            have hsk := brs rows[k] (List.getElem_mem hlt)
            have hrk := hrls rows[k] (List.getElem_mem hlt)
            have hfl := flat_le rowB (rows.take k) 1000036 (fun y hy => hrls y (List.mem_of_mem_take hy))
            rw [List.length_take] at hfl
            generalize hdd : rows[k] = n at *
            have hld := run_ldT bigF wr ga (oa + k * 2) (rrC n) hr1 rfl
            unfold rrC at hld
            have hrow := fun w => frow_any n w (by omega) hsk
            have hskl : (s4 ++ ((rows.take k).map rowB).flatten).length ≤ 2000000000 := by rw [List.length_append]; omega
            generalize hsk2 : s4 ++ ((rows.take k).map rowB).flatten = sk at *
            generalize rowB n = rn at *
            obtain ⟨t4, ht4, hcat4, hl4'⟩ := cat_any sk rn (by omega)
            have HF := Lib.hid (And.intro hf hsk2)
            have HBr := Lib.hid hBr
            clear hf hcl xrr hBr hBw hB7 hsk2 hdd hfl hr1 hsk hrls hkk
            go_wp2_with fail
            refine (hrow _).mono ?_
            rintro e w9 ⟨rfl, hB9⟩
            have HB9 := Lib.hid (HBr.out.trans (hB9.mono HBr.out.size))
            clear hrow hld hB9
            go_wp2_with fail
            go_roundw
            case rel => exact ⟨k + 1, hlt, by go_num, by rw [HF.out.1, ← List.append_assoc, HF.out.2, ← ht4.out], rfl, HB9.out⟩
            case measure => simp [intOf]; omega
          · have hke : k = rows.length := by omega
            subst hke
            rw [List.take_of_length_le (Nat.le_refl _)]
            have HB := Lib.hid hBw
            clear hBw hBr hB7 xrr hrls
            generalize hsk : s4 ++ ((rows.map rowB).flatten) = sk at *
            have HSK := Lib.hid hsk
            clear hsk
            go_wp2_with fail
            go_ret2
            first
              | exact ⟨by rw [← HO.out, FOut.not (HR.out.2.trans rfl)]; rfl, HB.out⟩
              | exact ⟨by rw [← HO.out, FOut.good HK.out (HR.out.2.trans rfl) HS.out HR.out.1, ← HSK.out, ← HS4.out]; simp only [List.append_assoc]; rfl, HB.out⟩
end Go.Proofs.Ytanghmpphlmpkaa
