/- casketlaw08's Part: kind, text, put: the walks. -/
import Derived.Test.YtinpeieecodijaaRefCodec
import Derived.Deep.DeepCutAuto
import Derived.Deep.QuietTactic
import Derived.BigQuiet
import Derived.Lib.QuietBelow
namespace Go.Proofs.Ytinpeieecodijaa
open Go.RowKit
def kindN (k : Int) : Nat := (k % 18446744073709551616 % 4).toNat
theorem kindN_lt (k : Int) : kindN k < 4 := by unfold kindN; omega
theorem kind_eq (k : Int) : wrap64 ((IntKind.u64.wrap k).tmod 4) = (kindN k : Int) := by
  rw [IntKind.wrap_u64, Int.tmod_eq_emod_of_nonneg (by omega), IntWalk.wrap64_in _ (by omega)]
  unfold kindN; omega
def partV (k n : Int) (tv : Value) : Value := .agg #[.int .i64 k, .int .i64 n, tv]
set_option maxRecDepth 100000 in
set_option maxHeartbeats 400000 in
theorem kind_any (k n : Int) (tv : Value) (tx : List UInt8) (w : World) (h : Bsl w tv tx) :
    Calls Try.prog 33 #[.agg #[.int .i64 k, .int .i64 n, tv]] w fun e w' => e = .returned (.int .i64 (kindN k)) ∧ Below w.heap.size w w' := by
  obtain ⟨ao, cap, rfl, _, _, _, _⟩ := h
  have HK := Lib.hid (kind_eq k)
  go_enter Try.func33, Try.ntmps33
  go_wp2_with fail
  go_ret
  exact ⟨by rw [← HK.out]; rfl, (Below.refl _ _).alloc (Nat.le_refl _) _⟩
set_option maxRecDepth 100000 in
set_option maxHeartbeats 400000 in
theorem text_any (k n : Int) (tv : Value) (tx : List UInt8) (w : World) (h : Bsl w tv tx) :
    Calls Try.prog 34 #[.agg #[.int .i64 k, .int .i64 n, tv]] w fun e w' => ∃ v, e = .returned v ∧ OB w' w.heap.size v (tx.take 200) ∧ Below w.heap.size w w' := by
  have hb := h
  obtain ⟨ao, cap, rfl, hlc, hcm, _, _⟩ := h
  have hb0 : Below w.heap.size w (w.alloc (.cells #[.int .i64 k, .int .i64 n, .slice ao tx.length cap] 35)) := (Below.refl _ _).alloc (Nat.le_refl _) _
  generalize hw0 : w.alloc (.cells #[.int .i64 k, .int .i64 n, .slice ao tx.length cap] 35) = w0 at *
  have hbel : Below w.heap.size w (w0.alloc (.cells #[] 5)) := hb0.alloc hb0.size _
  have hown : OB (w0.alloc (.cells #[] 5)) w.heap.size (.slice (some ⟨w0.heap.size, 0, none⟩) 0 0) [] := World.ownsRow_made w0 #[] 0 hb0.size (by decide) rfl
  subst hw0
  rw [World.size_alloc] at hown
  by_cases h3 : tx.length ≤ 200
  · have h3' : (tx.length : Int) ≤ 200 := by omega
    rw [List.take_of_length_le h3]
    go_enter Try.func34, Try.ntmps34
    go_wp2_with (at_builtin; refine wp_app rfl _ _ rfl w.heap.size _ _ _ tx rfl rfl hown (hb.keep hbel) ?_ ?_ ?_)
    · simp; omega
    · exact hbel.size
    · intro v' w1 hown1 hgrow _
      have hb1 : Below w.heap.size w w1 := hbel.grown hgrow hbel.size hown.own_ge
      clear hgrow hown hbel hb0
      go_wp2_with fail
      go_ret
      exact ⟨_, rfl, hown1, hb1⟩
  · have h3' : 200 < (tx.length : Int) := by omega
    have hcap : 200 ≤ (cap : Int) := by omega
    have ht := hb.take (m := 200) (by omega)
    have htl : (tx.take 200).length = 200 := by simp; omega
    have HT := Lib.hid htl; clear htl
    generalize tx.take 200 = t at *
    go_enter Try.func34, Try.ntmps34
    go_wp2_with (at_builtin; refine wp_app rfl _ _ rfl w.heap.size _ _ _ t rfl rfl hown (ht.keep hbel) ?_ ?_ ?_)
    · rw [HT.out]; simp
    · exact hbel.size
    · intro v' w1 hown1 hgrow _
      have hb1 : Below w.heap.size w w1 := hbel.grown hgrow hbel.size hown.own_ge
      clear hgrow hown hbel hb0
      go_wp2_with fail
      go_ret
      exact ⟨_, rfl, hown1, hb1⟩
theorem xor1 (c : UInt8) : bits BinOp.xor IntKind.u8 (c.toNat : Int) 1 = ((c ^^^ 1).toNat : Int) := by
  have := u8_xor_nat c.toNat 1 c.toNat_lt (by omega)
  rw [UInt8.toNat_xor]; exact this
/-- The bytes of a part, and whether it is one. -/
def partL (k n : Int) (t : List UInt8) : List UInt8 := if kindN k = 0 then numL n else if kindN k = 1 then smallL n else if kindN k = 2 then t else bytesL t
def partOk (k n : Int) : Bool := if kindN k = 0 then decide (0 ≤ n) else if kindN k = 1 then decide (0 ≤ n ∧ n ≤ 255) else true
set_option maxRecDepth 100000 in
set_option maxHeartbeats 1000000 in
theorem put_any (k n : Int) (tv : Value) (tx : List UInt8) (w : World) {B p off : Nat} {l : List UInt8} {bad : Bool} {g : Option Nat} (h : Bsl w tv tx) (hO : OutAt w B p off l bad g) (hn1 : -9223372036854775808 ≤ n) (hn2 : n ≤ 9223372036854775807) (hl : l.length ≤ 140737488000000) :
    Calls Try.prog 17 #[.agg #[.int .i64 k, .int .i64 n, tv], .pointer (some ⟨p, off, none⟩)] w fun e w' => e = .returned (.tuple #[strV (partL k n (tx.take 200)), .bool (partOk k n)]) ∧
      ∃ g', OutAt w' B p off (l ++ partL k n (tx.take 200)) (bad || !partOk k n) g' ∧ OutEff w w' p off g g' := by
  have hb := h
  obtain ⟨ao, cap, rfl, hlc, hcm, _, _⟩ := h
  obtain ⟨t, ht⟩ : ∃ t, t = tx.take 200 := ⟨_, rfl⟩
  have htl : t.length ≤ 200 := by rw [ht]; simp; omega
  have hpl := hO.pLt
  have hgB := hO.gB
  have hb0 : Below w.heap.size w (w.alloc (.cells #[.int .i64 k, .int .i64 n, .slice ao tx.length cap] 35)) := (Below.refl _ _).alloc (Nat.le_refl _) _
  have hsz0 : w.heap.size < (w.alloc (.cells #[.int .i64 k, .int .i64 n, .slice ao tx.length cap] 35)).heap.size := by rw [World.size_alloc]; omega
  have c0 : (w.alloc (.cells #[.int .i64 k, .int .i64 n, .slice ao tx.length cap] 35)).cell? ⟨w.heap.size, 0, none⟩ = some (.int .i64 k) := by rw [World.cell?_alloc_new]; rfl
  have c1 : (w.alloc (.cells #[.int .i64 k, .int .i64 n, .slice ao tx.length cap] 35)).cell? ⟨w.heap.size, 1, none⟩ = some (.int .i64 n) := by rw [World.cell?_alloc_new]; rfl
  have c2 : (w.alloc (.cells #[.int .i64 k, .int .i64 n, .slice ao tx.length cap] 35)).cell? ⟨w.heap.size, 2, none⟩ = some (.slice ao tx.length cap) := by rw [World.cell?_alloc_new]; rfl
  rw [← ht]
  obtain ⟨pb, hpb⟩ : ∃ pb, pb = partL k n t := ⟨_, rfl⟩
  obtain ⟨pk, hpk⟩ : ∃ pk, pk = partOk k n := ⟨_, rfl⟩
  rw [← hpb, ← hpk]
  have HPB := Lib.hid hpb; clear hpb
  have HPK := Lib.hid hpk; clear hpk
  unfold strV
  go_enter Try.func17, Try.ntmps17
  go_wp2_with fail
  generalize w.alloc (.cells #[.int .i64 k, .int .i64 n, .slice ao tx.length cap] 35) = w0 at *
  refine (text_any k n _ tx _ (hb.keep hb0)).mono ?_
  rw [← ht]
  rintro e w1 ⟨vb, rfl, ho1, hb1⟩
  have HT := Lib.hid ht; clear ht
  have c0 := (hb1.cell hsz0).trans c0
  have c1 := (hb1.cell hsz0).trans c1
  have c2 := (hb1.cell hsz0).trans c2
  have hsz1 : w.heap.size < w1.heap.size := Nat.lt_of_lt_of_le hsz0 hb1.size
  have hbw1 : Below w.heap.size w w1 := hb0.trans (hb1.mono (Nat.le_of_lt hsz0))
  go_wp2_with fail
  refine (kind_any k n _ tx _ ((hb.keep hb0).keep hb1)).mono ?_
  rintro e w2 ⟨rfl, hb2⟩
  have c1 := (hb2.cell hsz1).trans c1
  have hsz2 : w.heap.size < w2.heap.size := Nat.lt_of_lt_of_le hsz1 hb2.size
  have hbw2 : Below w.heap.size w w2 := hbw1.trans (hb2.mono (Nat.le_of_lt hsz1))
  have ho2 := ho1.keep hb2
  have hvge := ho1.own_ge
  have hO2 := hO.keep hbw2
  have hE2 : OutEff w w2 p off g g := OutEff.of_below hbw2 hpl
  have hkl := kindN_lt k
  generalize hkk : kindN k = kk at *
  have HKK := Lib.hid hkk; clear hkk
  have hkk : kk = 0 ∨ kk = 1 ∨ kk = 2 ∨ kk = 3 := by omega
  rcases hkk with e | e | e | e
  · subst e
    have ep : pb = numL n := by rw [HPB.out]; unfold partL; rw [HKK.out, if_pos rfl]
    have ek : pk = decide (0 ≤ n) := by rw [HPK.out]; unfold partOk; rw [HKK.out, if_pos rfl]
    have EP := Lib.hid ep; clear ep
    have EK := Lib.hid ek; clear ek
    have hd : decide (0 ≤ n) = pk := EK.out.symm
    go_wp2_with fail
    refine (onum_any n _ hO2 hn1 hn2 (by omega)).mono ?_
    rw [← EP.out, show decide (n < 0) = !pk from by rw [EK.out]; by_cases h : 0 ≤ n <;> simp [h] <;> omega]
    rintro e w3 ⟨rfl, g3, hO3, he3⟩
    have hsz3 := he3.only.size
    have hvn3 : ∀ kb, vb.ownBlock = some kb → kb ≠ p ∧ g3 ≠ some kb := fun kb hkb => ⟨fun e => by have := hvge _ hkb; omega, fun e => by
      rcases he3.new with e2 | ⟨m, e2, hm⟩
      · rw [e2] at e; have := (hgB _ e).2; have := hvge _ hkb; omega
      · rw [e2] at e; cases e; have := ho2.own_lt _ hkb; omega⟩
    have ho3 := ho2.only he3.only (fun kb hkb hs => hs.elim (fun e => by have := hvge _ hkb; omega) (fun e => by have := (hgB _ e).2; have := hvge _ hkb; omega))
    have c1 := (he3.only.cell (p := ⟨w.heap.size, 1, none⟩) hsz2 (fun hs => by have hs : w.heap.size = p ∨ g = some w.heap.size := hs; exact hs.elim (fun e => by omega) (fun e => by have := (hgB _ e).2; omega))).trans c1
    have hE3 := hE2.trans he3
    have cN : ∀ d os, Calls Try.prog 41 #[.int .i64 n] (Sort.grow (redrawn w3 d) os) fun e w'' => e = .returned (.string ⟨pb.toArray⟩) ∧ ∃ p : Regrown, w'' = Sort.grow (redrawn w3 p.d) p.os :=
      fun d os => Calls.regrown_of (by rw [EP.out]; exact refNum_any n _ hn2)
    have k1 := cell_regrown c1
    go_wp2_with fail
    refine wp_region_quiet_below (by kernel_rfl) (by kernel_rfl) ?_
    repeat (quiet_step (first | (go_at_call 41; exact cN _ _)))
    refine wpQuiet_nil ?_
    rintro w4 ⟨⟨d2, os2⟩, rfl⟩
    have hb4 := below_regrown w3 d2 os2
    have ho3 := ho3.keep hb4
    have hvn3 : ∀ kb, vb.ownBlock = some kb → kb ≠ p ∧ g3 ≠ some kb := hvn3
    have hE3 := hE3.trans (OutEff.of_below hb4 hO3.pLt)
    have hO3 := hO3.keep hb4
    clear k1
    generalize Sort.grow (redrawn w3 d2) os2 = w4 at *
    clear c0 c1 c2
    have hvn : ∀ kb, vb.ownBlock = some kb → kb ≠ p ∧ g3 ≠ some kb := hvn3
    obtain ⟨aov, capv, rfl, hspv⟩ := ho3.val
    go_wp2_with fail
    go_loopw [9] (fun i wr => ∃ (j : Nat) (tj : List UInt8), j ≤ t.length ∧ i = .int .i64 j ∧ tj.length = t.length ∧ OB wr w.heap.size (.slice aov t.length capv) tj ∧ OutAt wr B p off (l ++ pb) (bad || !pk) g3 ∧ OutEff w wr p off g g3) (fun i _ => t.length - (intOf i).toNat)
    case atStart => exact ⟨0, t, Nat.zero_le _, rfl, rfl, ho3.mono (Nat.le_of_lt hsz0), hO3, hE3⟩
    case round =>
      obtain ⟨j, tj, hj, rfl, htj, how, hOw, hEw⟩ := hrel
      have HTJ := Lib.hid htj
      by_cases hlt : j < t.length
      · obtain ⟨gb, capb, hvb, hgb1, hgb2, hgb3, hgb4⟩ := how.shape (by intro h; rw [h] at htj; simp at htj; omega)
        simp only [Value.slice.injEq] at hvb
        obtain ⟨rfl, hv2, rfl⟩ := hvb
        clear hv2
        have hcj := how.cell htj.symm (j := j) (by omega)
        have hfj := how.free htj.symm j
        clear htj hgb3
        obtain ⟨c, hcc⟩ : ∃ c, c = tj.getD j 0 := ⟨_, rfl⟩
        rw [← hcc] at hcj
        have HC := Lib.hid hcc; clear hcc
        have hjn : (j : Int) < (t.length : Int) := by omega
        have hvp := hvn gb rfl
        have HX := Lib.hid (xor1 c)
        go_wp2_with fail
        rw [HX.out]
        have how' := how.set HTJ.out.symm j (c ^^^ 1)
        have hon : Only (· = gb) wr (wr.setCell ⟨gb, j, none⟩ (.int .u8 ((c ^^^ 1).toNat : Int))) := Only.setCell (S := (· = gb)) (Only.refl _ _) (p := ⟨gb, j, none⟩) (fun _ => rfl) _
        have hOw' := hOw.only hon (fun h => hvp.1 h.symm) (fun kb hkb e => hvp.2 (by rw [hkb, e]))
        have hEw' : OutEff w (wr.setCell ⟨gb, j, none⟩ (.int .u8 ((c ^^^ 1).toNat : Int))) p off g g3 := hEw.far hon hgb1 (fun h => hvp.1 h.symm) hOw.pLt
        clear hcj hfj how hOw hEw hon
        generalize wr.setCell ⟨gb, j, none⟩ (.int .u8 ((c ^^^ 1).toNat : Int)) = w5 at *
        go_wp2_with fail
        go_roundw
        case rel => exact ⟨j + 1, tj.set j (c ^^^ 1), by omega, by go_num, by rw [List.length_set]; exact HTJ.out, how', hOw', hEw'⟩
        case measure => simp [intOf]; omega
      · go_wp2_with fail
        go_ret2
        exact ⟨rfl, g3, hOw, hEw⟩
  · subst e
    have ep : pb = smallL n := by rw [HPB.out]; unfold partL; rw [HKK.out]; simp
    have ek : pk = decide (0 ≤ n ∧ n ≤ 255) := by rw [HPK.out]; unfold partOk; rw [HKK.out]; simp
    have EP := Lib.hid ep; clear ep
    have EK := Lib.hid ek; clear ek
    go_wp2_with fail
    refine (osmall_any n _ hO2 hn1 hn2 (by omega)).mono ?_
    rw [← EP.out, ← EK.out]
    rintro e w3 ⟨rfl, g3, hO3, he3⟩
    have hsz3 := he3.only.size
    have hvn3 : ∀ kb, vb.ownBlock = some kb → kb ≠ p ∧ g3 ≠ some kb := fun kb hkb => ⟨fun e => by have := hvge _ hkb; omega, fun e => by
      rcases he3.new with e2 | ⟨m, e2, hm⟩
      · rw [e2] at e; have := (hgB _ e).2; have := hvge _ hkb; omega
      · rw [e2] at e; cases e; have := ho2.own_lt _ hkb; omega⟩
    have ho3 := ho2.only he3.only (fun kb hkb hs => hs.elim (fun e => by have := hvge _ hkb; omega) (fun e => by have := (hgB _ e).2; have := hvge _ hkb; omega))
    have c1 := (he3.only.cell (p := ⟨w.heap.size, 1, none⟩) hsz2 (fun hs => by have hs : w.heap.size = p ∨ g = some w.heap.size := hs; exact hs.elim (fun e => by omega) (fun e => by have := (hgB _ e).2; omega))).trans c1
    have hE3 := hE2.trans he3
    by_cases hn0 : 0 ≤ n
    · have hd1 : decide (n < 256) = pk := by rw [EK.out]; by_cases h : n < 256 <;> simp [h, hn0] <;> omega
      have cN : ∀ d os, Calls Try.prog 42 #[.int .i64 n] (Sort.grow (redrawn w3 d) os) fun e w'' => e = .returned (.string ⟨pb.toArray⟩) ∧ ∃ p : Regrown, w'' = Sort.grow (redrawn w3 p.d) p.os :=
        fun d os => Calls.regrown_of (by rw [EP.out]; exact refSmall_any n _)
      have k1 := cell_regrown c1
      go_wp2_with fail
      refine wp_region_quiet_below (by kernel_rfl) (by kernel_rfl) ?_
      repeat (quiet_step (first | (go_at_call 42; exact cN _ _)))
      refine wpQuiet_nil ?_
      rintro w4 ⟨⟨d2, os2⟩, rfl⟩
      have hb4 := below_regrown w3 d2 os2
      have ho3 := ho3.keep hb4
      have hvn3 : ∀ kb, vb.ownBlock = some kb → kb ≠ p ∧ g3 ≠ some kb := hvn3
      have hE3 := hE3.trans (OutEff.of_below hb4 hO3.pLt)
      have hO3 := hO3.keep hb4
      clear k1
      generalize Sort.grow (redrawn w3 d2) os2 = w4 at *
      clear c0 c1 c2
      have hvn : ∀ kb, vb.ownBlock = some kb → kb ≠ p ∧ g3 ≠ some kb := hvn3
      obtain ⟨aov, capv, rfl, hspv⟩ := ho3.val
      go_wp2_with fail
      go_loopw [9] (fun i wr => ∃ (j : Nat) (tj : List UInt8), j ≤ t.length ∧ i = .int .i64 j ∧ tj.length = t.length ∧ OB wr w.heap.size (.slice aov t.length capv) tj ∧ OutAt wr B p off (l ++ pb) (bad || !pk) g3 ∧ OutEff w wr p off g g3) (fun i _ => t.length - (intOf i).toNat)
      case atStart => exact ⟨0, t, Nat.zero_le _, rfl, rfl, ho3.mono (Nat.le_of_lt hsz0), hO3, hE3⟩
      case round =>
        obtain ⟨j, tj, hj, rfl, htj, how, hOw, hEw⟩ := hrel
        have HTJ := Lib.hid htj
        by_cases hlt : j < t.length
        · obtain ⟨gb, capb, hvb, hgb1, hgb2, hgb3, hgb4⟩ := how.shape (by intro h; rw [h] at htj; simp at htj; omega)
          simp only [Value.slice.injEq] at hvb
          obtain ⟨rfl, hv2, rfl⟩ := hvb
          clear hv2
          have hcj := how.cell htj.symm (j := j) (by omega)
          have hfj := how.free htj.symm j
          clear htj hgb3
          obtain ⟨c, hcc⟩ : ∃ c, c = tj.getD j 0 := ⟨_, rfl⟩
          rw [← hcc] at hcj
          have HC := Lib.hid hcc; clear hcc
          have hjn : (j : Int) < (t.length : Int) := by omega
          have hvp := hvn gb rfl
          have HX := Lib.hid (xor1 c)
          go_wp2_with fail
          rw [HX.out]
          have how' := how.set HTJ.out.symm j (c ^^^ 1)
          have hon : Only (· = gb) wr (wr.setCell ⟨gb, j, none⟩ (.int .u8 ((c ^^^ 1).toNat : Int))) := Only.setCell (S := (· = gb)) (Only.refl _ _) (p := ⟨gb, j, none⟩) (fun _ => rfl) _
          have hOw' := hOw.only hon (fun h => hvp.1 h.symm) (fun kb hkb e => hvp.2 (by rw [hkb, e]))
          have hEw' : OutEff w (wr.setCell ⟨gb, j, none⟩ (.int .u8 ((c ^^^ 1).toNat : Int))) p off g g3 := hEw.far hon hgb1 (fun h => hvp.1 h.symm) hOw.pLt
          clear hcj hfj how hOw hEw hon
          generalize wr.setCell ⟨gb, j, none⟩ (.int .u8 ((c ^^^ 1).toNat : Int)) = w5 at *
          go_wp2_with fail
          go_roundw
          case rel => exact ⟨j + 1, tj.set j (c ^^^ 1), by omega, by go_num, by rw [List.length_set]; exact HTJ.out, how', hOw', hEw'⟩
          case measure => simp [intOf]; omega
        · go_wp2_with fail
          go_ret2
          exact ⟨rfl, g3, hOw, hEw⟩
    · have hd1 : decide (0 ≤ n) = false := by simp; omega
      have hpk : pk = false := by rw [EK.out]; simp; omega
      subst hpk
      have cN : ∀ d os, Calls Try.prog 42 #[.int .i64 n] (Sort.grow (redrawn w3 d) os) fun e w'' => e = .returned (.string ⟨pb.toArray⟩) ∧ ∃ p : Regrown, w'' = Sort.grow (redrawn w3 p.d) p.os :=
        fun d os => Calls.regrown_of (by rw [EP.out]; exact refSmall_any n _)
      have k1 := cell_regrown c1
      go_wp2_with fail
      refine wp_region_quiet_below (by kernel_rfl) (by kernel_rfl) ?_
      repeat (quiet_step (first | (go_at_call 42; exact cN _ _)))
      refine wpQuiet_nil ?_
      rintro w4 ⟨⟨d2, os2⟩, rfl⟩
      have hb4 := below_regrown w3 d2 os2
      have ho3 := ho3.keep hb4
      have hvn3 : ∀ kb, vb.ownBlock = some kb → kb ≠ p ∧ g3 ≠ some kb := hvn3
      have hE3 := hE3.trans (OutEff.of_below hb4 hO3.pLt)
      have hO3 := hO3.keep hb4
      clear k1
      generalize Sort.grow (redrawn w3 d2) os2 = w4 at *
      clear c0 c1 c2
      have hvn : ∀ kb, vb.ownBlock = some kb → kb ≠ p ∧ g3 ≠ some kb := hvn3
      obtain ⟨aov, capv, rfl, hspv⟩ := ho3.val
      go_wp2_with fail
      go_loopw [9] (fun i wr => ∃ (j : Nat) (tj : List UInt8), j ≤ t.length ∧ i = .int .i64 j ∧ tj.length = t.length ∧ OB wr w.heap.size (.slice aov t.length capv) tj ∧ OutAt wr B p off (l ++ pb) (bad || !false) g3 ∧ OutEff w wr p off g g3) (fun i _ => t.length - (intOf i).toNat)
      case atStart => exact ⟨0, t, Nat.zero_le _, rfl, rfl, ho3.mono (Nat.le_of_lt hsz0), hO3, hE3⟩
      case round =>
        obtain ⟨j, tj, hj, rfl, htj, how, hOw, hEw⟩ := hrel
        have HTJ := Lib.hid htj
        by_cases hlt : j < t.length
        · obtain ⟨gb, capb, hvb, hgb1, hgb2, hgb3, hgb4⟩ := how.shape (by intro h; rw [h] at htj; simp at htj; omega)
          simp only [Value.slice.injEq] at hvb
          obtain ⟨rfl, hv2, rfl⟩ := hvb
          clear hv2
          have hcj := how.cell htj.symm (j := j) (by omega)
          have hfj := how.free htj.symm j
          clear htj hgb3
          obtain ⟨c, hcc⟩ : ∃ c, c = tj.getD j 0 := ⟨_, rfl⟩
          rw [← hcc] at hcj
          have HC := Lib.hid hcc; clear hcc
          have hjn : (j : Int) < (t.length : Int) := by omega
          have hvp := hvn gb rfl
          have HX := Lib.hid (xor1 c)
          go_wp2_with fail
          rw [HX.out]
          have how' := how.set HTJ.out.symm j (c ^^^ 1)
          have hon : Only (· = gb) wr (wr.setCell ⟨gb, j, none⟩ (.int .u8 ((c ^^^ 1).toNat : Int))) := Only.setCell (S := (· = gb)) (Only.refl _ _) (p := ⟨gb, j, none⟩) (fun _ => rfl) _
          have hOw' := hOw.only hon (fun h => hvp.1 h.symm) (fun kb hkb e => hvp.2 (by rw [hkb, e]))
          have hEw' : OutEff w (wr.setCell ⟨gb, j, none⟩ (.int .u8 ((c ^^^ 1).toNat : Int))) p off g g3 := hEw.far hon hgb1 (fun h => hvp.1 h.symm) hOw.pLt
          clear hcj hfj how hOw hEw hon
          generalize wr.setCell ⟨gb, j, none⟩ (.int .u8 ((c ^^^ 1).toNat : Int)) = w5 at *
          go_wp2_with fail
          go_roundw
          case rel => exact ⟨j + 1, tj.set j (c ^^^ 1), by omega, by go_num, by rw [List.length_set]; exact HTJ.out, how', hOw', hEw'⟩
          case measure => simp [intOf]; omega
        · go_wp2_with fail
          go_ret2
          exact ⟨rfl, g3, hOw, hEw⟩
  · subst e
    have ep : pb = t := by rw [HPB.out]; unfold partL; rw [HKK.out]; simp
    have ek : pk = true := by rw [HPK.out]; unfold partOk; rw [HKK.out]; simp
    subst ek
    subst ep
    have hcv := run_str w2 ho2.bsl
    go_wp2_with fail
    refine (ofixed_any vb pb _ hO2 ho2.bsl (by omega)).mono ?_
    rintro e w3 ⟨rfl, g3, hO3, he3⟩
    have hsz3 := he3.only.size
    have hvn3 : ∀ kb, vb.ownBlock = some kb → kb ≠ p ∧ g3 ≠ some kb := fun kb hkb => ⟨fun e => by have := hvge _ hkb; omega, fun e => by
      rcases he3.new with e2 | ⟨m, e2, hm⟩
      · rw [e2] at e; have := (hgB _ e).2; have := hvge _ hkb; omega
      · rw [e2] at e; cases e; have := ho2.own_lt _ hkb; omega⟩
    have ho3 := ho2.only he3.only (fun kb hkb hs => hs.elim (fun e => by have := hvge _ hkb; omega) (fun e => by have := (hgB _ e).2; have := hvge _ hkb; omega))
    have c1 := (he3.only.cell (p := ⟨w.heap.size, 1, none⟩) hsz2 (fun hs => by have hs : w.heap.size = p ∨ g = some w.heap.size := hs; exact hs.elim (fun e => by omega) (fun e => by have := (hgB _ e).2; omega))).trans c1
    have hE3 := hE2.trans he3
    have hO3 : OutAt w3 B p off (l ++ pb) (bad || !true) g3 := by simpa using hO3
    clear hcv
    clear c0 c1 c2
    have hvn : ∀ kb, vb.ownBlock = some kb → kb ≠ p ∧ g3 ≠ some kb := hvn3
    obtain ⟨aov, capv, rfl, hspv⟩ := ho3.val
    go_wp2_with fail
    go_loopw [9] (fun i wr => ∃ (j : Nat) (tj : List UInt8), j ≤ pb.length ∧ i = .int .i64 j ∧ tj.length = pb.length ∧ OB wr w.heap.size (.slice aov pb.length capv) tj ∧ OutAt wr B p off (l ++ pb) (bad || !true) g3 ∧ OutEff w wr p off g g3) (fun i _ => pb.length - (intOf i).toNat)
    case atStart => exact ⟨0, pb, Nat.zero_le _, rfl, rfl, ho3.mono (Nat.le_of_lt hsz0), hO3, hE3⟩
    case round =>
      obtain ⟨j, tj, hj, rfl, htj, how, hOw, hEw⟩ := hrel
      have HTJ := Lib.hid htj
      by_cases hlt : j < pb.length
      · obtain ⟨gb, capb, hvb, hgb1, hgb2, hgb3, hgb4⟩ := how.shape (by intro h; rw [h] at htj; simp at htj; omega)
        simp only [Value.slice.injEq] at hvb
        obtain ⟨rfl, hv2, rfl⟩ := hvb
        clear hv2
        have hcj := how.cell htj.symm (j := j) (by omega)
        have hfj := how.free htj.symm j
        clear htj hgb3
        obtain ⟨c, hcc⟩ : ∃ c, c = tj.getD j 0 := ⟨_, rfl⟩
        rw [← hcc] at hcj
        have HC := Lib.hid hcc; clear hcc
        have hjn : (j : Int) < (pb.length : Int) := by omega
        have hvp := hvn gb rfl
        have HX := Lib.hid (xor1 c)
        go_wp2_with fail
        rw [HX.out]
        have how' := how.set HTJ.out.symm j (c ^^^ 1)
        have hon : Only (· = gb) wr (wr.setCell ⟨gb, j, none⟩ (.int .u8 ((c ^^^ 1).toNat : Int))) := Only.setCell (S := (· = gb)) (Only.refl _ _) (p := ⟨gb, j, none⟩) (fun _ => rfl) _
        have hOw' := hOw.only hon (fun h => hvp.1 h.symm) (fun kb hkb e => hvp.2 (by rw [hkb, e]))
        have hEw' : OutEff w (wr.setCell ⟨gb, j, none⟩ (.int .u8 ((c ^^^ 1).toNat : Int))) p off g g3 := hEw.far hon hgb1 (fun h => hvp.1 h.symm) hOw.pLt
        clear hcj hfj how hOw hEw hon
        generalize wr.setCell ⟨gb, j, none⟩ (.int .u8 ((c ^^^ 1).toNat : Int)) = w5 at *
        go_wp2_with fail
        go_roundw
        case rel => exact ⟨j + 1, tj.set j (c ^^^ 1), by omega, by go_num, by rw [List.length_set]; exact HTJ.out, how', hOw', hEw'⟩
        case measure => simp [intOf]; omega
      · go_wp2_with fail
        go_ret2
        exact ⟨rfl, g3, hOw, hEw⟩
  · subst e
    have ep : pb = bytesL t := by rw [HPB.out]; unfold partL; rw [HKK.out]; simp
    have ek : pk = true := by rw [HPK.out]; unfold partOk; rw [HKK.out]; simp
    subst ek
    have EP := Lib.hid ep; clear ep
    have hcv := run_str w2 ho2.bsl
    go_wp2_with fail
    refine (refBytes_any t _ (by omega)).mono ?_
    rw [← EP.out]
    rintro e w22 ⟨rfl, hb22⟩
    unfold strV
    have c1 := (hb22.cell (p := ⟨w.heap.size, 1, none⟩) hsz2).trans c1
    have hE2 : OutEff w w22 p off g g := OutEff.of_below (hbw2.trans (hb22.mono (Nat.le_of_lt hsz2))) hpl
    have hsz2 : w.heap.size < w22.heap.size := Nat.lt_of_lt_of_le hsz2 hb22.size
    have ho2 := ho2.keep hb22
    have hO2 := hO2.keep hb22
    clear hcv
    go_wp2_with fail
    refine (obytes_any vb t _ hO2 ho2.bsl (fun kb hkb => ⟨fun e => by have := hvge _ hkb; omega, fun e => by have := (hgB _ e).2; have := hvge _ hkb; omega⟩) (by omega)).mono ?_
    rw [← EP.out]
    rintro e w3 ⟨rfl, g3, hO3, he3⟩
    have hsz3 := he3.only.size
    have hvn3 : ∀ kb, vb.ownBlock = some kb → kb ≠ p ∧ g3 ≠ some kb := fun kb hkb => ⟨fun e => by have := hvge _ hkb; omega, fun e => by
      rcases he3.new with e2 | ⟨m, e2, hm⟩
      · rw [e2] at e; have := (hgB _ e).2; have := hvge _ hkb; omega
      · rw [e2] at e; cases e; have := ho2.own_lt _ hkb; omega⟩
    have ho3 := ho2.only he3.only (fun kb hkb hs => hs.elim (fun e => by have := hvge _ hkb; omega) (fun e => by have := (hgB _ e).2; have := hvge _ hkb; omega))
    have c1 := (he3.only.cell (p := ⟨w.heap.size, 1, none⟩) hsz2 (fun hs => by have hs : w.heap.size = p ∨ g = some w.heap.size := hs; exact hs.elim (fun e => by omega) (fun e => by have := (hgB _ e).2; omega))).trans c1
    have hE3 := hE2.trans he3
    have hO3 : OutAt w3 B p off (l ++ pb) (bad || !true) g3 := by simpa using hO3
    clear c0 c1 c2
    have hvn : ∀ kb, vb.ownBlock = some kb → kb ≠ p ∧ g3 ≠ some kb := hvn3
    obtain ⟨aov, capv, rfl, hspv⟩ := ho3.val
    go_wp2_with fail
    go_loopw [9] (fun i wr => ∃ (j : Nat) (tj : List UInt8), j ≤ t.length ∧ i = .int .i64 j ∧ tj.length = t.length ∧ OB wr w.heap.size (.slice aov t.length capv) tj ∧ OutAt wr B p off (l ++ pb) (bad || !true) g3 ∧ OutEff w wr p off g g3) (fun i _ => t.length - (intOf i).toNat)
    case atStart => exact ⟨0, t, Nat.zero_le _, rfl, rfl, ho3.mono (Nat.le_of_lt hsz0), hO3, hE3⟩
    case round =>
      obtain ⟨j, tj, hj, rfl, htj, how, hOw, hEw⟩ := hrel
      have HTJ := Lib.hid htj
      by_cases hlt : j < t.length
      · obtain ⟨gb, capb, hvb, hgb1, hgb2, hgb3, hgb4⟩ := how.shape (by intro h; rw [h] at htj; simp at htj; omega)
        simp only [Value.slice.injEq] at hvb
        obtain ⟨rfl, hv2, rfl⟩ := hvb
        clear hv2
        have hcj := how.cell htj.symm (j := j) (by omega)
        have hfj := how.free htj.symm j
        clear htj hgb3
        obtain ⟨c, hcc⟩ : ∃ c, c = tj.getD j 0 := ⟨_, rfl⟩
        rw [← hcc] at hcj
        have HC := Lib.hid hcc; clear hcc
        have hjn : (j : Int) < (t.length : Int) := by omega
        have hvp := hvn gb rfl
        have HX := Lib.hid (xor1 c)
        go_wp2_with fail
        rw [HX.out]
        have how' := how.set HTJ.out.symm j (c ^^^ 1)
        have hon : Only (· = gb) wr (wr.setCell ⟨gb, j, none⟩ (.int .u8 ((c ^^^ 1).toNat : Int))) := Only.setCell (S := (· = gb)) (Only.refl _ _) (p := ⟨gb, j, none⟩) (fun _ => rfl) _
        have hOw' := hOw.only hon (fun h => hvp.1 h.symm) (fun kb hkb e => hvp.2 (by rw [hkb, e]))
        have hEw' : OutEff w (wr.setCell ⟨gb, j, none⟩ (.int .u8 ((c ^^^ 1).toNat : Int))) p off g g3 := hEw.far hon hgb1 (fun h => hvp.1 h.symm) hOw.pLt
        clear hcj hfj how hOw hEw hon
        generalize wr.setCell ⟨gb, j, none⟩ (.int .u8 ((c ^^^ 1).toNat : Int)) = w5 at *
        go_wp2_with fail
        go_roundw
        case rel => exact ⟨j + 1, tj.set j (c ^^^ 1), by omega, by go_num, by rw [List.length_set]; exact HTJ.out, how', hOw', hEw'⟩
        case measure => simp [intOf]; omega
      · go_wp2_with fail
        go_ret2
        exact ⟨rfl, g3, hOw, hEw⟩
end Go.Proofs.Ytinpeieecodijaa
