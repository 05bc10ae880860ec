/- casketref08.In and casketref01.Word: the walks. -/
import Derived.Test.YtanghmpphlmpkaaInMore
import Derived.Test.YtanghmpphlmpkaaRefBits
import Derived.IntWalk
namespace Go.Proofs.Ytanghmpphlmpkaa
open Go.RowKit
theorem strI_size (l : List UInt8) : (⟨l.toArray⟩ : ByteArray).size = l.length := by simp [ByteArray.size]
theorem strI_get (l : List UInt8) (k : Nat) (h : k < l.length) : (⟨l.toArray⟩ : ByteArray)[k]'(by rw [strI_size]; exact h) = l.getD k 0 := by
  show l.toArray[k]'(by simpa using h) = _
  simp [List.getD, h]
theorem strI_extract (l : List UInt8) (m n : Nat) : (⟨l.toArray⟩ : ByteArray).extract m n = ⟨((l.take n).drop m).toArray⟩ := by
  apply ByteArray.ext
  simp [ByteArray.data_extract, List.extract_toArray, List.drop_take]
set_option maxRecDepth 100000 in
set_option maxHeartbeats 1000000 in
theorem refWord_any (l : List UInt8) (w : World) (hl : l.length ≤ 8) :
    Calls Try.prog 66 #[strV l, .bool true] w fun e w' => e = .returned (.int .u64 (beL l)) ∧ w = w' := by
  unfold strV
  go_enter Try.func66, Try.ntmps66
  go_wp2
  go_loop [5, 6] (fun n i => ∃ k : Nat, k ≤ l.length ∧ i = .int .i64 k ∧ n = .int .u64 (beL (l.take k))) (fun _ i => l.length - (intOf i).toNat)
  case atStart => exact ⟨0, Nat.zero_le _, rfl, rfl⟩
  case round =>
    obtain ⟨k, hk, rfl, rfl⟩ := hrel
    by_cases hlt : k < l.length
    · have hcv : (⟨l.toArray⟩ : ByteArray)[k]'(by rw [strI_size]; exact hlt) = l.getD k 0 := strI_get l k hlt
      have hst : l.take (k + 1) = l.take k ++ [l.getD k 0] := by
        rw [List.take_succ_eq_append_getElem hlt, List.getD, List.getElem?_eq_getElem hlt]; rfl
      have hxr := beL_lt (l.take k)
      have hc8 := UInt8.toNat_lt (l.getD k 0)
      have hsn := beL_snoc (l.take k) (l.getD k 0)
      rw [← hst] at hsn
      have hxb : beL (l.take k) * 256 + (l.getD k 0).toNat < 18446744073709551616 := by
        rw [← hsn]; exact beL_lt8 _ (by rw [List.length_take]; omega)
      generalize l.getD k 0 = c at *
      have HS := Lib.hid hsn
      generalize beL (l.take k) = x at *
      clear hsn hst hxr
      have hw1 : IntKind.u64.wrap ((x : Int) * 256) = (x : Int) * 256 := by rw [IntKind.wrap_u64]; omega
      have hw2 : IntKind.u64.wrap ((x : Int) * 256 + (c.toNat : Int)) = (x : Int) * 256 + (c.toNat : Int) := by rw [IntKind.wrap_u64]; omega
      go_wp2
      go_round
      case rel => exact ⟨k + 1, by omega, by go_num, by rw [HS.out]; go_num⟩
      case measure => simp [intOf]; omega
    · rw [List.take_of_length_le (by omega)]
      go_wp2
      go_ret
      exact ⟨rfl, rfl⟩
/-- The document's In at p. -/
def RInAt (w : World) (p : Nat) (d : IK) : Prop := (w.cell? ⟨p, 0, none⟩ = some (.string ⟨d.b.toArray⟩) ∧ w.cell? ⟨p, 1, none⟩ = some (.int .i64 d.e)) ∧ (w.frozen? ⟨p, 0, none⟩ = false ∧ w.frozen? ⟨p, 1, none⟩ = false)
theorem RInAt.lt {w : World} {p : Nat} {d : IK} (h : RInAt w p d) : p < w.heap.size := World.block_lt_of_cell? w _ h.1.1
theorem RInAt.only {S : Nat → Prop} {w w' : World} {p : Nat} {d : IK} (h : RInAt w p d) (ho : Only S w w') (hp : ¬ S p) : RInAt w' p d := by
  have hlt := h.lt
  obtain ⟨⟨c0, c1⟩, f0, f1⟩ := h
  exact ⟨⟨(ho.cell hlt hp).trans c0, (ho.cell hlt hp).trans c1⟩, (ho.frozen hlt hp).trans f0, (ho.frozen hlt hp).trans f1⟩
theorem RInAt.keep {w w' : World} {p : Nat} {d : IK} (h : RInAt w p d) (hb : Below w.heap.size w w') : RInAt w' p d := h.only (Only.of_below (S := fun _ => False) hb) (fun h => h)
theorem RInAt.setE {w : World} {p : Nat} {d : IK} (h : RInAt w p d) (e : Int) : RInAt (w.setCell ⟨p, 1, none⟩ (.int .i64 e)) p { d with e := e } ∧ Only (· = p) w (w.setCell ⟨p, 1, none⟩ (.int .i64 e)) := by
  have hon : Only (· = p) w (w.setCell ⟨p, 1, none⟩ (.int .i64 e)) := Only.setCell (S := (· = p)) (Only.refl _ _) (p := ⟨p, 1, none⟩) (fun _ => rfl) _
  obtain ⟨⟨c0, c1⟩, f0, f1⟩ := h
  refine ⟨⟨⟨?_, World.cell?_setCell_same w _ _ c1⟩, by rw [World.frozen?_setCell]; exact f0, by rw [World.frozen?_setCell]; exact f1⟩, hon⟩
  rw [World.cell?_setCell_other w _ _ _ (by simp)]; exact c0
theorem RInAt.setB {w : World} {p : Nat} {d : IK} (h : RInAt w p d) (l : List UInt8) : RInAt (w.setCell ⟨p, 0, none⟩ (.string ⟨l.toArray⟩)) p { d with b := l } ∧ Only (· = p) w (w.setCell ⟨p, 0, none⟩ (.string ⟨l.toArray⟩)) := by
  have hon : Only (· = p) w (w.setCell ⟨p, 0, none⟩ (.string ⟨l.toArray⟩)) := Only.setCell (S := (· = p)) (Only.refl _ _) (p := ⟨p, 0, none⟩) (fun _ => rfl) _
  obtain ⟨⟨c0, c1⟩, f0, f1⟩ := h
  refine ⟨⟨⟨World.cell?_setCell_same w _ _ c0, ?_⟩, by rw [World.frozen?_setCell]; exact f0, by rw [World.frozen?_setCell]; exact f1⟩, hon⟩
  rw [World.cell?_setCell_other w _ _ _ (by simp)]; exact c1
set_option maxRecDepth 100000 in
set_option maxHeartbeats 1000000 in
theorem rnumber_any (most : Int) (k : Nat) (hk : k ≤ 8) (hmb : -9223372036854775808 ≤ most ∧ most ≤ 9223372036854775807) (w : World) {p : Nat} {d : IK} (h : RInAt w p d) (he : d.e = 0) (hl : d.b.length ≤ 1000000) :
    Calls Try.prog 63 #[.pointer (some ⟨p, 0, none⟩), .int .i64 k, .int .i64 most] w fun e w' => e = .returned (.int .i64 (lkN d.b k most)) ∧ RInAt w' p { d with e := lkE d.b k most } ∧ Only (· = p) w w' := by
  have hO := h
  obtain ⟨⟨c0, c1⟩, f0, f1⟩ := h
  have hd : { d with e := 0 } = d := by cases d; simp at he; subst he; rfl
  by_cases hlen : d.b.length < k
  · have hlen8 : (d.b.length : Int) < k := by omega
    have hE : lkE d.b k most = 3 := by unfold lkE; rw [if_pos hlen]
    have hN : lkN d.b k most = 0 := by unfold lkN; rw [hE, if_neg (by omega)]
    rw [hE, hN]
    obtain ⟨hO2, hon⟩ := hO.setE 3
    clear hE hN hO
    go_enter Try.func63, Try.ntmps63
    go_wp2_with fail
    go_ret
    exact ⟨rfl, hO2, hon⟩
  · have hlen8 : ¬ ((d.b.length : Int) < k) := by omega
    have hlen9 : (k : Int) ≤ d.b.length := by omega
    have hk0 : (0 : Int) ≤ (k : Int) := Int.natCast_nonneg _
    have hx := beL_lt8 (d.b.take k) (by rw [List.length_take]; omega)
    have hcase : (beL (d.b.take k) < 9223372036854775808 ∧ (beL (d.b.take k) : Int) ≤ most ∧ lkE d.b k most = 0 ∧ lkN d.b k most = beL (d.b.take k)) ∨ (most < (beL (d.b.take k) : Int) ∧ 0 ≤ most ∧ lkE d.b k most = 5 ∧ lkN d.b k most = 0) ∨
        (most < 0 ∧ most < 0 ∧ lkE d.b k most = 5 ∧ lkN d.b k most = 0) := by
      unfold lkN lkE
      rw [if_neg hlen]
      by_cases hx2 : (beL (d.b.take k) : Int) ≤ most
      · have hx1 : beL (d.b.take k) < 9223372036854775808 := by omega
        rw [if_pos ⟨hx1, hx2⟩]; simp [hx1, hx2]
      · rw [if_neg (fun h => hx2 h.2)]; simp; omega
    generalize lkE d.b k most = E at *
    generalize lkN d.b k most = N at *
    obtain ⟨hO5, hon5⟩ := hO.setE 5
    have HEX := strI_extract d.b 0 k
    rw [List.drop_zero] at HEX
    have hwm : 0 ≤ most → IntKind.u64.wrap most = most := fun h0 => by rw [IntKind.wrap_u64]; omega
    go_enter Try.func63, Try.ntmps63
    go_wp2_with fail
    clear HEX
    refine (refWord_any (d.b.take k) w (by rw [List.length_take]; omega)).mono ?_
    rintro e w1 ⟨rfl, rfl⟩
    generalize beL (d.b.take k) = x at *
    rcases hcase with ⟨hx1, hx2, rfl, rfl⟩ | ⟨hx1, hx2, rfl, rfl⟩ | ⟨hx1, hx2, rfl, rfl⟩
    · have hw := hwm (by omega)
      have hx3 : wrap64 (x : Int) = x := IntWalk.wrap64_in _ (by omega)
      have hm0 : ¬ most < 0 := by omega
      clear hO5 hon5 hwm
      go_wp2_with fail
      go_ret
      exact ⟨rfl, by rw [hd]; exact hO, Only.refl _ _⟩
    · have hw := hwm hx2
      have hm0 : ¬ most < 0 := by omega
      clear hO hwm
      go_wp2_with fail
      go_ret
      exact ⟨rfl, hO5, hon5⟩
    · clear hO hwm
      go_wp2_with fail
      go_ret
      exact ⟨rfl, hO5, hon5⟩
set_option maxRecDepth 100000 in
set_option maxHeartbeats 1000000 in
theorem rtake_any (most : Int) (k : Nat) (hk : k ≤ 8) (hmb : -9223372036854775808 ≤ most ∧ most ≤ 9223372036854775807) (w : World) {p : Nat} {d : IK} (h : RInAt w p d) (hl : d.b.length ≤ 1000000) :
    Calls Try.prog 54 #[.pointer (some ⟨p, 0, none⟩), .int .i64 k, .int .i64 most] w fun e w' => e = .returned (.int .i64 (d.numN k most)) ∧ RInAt w' p (d.numS k most) ∧ Only (· = p) w w' := by
  obtain ⟨⟨c0, c1⟩, f0, f1⟩ := id h
  unfold IK.numS IK.numN
  by_cases he : d.e ≠ 0
  · rw [if_pos he, if_pos he]
    go_enter Try.func54, Try.ntmps54
    go_wp2_with fail
    go_ret
    exact ⟨rfl, h, Only.refl _ _⟩
  · rw [if_neg he, if_neg he]
    have he0 : d.e = 0 := by simpa using he
    rw [he0] at c1
    clear he
    have hlE := @lkE_len d.b k most
    by_cases hE : lkE d.b k most = 0
    · rw [if_pos hE]
      have hlen := hlE hE
      have hd : { d with e := 0 } = d := by cases d; simp at he0; subst he0; rfl
      have hk0 : (0 : Int) ≤ (k : Int) := Int.natCast_nonneg _
      have hk8 : (k : Int) ≤ d.b.length := by omega
      have HEX := strI_extract d.b k d.b.length
      rw [List.take_length] at HEX
      go_enter Try.func54, Try.ntmps54
      go_wp2_with fail
      refine (rnumber_any most k hk hmb w h he0 hl).mono ?_
      rintro e w1 ⟨rfl, hO1, hon1⟩
      rw [hE, hd] at hO1
      obtain ⟨⟨c01, c11⟩, f01, f11⟩ := id hO1
      rw [he0] at c11
      obtain ⟨hO2, hon2⟩ := hO1.setB (d.b.drop k)
      have HO := Lib.hid hO2
      have HN := Lib.hid (hon1.trans hon2 (fun _ _ h => h))
      clear hO1 hO2 hon1 hon2 hE hlE hd h c0 c1 f0 f1
      go_wp2_with fail
      go_ret
      exact ⟨rfl, HO.out, HN.out⟩
    · rw [if_neg hE]
      go_enter Try.func54, Try.ntmps54
      go_wp2_with fail
      refine (rnumber_any most k hk hmb w h he0 hl).mono ?_
      rintro e w1 ⟨rfl, hO1, hon1⟩
      obtain ⟨⟨c01, c11⟩, f01, f11⟩ := id hO1
      dsimp only at c11
      clear c0 c1 f0 f1 hlE h
      go_wp2_with fail
      go_ret
      exact ⟨rfl, hO1, hon1⟩
theorem rnum_any (most : Int) (hmb : -9223372036854775808 ≤ most ∧ most ≤ 9223372036854775807) (w : World) {p : Nat} {d : IK} (h : RInAt w p d) (hl : d.b.length ≤ 1000000) :
    Calls Try.prog 32 #[.pointer (some ⟨p, 0, none⟩), .int .i64 most] w fun e w' => e = .returned (.int .i64 (d.numN 8 most)) ∧ RInAt w' p (d.numS 8 most) ∧ Only (· = p) w w' := by
  go_enter Try.func32, Try.ntmps32
  go_wp2_with fail
  refine (rtake_any most 8 (by omega) hmb w h hl).mono ?_
  rintro e w1 ⟨rfl, h1, h2⟩
  go_wp2_with fail
  go_ret
  exact ⟨rfl, h1, h2⟩
theorem rsmall_any (most : Int) (hmb : -9223372036854775808 ≤ most ∧ most ≤ 9223372036854775807) (w : World) {p : Nat} {d : IK} (h : RInAt w p d) (hl : d.b.length ≤ 1000000) :
    Calls Try.prog 31 #[.pointer (some ⟨p, 0, none⟩), .int .i64 most] w fun e w' => e = .returned (.int .i64 (d.numN 1 most)) ∧ RInAt w' p (d.numS 1 most) ∧ Only (· = p) w w' := by
  go_enter Try.func31, Try.ntmps31
  go_wp2_with fail
  refine (rtake_any most 1 (by omega) hmb w h hl).mono ?_
  rintro e w1 ⟨rfl, h1, h2⟩
  go_wp2_with fail
  go_ret
  exact ⟨rfl, h1, h2⟩
set_option maxRecDepth 100000 in
set_option maxHeartbeats 1000000 in
theorem rfixed_any (n : Int) (w : World) {p : Nat} {d : IK} (h : RInAt w p d) (_hl : d.b.length ≤ 1000000) :
    Calls Try.prog 34 #[.pointer (some ⟨p, 0, none⟩), .int .i64 n] w fun e w' => e = .returned (strV (d.fixL n)) ∧ RInAt w' p (d.fixS n) ∧ Only (· = p) w w' := by
  unfold IK.fixS IK.fixL strV
  obtain ⟨⟨c0, c1⟩, f0, f1⟩ := id h
  by_cases he : d.e ≠ 0
  · rw [if_pos (.inl he), if_pos (.inl he)]
    go_enter Try.func34, Try.ntmps34
    go_wp2_with fail
    go_ret
    exact ⟨rfl, h, Only.refl _ _⟩
  · have he0 : d.e = 0 := by simpa using he
    rw [he0] at c1
    by_cases hn : n < 0
    · rw [if_pos (.inr hn), if_pos (.inr hn)]
      clear he
      go_enter Try.func34, Try.ntmps34
      go_wp2_with fail
      go_ret
      exact ⟨rfl, h, Only.refl _ _⟩
    · have hnn : ¬ (d.e ≠ 0 ∨ n < 0) := by
        rintro (h | h)
        · exact h he0
        · exact hn h
      rw [if_neg hnn, if_neg hnn]
      clear he hnn
      obtain ⟨k, rfl⟩ : ∃ k : Nat, n = k := ⟨n.toNat, by omega⟩
      rw [Int.toNat_natCast]
      have hk0 : (0 : Int) ≤ (k : Int) := Int.natCast_nonneg _
      by_cases hlt : (d.b.length : Int) < k
      · rw [if_pos hlt, if_pos hlt]
        obtain ⟨hO2, hon⟩ := h.setE 3
        have HO := Lib.hid hO2
        have HN := Lib.hid hon
        clear hO2 hon h
        go_enter Try.func34, Try.ntmps34
        go_wp2_with fail
        go_ret
        exact ⟨rfl, HO.out, HN.out⟩
      · rw [if_neg hlt, if_neg hlt]
        have hk8 : (k : Int) ≤ d.b.length := by omega
        have HEX := strI_extract d.b k d.b.length
        rw [List.take_length] at HEX
        have HEX2 := strI_extract d.b 0 k
        rw [List.drop_zero] at HEX2
        obtain ⟨hO2, hon⟩ := h.setB (d.b.drop k)
        rw [he0] at hO2
        have HO := Lib.hid hO2
        have HN := Lib.hid hon
        clear hO2 hon h
        go_enter Try.func34, Try.ntmps34
        go_wp2_with fail
        go_ret
        exact ⟨rfl, HO.out, HN.out⟩
set_option maxRecDepth 100000 in
set_option maxHeartbeats 1000000 in
theorem rbytes_any (most : Int) (hmb : -9223372036854775808 ≤ most ∧ most ≤ 9223372036854775807) (w : World) {p : Nat} {d : IK} (h : RInAt w p d) (hl : d.b.length ≤ 1000000) :
    Calls Try.prog 55 #[.pointer (some ⟨p, 0, none⟩), .int .i64 most] w fun e w' => e = .returned (strV (d.bytL most)) ∧ RInAt w' p (d.bytS most) ∧ Only (· = p) w w' := by
  unfold IK.bytS IK.bytL strV
  obtain ⟨⟨c0, c1⟩, f0, f1⟩ := id h
  by_cases he : d.e ≠ 0
  · rw [if_pos he, if_pos he]
    go_enter Try.func55, Try.ntmps55
    go_wp2_with fail
    go_ret
    exact ⟨rfl, h, Only.refl _ _⟩
  · rw [if_neg he, if_neg he]
    have he0 : d.e = 0 := by simpa using he
    rw [he0] at c1
    clear he
    by_cases hE : lkE d.b 4 most ≠ 0
    · rw [if_pos hE, if_pos hE]
      go_enter Try.func55, Try.ntmps55
      go_wp2_with fail
      refine (rnumber_any most 4 (by omega) hmb w h he0 hl).mono ?_
      rintro e w1 ⟨rfl, hO1, hon1⟩
      obtain ⟨⟨c01, c11⟩, f01, f11⟩ := id hO1
      dsimp only at c11
      clear c0 c1 f0 f1 h
      go_wp2_with fail
      go_ret
      exact ⟨rfl, hO1, hon1⟩
    · rw [if_neg hE, if_neg hE]
      have hE0 : lkE d.b 4 most = 0 := by simpa using hE
      have h4 := lkE_len hE0
      clear hE
      obtain ⟨q, hq⟩ := lkN_nat d.b 4 most
      rw [hq, Int.toNat_natCast]
      have hd : { d with e := 0 } = d := by cases d; simp at he0; subst he0; rfl
      have hq0 : (0 : Int) ≤ (q : Int) := Int.natCast_nonneg _
      by_cases hlt : (d.b.length : Int) - 4 < q
      · rw [if_pos hlt, if_pos hlt]
        go_enter Try.func55, Try.ntmps55
        go_wp2_with fail
        refine (rnumber_any most 4 (by omega) hmb w h he0 hl).mono ?_
        rintro e w1 ⟨rfl, hO1, hon1⟩
        rw [hE0, hd] at hO1
        rw [hq]
        obtain ⟨⟨c01, c11⟩, f01, f11⟩ := id hO1
        rw [he0] at c11
        obtain ⟨hO2, hon2⟩ := hO1.setE 3
        have HO := Lib.hid hO2
        have HN := Lib.hid (hon1.trans hon2 (fun _ _ h => h))
        clear hO1 hO2 hon1 hon2 hd hE0 hq h c0 c1 f0 f1
        go_wp2_with fail
        go_ret
        exact ⟨rfl, HO.out, HN.out⟩
      · rw [if_neg hlt, if_neg hlt]
        have hql : q ≤ d.b.length - 4 := by omega
        have HEX := strI_extract d.b (4 + q) d.b.length
        rw [List.take_length] at HEX
        have HX2 := Lib.hid (strI_extract d.b 4 (4 + q))
        have hdd : (d.b.drop 4).drop q = d.b.drop (4 + q) := by rw [List.drop_drop]
        have htt : (d.b.drop 4).take q = (d.b.take (4 + q)).drop 4 := by rw [List.drop_take]; simp
        rw [hdd, htt]
        have hw : wrap64 (4 + (q : Int)) = ((4 + q : Nat) : Int) := by rw [IntWalk.wrap64_in _ (by omega)]; omega
        have hq4 : (4 : Int) ≤ ((4 + q : Nat) : Int) ∧ ((4 + q : Nat) : Int) ≤ d.b.length := by omega
        go_enter Try.func55, Try.ntmps55
        go_wp2_with fail
        refine (rnumber_any most 4 (by omega) hmb w h he0 hl).mono ?_
        rintro e w1 ⟨rfl, hO1, hon1⟩
        rw [hE0, hd] at hO1
        rw [hq]
        obtain ⟨⟨c01, c11⟩, f01, f11⟩ := id hO1
        rw [he0] at c11
        obtain ⟨hO2, hon2⟩ := hO1.setB (d.b.drop (4 + q))
        have HO := Lib.hid hO2
        have HN := Lib.hid (hon1.trans hon2 (fun _ _ h => h))
        clear hO1 hO2 hon1 hon2 hd hE0 hq h c0 c1 f0 f1 hdd htt
        go_wp2_with fail
        go_ret
        exact ⟨by rw [← HX2.out]; rfl, HO.out, HN.out⟩
set_option maxRecDepth 100000 in
theorem rend_any (w : World) {p : Nat} {d : IK} (h : RInAt w p d) : Calls Try.prog 36 #[.pointer (some ⟨p, 0, none⟩)] w fun e w' => e = .returned (.int .i64 d.endE) ∧ w = w' := by
  obtain ⟨⟨c0, c1⟩, f0, f1⟩ := h
  unfold IK.endE
  by_cases he : d.e = 0
  · by_cases hb : d.b = []
    · rw [if_neg (fun h => h.2 hb), he]
      rw [hb] at c0
      rw [he] at c1
      go_enter Try.func36, Try.ntmps36
      go_wp2_with fail
      go_ret
      exact ⟨rfl, rfl⟩
    · rw [if_pos ⟨he, hb⟩]
      rw [he] at c1
      have hne : d.b.isEmpty = false := by simpa using hb
      clear he hb
      go_enter Try.func36, Try.ntmps36
      go_wp2_with fail
      go_ret
      exact ⟨rfl, rfl⟩
  · rw [if_neg (fun h => he h.1)]
    go_enter Try.func36, Try.ntmps36
    go_wp2_with fail
    go_ret
    exact ⟨rfl, rfl⟩
end Go.Proofs.Ytanghmpphlmpkaa
