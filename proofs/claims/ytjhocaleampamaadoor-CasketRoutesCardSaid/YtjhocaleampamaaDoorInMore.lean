/- codec.In: Fixed, Bytes, End, Of. -/
import Derived.Test.YtjhocaleampamaaDoorInObj
import Derived.Test.YtjhocaleampamaaDoorOutObj
namespace Go.Proofs.YtjhocaleampamaaDoor
open Go.RowKit
def IK.fixS (d : IK) (n : Int) : IK := if d.e ≠ 0 ∨ n < 0 then d else if (d.b.length : Int) < n then { d with e := 3 } else { d with b := d.b.drop n.toNat }
def IK.fixL (d : IK) (n : Int) : List UInt8 := if d.e ≠ 0 ∨ n < 0 then [] else if (d.b.length : Int) < n then [] else d.b.take n.toNat
set_option maxRecDepth 100000 in
set_option maxHeartbeats 1000000 in
theorem ifixed_any (n : Int) (w : World) {p : Nat} {g : Option Nat} {d : IK} (h : InAt w p g d) (hl : d.b.length ≤ 1000000) :
    Calls Tryd.prog 59 #[.pointer (some ⟨p, 0, none⟩), .int .i64 n] w fun e w' => ∃ v, e = .returned v ∧ OB w' w.heap.size v (d.fixL n) ∧ InAt w' p g (d.fixS n) ∧ Only (· = p) w w' := by
  unfold IK.fixS IK.fixL
  by_cases he : d.e ≠ 0
  · rw [if_pos (.inl he), if_pos (.inl he)]
    have he2 : (d.e != 0) = true := by simpa using he
    go_enter Tryd.func59, Tryd.ntmps59
    go_wp2_with fail
    refine (idead_any w h).mono ?_
    rintro e w1 ⟨rfl, rfl⟩
    rw [he2]
    go_wp2_with fail
    go_ret
    exact ⟨_, rfl, OB.nil _ _, h, Only.refl _ _⟩
  · have he0 : d.e = 0 := by simpa using he
    have he2 : (d.e != 0) = false := by simpa using he0
    by_cases hn : n < 0
    · rw [if_pos (.inr hn), if_pos (.inr hn)]
      clear he
      go_enter Tryd.func59, Tryd.ntmps59
      go_wp2_with fail
      refine (idead_any w h).mono ?_
      rintro e w1 ⟨rfl, rfl⟩
      rw [he2]
      go_wp2_with fail
      go_ret
      exact ⟨_, rfl, OB.nil _ _, h, Only.refl _ _⟩
    · have hnn : ¬ (d.e ≠ 0 ∨ n < 0) := by
        rintro (h | h)
        · exact h he0
        · exact hn h
      rw [if_neg hnn, if_neg hnn]
      clear he hnn
      obtain ⟨k, rfl⟩ : ∃ k : Nat, n = k := ⟨n.toNat, by omega⟩
      rw [Int.toNat_natCast]
      obtain ⟨ao, cap, ⟨c0, c1⟩, ⟨f0, f1⟩, hz2, hz3, hz4, hz5, hz6⟩ := id h
      have hbl := hz2.len
      clear hz2 hz3 hz4 hz5 hz6
      by_cases hlt : (d.b.length : Int) < k
      · rw [if_pos hlt, if_pos hlt]
        obtain ⟨hO2, hon⟩ := h.setE 3
        have HO := Lib.hid hO2
        have HN := Lib.hid hon
        clear hO2 hon
        go_enter Tryd.func59, Tryd.ntmps59
        go_wp2_with fail
        refine (idead_any w h).mono ?_
        rintro e w1 ⟨rfl, rfl⟩
        rw [he2]
        clear h
        go_wp2_with fail
        go_ret
        exact ⟨_, rfl, OB.nil _ _, HO.out, HN.out⟩
      · rw [if_neg hlt, if_neg hlt]
        go_enter Tryd.func59, Tryd.ntmps59
        go_wp2_with fail
        refine (idead_any w h).mono ?_
        rintro e w1 ⟨rfl, rfl⟩
        rw [he2]
        go_wp2_with fail
        refine (iskip_any k k rfl w h (by omega) hl).mono ?_
        rintro e w2 ⟨v, rfl, ho, hO2, hon2⟩
        go_wp2_with fail
        go_ret
        exact ⟨_, rfl, ho, hO2, hon2⟩
set_option maxRecDepth 100000 in
theorem ifixed_nil (n : Int) (w : World) : Calls Tryd.prog 59 #[.pointer none, .int .i64 n] w fun e w' => e = .returned (.slice none 0 0) ∧ w = w' := by
  go_enter Tryd.func59, Tryd.ntmps59
  go_wp2_with fail
  refine (idead_nil w).mono ?_
  rintro e w1 ⟨rfl, rfl⟩
  go_wp2_with fail
  go_ret
  exact ⟨rfl, rfl⟩
def IK.bytS (d : IK) (most : Int) : IK := if d.e ≠ 0 then d else if lkE d.b 4 most ≠ 0 then { d with e := lkE d.b 4 most } else if (d.b.length : Int) - 4 < lkN d.b 4 most then { d with e := 3 } else { d with b := (d.b.drop 4).drop (lkN d.b 4 most).toNat }
def IK.bytL (d : IK) (most : Int) : List UInt8 := if d.e ≠ 0 then [] else if lkE d.b 4 most ≠ 0 then [] else if (d.b.length : Int) - 4 < lkN d.b 4 most then [] else (d.b.drop 4).take (lkN d.b 4 most).toNat
theorem lkN_nat (b : List UInt8) (k : Nat) (most : Int) : ∃ q : Nat, lkN b k most = q := by
  unfold lkN
  split
  · exact ⟨_, rfl⟩
  · exact ⟨0, rfl⟩
set_option maxRecDepth 100000 in
set_option maxHeartbeats 1000000 in
theorem ibytes_any (most : Int) (w : World) {p : Nat} {g : Option Nat} {d : IK} (h : InAt w p g d) (hl : d.b.length ≤ 1000000) :
    Calls Tryd.prog 84 #[.pointer (some ⟨p, 0, none⟩), .int .i64 most] w fun e w' => ∃ v, e = .returned v ∧ OB w' w.heap.size v (d.bytL most) ∧ InAt w' p g (d.bytS most) ∧ Only (· = p) w w' := by
  unfold IK.bytS IK.bytL
  by_cases he : d.e ≠ 0
  · rw [if_pos he, if_pos he]
    have he2 : (d.e != 0) = true := by simpa using he
    go_enter Tryd.func84, Tryd.ntmps84
    go_wp2_with fail
    refine (idead_any w h).mono ?_
    rintro e w1 ⟨rfl, rfl⟩
    rw [he2]
    go_wp2_with fail
    go_ret
    exact ⟨_, rfl, OB.nil _ _, h, Only.refl _ _⟩
  · rw [if_neg he, if_neg he]
    have he0 : d.e = 0 := by simpa using he
    have he2 : (d.e != 0) = false := by simpa using he0
    clear he
    by_cases hE : lkE d.b 4 most ≠ 0
    · rw [if_pos hE, if_pos hE]
      go_enter Tryd.func84, Tryd.ntmps84
      go_wp2_with fail
      refine (idead_any w h).mono ?_
      rintro e w1 ⟨rfl, rfl⟩
      rw [he2]
      go_wp2_with fail
      refine (ilook_any 4 most 4 rfl (by omega) w h he0).mono ?_
      rintro e w1 ⟨rfl, hO1, hon1⟩
      obtain ⟨ao, cap, ⟨c0, c1⟩, hz1, hz2, hz3, hz4, hz5, hz6⟩ := id hO1
      dsimp only at c1
      clear hz1 hz2 hz3 hz4 hz5 hz6 c0 he2
      go_wp2_with fail
      go_ret
      exact ⟨_, rfl, OB.nil _ _, hO1, hon1⟩
    · rw [if_neg hE, if_neg hE]
      have hE0 : lkE d.b 4 most = 0 := by simpa using hE
      have h4 := lkE_len hE0
      clear hE
      obtain ⟨q, hq⟩ := lkN_nat d.b 4 most
      rw [hq, Int.toNat_natCast]
      by_cases hlt : (d.b.length : Int) - 4 < q
      · rw [if_pos hlt, if_pos hlt]
        go_enter Tryd.func84, Tryd.ntmps84
        go_wp2_with fail
        refine (idead_any w h).mono ?_
        rintro e w1 ⟨rfl, rfl⟩
        rw [he2]
        go_wp2_with fail
        refine (ilook_any 4 most 4 rfl (by omega) w h he0).mono ?_
        rintro e w1 ⟨rfl, hO1, hon1⟩
        rw [hE0] at hO1
        rw [hq]
        have hd : { d with e := 0 } = d := by cases d; simp at he0; subst he0; rfl
        rw [hd] at hO1
        obtain ⟨ao, cap, ⟨c0, c1⟩, ⟨f0, f1⟩, hz2, hz3, hz4, hz5, hz6⟩ := id hO1
        rw [he0] at c1
        obtain ⟨hO2, hon2⟩ := hO1.setE 3
        have HO := Lib.hid hO2
        have HN := Lib.hid (hon1.trans hon2 (fun _ _ h => h))
        clear hO1 hO2 hon1 hon2 hd hz2 hz3 hz4 hz5 hz6 hE0 hq h
        go_wp2_with fail
        go_ret
        exact ⟨_, rfl, OB.nil _ _, HO.out, HN.out⟩
      · rw [if_neg hlt, if_neg hlt]
        have h4l : d.b.length - 4 = (d.b.drop 4).length := by simp
        go_enter Tryd.func84, Tryd.ntmps84
        go_wp2_with fail
        refine (idead_any w h).mono ?_
        rintro e w1 ⟨rfl, rfl⟩
        rw [he2]
        go_wp2_with fail
        refine (ilook_any 4 most 4 rfl (by omega) w h he0).mono ?_
        rintro e w1 ⟨rfl, hO1, hon1⟩
        rw [hE0] at hO1
        rw [hq]
        have hd : { d with e := 0 } = d := by cases d; simp at he0; subst he0; rfl
        rw [hd] at hO1
        obtain ⟨ao, cap, ⟨c0, c1⟩, ⟨f0, f1⟩, hz2, hz3, hz4, hz5, hz6⟩ := id hO1
        rw [he0] at c1
        have H4 := Lib.hid h4l
        clear hz2 hz3 hz4 hz5 hz6 hE0 hq h h4l hd
        go_wp2_with fail
        refine (iskip_any 4 4 rfl w1 hO1 h4 hl).mono ?_
        rintro e w2 ⟨v, rfl, _, hO2, hon2⟩
        go_wp2_with fail
        have hq2 : q ≤ (d.b.drop 4).length := by rw [← H4.out]; omega
        refine (iskip_any q q rfl w2 hO2 hq2 (by simp; omega)).mono ?_
        rintro e w3 ⟨v, rfl, ho, hO3, hon3⟩
        go_wp2_with fail
        go_ret
        have hsz : w.heap.size ≤ w2.heap.size := Nat.le_trans hon1.size hon2.size
        exact ⟨_, rfl, ho.mono hsz, hO3, (hon1.trans hon2 (fun _ _ h => h)).trans hon3 (fun _ _ h => h)⟩
set_option maxRecDepth 100000 in
theorem ibytes_nil (n : Int) (w : World) : Calls Tryd.prog 84 #[.pointer none, .int .i64 n] w fun e w' => e = .returned (.slice none 0 0) ∧ w = w' := by
  go_enter Tryd.func84, Tryd.ntmps84
  go_wp2_with fail
  refine (idead_nil w).mono ?_
  rintro e w1 ⟨rfl, rfl⟩
  go_wp2_with fail
  go_ret
  exact ⟨rfl, rfl⟩
def IK.endE (d : IK) : Int := if d.e = 0 ∧ d.b ≠ [] then 4 else d.e
set_option maxRecDepth 100000 in
theorem iend_any (w : World) {p : Nat} {g : Option Nat} {d : IK} (h : InAt w p g d) : Calls Tryd.prog 36 #[.pointer (some ⟨p, 0, none⟩)] w fun e w' => e = .returned (.int .i64 d.endE) ∧ w = w' := by
  obtain ⟨ao, cap, ⟨c0, c1⟩, ⟨f0, f1⟩, hz2, hz3, hz4, hz5, hz6⟩ := h
  clear hz2 hz3 hz4 hz5 hz6
  unfold IK.endE
  by_cases he : d.e = 0
  · by_cases hb : d.b = []
    · rw [if_neg (fun h => h.2 hb), he]
      rw [hb] at c0
      rw [he] at c1
      go_enter Tryd.func36, Tryd.ntmps36
      go_wp2_with fail
      go_ret
      exact ⟨rfl, rfl⟩
    · rw [if_pos ⟨he, hb⟩]
      have hpos : (0 : Int) < d.b.length := by have := List.length_pos_iff.2 hb; omega
      rw [he] at c1
      clear he hb
      go_enter Tryd.func36, Tryd.ntmps36
      go_wp2_with fail
      go_ret
      exact ⟨rfl, rfl⟩
  · rw [if_neg (fun h => he h.1)]
    go_enter Tryd.func36, Tryd.ntmps36
    go_wp2_with fail
    go_ret
    exact ⟨rfl, rfl⟩
theorem iend_nil (w : World) : Calls Tryd.prog 36 #[.pointer none] w fun e w' => e = .returned (.int .i64 1) ∧ w = w' := by
  go_enter Tryd.func36, Tryd.ntmps36
  go_wp2_with fail
  go_ret
  exact ⟨rfl, rfl⟩
set_option maxRecDepth 100000 in
set_option maxHeartbeats 400000 in
theorem iof_any (v : Value) (l : List UInt8) (w : World) (hb : Bsl w v l) (hl : l.length ≤ 140737488355328) :
    Calls Tryd.prog 32 #[v] w fun e w' => ∃ p g, e = .returned (.pointer (some ⟨p, 0, none⟩)) ∧ InAt w' p g { b := l, e := 0 } ∧ w.heap.size ≤ p ∧ (∀ k, g = some k → w.heap.size ≤ k) ∧ Below w.heap.size w w' := by
  go_enter Tryd.func32, Tryd.ntmps32
  go_wp2_with fail
  refine (bclone_any v l w hb hl).mono ?_
  rintro e w1 ⟨v1, rfl, ho, hB⟩
  obtain ⟨ao, cap, hv, hsp⟩ := id (OB.val ho)
  subst hv
  have hsp2 : ao = none ∨ ∃ b off, ao = some ⟨b, off, none⟩ := by
    cases ao with
    | none => exact .inl rfl
    | some a =>
      obtain ⟨b, off, sp⟩ := a
      have := hsp _ rfl
      simp at this
      exact .inr ⟨b, off, by rw [this]⟩
  clear hsp
  have hge := ho.own_ge
  have hlt := ho.own_lt
  have hA : Below w1.heap.size w1 (w1.alloc (.cells #[.slice ao l.length cap, .int .i64 0] 119)) := (Below.refl _ _).alloc (Nat.le_refl _) _
  have hI : InAt (w1.alloc (.cells #[.slice ao l.length cap, .int .i64 0] 119)) w1.heap.size ((Value.slice ao l.length cap).ownBlock) { b := l, e := 0 } := by
    refine ⟨ao, cap, ⟨World.cell?_alloc_new w1 _ _ 0, World.cell?_alloc_new w1 _ _ 1⟩, ⟨by simp, by simp⟩, ho.bsl.keep hA, fun k hk => hk, fun e => by have := hlt _ e; omega, fun k hk => Nat.lt_of_lt_of_le (hlt k hk) hA.size, hsp2⟩
  have hBB := hB.trans (hA.mono hB.size)
  have HI := Lib.hid hI
  have HB := Lib.hid hBB
  have hsz : w.heap.size ≤ w1.heap.size := hB.size
  clear hI hBB ho hA hsp2
  go_wp2_with fail
  go_ret
  exact ⟨_, _, rfl, HI.out, hsz, hge, HB.out⟩
end Go.Proofs.YtjhocaleampamaaDoor
