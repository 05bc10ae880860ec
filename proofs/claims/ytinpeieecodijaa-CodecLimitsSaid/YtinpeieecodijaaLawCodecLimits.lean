/- The law CodecLimits. -/
import Derived.Test.YtinpeieecodijaaInLaw
import Derived.Test.YtinpeieecodijaaRefCodec
import Derived.Test.YtinpeieecodijaaOpen
import Derived.IntWalk
import Derived.Laws.BitsLemmas
namespace Go.Proofs.Ytinpeieecodijaa
open Go.RowKit
theorem numL_length (n : Int) : (numL n).length = if 0 ≤ n then 8 else 0 := by unfold numL; split <;> simp [putLowL_length]
theorem bytesL_len (l : List UInt8) : (bytesL l).length = l.length + 4 := by simp [bytesL, putLowL_length]; omega
set_option maxRecDepth 100000 in
set_option maxHeartbeats 1000000 in
theorem codecLimits_walk (n most : Int) (v : Value) (l : List UInt8) (w : World) (hn : (Lit.int .i64 n).wf = true) (hm : (Lit.int .i64 most).wf = true) (hb : Bsl w v l) :
    Calls Try.prog 6 #[.int .i64 n, .int .i64 most, v] w fun e w' => e = .returned (.bool true) ∧ Below w.heap.size w w' := by
  have hnb := int_of_wf hn
  have hmb := int_of_wf hm
  obtain ⟨ao, cap, rfl, hlc, hcm, hnil, hne⟩ := id hb
  obtain ⟨na, hna⟩ : ∃ k, k = min l.length 100 := ⟨_, rfl⟩
  have eA : (if (100:Int) < (l.length:Int) then 100 else (l.length:Int)) = (na : Int) := by split <;> omega
  have ta := hb.take (m := na) (by omega)
  have tal : (l.take na).length = na := by simp; omega
  have qa : na ≤ l.length ∧ na ≤ 100 := by omega
  clear hna hn hm hne hnil hb
  generalize l.take na = t at ta tal
  subst tal
  have r1 : (t.length : Int) ≤ cap := by omega
  go_enter Try.func6, Try.ntmps6
  go_wp2_with fail
  have hO0 := OutAt.fresh w w.heap.size 32 (Nat.le_refl _)
  have hA : Below w.heap.size w (w.alloc (.cells #[.slice none 0 0, .bool false] 32)) := (Below.refl _ _).alloc (Nat.le_refl _) _
  have hne : ∀ w', Below w.heap.size w w' → Bsl w' (.slice ao t.length cap) t := fun w' h => ta.keep h
  have tow := ta.own_lt
  clear eA
  refine (onum_any n _ hO0 hnb.1 hnb.2 (by simp)).mono ?_
  rintro e w1 ⟨rfl, g1, hO1, hE1⟩
  have hB1 := hA.trans (hE1.below hA.size (Nat.le_refl _) (by intro k hk; cases hk))
  clear hO0 hE1 hA
  go_wp2_with fail
  have hnl := numL_length n
  refine (obytes_far _ t w1 hO1 (hne _ hB1) (fun h k hk => by
    have h1 := tow h k hk
    exact ⟨by omega, fun e => by have := (hO1.gB k e).1; omega⟩) (by rw [List.nil_append, hnl]; split <;> omega)).mono ?_
  rintro e w2 ⟨rfl, g2, hO2, hE2⟩
  have hB2 := hB1.trans (hE2.below hB1.size (Nat.le_refl _) (fun k hk => (hO1.gB k hk).1))
  have hbl := bytesL_len t
  rw [List.nil_append, Bool.false_or] at hO2
  clear hO1 hE2 hB1
  go_wp2_with fail
  refine (odone_any w2 hO2 (by rw [List.length_append, hnl, hbl]; split <;> omega)).mono ?_
  rintro e w3 ⟨v3, rfl, ho3, hB3'⟩
  have hB3 := hB2.trans (hB3'.mono hB2.size)
  clear hO2
  by_cases hn0 : n < 0
  · have hL : (numL n ++ bytesL t).length = t.length + 4 := by rw [List.length_append, hnl, hbl, if_neg (by omega)]; omega
    rw [if_pos (by simpa using hn0)]
    have hw : wrap64 (4 + (t.length : Int)) = (t.length : Int) + 4 := by rw [IntWalk.wrap64_in _ (by omega)]; omega
    obtain ⟨ao3, cap3, hv, _⟩ := OB.val ho3
    rw [hL] at hv
    subst hv
    clear hL hnl hbl
    go_wp2_with fail
    refine (codes_any w3).mono ?_
    rintro e w4 ⟨rfl, hB4'⟩
    have hB4 := hB3.trans (hB4'.mono hB3.size)
    go_wp2_with fail
    go_ret
    refine ⟨?_, hB4⟩
    simp; try omega
  · have hn1 : 0 ≤ n := by omega
    rw [if_neg (by simpa using hn1)]
    have hL : (numL n ++ bytesL t).length = t.length + 12 := by rw [List.length_append, hnl, hbl, if_pos hn1]; omega
    clear hnl hbl
    go_wp2_with fail
    refine (codes_any w3).mono ?_
    rintro e w4 ⟨rfl, hB4'⟩
    have hB4 := hB3.trans (hB4'.mono hB3.size)
    have ho4 := ho3.keep hB4'
    clear ho3 hB4' hB3'
    go_wp2_with fail
    refine (iof_any v3 _ w4 ho4.bsl (by omega)).mono ?_
    rintro e w5 ⟨p, g, rfl, hI, hp, hg, hB5'⟩
    have hB5 := hB4.trans (hB5'.mono hB4.size)
    have hpw : w.heap.size ≤ p := Nat.le_trans hB4.size hp
    clear ho4
    go_wp2_with fail
    refine (inum_any most w5 hI (by rw [hL]; omega)).mono ?_
    rintro e w6 ⟨rfl, hI6, hon6⟩
    have hB6 := hB5.trans (hon6.to_below hB5.size (fun k hk => by omega))
    by_cases hmo : most < n
    · obtain ⟨q1, q2⟩ := num_big (l := bytesL t) hn1 hnb.2 hmo
      rw [q1]
      rw [q2] at hI6
      clear q1 q2
      go_wp2_with fail
      refine (iend_any w6 hI6).mono ?_
      rintro e w7 ⟨rfl, rfl⟩
      rw [show IK.endE ⟨numL n ++ bytesL t, 5⟩ = 5 by simp [IK.endE]]
      go_wp2_with fail
      go_ret
      exact ⟨rfl, hB6⟩
    · obtain ⟨q1, q2⟩ := num_put (l := bytesL t) hn1 hnb.2 (show n ≤ most by omega)
      rw [q1]
      rw [q2] at hI6
      clear q1 q2
      obtain ⟨q, hq, hqe⟩ : ∃ q : Nat, q < 120 ∧ most % 120 = (q : Int) := ⟨(most % 120).toNat, by omega, by omega⟩
      go_wp2_with fail
      rw [hqe]
      clear hqe
      refine (ibytes_any q w6 hI6 (by simp only; rw [bytesL_len]; omega)).mono ?_
      rintro e w7 ⟨v7, rfl, ho7, hI7, hon7⟩
      have hB7 := hB6.trans (hon7.to_below hB6.size (fun k hk => by omega))
      have hst := run_str w7 (hne w7 hB7)
      by_cases hql : (q : Int) < t.length
      · obtain ⟨q1, q2⟩ := byt_big (t := t) (l := []) (by omega) hql
        rw [List.append_nil] at q1 q2
        rw [q1] at ho7
        rw [q2] at hI7
        obtain ⟨ao7, cap7, hv, _⟩ := OB.val ho7
        subst hv
        clear q1 q2
        go_wp2_with fail
        refine (iend_any w7 hI7).mono ?_
        rintro e w8 ⟨rfl, rfl⟩
        rw [show IK.endE ⟨bytesL t, 5⟩ = 5 by simp [IK.endE]]
        go_wp2_with fail
        go_ret
        exact ⟨rfl, hB7⟩
      · obtain ⟨q1, q2⟩ := byt_put (t := t) (l := []) (most := q) (by omega) (by omega)
        rw [List.append_nil] at q1 q2
        rw [q1] at ho7
        rw [q2] at hI7
        have hst7 := run_str w7 ho7.bsl
        clear q1 q2
        go_wp2_with fail
        refine (iend_any w7 hI7).mono ?_
        rintro e w8 ⟨rfl, rfl⟩
        rw [show IK.endE ⟨[], 0⟩ = 0 by simp [IK.endE]]
        go_wp2_with fail
        go_ret
        exact ⟨rfl, hB7⟩
end Go.Proofs.Ytinpeieecodijaa
