/- pad.Cut, casketref10.Pad, casketref10.Cut: the walks. -/
import Derived.Test.YtinpeieecodijaaPad
import Derived.Test.YtinpeieecodijaaInLaw
import Derived.Test.YtinpeieecodijaaRefIn
import Derived.Test.YtinpeieecodijaaSame
import Derived.Test.YtinpeieecodijaaRefCodec
namespace Go.Proofs.Ytinpeieecodijaa
open Go.RowKit
theorem bytL_len {d : IK} {most : Int} (h : 0 ≤ most) : ((d.bytL most).length : Int) ≤ most := by
  unfold IK.bytL
  by_cases h1 : d.e ≠ 0
  · rw [if_pos h1]; simpa using h
  · rw [if_neg h1]
    by_cases h2 : lkE d.b 4 most ≠ 0
    · rw [if_pos h2]; simpa using h
    · rw [if_neg h2]
      have h20 : lkE d.b 4 most = 0 := by simpa using h2
      by_cases h3 : (d.b.length : Int) - 4 < lkN d.b 4 most
      · rw [if_pos h3]; simpa using h
      · rw [if_neg h3]
        have hle : lkN d.b 4 most ≤ most ∧ 0 ≤ lkN d.b 4 most := by
          unfold lkN; rw [if_pos h20]
          unfold lkE at h20
          split at h20
          · omega
          · split at h20
            · rename_i h; omega
            · omega
        rw [List.length_take]
        omega
/-- The bytes that these are cut to. -/
def cutL (l : List UInt8) : List UInt8 := IK.bytL ⟨l, 0⟩ 4000
def cutOk (l : List UInt8) : Bool := decide (padL (cutL l) = l)
theorem cutL_len (l : List UInt8) : (cutL l).length ≤ 4000 := by have := bytL_len (d := ⟨l, 0⟩) (most := 4000) (by omega); unfold cutL; omega
theorem cut_put {t z : List UInt8} (h : t.length ≤ 4000) : cutL (bytesL t ++ z) = t ∧ (IK.bytS ⟨bytesL t ++ z, 0⟩ 4000).e = 0 := by
  obtain ⟨h1, h2⟩ := byt_put (t := t) (l := z) (most := 4000) (by omega) (by omega)
  exact ⟨h1, by rw [h2]⟩
theorem cut_pad {l : List UInt8} (h : l.length ≤ 4000) : cutL (padL l) = l ∧ cutOk (padL l) = true := by
  have h1 : cutL (padL l) = l := by unfold padL; exact (cut_put h).1
  exact ⟨h1, by unfold cutOk; rw [h1]; simp⟩
theorem cutOk_e {l : List UInt8} (h : cutOk l = true) : (IK.bytS ⟨l, 0⟩ 4000).e = 0 := by
  have h1 : padL (cutL l) = l := by simpa [cutOk] using h
  have h2 := cut_put (t := cutL l) (z := List.replicate ((clsS (cutL l).length).toNat - ((cutL l).length + 4)) 0) (cutL_len l)
  have h3 : bytesL (cutL l) ++ List.replicate ((clsS (cutL l).length).toNat - ((cutL l).length + 4)) 0 = l := h1
  rw [h3] at h2
  exact h2.2
set_option maxRecDepth 100000 in
set_option maxHeartbeats 1000000 in
theorem cut_any (v : Value) (l : List UInt8) (w : World) (h : Bsl w v l) (hl : l.length ≤ 1000000) :
    Calls Try.prog 35 #[v] w fun e w' => ∃ v', e = .returned (.tuple #[v', .int .i64 (if cutOk l then 0 else 2)]) ∧ OB w' w.heap.size v' (if cutOk l then cutL l else []) ∧ Below w.heap.size w w' := by
  have hcl := cutL_len l
  unfold cutOk
  obtain ⟨ao, cap, rfl, hz1, hz2, hz3, hz4⟩ := id h
  clear hz1 hz2 hz3 hz4
  by_cases hok : padL (cutL l) = l
  · rw [decide_eq_true hok, if_pos rfl, if_pos rfl]
    have HK := Lib.hid hok
    clear hok
    go_enter Try.func35, Try.ntmps35
    go_wp2_with fail
    refine (iof_any _ l w h (by omega)).mono ?_
    rintro e w1 ⟨p, g, rfl, hI, hp, hg, hB1⟩
    go_wp2_with fail
    refine (ibytes_any 4000 w1 hI (by omega)).mono ?_
    rintro e w2 ⟨v2, rfl, ho2, hI2, hon2⟩
    have hB2 := hB1.trans (hon2.to_below hB1.size (fun k hk => by omega))
    have ho2 : OB w2 w1.heap.size v2 (cutL l) := ho2
    go_wp2_with fail
    refine (pad_ok v2 (cutL l) w2 ho2.bsl hcl).mono ?_
    rintro e w3 ⟨v3, rfl, ho3, hB3'⟩
    rw [HK.out] at ho3
    have hB3 := hB2.trans (hB3'.mono hB2.size)
    go_wp2_with fail
    refine (same_any v3 _ l l w3 ho3.bsl (h.keep hB3)).mono ?_
    rintro e w4 ⟨rfl, hB4'⟩
    rw [decide_eq_true rfl]
    have hB4 := hB3.trans (hB4'.mono hB3.size)
    have ho4 := ((ho2.keep hB3').keep hB4').mono hB1.size
    clear ho2 ho3 hI hI2 hB1 hB2 hB3 hB3' hB4' hon2
    go_wp2_with fail
    go_ret2
    exact ⟨_, rfl, ho4, hB4⟩
  · rw [decide_eq_false hok, if_neg (by simp), if_neg (by simp)]
    have HK := Lib.hid hok
    clear hok
    go_enter Try.func35, Try.ntmps35
    go_wp2_with fail
    refine (iof_any _ l w h (by omega)).mono ?_
    rintro e w1 ⟨p, g, rfl, hI, hp, hg, hB1⟩
    go_wp2_with fail
    refine (ibytes_any 4000 w1 hI (by omega)).mono ?_
    rintro e w2 ⟨v2, rfl, ho2, hI2, hon2⟩
    have hB2 := hB1.trans (hon2.to_below hB1.size (fun k hk => by omega))
    have ho2 : OB w2 w1.heap.size v2 (cutL l) := ho2
    go_wp2_with fail
    refine (pad_ok v2 (cutL l) w2 ho2.bsl hcl).mono ?_
    rintro e w3 ⟨v3, rfl, ho3, hB3'⟩
    have hB3 := hB2.trans (hB3'.mono hB2.size)
    go_wp2_with fail
    refine (same_any v3 _ (padL (cutL l)) l w3 ho3.bsl (h.keep hB3)).mono ?_
    rintro e w4 ⟨rfl, hB4'⟩
    rw [decide_eq_false HK.out]
    have hB4 := hB3.trans (hB4'.mono hB3.size)
    clear ho2 ho3 hI hI2 hB1 hB2 hB3 hB3' hB4' hon2
    go_wp2_with fail
    go_ret2
    exact ⟨_, rfl, OB.nil _ _, hB4⟩
theorem run_mkB (w : World) (n : Nat) (h : n ≤ 100000) : (Instr.makeSlice 24 (.int .i64 n) (.int .i64 n)).run Try.prog w = .ok (.slice (some ⟨w.heap.size, 0, none⟩) n n) (w.alloc (.cells ((List.replicate n (0 : UInt8)).map bv).toArray 5)) := by
  obtain ⟨i0, hi, hz0, hz1, hz2⟩ := info_parts Try.info_u8
  have hb2 : (i0.bytes : Int) * n ≤ 281474976710656 := by rw [hz2]; omega
  have := run_make (P := Try.prog) w _ _ i0 (.int .u8 0) Try.underlying24 hi hz0 .i64 .i64 (n : Int) n (by omega) (by omega) hb2 (by omega)
  rw [this, Int.toNat_natCast, hz1, Nat.mul_one]
  congr 3
  apply Array.ext'
  have := toList_madeCells_one (.int .u8 0) n
  rw [show (Value.int .u8 0).cells = #[.int .u8 0] from rfl, this]
  simp [bv]
def mkB (v u : Value) : Sem Value := Instr.makeSlice 24 v u
theorem mkB_eq (v u : Value) : Instr.makeSlice 24 v u = mkB v u := rfl
attribute [local go_sem ↓] mkB_eq
theorem Bsl.made (w : World) (l : List UInt8) (n : Nat) (hn : n = l.length) (h : n ≤ 100000) : Bsl (w.alloc (.cells (l.map bv).toArray 5)) (.slice (some ⟨w.heap.size, 0, none⟩) n n) l := by
  subst hn
  have := World.ownsRow_lit (base := 0) (e := 5) (size := 1) w (l.map bv).toArray l.length (Nat.zero_le _) (by unfold maxLen; omega) (by simp)
  exact OB.bsl (base := 0) (by unfold OB; simpa using this)
set_option maxRecDepth 100000 in
set_option maxHeartbeats 1000000 in
theorem refPad_any (l : List UInt8) (w : World) (hl : l.length ≤ 4000) :
    Calls Try.prog 36 #[strV l] w fun e w' => e = .returned (strV (padL l)) ∧ Below w.heap.size w w' := by
  have hS := clsS_ge hl
  have hE := clsE_ok hl
  have hbl := bytesL_length l
  unfold padL
  obtain ⟨n, hn⟩ : ∃ n, n = (clsS l.length).toNat - (l.length + 4) := ⟨_, rfl⟩
  rw [← hn]
  have hcat := run_cat (bytesL l) (List.replicate n 0) (by rw [hbl, List.length_replicate]; omega)
  generalize hSS : clsS (l.length : Int) = S at *
  have hsub : wrap64 (S - ((l.length : Int) + 4)) = (n : Int) := by rw [IntWalk.wrap64_in _ (by omega)]; omega
  unfold strV
  go_enter Try.func36, Try.ntmps36
  go_wp2_with fail
  refine (refClass_any l.length _ (by omega) (by omega)).mono ?_
  rintro e w1 ⟨rfl, rfl⟩
  rw [hSS]
  go_wp2_with fail
  refine (refBytes_any l w (by omega)).mono ?_
  rintro e w1 ⟨rfl, hB1⟩
  unfold strV
  have hmk : (mkB (.int .i64 n) (.int .i64 n)).run Try.prog w1 = _ := run_mkB w1 n (by omega)
  have hst := run_str _ (Bsl.made w1 (List.replicate n 0) n (by simp) (by omega))
  have hB2 := hB1.trans (((Below.refl w1.heap.size w1).alloc (Nat.le_refl _) (.cells ((List.replicate n (0 : UInt8)).map bv).toArray 5)).mono hB1.size)
  generalize hz : List.replicate n (0 : UInt8) = z at *
  have HZ := Lib.hid hz
  clear hn hS hE hz
  go_wp2_with fail
  go_ret
  exact ⟨by rw [HZ.out]; rfl, hB2⟩
set_option maxRecDepth 100000 in
set_option maxHeartbeats 1000000 in
theorem refCut_any (l : List UInt8) (w : World) (hl : l.length ≤ 1000000) :
    Calls Try.prog 37 #[strV l] w fun e w' => e = .returned (.tuple #[strV (if cutOk l then cutL l else []), .bool (cutOk l)]) ∧ Below w.heap.size w w' := by
  have hcl := cutL_len l
  have hR : RInAt (w.alloc (.cells #[.string ⟨l.toArray⟩, .int .i64 0] 53)) w.heap.size ⟨l, 0⟩ := ⟨⟨World.cell?_alloc_new w _ _ 0, World.cell?_alloc_new w _ _ 1⟩, by simp, by simp⟩
  have hA : Below w.heap.size w (w.alloc (.cells #[.string ⟨l.toArray⟩, .int .i64 0] 53)) := (Below.refl _ _).alloc (Nat.le_refl _) _
  have hce := @cutOk_e l
  cases hok : cutOk l with
  | true =>
    rw [if_pos rfl]
    have he := hce hok
    have hpad : padL (cutL l) = l := by simpa [cutOk] using hok
    clear hok hce
    unfold strV
    go_enter Try.func37, Try.ntmps37
    go_wp2_with fail
    generalize w.alloc (.cells #[.string ⟨l.toArray⟩, .int .i64 0] 53) = wA at *
    refine (rbytes_any 4000 (by omega) wA hR hl).mono ?_
    rintro e w2 ⟨rfl, hR2, hon2⟩
    have hB2 := hA.trans (hon2.to_below hA.size (fun k hk => by omega))
    obtain ⟨⟨c0, c1⟩, f0, f1⟩ := hR2
    rw [he] at c1
    rw [show IK.bytL ⟨l, 0⟩ 4000 = cutL l from rfl]
    have HP := Lib.hid hpad
    unfold strV
    clear hpad c0 f0 f1 hR hA
    go_wp2_with fail
    refine (refPad_any (cutL l) w2 hcl).mono ?_
    rintro e w3 ⟨rfl, hB3⟩
    rw [HP.out]
    unfold strV
    go_wp2_with fail
    go_ret2
    exact ⟨rfl, hB2.trans (hB3.mono hB2.size)⟩
  | false =>
    rw [if_neg (by simp)]
    have hpad : padL (cutL l) ≠ l := by simpa [cutOk] using hok
    clear hok hce
    unfold strV
    go_enter Try.func37, Try.ntmps37
    go_wp2_with fail
    generalize w.alloc (.cells #[.string ⟨l.toArray⟩, .int .i64 0] 53) = wA at *
    refine (rbytes_any 4000 (by omega) wA hR hl).mono ?_
    rintro e w2 ⟨rfl, hR2, hon2⟩
    have hB2 := hA.trans (hon2.to_below hA.size (fun k hk => by omega))
    obtain ⟨⟨c0, c1⟩, f0, f1⟩ := hR2
    rw [show IK.bytL ⟨l, 0⟩ 4000 = cutL l from rfl]
    unfold strV
    clear c0 f0 f1 hR hA
    by_cases he : (IK.bytS ⟨l, 0⟩ 4000).e = 0
    · rw [he] at c1
      clear he
      have hne : ((padL (cutL l)) == l) = false := by simpa using hpad
      go_wp2_with fail
      refine (refPad_any (cutL l) w2 hcl).mono ?_
      rintro e w3 ⟨rfl, hB3⟩
      unfold strV
      generalize padL (cutL l) = q at *
      go_wp2_with fail
      go_ret2
      exact ⟨rfl, hB2.trans (hB3.mono hB2.size)⟩
    · generalize (IK.bytS ⟨l, 0⟩ 4000).e = E at *
      clear hpad
      go_wp2_with fail
      go_ret2
      exact ⟨rfl, hB2⟩
end Go.Proofs.Ytinpeieecodijaa
