/- net: what every statement asks first. -/
import Derived.Test.YtbflffanahnofaaNetCopy
import Derived.Lib.SlBytesConst
namespace Go.Proofs.Ytbflffanahnofaa
open Go.RowKit
set_option maxRecDepth 100000 in
set_option maxHeartbeats 2000000 in
theorem nets_any (w : World) :
    Calls Try.prog 7 #[] w fun e w' => e = .returned (.bool true) ∧ Below w.heap.size w w' := by
  have kc := fun (w : World) (C : Array Value) (n c : Nat) => Lib.run_convert_bytes_const (P := Try.prog) w 29 5 C n c Try.underlying29 Try.underlying5
  go_enter Try.func7, Try.ntmps7
  go_wp2_with fail
  refine (nnew_ok 1 _ (by omega) (by omega)).mono ?_
  rintro e w1 ⟨p, rfl, ⟨bs, hN, hge⟩, hB⟩
  go_wp2_with fail
  have hA : Below w1.heap.size w1 (w1.alloc (.cells #[.int .u8 97] 5 (1, 2))) := (Below.refl _ _).alloc (Nat.le_refl _) _
  refine (nsend_ok 0 _ [97] _ (hN.keep hA) (by decide) (by decide) (Bsl.lit w1 [97] _ _ 1 (by rfl) (by simp) (by omega)) (by simp)).mono ?_
  rintro e w2 ⟨rfl, bs2, hN2, hE2⟩
  have hB2 : Below w.heap.size w w2 := hB.trans ((hA.mono hB.size).trans (hE2.only.to_below (Nat.le_trans hB.size hA.size) hge))
  have hge2 : ∀ k, bs2 k → w.heap.size ≤ k := fun k hk => (hE2.new k hk).elim (hge k) (fun e => by have := hB.size; have := hA.size; omega)
  clear hN hge hB hA hE2
  go_wp2_with fail
  have hA : Below w2.heap.size w2 (w2.alloc (.cells #[.int .u8 98] 5 (1, 2))) := (Below.refl _ _).alloc (Nat.le_refl _) _
  refine (nsend_ok 0 _ [98] _ (hN2.keep hA) (by decide) (by decide) (Bsl.lit w2 [98] _ _ 1 (by rfl) (by simp) (by omega)) (by simp)).mono ?_
  rintro e w3 ⟨rfl, bs3, hN3, hE3⟩
  have hB3 : Below w.heap.size w w3 := hB2.trans ((hA.mono hB2.size).trans (hE3.only.to_below (Nat.le_trans hB2.size hA.size) hge2))
  have hge3 : ∀ k, bs3 k → w.heap.size ≤ k := fun k hk => (hE3.new k hk).elim (hge2 k) (fun e => by have := hB2.size; have := hA.size; omega)
  clear hN2 hge2 hB2 hA hE3
  have hN3' : NetAt w3 p [([[97], [98]], [])] bs3 := hN3
  clear hN3
  go_wp2_with fail
  refine (ntake_ok 0 1 _ hN3' (by decide) (by decide) (by decide)).mono ?_
  rintro e w4 ⟨v4, bs4, rfl, ho4, hN4, hE4, hd4⟩
  have hB4 : Below w.heap.size w w4 := hB3.trans (hE4.only.to_below hB3.size hge3)
  have hge4 : ∀ k, bs4 k → w.heap.size ≤ k := fun k hk => (hE4.new k hk).elim (hge3 k) (fun e => by have := hB3.size; omega)
  have hN4' : NetAt w4 p [([[97]], [[98]])] bs4 := hN4
  have ho4' : OB w4 w3.heap.size v4 [98] := ho4
  clear hN3' hge3 hB3 hE4 hN4 ho4
  go_wp2_with fail
  refine (ntake_ok 0 0 _ hN4' (by decide) (by decide) (by decide)).mono ?_
  rintro e w5 ⟨v5, bs5, rfl, ho5, hN5, hE5, hd5⟩
  have hB5 : Below w.heap.size w w5 := hB4.trans (hE5.only.to_below hB4.size hge4)
  have hN5' : NetAt w5 p [([], [[98], [97]])] bs5 := hN5
  have ho5' : OB w5 w4.heap.size v5 [97] := ho5
  have ho4 : OB w5 w3.heap.size v4 [98] := ho4'.only hE5.only hd4
  clear hN4' hge4 hB4 hE5 hN5 ho5 ho4' hd4 hd5
  go_wp2_with fail
  refine (ntake_miss 0 0 _ hN5' (by decide) (by decide)).mono ?_
  rintro e w6 ⟨rfl, rfl⟩
  have s4 := run_str w5 ho4.bsl
  have s5 := run_str w5 ho5'.bsl
  go_wp2_with fail
  refine (nseen_ok 0 _ hN5' (by decide) (by decide)).mono ?_
  rintro e w6 ⟨v6, ys, rfl, hr6, hy6, _, hB6⟩
  have hyl : ys.length = 2 := by have := congrArg List.length hy6; rw [List.length_map] at this; exact this
  obtain ⟨ao6, c6, rfl, hz1, hz2, hz3⟩ := hr6.val
  rw [List.length_map, hyl]
  have HB := Lib.hid (hB5.trans (hB6.mono hB5.size))
  clear hz1 hz2 hz3 hy6 hyl hr6 hB6 hB5 s4 s5 ho4 ho5' hN5'
  go_wp2_with fail
  go_ret
  exact ⟨rfl, HB.out⟩
end Go.Proofs.Ytbflffanahnofaa
