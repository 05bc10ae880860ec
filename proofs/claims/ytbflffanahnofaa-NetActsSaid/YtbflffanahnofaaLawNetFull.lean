/- The law NetFull. -/
import Derived.Test.YtbflffanahnofaaNetTop
import Derived.Deep.DeepCutAuto
import Derived.Laws.Bits64
import Derived.Laws.BitsLemmas
import Derived.IntWalk
namespace Go.Proofs.Ytbflffanahnofaa
open Go.RowKit
theorem umodN (x : Int) (m : Nat) (h0 : 0 < m) (h : m ≤ 100000) : ∃ q : Nat, q < m ∧ wrap64 ((IntKind.u64.wrap x).tmod m) = (q : Int) ∧ IntKind.i64.wrap ((IntKind.u64.wrap x).tmod m) = (q : Int) := by
  have h1 : 0 ≤ (IntKind.u64.wrap x).tmod m := by rw [IntKind.wrap_u64]; exact Int.tmod_nonneg _ (by omega)
  have h2 : (IntKind.u64.wrap x).tmod m < m := by rw [IntKind.wrap_u64]; exact Int.tmod_lt_of_pos _ (by omega)
  refine ⟨((IntKind.u64.wrap x).tmod m).toNat, by omega, ?_, ?_⟩
  · rw [IntWalk.wrap64_in _ (by omega)]; omega
  · rw [IntKind.wrap_i64]; omega
def fullL (i : Nat) : List (List UInt8) := (List.range (min i 64)).map (fun j => [UInt8.ofNat j])
def fullS (i : Nat) : NSt := [([], []), (fullL i, [])]
theorem fullL_len (i : Nat) : (fullL i).length = min i 64 := by simp [fullL]
theorem fullL_succ {i : Nat} (h : i < 64) : fullL i ++ [[UInt8.ofNat i]] = fullL (i + 1) := by
  unfold fullL
  rw [Nat.min_eq_left (by omega), Nat.min_eq_left (by omega), List.range_succ, List.map_append]; rfl
theorem fullL_more {i : Nat} (h : 64 ≤ i) : fullL i = fullL (i + 1) := by
  unfold fullL
  rw [Nat.min_eq_right (by omega), Nat.min_eq_right (by omega)]
theorem fullL_get {i k : Nat} (h : k < i) (h2 : k < 64) (r : List (List UInt8)) : (fullL i ++ r).getD k [] = [UInt8.ofNat k] := by
  have : k < (fullL i).length := by rw [fullL_len]; omega
  rw [List.getD_eq_getElem?_getD, List.getElem?_append_left this]
  simp [fullL, show k < min i 64 by omega]
set_option maxRecDepth 100000 in
set_option maxHeartbeats 2000000 in
theorem netFull_walk (a b : Int) (w : World) (_ha : (Lit.int .i64 a).wf = true) (_hb : (Lit.int .i64 b).wf = true) :
    Calls Try.prog 3 #[.int .i64 a, .int .i64 b] w fun e w' => e = .returned (.bool true) ∧ Below w.heap.size w w' := by
  obtain ⟨q, hq, hqe, hqe2⟩ := umodN a 9 (by omega) (by omega)
  obtain ⟨k, hk, hke, hke2⟩ := umodN b 60 (by omega) (by omega)
  rw [show ((9 : Nat) : Int) = 9 from rfl] at hqe hqe2
  rw [show ((60 : Nat) : Int) = 60 from rfl] at hke hke2
  go_enter Try.func3, Try.ntmps3
  go_wp2_with fail
  refine (nnew_ok 2 _ (by omega) (by omega)).mono ?_
  rintro e w1 ⟨p, rfl, ⟨bs, hN, hge⟩, hB⟩
  go_wp2_with fail
  refine (nets_any _).mono ?_
  rintro e w2 ⟨rfl, hB2⟩
  have hN2 := hN.keep hB2
  have hBB := hB.trans (hB2.mono hB.size)
  clear hN hB hB2
  have hN3 : NetAt w2 p (fullS 0) bs := hN2
  clear hN2
  go_wp2_with fail
  go_loopw [8] (fun j wr => ∃ (i : Nat) (bs : Nat → Prop), i ≤ 60 + q ∧ j = .int .i64 i ∧ NetAt wr p (fullS i) bs ∧ (∀ k, bs k → w.heap.size ≤ k) ∧ Below w.heap.size w wr) (fun j _ => 60 + q - (intOf j).toNat)
  case atStart => exact ⟨0, bs, Nat.zero_le _, rfl, hN3, hge, hBB⟩
  case round =>
    clear hN3 hge hBB
    obtain ⟨i, bs, hi, rfl, hN, hge, hB⟩ := hrel
    have hi0 : (0 : Int) ≤ i := Int.natCast_nonneg _
    by_cases hlt : i < 60 + q
    · have hlt2 : (i : Int) < 60 + q := by omega
      have hA : Below wr.heap.size wr (wr.alloc (.cells #[.int .u8 i] 5)) := (Below.refl _ _).alloc (Nat.le_refl _) _
      have hwr : IntKind.u8.wrap (i : Int) = i := by rw [IntKind.wrap_u8]; omega
      have hone := Bsl.one wr (i : Int) (by omega)
      rw [Int.toNat_natCast] at hone
      have hAB := hA.mono hB.size
      have hAz := hA.size
      go_upto_region 8 with (fail)
      go_wp2_with fail
      by_cases h64 : i < 64
      · have h64' : (i : Int) < 64 := by omega
        refine (nsend_ok 1 _ [UInt8.ofNat i] _ (hN.keep hA) (show 1 < 2 by omega) (by show (fullL i).length < 64; rw [fullL_len]; omega) hone (by simp)).mono ?_
        rintro e w2 ⟨rfl, bs2, hN2, hE2⟩
        have hN3 : NetAt w2 p (fullS (i + 1)) bs2 := by
          have h1 : (fullS i).set 1 (innN (fullS i) 1 ++ [[UInt8.ofNat i]], seenN (fullS i) 1) = fullS (i + 1) := by
            show [([], []), (fullL i ++ [[UInt8.ofNat i]], [])] = _
            rw [fullL_succ h64]; rfl
          rw [← h1]; exact hN2
        have hB2 : Below w.heap.size w w2 := hB.trans (hAB.trans (hE2.only.to_below (Nat.le_trans hB.size hAz) hge))
        have hge2 : ∀ k, bs2 k → w.heap.size ≤ k := fun k hk => (hE2.new k hk).elim (hge k) (fun e => by have := hB.size; omega)
        have HF := Lib.hid (And.intro hN3 (And.intro hge2 hB2))
        clear hN3 hge2 hB2 hN2 hE2 hN hge hB hA hone hAB hAz
        go_wp2_with fail
        go_roundw
        case rel => exact ⟨i + 1, bs2, by omega, by go_num, HF.out.1, HF.out.2.1, HF.out.2.2⟩
        case measure => simp [intOf]; omega
      · have h64' : ¬ (i : Int) < 64 := by omega
        refine (nsend_full 1 _ _ (hN.keep hA) (show 1 < 2 by omega) (by show (fullL i).length = 64; rw [fullL_len]; omega)).mono ?_
        rintro e w2 ⟨rfl, rfl⟩
        have hN3 : NetAt (wr.alloc (.cells #[.int .u8 i] 5)) p (fullS (i + 1)) bs := by
          have h1 : fullS i = fullS (i + 1) := by unfold fullS; rw [fullL_more (by omega)]
          rw [← h1]; exact hN.keep hA
        have HF := Lib.hid (And.intro hN3 (And.intro hge (hB.trans hAB)))
        clear hN3 hN hge hB hA hone hAB hAz
        go_wp2_with fail
        go_roundw
        case rel => exact ⟨i + 1, bs, by omega, by go_num, HF.out.1, HF.out.2.1, HF.out.2.2⟩
        case measure => simp [intOf]; omega
    · have him : i = 60 + q := by omega
      have hng : ¬ (i : Int) < 60 + q := by omega
      have hii : innN (fullS i) 1 = fullL i := rfl
      have hkl : k < (innN (fullS i) 1).length := by rw [hii, fullL_len]; omega
      have key : ∀ (L r : List (List UInt8)) (w2 : World) (bs2 : Nat → Prop), L = fullL i ++ r → L.length ≤ 64 → NetAt w2 p [([], []), (L, [])] bs2 → (∀ k, bs2 k → w.heap.size ≤ k) → Below w.heap.size w w2 →
          Calls Try.prog 10 #[.pointer (some ⟨p, 0, none⟩), .int .i64 1, .int .i64 k] w2 fun e w' => ∃ g c bs3 L3, e = .returned (.tuple #[.slice (some ⟨g, 0, none⟩) 1 c, .int .i64 0]) ∧ w'.cell? ⟨g, 0, none⟩ = some (.int .u8 k) ∧ 1 ≤ c ∧ NetAt w' p [([], []), (L3, [[UInt8.ofNat k]])] bs3 ∧ L3.length < 64 ∧ (∀ k, bs3 k → w.heap.size ≤ k) ∧ Below w.heap.size w w' := by
        intro L r w2 bs2 hL hl hN2 hge2 hB2
        have hget : L.getD k [] = [UInt8.ofNat k] := by rw [hL]; exact fullL_get (by omega) (by omega) r
        have hkL : k < L.length := by rw [hL, List.length_append, fullL_len]; omega
        refine (ntake_ok 1 k _ hN2 (show 1 < 2 by omega) (show k < L.length from hkL) (Nat.zero_le _)).mono ?_
        rintro e w3 ⟨v, bs3, rfl, ho, hN3, hE, _⟩
        have ho' : OB w3 w2.heap.size v [UInt8.ofNat k] := by
          have : OB w3 w2.heap.size v (L.getD k []) := ho
          rwa [hget] at this
        obtain ⟨g, c, rfl, _, _, hc, _⟩ := ho'.shape (by simp)
        have hcell := ho'.cell rfl (j := 0) (by simp)
        have h8 : ((UInt8.ofNat k).toNat : Int) = k := by simp; omega
        refine ⟨g, c, bs3, L.eraseIdx k, rfl, by rw [hcell]; show some (Value.int .u8 ((UInt8.ofNat k).toNat : Int)) = _; rw [h8], hc, ?_, by rw [List.length_eraseIdx_of_lt hkL]; omega, fun j hj => (hE.new j hj).elim (hge2 j) (fun e => by have := hB2.size; omega), hB2.trans (hE.only.to_below hB2.size hge2)⟩
        have : NetAt w3 p [([], []), (L.eraseIdx k, [] ++ [L.getD k []])] bs3 := hN3
        rw [hget] at this
        exact this
      have fin : ∀ (w2 : World) (L3 : List (List UInt8)) (bs3 : Nat → Prop), NetAt w2 p [([], []), (L3, [[UInt8.ofNat k]])] bs3 → L3.length < 64 → (∀ k, bs3 k → w.heap.size ≤ k) → Below w.heap.size w w2 →
          Calls Try.prog 8 #[.pointer (some ⟨p, 0, none⟩), .int .i64 1, .slice none 0 0] w2 fun e w' => e = .returned (.int .i64 0) ∧ ∃ bs4, NetAt w' p [([], []), (L3 ++ [[]], [[UInt8.ofNat k]])] bs4 ∧ Below w.heap.size w w' := by
        intro w2 L3 bs3 hN3 hl hge3 hB3
        refine (nsend_ok 1 _ [] _ hN3 (show 1 < 2 by omega) hl (OB.nil _ 0).bsl (by simp)).mono ?_
        rintro e w4 ⟨rfl, bs4, hN4, hE⟩
        exact ⟨rfl, bs4, hN4, hB3.trans (hE.only.to_below hB3.size hge3)⟩
      have hk0 : (0 : Int) ≤ k := Int.natCast_nonneg _
      have hk8 : IntKind.u8.wrap (k : Int) = k := by rw [IntKind.wrap_u8]; omega
      by_cases h64 : i < 64
      · have h64' : (60 : Int) + q < 64 := by omega
        have hC := ncopy_ok 1 k _ hN (show 1 < 2 by omega) hkl (by rw [hii, fullL_len]; omega)
        have hg : (fullL i).getD k [] = [UInt8.ofNat k] := by have := fullL_get (i := i) (k := k) (by omega) (by omega) []; rwa [List.append_nil] at this
        have hll : (fullL i ++ [[UInt8.ofNat k]]).length ≤ 64 := by rw [List.length_append, fullL_len]; simp; omega
        have HK := Lib.hid (key (fullL i ++ [[UInt8.ofNat k]]) [[UInt8.ofNat k]])
        have HX := Lib.hid (And.intro hg (And.intro hll hB))
        clear hg hll key hkl hii
        go_wp2_with fail
        refine hC.mono ?_
        rintro e w2 ⟨rfl, bs2, hN2, hE2⟩
        have hB2 : Below w.heap.size w w2 := hB.trans (hE2.only.to_below hB.size hge)
        have hge2 : ∀ k, bs2 k → w.heap.size ≤ k := fun k hk => (hE2.new k hk).elim (hge k) (fun e => by have := hB.size; omega)
        have hN3 : NetAt w2 p [([], []), (fullL i ++ [[UInt8.ofNat k]], [])] bs2 := by
          have : NetAt w2 p [([], []), (fullL i ++ [(fullL i).getD k []], [])] bs2 := hN2
          rwa [HX.out.1] at this
        have hT := HK.out w2 bs2 (by simp) HX.out.2.1 hN3 hge2 hB2
        clear hC hN hge hB hN2 hE2 hN3 hge2 hB2
        go_wp2_with fail
        refine hT.mono ?_
        rintro e w3 ⟨g, c, bs3, L3, rfl, hcell, hc1, hN4, hl4, hge4, hB4⟩
        have hS := fin w3 L3 bs3 hN4 hl4 hge4 hB4
        clear hT hN4 hge4 hB4 fin
        go_wp2_with fail
        refine hS.mono ?_
        rintro e w4 ⟨rfl, bs4, hN5, hB5⟩
        have hL := nlen_ok 0 w4 hN5 (show 0 < 2 by omega)
        have HB := Lib.hid hB5
        clear hS hN5 hB5
        go_wp2_with fail
        refine hL.mono ?_
        rintro e w5 ⟨rfl, rfl⟩
        clear hL
        have h0 : innN [([], []), (L3 ++ [[]], [[UInt8.ofNat k]])] 0 = [] := rfl
        rw [h0]
        go_wp2_with fail
        go_ret
        exact ⟨rfl, HB.out⟩
      · have h64' : ¬ (60 : Int) + q < 64 := by omega
        have hC := ncopy_full 1 k _ hN (show 1 < 2 by omega) hkl (by rw [hii, fullL_len]; omega)
        have hll : (fullL i).length ≤ 64 := by rw [fullL_len]; omega
        have hT := key (fullL i) [] wr bs (by simp) hll hN hge hB
        clear key hkl hii hll hN hge hB
        go_wp2_with fail
        refine hC.mono ?_
        rintro e w2 ⟨rfl, rfl⟩
        clear hC
        go_wp2_with fail
        refine hT.mono ?_
        rintro e w3 ⟨g, c, bs3, L3, rfl, hcell, hc1, hN4, hl4, hge4, hB4⟩
        have hS := fin w3 L3 bs3 hN4 hl4 hge4 hB4
        clear hT hN4 hge4 hB4 fin
        go_wp2_with fail
        refine hS.mono ?_
        rintro e w4 ⟨rfl, bs4, hN5, hB5⟩
        have hL := nlen_ok 0 w4 hN5 (show 0 < 2 by omega)
        have HB := Lib.hid hB5
        clear hS hN5 hB5
        go_wp2_with fail
        refine hL.mono ?_
        rintro e w5 ⟨rfl, rfl⟩
        clear hL
        have h0 : innN [([], []), (L3 ++ [[]], [[UInt8.ofNat k]])] 0 = [] := rfl
        rw [h0]
        go_wp2_with fail
        go_ret
        refine ⟨?_, HB.out⟩
        show Ending.returned (.bool (!decide ((60 : Int) + q < 64))) = _
        rw [decide_eq_false (by omega)]; rfl
end Go.Proofs.Ytbflffanahnofaa
