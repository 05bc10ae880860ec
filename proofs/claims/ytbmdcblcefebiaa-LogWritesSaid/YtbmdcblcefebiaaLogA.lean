/- The log: LogBase, LogHead, LogRead. -/
import Derived.Test.YtbmdcblcefebiaaDiskImage
import Derived.Test.YtbmdcblcefebiaaOutObj
import Derived.Test.YtbmdcblcefebiaaCrcTop
import Derived.Test.YtbmdcblcefebiaaInLaw
import Derived.IntWalk
import Derived.Test.YtbmdcblcefebiaaDiskEq
import Derived.BigRegion
import Derived.Deep.RegionLaw
import Derived.Deep.DeepCutAuto
import Derived.Laws.IdiomCopy
import Derived.Deep.RegionHeldLaw
/- log: areaSize, Room, bytes, Size. -/
namespace Go.Proofs.Ytbmdcblcefebiaa
open Go.RowKit
def areaN (n : Nat) : Nat := if n < 4 then 0 else (n - 2) / 2
def roomN (n : Nat) : Nat := areaN n * 64
/-- The bytes of a record. -/
def recL (l : List UInt8) : List UInt8 := closeL (bytesL l)
set_option maxRecDepth 100000 in
set_option maxHeartbeats 400000 in
theorem larea_any (n : Nat) (w : World) (hn : n ≤ 100000) : Calls Try.prog 50 #[.int .i64 n] w fun e w' => e = .returned (.int .i64 (areaN n)) ∧ w = w' := by
  unfold areaN
  by_cases h : n < 4
  · rw [if_pos h]
    have h2 : (n : Int) < 4 := by omega
    go_enter Try.func50, Try.ntmps50
    go_wp2_with fail
    go_ret
    exact ⟨rfl, rfl⟩
  · rw [if_neg h]
    obtain ⟨m, rfl⟩ : ∃ m, n = m + 2 := ⟨n - 2, by omega⟩
    go_enter Try.func50, Try.ntmps50
    go_wp2_with fail
    go_ret
    refine ⟨?_, rfl⟩
    show Ending.returned (.int .i64 ((m : Int) / 2)) = _
    rw [Nat.add_sub_cancel]; rfl
set_option maxRecDepth 100000 in
set_option maxHeartbeats 400000 in
theorem lroom_any (n : Nat) (w : World) (hn : n ≤ 100000) : Calls Try.prog 33 #[.int .i64 n] w fun e w' => e = .returned (.int .i64 (roomN n)) ∧ w = w' := by
  have ha : areaN n ≤ 100000 := by unfold areaN; split <;> omega
  have hc := larea_any n w hn
  unfold roomN
  generalize areaN n = a at *
  go_enter Try.func33, Try.ntmps33
  go_wp2_with fail
  refine hc.mono ?_
  rintro e w1 ⟨rfl, rfl⟩
  go_wp2_with fail
  go_ret
  refine ⟨?_, rfl⟩
  show Ending.returned (.int .i64 ((a : Int) * 64)) = _
  rw [Int.natCast_mul]; rfl
set_option maxRecDepth 100000 in
set_option maxHeartbeats 1000000 in
theorem lbytes_any (v : Value) (l : List UInt8) (w : World) (hb : Bsl w v l) (hl : l.length ≤ 140737488350000) :
    Calls Try.prog 34 #[v] w fun e w' => ∃ v', e = .returned v' ∧ OB w' w.heap.size v' (recL l) ∧ Below w.heap.size w w' := by
  obtain ⟨vo, vc, rfl, hz1, hz2, hz3, hz4⟩ := id hb
  clear hz1 hz2 hz3 hz4
  have hA : Below w.heap.size w (w.alloc (.cells #[.slice none 0 0, .bool false] 92)) := (Below.refl _ _).alloc (Nat.le_refl _) _
  have hO := OutAt.fresh w w.heap.size 92 (Nat.le_refl _)
  have hbA := hb.keep hA
  have hown : l ≠ [] → ∀ k, (Value.slice vo l.length vc).ownBlock = some k → k ≠ w.heap.size ∧ (none : Option Nat) ≠ some k := fun hne k hk => ⟨fun e => by have := hb.own_lt hne k hk; omega, by simp⟩
  have hlen : (bytesL l).length = l.length + 4 := by simp [bytesL, putLowL_length]; omega
  go_enter Try.func34, Try.ntmps34
  go_wp2_with fail
  refine (obytes_far _ l _ hO hbA hown (by simp; omega)).mono ?_
  rintro e w1 ⟨rfl, g1, hO1, hE1⟩
  have hB1 : Below w.heap.size w w1 := hA.trans (hE1.below hA.size (Nat.le_refl _) (fun k hk => by simp at hk))
  rw [List.nil_append] at hO1
  clear hO hbA hown hE1 hA
  go_wp2_with fail
  refine (odone_any _ hO1 (by omega)).mono ?_
  rintro e w2 ⟨v2, rfl, ho2, hB2⟩
  have hB2' := hB1.trans (hB2.mono hB1.size)
  have hs2 := hB2'.size
  clear hO1 hB1
  go_wp2_with fail
  refine (close_any _ (bytesL l) _ ho2.bsl (by omega)).mono ?_
  rintro e w3 ⟨v3, rfl, ho3, hB3⟩
  have HB := Lib.hid (hB2'.trans (hB3.mono hs2))
  have HO := Lib.hid (ho3.mono hs2)
  clear hB2 hB2' hB3 ho2 ho3
  go_wp2_with fail
  go_ret
  exact ⟨v3, rfl, HO.out, HB.out⟩
theorem recL_len (l : List UInt8) : (recL l).length = l.length + 8 := by
  unfold recL
  rw [closeL_length]; simp [bytesL, putLowL_length]; omega
set_option maxRecDepth 100000 in
set_option maxHeartbeats 400000 in
theorem lsize_any (v : Value) (l : List UInt8) (w : World) (hb : Bsl w v l) (hl : l.length ≤ 140737488350000) :
    Calls Try.prog 32 #[v] w fun e w' => e = .returned (.int .i64 ((l.length : Int) + 8)) ∧ Below w.heap.size w w' := by
  have hc := lbytes_any v l w hb hl
  obtain ⟨vo, vc, rfl, hz1, hz2, hz3, hz4⟩ := id hb
  clear hz1 hz2 hz3 hz4 hb
  go_enter Try.func32, Try.ntmps32
  go_wp2_with fail
  refine hc.mono ?_
  rintro e w1 ⟨v1, rfl, ho, hB⟩
  obtain ⟨o1, c1, rfl, hz1, hz2, hz3, hz4⟩ := id ho.bsl
  clear hz1 hz2 hz3 hz4 ho hc
  have hlen := recL_len l
  generalize (recL l).length = m at *
  go_wp2_with fail
  go_ret
  exact ⟨rfl, hB⟩
set_option maxRecDepth 100000 in
set_option maxHeartbeats 400000 in
theorem lmay_nil (w : World) : Calls Try.prog 29 #[.pointer none] w fun e w' => e = .returned (.int .i64 1) ∧ w = w' := by
  go_enter Try.func29, Try.ntmps29
  go_wp2_with fail
  go_ret
  exact ⟨rfl, rfl⟩
set_option maxRecDepth 100000 in
set_option maxHeartbeats 400000 in
theorem lmay_ok (w : World) {p : Nat} {d : DK} {bs : Nat → Prop} (h : DiskAt w p d bs) (hn : 4 ≤ d.now.length) : Calls Try.prog 29 #[.pointer (some ⟨p, 0, none⟩)] w fun e w' => e = .returned (.int .i64 0) ∧ w = w' := by
  have hS := dsize_any w h
  have h4 : ¬ (d.now.length : Int) < 4 := by omega
  clear h
  go_enter Try.func29, Try.ntmps29
  go_wp2_with fail
  refine hS.mono ?_
  rintro e w1 ⟨rfl, rfl⟩
  go_wp2_with fail
  go_ret
  exact ⟨rfl, rfl⟩
end Go.Proofs.Ytbmdcblcefebiaa
/- log: copy into a sector; head. -/
namespace Go.Proofs.Ytbmdcblcefebiaa
open Go.RowKit
def cpB (ty : TypeId) (vs : Array Value) : Sem Value := Builtin.copy_ #[37, 37] ty vs
theorem cpB_eq (ty : TypeId) (vs : Array Value) : Builtin.copy_ #[37, 37] ty vs = cpB ty vs := rfl
theorem run_cpB (w : World) (ty : TypeId) (s : Nat) (v : Value) (l : List UInt8) (hb : Bsl w v l) (ht : w.there s 0 64) :
    (cpB ty #[.slice (some ⟨s, 0, none⟩) 64 64, v]).run Try.prog w = .ok (goInt (l.take 64).length) (w.setCells s 0 ((l.take 64).map bv)) := by
  obtain ⟨ao, cap, rfl, h1, h2, h3, h4⟩ := hb
  have hsz : (Try.prog.info? 5).map (·.size) = some 1 := by kernel_rfl
  unfold cpB
  by_cases hl : l = []
  · subst hl
    have := run_copy_none (P := Try.prog) w 37 37 ty 5 (some ⟨s, 0, none⟩) ao 64 64 0 cap Try.underlying37 hsz (by simp)
    simpa [World.setCells] using this
  · obtain ⟨b, off, rfl, hc⟩ := h4 hl
    have := run_copy_cells (P := Try.prog) w 37 37 ty 5 s 0 64 64 ⟨b, off, none⟩ l.length cap ((l.take 64).map bv) Try.underlying37 hsz (by rw [List.length_map, List.length_take, Nat.min_comm]) (fun j u hu => by
        have hj := (List.getElem?_eq_some_iff.1 hu).1
        rw [List.length_map, List.length_take] at hj
        rw [Addr.add_mid, hc j (by omega)]
        have h64 : j < 64 := by omega
        have hjl : j < l.length := by omega
        simp [h64, hjl] at hu
        rw [← hu]; simp [bv, List.getD, hjl]) (fun j hj => by rw [List.length_map, List.length_take] at hj; exact (ht j (by omega)).1) (fun j hj => by rw [List.length_map, List.length_take] at hj; exact (ht j (by omega)).2) (bv_one _)
    rwa [List.length_map] at this
theorem rangeAt_cp {w : World} {s : Nat} {z t : List UInt8} (hr : w.rangeAt s 0 (secC z)) (hz : z.length = 64) (ht : t.length ≤ 64) : (w.setCells s 0 (t.map bv)).rangeAt s 0 (secC (t ++ z.drop t.length)) := by
  intro j u hu
  have hj : j < 64 := by
    have := (List.getElem?_eq_some_iff.1 hu).1
    simp [secC, hz] at this; omega
  by_cases hjt : j < t.length
  · rw [World.cell?_setCells_in s (t.map bv) 0 w (fun i hi => by
      rw [List.length_map] at hi
      have h1 := hr i (bv (z.getD i 0)) (by simp [secC, List.getD, show i < z.length by omega])
      rw [h1]; rfl) j (by rw [List.length_map]; exact hjt)]
    rw [← hu]
    simp only [secC, List.map_append]
    rw [List.getElem?_append_left (by rw [List.length_map]; exact hjt)]
    simp [hjt]
  · rw [World.cell?_setCells_out s (t.map bv) 0 w ⟨s, 0 + j, none⟩ (fun _ _ => .inr (by rw [List.length_map]; show 0 + t.length ≤ 0 + j; omega))]
    refine hr j u ?_
    rw [← hu]
    simp only [secC, List.map_append, List.map_drop]
    rw [List.getElem?_append_right (by rw [List.length_map]; omega), List.getElem?_drop, List.length_map]
    congr 1; omega
/-- A sector that begins with t. -/
def secT (t : List UInt8) : List UInt8 := t.take 64 ++ List.replicate (64 - (t.take 64).length) 0
theorem secT_len (t : List UInt8) : (secT t).length = 64 := by simp [secT]; omega
/-- What a head's sector begins with. -/
def headL (t a c : Nat) : List UInt8 := closeL (smallL 108 ++ numL t ++ smallL a ++ numL c)
theorem headL_len (t a c : Nat) (ha : a ≤ 255) : (headL t a c).length = 22 := by
  unfold headL
  rw [closeL_length]
  have e1 : (smallL 108).length = 1 := rfl
  have e2 : (smallL (a : Int)).length = 1 := by unfold smallL; rw [if_pos (by omega)]; rfl
  have e3 : ∀ n : Nat, (numL (n : Int)).length = 8 := fun n => by unfold numL; rw [if_pos (by omega)]; simp [putLowL_length]
  simp only [List.length_append, e1, e2, e3]
attribute [local go_sem ↓] alS_eq ldS_eq stS_eq cpB_eq
attribute [local go_sem] run_alS
set_option maxRecDepth 100000 in
set_option maxHeartbeats 2000000 in
theorem lhead_any (t a c : Nat) (w : World) (ht : t ≤ 1000000000) (ha : a ≤ 255) (hc : c ≤ 1000000000) :
    Calls Try.prog 48 #[.int .i64 t, .int .i64 a, .int .i64 c] w fun e w' => e = .returned (secV (secT (headL t a c))) ∧ Below w.heap.size w w' := by
  go_enter Try.func48, Try.ntmps48
  go_wp2_with fail
  have hz1 : (w.alloc (.cells (zC 1).toArray 39)).heap.size = w.heap.size + 1 := by simp
  have hA0 : Below w.heap.size w (w.alloc (.cells (zC 1).toArray 39)) := (Below.refl _ _).alloc (Nat.le_refl _) _
  have hth0 := there_alS w
  have hB1 : Below (w.heap.size + 1) (w.alloc (.cells (zC 1).toArray 39)) ((w.alloc (.cells (zC 1).toArray 39)).alloc (.cells #[.slice none 0 0, .bool false] 92)) := (Below.refl _ _).alloc (by omega) _
  have hO := OutAt.fresh (w.alloc (.cells (zC 1).toArray 39)) (w.heap.size + 1) 92 (by omega)
  rw [hz1] at hO
  generalize w.alloc (.cells (zC 1).toArray 39) = W0 at *
  generalize W0.alloc (.cells #[.slice none 0 0, .bool false] 92) = W1 at *
  have hT1 : W1.there w.heap.size 0 64 := fun j hj => ⟨by rw [hB1.cell (p := ⟨w.heap.size, 0 + j, none⟩) (by show w.heap.size < _; omega)]; exact (hth0 j hj).1, by rw [hB1.frozen (p := ⟨w.heap.size, 0 + j, none⟩) (by show w.heap.size < _; omega)]; exact (hth0 j hj).2⟩
  have hBB : Below w.heap.size w W1 := hA0.trans (hB1.mono (by omega))
  clear hth0 hA0 hB1 hz1
  have e1 : (smallL 108).length = 1 := rfl
  have e2 : (smallL (a : Int)).length = 1 := by unfold smallL; rw [if_pos (by omega)]; rfl
  have e3 : ∀ n : Nat, (numL (n : Int)).length = 8 := fun n => by unfold numL; rw [if_pos (by omega)]; simp [putLowL_length]
  refine (osmall_any 108 _ hO (by omega) (by omega) (by simp)).mono ?_
  rintro e w1 ⟨rfl, g1, hO1, hE1⟩
  go_wp2_with fail
  refine (onum_any t _ hO1 (by omega) (by omega) (by simp [e1])).mono ?_
  rintro e w2 ⟨rfl, g2, hO2, hE2⟩
  go_wp2_with fail
  refine (osmall_any a _ hO2 (by omega) (by omega) (by simp [e1, e3])).mono ?_
  rintro e w3 ⟨rfl, g3, hO3, hE3⟩
  go_wp2_with fail
  refine (onum_any c _ hO3 (by omega) (by omega) (by simp [e1, e2, e3])).mono ?_
  rintro e w4 ⟨rfl, g4, hO4, hE4⟩
  have hE := ((hE1.trans hE2).trans hE3).trans hE4
  have hbad : (((false || !decide ((0 : Int) ≤ 108 ∧ (108 : Int) ≤ 255)) || decide ((t : Int) < 0)) || !decide ((0 : Int) ≤ a ∧ (a : Int) ≤ 255) || decide ((c : Int) < 0)) = false := by
    have h1 : ¬ (t : Int) < 0 := by omega
    have h2 : ¬ (c : Int) < 0 := by omega
    have h3 : (0 : Int) ≤ a ∧ (a : Int) ≤ 255 := by omega
    simp [h1, h2, h3.1, h3.2]
  rw [hbad] at hO4
  have hT4 : w4.there w.heap.size 0 64 := fun j hj => ⟨by rw [hE.only.cell (p := ⟨w.heap.size, 0 + j, none⟩) (World.block_lt_of_cell? W1 _ (Option.eq_some_of_isSome (hT1 j hj).1)) (fun h => h.elim (fun e => by simp at e) (fun e => by cases e))]; exact (hT1 j hj).1, by rw [hE.only.frozen (p := ⟨w.heap.size, 0 + j, none⟩) (World.block_lt_of_cell? W1 _ (Option.eq_some_of_isSome (hT1 j hj).1)) (fun h => h.elim (fun e => by simp at e) (fun e => by cases e))]; exact (hT1 j hj).2⟩
  have hB4 : Below w.heap.size w w4 := hBB.trans (hE.below hBB.size (by omega) (fun k hk => by cases hk))
  go_wp2_with fail
  refine (odone_any _ hO4 (by simp [e1, e2, e3])).mono ?_
  rintro e w5 ⟨v5, rfl, ho5, hB5⟩
  have hL : ((([] ++ smallL 108) ++ numL t) ++ smallL a) ++ numL c = smallL 108 ++ numL t ++ smallL a ++ numL c := by rw [List.nil_append]
  rw [hL] at ho5
  have hT5 : w5.there w.heap.size 0 64 := fun j hj => ⟨by rw [hB5.cell (p := ⟨w.heap.size, 0 + j, none⟩) (World.block_lt_of_cell? w4 _ (Option.eq_some_of_isSome (hT4 j hj).1))]; exact (hT4 j hj).1, by rw [hB5.frozen (p := ⟨w.heap.size, 0 + j, none⟩) (World.block_lt_of_cell? w4 _ (Option.eq_some_of_isSome (hT4 j hj).1))]; exact (hT4 j hj).2⟩
  have hB5' := hB4.trans (hB5.mono hB4.size)
  clear hO hO1 hO2 hO3 hO4 hE1 hE2 hE3 hE4 hE hT1 hT4 hBB hB4 hB5 hbad hL
  have ho5' := ho5.bsl
  have hplen : (smallL 108 ++ numL t ++ smallL a ++ numL c).length = 18 := by simp only [List.length_append, e1, e2, e3]
  have hhl : (headL t a c).length = 22 := headL_len t a c ha
  have hHd : headL t a c = closeL (smallL 108 ++ numL t ++ smallL a ++ numL c) := rfl
  rw [hHd] at hhl
  generalize hbd : smallL 108 ++ numL t ++ smallL a ++ numL c = body at ho5 ho5' hplen hhl hHd
  have HHD := Lib.hid hHd
  clear hbd hHd e1 e2 e3
  have hs := hB5'.size
  have hA5 : Below w5.heap.size w5 (w5.alloc (.cells (zC 1).toArray 39)) := (Below.refl _ _).alloc (Nat.le_refl _) _
  have hth5 := there_alS w5
  have hz5 : (w5.alloc (.cells (zC 1).toArray 39)).rangeAt w5.heap.size 0 (secC (List.replicate 64 0)) := by
    intro j u hu
    rw [World.cell?_alloc_new, ← hu]
    simp [zC, secC]
  have hbA := ho5'.keep hA5
  have hTA : (w5.alloc (.cells (zC 1).toArray 39)).there w.heap.size 0 64 := fun j hj => ⟨by rw [hA5.cell (p := ⟨w.heap.size, 0 + j, none⟩) (World.block_lt_of_cell? w5 _ (Option.eq_some_of_isSome (hT5 j hj).1))]; exact (hT5 j hj).1, by rw [hA5.frozen (p := ⟨w.heap.size, 0 + j, none⟩) (World.block_lt_of_cell? w5 _ (Option.eq_some_of_isSome (hT5 j hj).1))]; exact (hT5 j hj).2⟩
  have hBA := hB5'.trans (hA5.mono hs)
  have hsl : w.heap.size < w5.heap.size := World.block_lt_of_cell? w5 _ (Option.eq_some_of_isSome (hT5 0 (by omega)).1)
  have hsA : w5.heap.size < (w5.alloc (.cells (zC 1).toArray 39)).heap.size := by simp
  obtain ⟨vo, vc, rfl, hq1, hq2, hq3, hq4⟩ := id ho5'
  have hlen60 : (closeL body).length ≤ 64 := by omega
  have htk : (closeL body).take 64 = closeL body := List.take_of_length_le hlen60
  have hb18 : body.length ≤ 140737488355000 := by omega
  have HHL := Lib.hid hhl
  have HTK := Lib.hid htk
  clear hplen hhl htk hlen60
  clear hq1 hq2 hq3 hq4 ho5 ho5' hA5 hB5' hT5
  go_upto_region 3 with (fail)
  generalize w5.alloc (.cells (zC 1).toArray 39) = w6 at *
  generalize w5.heap.size = sb at *
  have hcl := close_any _ body w6.drew (hbA.keep ((Below.refl _ _).drew)) hb18
  clear hb18
  go_region_law (first
    | (go_simp; go_at_call 53; refine hcl.mono ?_; rintro e w7 ⟨v7, rfl, ho7, hB7⟩; obtain ⟨so, sc, rfl, hq1, hq2, hq3, hq4⟩ := id ho7.bsl; clear hq1 hq2 hq3 hq4; have hth7 : w7.there sb 0 64 := fun j hj => ⟨by rw [hB7.cell (p := ⟨sb, 0 + j, none⟩) hsA]; exact (hth5 j hj).1, by rw [hB7.frozen (p := ⟨sb, 0 + j, none⟩) hsA]; exact (hth5 j hj).2⟩; have hcp := fun ty => run_cpB w7 ty sb _ (closeL body) ho7.bsl hth7; rw [HTK.out] at hcp))
  all_goals
    have hz7 : w7.rangeAt sb 0 (secC (List.replicate 64 0)) := fun j u hu => by rw [hB7.cell (p := ⟨sb, 0 + j, none⟩) hsA]; exact hz5 j u hu
    have hT7 : w7.there w.heap.size 0 64 := fun j hj => ⟨by rw [hB7.cell (p := ⟨w.heap.size, 0 + j, none⟩) (Nat.lt_trans hsl hsA)]; exact (hTA j hj).1, by rw [hB7.frozen (p := ⟨w.heap.size, 0 + j, none⟩) (Nat.lt_trans hsl hsA)]; exact (hTA j hj).2⟩
    have hlen64 : (closeL body).length ≤ 64 := by have := HHL.out; omega
    have hst : closeL body ++ (List.replicate 64 (0 : UInt8)).drop (closeL body).length = secT (closeL body) := by
      unfold secT; rw [HTK.out, List.drop_replicate]
    have hr8 := rangeAt_cp hz7 (by simp) hlen64
    rw [hst] at hr8
    have hT8 : (w7.setCells sb 0 ((closeL body).map bv)).there w.heap.size 0 64 := fun j hj => ⟨by
      rw [World.cell?_setCells_out sb _ 0 w7 ⟨w.heap.size, 0 + j, none⟩ (fun e _ => absurd e (by show ¬ w.heap.size = sb; omega))]; exact (hT7 j hj).1, by rw [World.frozen?_setCells]; exact (hT7 j hj).2⟩
    have hB8 : Below w.heap.size w (w7.setCells sb 0 ((closeL body).map bv)) := Go.Proofs.Ytbmdcblcefebiaa.Below.setCells (by omega) _ _ (hBA.trans (Below.of_drew (hB7.mono (Nat.le_trans (by omega) (Nat.le_of_lt hsA)))))
    have hslen := secT_len (closeL body)
    generalize hss : secT (closeL body) = ss at *
    have HSS := Lib.hid hss
    clear hss
    generalize w7.setCells sb 0 ((closeL body).map bv) = w8 at *
    have hld := run_ldS w8 sb 0 ss hr8 hslen
    have hsto := run_stS w8 w.heap.size 0 ss hT8 hslen
    have hsame := World.rangeAt_setCells_same w8 w.heap.size 0 (secC ss) (by rw [show (secC ss).length = 64 by simp [secC, hslen]]; exact hT8)
    have hi : (Try.prog.info? 38).map (·.size) = some (secC ss).length := by rw [show (secC ss).length = 64 by simp [secC, hslen]]; kernel_rfl
    have HBF := Lib.hid (Go.Proofs.Ytbmdcblcefebiaa.Below.setCells (Nat.le_refl w.heap.size) (secC ss) 0 hB8)
    clear hr8 hT8 hB8 hst hz7 hT7 hB7 hBA hTA hz5 hth5 hcp ho7 hbA
    go_wp2_with fail
    refine bodyPost_ret (results_cell Try.results48 rfl (run_loadVar_mid _ _ _ _ (secC ss) _ hsame Try.underlying38 rfl hi)) rfl ⟨?_, HBF.out⟩
    rw [HHD.out, HSS.out]; rfl
end Go.Proofs.Ytbmdcblcefebiaa
/- log: read, of a head's sector and of an empty one. -/
namespace Go.Proofs.Ytbmdcblcefebiaa
open Go.RowKit
attribute [local go_sem ↓] alS_eq ldS_eq stS_eq cpB_eq
attribute [local go_sem] run_alS run_guard_sec
def plV (t a c : Int) : Value := .agg #[.int .i64 t, .int .i64 a, .int .i64 c]
theorem zero_open : openOk (List.replicate 22 0) = false := by decide +kernel
theorem openOk_clL (l : List UInt8) : openOk (closeL l) = true := by
  unfold openOk
  rw [closeL_length, Nat.add_sub_cancel]
  have : (closeL l).take l.length = l := by unfold closeL; exact List.take_left' rfl
  rw [this]; simp
theorem openOk_take (l : List UInt8) : (closeL l).take ((closeL l).length - 4) = l := by
  rw [closeL_length, Nat.add_sub_cancel]; unfold closeL; exact List.take_left' rfl
/-- A sector in memory, its first bytes as a slice. -/
theorem Bsl.sec (w : World) (s : List UInt8) (hs : s.length = 64) (T : TypeId) : Bsl (w.alloc (.cells (s.map bv).toArray T)) (.slice (some ⟨w.heap.size, 0, none⟩) 22 64) (s.take 22) := by
  refine ⟨some ⟨w.heap.size, 0, none⟩, 64, by rw [List.length_take, hs]; rfl, by rw [List.length_take]; omega, by omega, by simp, fun _ => ⟨w.heap.size, 0, rfl, fun j hj => ?_⟩⟩
  rw [List.length_take] at hj
  rw [World.cell?_alloc_new]
  have h1 : j < s.length := by omega
  have h2 : j < 22 := by omega
  simp [h1, h2, bv, List.getD]
/-- Three cells, written. -/
theorem set3 {w : World} {r : Nat} {u0 u1 u2 : Value} (v0 v1 v2 : Value) (c0 : w.cell? ⟨r, 0, none⟩ = some u0) (c1 : w.cell? ⟨r, 1, none⟩ = some u1) (c2 : w.cell? ⟨r, 2, none⟩ = some u2) :
    (((w.setCell ⟨r, 0, none⟩ v0).setCell ⟨r, 1, none⟩ v1).setCell ⟨r, 2, none⟩ v2).cell? ⟨r, 0, none⟩ = some v0 ∧ (((w.setCell ⟨r, 0, none⟩ v0).setCell ⟨r, 1, none⟩ v1).setCell ⟨r, 2, none⟩ v2).cell? ⟨r, 1, none⟩ = some v1 ∧
    (((w.setCell ⟨r, 0, none⟩ v0).setCell ⟨r, 1, none⟩ v1).setCell ⟨r, 2, none⟩ v2).cell? ⟨r, 2, none⟩ = some v2 ∧ (∀ B, B ≤ r → Below B w (((w.setCell ⟨r, 0, none⟩ v0).setCell ⟨r, 1, none⟩ v1).setCell ⟨r, 2, none⟩ v2)) := by
  refine ⟨?_, ?_, ?_, fun B hB => (((Below.refl B w).setCell (p := ⟨r, 0, none⟩) hB _).setCell (p := ⟨r, 1, none⟩) hB _).setCell (p := ⟨r, 2, none⟩) hB _⟩
  · rw [World.cell?_setCell_other _ _ _ _ (by simp), World.cell?_setCell_other _ _ _ _ (by simp)]; exact World.cell?_setCell_same _ _ _ c0
  · rw [World.cell?_setCell_other _ _ _ _ (by simp)]; exact World.cell?_setCell_same _ _ _ ((World.cell?_setCell_other _ _ _ _ (by simp)).trans c1)
  · exact World.cell?_setCell_same _ _ _ ((World.cell?_setCell_other _ _ _ _ (by simp)).trans ((World.cell?_setCell_other _ _ _ _ (by simp)).trans c2))
set_option maxRecDepth 100000 in
set_option maxHeartbeats 2000000 in
theorem lread_zero (at_ room : Int) (w : World) :
    Calls Try.prog 47 #[secV (secL 0), .int .i64 at_, .int .i64 room] w fun e w' => e = .returned (plV 0 0 0) ∧ Below w.heap.size w w' := by
  have hA : Below w.heap.size w (w.alloc (.cells ((secL 0).map bv).toArray 39)) := (Below.refl _ _).alloc (Nat.le_refl _) _
  have hbs := Bsl.sec w (secL 0) (by simp [secL]) 39
  rw [show (secL 0).take 22 = List.replicate 22 0 from rfl] at hbs
  unfold secV
  generalize hcs : ((secL 0).map bv).toArray = cs at *
  go_enter Try.func47, Try.ntmps47
  go_wp2_with fail
  have hz1 : (w.alloc (.cells cs 39)).heap.size = w.heap.size + 1 := by simp
  have hA2 : Below (w.heap.size + 1) (w.alloc (.cells cs 39)) ((w.alloc (.cells cs 39)).alloc (.cells #[.int .i64 0, .int .i64 0, .int .i64 0] 70)) := (Below.refl _ _).alloc (by omega) _
  have hcell : ∀ j, ((w.alloc (.cells cs 39)).alloc (.cells #[.int .i64 0, .int .i64 0, .int .i64 0] 70)).cell? ⟨w.heap.size + 1, j, none⟩ = #[Value.int .i64 0, .int .i64 0, .int .i64 0][j]? := fun j => by rw [← hz1]; exact World.cell?_alloc_new _ _ _ j
  have hfr : ∀ j, ((w.alloc (.cells cs 39)).alloc (.cells #[.int .i64 0, .int .i64 0, .int .i64 0] 70)).frozen? ⟨w.heap.size + 1, j, none⟩ = false := fun j => by rw [← hz1]; simp
  have hB2 := hA.trans (hA2.mono (by omega))
  have hbs2 := hbs.keep (by rw [hz1]; exact hA2)
  have hsz2 : w.heap.size + 1 < ((w.alloc (.cells cs 39)).alloc (.cells #[.int .i64 0, .int .i64 0, .int .i64 0] 70)).heap.size := by simp
  generalize (w.alloc (.cells cs 39)).alloc (.cells #[.int .i64 0, .int .i64 0, .int .i64 0] 70) = w2 at *
  have hop := open_any _ _ w2 hbs2 (by simp)
  rw [zero_open] at hop
  refine hop.mono ?_
  rintro e w3 ⟨v3, rfl, ho3, hB3⟩
  obtain ⟨vo, vc, rfl, hq1, hq2, hq3, hq4⟩ := id ho3.bsl
  have c0 := (hB3.cell (p := ⟨w.heap.size + 1, 0, none⟩) hsz2).trans (hcell 0)
  have c1 := (hB3.cell (p := ⟨w.heap.size + 1, 1, none⟩) hsz2).trans (hcell 1)
  have c2 := (hB3.cell (p := ⟨w.heap.size + 1, 2, none⟩) hsz2).trans (hcell 2)
  have f0 := (hB3.frozen (p := ⟨w.heap.size + 1, 0, none⟩) hsz2).trans (hfr 0)
  have f1 := (hB3.frozen (p := ⟨w.heap.size + 1, 1, none⟩) hsz2).trans (hfr 1)
  have f2 := (hB3.frozen (p := ⟨w.heap.size + 1, 2, none⟩) hsz2).trans (hfr 2)
  have HB := Lib.hid (hB2.trans (hB3.mono hB2.size))
  clear hq1 hq2 hq3 hq4 ho3 hB3 hop hcell hfr hbs hbs2 hB2 hA hA2 hz1 hcs
  go_wp2_with fail
  generalize hw4 : ((w3.setCell ⟨w.heap.size + 1, 0, none⟩ (.int .i64 0)).setCell ⟨w.heap.size + 1, 1, none⟩ (.int .i64 0)).setCell ⟨w.heap.size + 1, 2, none⟩ (.int .i64 0) = w4
  have d0 : w4.cell? ⟨w.heap.size + 1, 0, none⟩ = some (.int .i64 0) := by subst hw4; rw [World.cell?_setCell_other _ _ _ _ (by simp), World.cell?_setCell_other _ _ _ _ (by simp)]; exact World.cell?_setCell_same _ _ _ c0
  have d1 : w4.cell? ⟨w.heap.size + 1, 1, none⟩ = some (.int .i64 0) := by subst hw4; rw [World.cell?_setCell_other _ _ _ _ (by simp)]; exact World.cell?_setCell_same _ _ _ ((World.cell?_setCell_other _ _ _ _ (by simp)).trans c1)
  have d2 : w4.cell? ⟨w.heap.size + 1, 2, none⟩ = some (.int .i64 0) := by subst hw4; exact World.cell?_setCell_same _ _ _ ((World.cell?_setCell_other _ _ _ _ (by simp)).trans ((World.cell?_setCell_other _ _ _ _ (by simp)).trans c2))
  have hB4 : Below w.heap.size w w4 := by subst hw4; exact ((HB.out.setCell (p := ⟨w.heap.size + 1, 0, none⟩) (Nat.le_succ _) _).setCell (p := ⟨w.heap.size + 1, 1, none⟩) (Nat.le_succ _) _).setCell (p := ⟨w.heap.size + 1, 2, none⟩) (Nat.le_succ _) _
  refine bodyPost_ret (results_cell (v := plV 0 0 0) Try.results47 rfl ?_) rfl ⟨rfl, hB4⟩
  unfold plV
  go_simp
theorem headL_take (t a c : Nat) (ha : a ≤ 255) : (secT (headL t a c)).take 22 = headL t a c := by
  unfold secT
  have := headL_len t a c ha
  rw [show (headL t a c).take 64 = headL t a c from List.take_of_length_le (by omega), List.take_left' this]
set_option maxRecDepth 100000 in
set_option maxHeartbeats 4000000 in
theorem lread_head (t a c room : Nat) (w : World) (ht : 1 ≤ t) (ht2 : t ≤ 1000000000) (ha : a ≤ 1) (hc : c ≤ room) (hr : room ≤ 1000000) :
    Calls Try.prog 47 #[secV (secT (headL t a c)), .int .i64 ((t % 2 : Nat) : Int), .int .i64 room] w fun e w' => e = .returned (plV t a c) ∧ Below w.heap.size w w' := by
  have hlen := secT_len (headL t a c)
  have hA : Below w.heap.size w (w.alloc (.cells ((secT (headL t a c)).map bv).toArray 39)) := (Below.refl _ _).alloc (Nat.le_refl _) _
  have hbs := Bsl.sec w (secT (headL t a c)) hlen 39
  rw [headL_take t a c (by omega)] at hbs
  have hrg : (w.alloc (.cells ((secT (headL t a c)).map bv).toArray 39)).rangeAt w.heap.size 0 (secC (secT (headL t a c))) := by
    intro j u hu
    rw [World.cell?_alloc_new, ← hu]; simp [secC]
  have hh : ∀ w, Calls Try.prog 48 #[.int .i64 t, .int .i64 a, .int .i64 c] w fun e w' => e = .returned (secV (secT (headL t a c))) ∧ Below w.heap.size w w' := fun w => lhead_any t a c w ht2 (by omega) (by omega)
  have hsl : (secC (secT (headL t a c))).length = 64 := by simp [secC, hlen]
  generalize hss : secT (headL t a c) = ss at *
  clear hss
  have hb : headL t a c = closeL (smallL 108 ++ (numL t ++ (smallL a ++ (numL c ++ [])))) := by unfold headL; simp
  have s1 := small_put (n := 108) (l := numL t ++ (smallL a ++ (numL c ++ []))) (most := 108) (by omega) (by omega) (by omega)
  have s2 := num_put (n := (t : Int)) (l := smallL a ++ (numL c ++ [])) (most := 4611686018427387904) (by omega) (by omega) (by omega)
  have s3 := small_put (n := (a : Int)) (l := numL c ++ []) (most := 1) (by omega) (by omega) (by omega)
  have s4 := num_put (n := (c : Int)) (l := []) (most := (room : Int)) (by omega) (by omega) (by omega)
  have hbl : (smallL 108 ++ (numL t ++ (smallL a ++ (numL c ++ [])))).length = 18 := by
    have h1 := headL_len t a c (by omega)
    rw [hb, closeL_length] at h1
    omega
  rw [hb] at hbs
  generalize numL (c : Int) ++ [] = L4 at *
  generalize hL3 : smallL (a : Int) ++ L4 = L3 at *
  generalize hL2 : numL (t : Int) ++ L3 = L2 at *
  generalize hL1 : smallL 108 ++ L2 = L1 at *
  have hl2 : L2.length ≤ 18 := by have := congrArg List.length hL1; rw [List.length_append] at this; omega
  have hl3 : L3.length ≤ 18 := by have := congrArg List.length hL2; rw [List.length_append] at this; omega
  have hl4 : L4.length ≤ 18 := by have := congrArg List.length hL3; rw [List.length_append] at this; omega
  clear hL1 hL2 hL3 hb hlen
  unfold secV at *
  have hz1 : (w.alloc (.cells (ss.map bv).toArray 39)).heap.size = w.heap.size + 1 := by simp
  generalize hcs : (ss.map bv).toArray = cs at *
  go_enter Try.func47, Try.ntmps47
  go_wp2_with fail
  have hA2 : Below (w.heap.size + 1) (w.alloc (.cells cs 39)) ((w.alloc (.cells cs 39)).alloc (.cells #[.int .i64 0, .int .i64 0, .int .i64 0] 70)) := (Below.refl _ _).alloc (by omega) _
  have hcell : ∀ j, ((w.alloc (.cells cs 39)).alloc (.cells #[.int .i64 0, .int .i64 0, .int .i64 0] 70)).cell? ⟨w.heap.size + 1, j, none⟩ = #[Value.int .i64 0, .int .i64 0, .int .i64 0][j]? := fun j => by rw [← hz1]; exact World.cell?_alloc_new _ _ _ j
  have hfr : ∀ j, ((w.alloc (.cells cs 39)).alloc (.cells #[.int .i64 0, .int .i64 0, .int .i64 0] 70)).frozen? ⟨w.heap.size + 1, j, none⟩ = false := fun j => by rw [← hz1]; simp
  have hB2 := hA.trans (hA2.mono (by omega))
  have hbs2 := hbs.keep (by rw [hz1]; exact hA2)
  have hsz2 : w.heap.size + 1 < ((w.alloc (.cells cs 39)).alloc (.cells #[.int .i64 0, .int .i64 0, .int .i64 0] 70)).heap.size := by simp
  have hrg2 : ((w.alloc (.cells cs 39)).alloc (.cells #[.int .i64 0, .int .i64 0, .int .i64 0] 70)).rangeAt w.heap.size 0 (secC ss) := fun j u hu => (hA2.cell (p := ⟨w.heap.size, 0 + j, none⟩) (by show w.heap.size < w.heap.size + 1; omega)).trans (hrg j u hu)
  generalize (w.alloc (.cells cs 39)).alloc (.cells #[.int .i64 0, .int .i64 0, .int .i64 0] 70) = w2 at *
  have hop := open_any _ _ w2 hbs2 (by rw [closeL_length]; omega)
  rw [openOk_clL, openOk_take] at hop
  refine hop.mono ?_
  rintro e w3 ⟨v3, rfl, ho3, hB3⟩
  rw [if_pos rfl] at ho3
  obtain ⟨vo, vc, rfl, hq1, hq2, hq3, hq4⟩ := id ho3.bsl
  clear hq1 hq2 hq3 hq4 hop hbs hbs2 hA hA2
  have hbl2 : L1.length ≤ 1000000 := by omega
  have hb3 := hB2.trans (hB3.mono hB2.size)
  have hr3 : w3.rangeAt w.heap.size 0 (secC ss) := fun j u hu => (hB3.cell (p := ⟨w.heap.size, 0 + j, none⟩) (by show w.heap.size < _; omega)).trans (hrg2 j u hu)
  have c3 : ∀ j, w3.cell? ⟨w.heap.size + 1, j, none⟩ = #[Value.int .i64 0, .int .i64 0, .int .i64 0][j]? := fun j => (hB3.cell (p := ⟨w.heap.size + 1, j, none⟩) hsz2).trans (hcell j)
  have f3 : ∀ j, w3.frozen? ⟨w.heap.size + 1, j, none⟩ = false := fun j => (hB3.frozen (p := ⟨w.heap.size + 1, j, none⟩) hsz2).trans (hfr j)
  have hs3 := Nat.lt_of_lt_of_le hsz2 hB3.size
  clear hbl hB3 hcell hfr hrg2 hsz2 hB2 hrg hz1
  go_wp2_with fail
  refine (iof_any _ L1 w3 ho3.bsl (by omega)).mono ?_
  rintro e w4 ⟨ip, ig, rfl, hI, hip, hig, hB4⟩
  go_wp2_with fail
  refine (ismall_any 108 _ hI hbl2).mono ?_
  rintro e w5 ⟨rfl, hI5, ho5⟩
  rw [s1.1]
  rw [s1.2] at hI5
  go_wp2_with fail
  refine (inum_any 4611686018427387904 _ hI5 (by show L2.length ≤ _; omega)).mono ?_
  rintro e w6 ⟨rfl, hI6, ho6⟩
  rw [s2.1]
  rw [s2.2] at hI6
  go_wp2_with fail
  refine (ismall_any 1 _ hI6 (by show L3.length ≤ _; omega)).mono ?_
  rintro e w7 ⟨rfl, hI7, ho7⟩
  rw [s3.1]
  rw [s3.2] at hI7
  go_wp2_with fail
  refine (inum_any room _ hI7 (by show L4.length ≤ _; omega)).mono ?_
  rintro e w8 ⟨rfl, hI8, ho8⟩
  rw [s4.1]
  rw [s4.2] at hI8
  have hon : Only (· = ip) w4 w8 := ((ho5.trans ho6 (fun _ _ h => h)).trans ho7 (fun _ _ h => h)).trans ho8 (fun _ _ h => h)
  have hb4 := hb3.trans (hB4.mono hb3.size)
  have hb8 : Below w.heap.size w w8 := hb4.trans (hon.to_below hb4.size (fun k hk => by rw [hk]; exact Nat.le_trans hb3.size hip))
  have hrr : ∀ j, j = w.heap.size ∨ j = w.heap.size + 1 → j < w3.heap.size ∧ j ≠ ip := fun j hj => by omega
  have hr8 : w8.rangeAt w.heap.size 0 (secC ss) := fun j u hu => (hon.cell (p := ⟨w.heap.size, 0 + j, none⟩) (Nat.lt_of_lt_of_le (hrr _ (.inl rfl)).1 hB4.size) (hrr _ (.inl rfl)).2).trans ((hB4.cell (p := ⟨w.heap.size, 0 + j, none⟩) (hrr _ (.inl rfl)).1).trans (hr3 j u hu))
  have c8 : ∀ j, w8.cell? ⟨w.heap.size + 1, j, none⟩ = #[Value.int .i64 0, .int .i64 0, .int .i64 0][j]? := fun j => (hon.cell (p := ⟨w.heap.size + 1, j, none⟩) (Nat.lt_of_lt_of_le (hrr _ (.inr rfl)).1 hB4.size) (hrr _ (.inr rfl)).2).trans ((hB4.cell (p := ⟨w.heap.size + 1, j, none⟩) (hrr _ (.inr rfl)).1).trans (c3 j))
  have f8 : ∀ j, w8.frozen? ⟨w.heap.size + 1, j, none⟩ = false := fun j => (hon.frozen (p := ⟨w.heap.size + 1, j, none⟩) (Nat.lt_of_lt_of_le (hrr _ (.inr rfl)).1 hB4.size) (hrr _ (.inr rfl)).2).trans ((hB4.frozen (p := ⟨w.heap.size + 1, j, none⟩) (hrr _ (.inr rfl)).1).trans (f3 j))
  have hsz8 : w.heap.size + 1 < w8.heap.size := Nat.lt_of_lt_of_le (hrr _ (.inr rfl)).1 (Nat.le_trans hB4.size hon.size)
  clear hrr c3 f3 hr3 hb3 hb4 hon ho5 ho6 ho7 ho8 hI hI5 hI6 hI7 hB4 ho3 s1 s2 s3 s4 hip hig
  go_upto_region 7 with (fail)
  have hB9 : Below w8.heap.size w8 (w8.alloc (.cells #[.int .i64 t, .int .i64 a, .int .i64 c] 70)) := (Below.refl _ _).alloc (Nat.le_refl _) _
  have p9 : ∀ j, (w8.alloc (.cells #[.int .i64 t, .int .i64 a, .int .i64 c] 70)).cell? ⟨w8.heap.size, j, none⟩ = #[Value.int .i64 t, .int .i64 a, .int .i64 c][j]? := fun j => World.cell?_alloc_new w8 _ _ j
  have hp9 : w8.heap.size < (w8.alloc (.cells #[.int .i64 t, .int .i64 a, .int .i64 c] 70)).heap.size := by simp
  have r9 : (w8.alloc (.cells #[.int .i64 t, .int .i64 a, .int .i64 c] 70)).rangeAt w.heap.size 0 (secC ss) := fun j u hu => (hB9.cell (p := ⟨w.heap.size, 0 + j, none⟩) (by show w.heap.size < _; omega)).trans (hr8 j u hu)
  have c9 : ∀ j, (w8.alloc (.cells #[.int .i64 t, .int .i64 a, .int .i64 c] 70)).cell? ⟨w.heap.size + 1, j, none⟩ = #[Value.int .i64 0, .int .i64 0, .int .i64 0][j]? := fun j => (hB9.cell (p := ⟨w.heap.size + 1, j, none⟩) hsz8).trans (c8 j)
  have f9 : ∀ j, (w8.alloc (.cells #[.int .i64 t, .int .i64 a, .int .i64 c] 70)).frozen? ⟨w.heap.size + 1, j, none⟩ = false := fun j => (hB9.frozen (p := ⟨w.heap.size + 1, j, none⟩) hsz8).trans (f8 j)
  have hI9 := (hI8.keep hB9).keep ((Below.refl _ _).drew)
  have hb9 := hb8.trans (hB9.mono hb8.size)
  have hpb : w.heap.size + 1 < w8.heap.size := hsz8
  generalize w8.alloc (.cells #[.int .i64 t, .int .i64 a, .int .i64 c] 70) = w9 at *
  generalize w8.heap.size = pb at *
  have q0 : w9.drew.cell? ⟨pb, 0, none⟩ = some (.int .i64 t) := p9 0
  have q1 : w9.drew.cell? ⟨pb, 1, none⟩ = some (.int .i64 a) := p9 1
  have q2 : w9.drew.cell? ⟨pb, 2, none⟩ = some (.int .i64 c) := p9 2
  have qr : w9.drew.rangeAt w.heap.size 0 (secC ss) := r9
  have hssl : ss.length = 64 := by simpa [secC] using hsl
  have hE := iend_any w9.drew hI9
  rw [show IK.endE ⟨[], 0⟩ = 0 from rfl] at hE
  have heq := fun w => run_equal_sec 39 Try.underlying39 ss ss hssl hssl w
  simp only [beq_self_eq_true, secV] at heq
  rw [show ss.map bv = secC ss from rfl] at heq hcs
  have hhd : ∀ w, Calls Try.prog 48 #[.int .i64 t, .int .i64 a, .int .i64 c] w fun e w' => e = .returned (.agg (secC ss).toArray) ∧ Below w.heap.size w w' := by rw [hcs]; exact hh
  have hd1 : decide ((t : Int) < 1) = false := decide_eq_false (by omega)
  have hm1 : (t : Int).tmod 2 = (t : Int) % 2 := Int.tmod_eq_emod_of_nonneg (by omega)
  have hiS : (Try.prog.info? 39).map (·.size) = some (secC ss).length := by rw [hsl]; exact Try.info_sec'
  have huS := Try.underlying39
  have hszd : w.heap.size + 1 < w9.drew.heap.size := Nat.lt_trans hpb hp9
  have hp9d : pb < w9.drew.heap.size := hp9
  generalize secC ss = css at *
  subst hcs
  have HX := Lib.hid (And.intro c9 (And.intro f9 hb9))
  have HN := Lib.hid (And.intro hpb (And.intro hszd hp9d))
  clear c9 f9 hb9 c8 f8 hb8 hr8 hsz8 hB9 p9 r9 hI9 hI8 hsl hssl hpb hh ht ht2 ha hc hr hbl2 hl2 hl3 hl4 hp9
  go_region_held_law (fun w' => w'.cell? ⟨pb, 0, none⟩ = some (.int .i64 t) ∧ w'.cell? ⟨pb, 1, none⟩ = some (.int .i64 a) ∧ w'.cell? ⟨pb, 2, none⟩ = some (.int .i64 c) ∧ w'.rangeAt w.heap.size 0 css) (first | exact ⟨q0, q1, q2, qr⟩ | go_keep_ranges) (first
    | (go_at_call 63; refine hE.mono ?_; rintro e wB ⟨rfl, rfl⟩)
    | (go_at_call 48; refine (hhd _).mono ?_; rintro e wC ⟨rfl, hBC⟩; have q0 := (hBC.cell (p := ⟨pb, 0, none⟩) hp9d).trans q0; have q1 := (hBC.cell (p := ⟨pb, 1, none⟩) hp9d).trans q1; have q2 := (hBC.cell (p := ⟨pb, 2, none⟩) hp9d).trans q2; have qr : wC.rangeAt w.heap.size 0 css := (fun j v hv => (hBC.cell (p := ⟨w.heap.size, 0 + j, none⟩) (Nat.lt_of_succ_lt hszd)).trans (qr j v hv))))
  all_goals
    have hrl : w.heap.size + 1 < w9.drew.heap.size := HN.out.2.1
    have e0 : wC.cell? ⟨w.heap.size + 1, 0, none⟩ = some (.int .i64 0) := (hBC.cell (p := ⟨w.heap.size + 1, 0, none⟩) hrl).trans (HX.out.1 0)
    have e1 : wC.cell? ⟨w.heap.size + 1, 1, none⟩ = some (.int .i64 0) := (hBC.cell (p := ⟨w.heap.size + 1, 1, none⟩) hrl).trans (HX.out.1 1)
    have e2 : wC.cell? ⟨w.heap.size + 1, 2, none⟩ = some (.int .i64 0) := (hBC.cell (p := ⟨w.heap.size + 1, 2, none⟩) hrl).trans (HX.out.1 2)
    have g0 : wC.frozen? ⟨w.heap.size + 1, 0, none⟩ = false := (hBC.frozen (p := ⟨w.heap.size + 1, 0, none⟩) hrl).trans (HX.out.2.1 0)
    have g1 : wC.frozen? ⟨w.heap.size + 1, 1, none⟩ = false := (hBC.frozen (p := ⟨w.heap.size + 1, 1, none⟩) hrl).trans (HX.out.2.1 1)
    have g2 : wC.frozen? ⟨w.heap.size + 1, 2, none⟩ = false := (hBC.frozen (p := ⟨w.heap.size + 1, 2, none⟩) hrl).trans (HX.out.2.1 2)
    obtain ⟨d0, d1, d2, hb⟩ := set3 (.int .i64 (t : Int)) (.int .i64 (a : Int)) (.int .i64 (c : Int)) e0 e1 e2
    have hBF := (HX.out.2.2.trans (Below.of_drew (hBC.mono (Nat.le_trans (Nat.le_succ _) (Nat.le_of_lt hrl))))).trans (hb w.heap.size (Nat.le_succ _))
    have HBF := Lib.hid hBF
    clear hBF hb hBC hE heq hhd
    go_wp2_with fail
    refine bodyPost_ret (results_cell (v := plV t a c) Try.results47 rfl ?_) rfl ⟨rfl, HBF.out⟩
    unfold plV
    go_simp
end Go.Proofs.Ytbmdcblcefebiaa
