/- The walk of msg.list. -/
import Derived.Test.YtjhocaleampamaaDoorMsgRW
namespace Go.Proofs.YtjhocaleampamaaDoor
open Go.RowKit
set_option linter.unusedVariables false
theorem BigT.elt {t : TypeId} {zs : List Value} (h : BigT t zs) : ∃ i z, Tryd.prog.info? t = some i ∧ i.zero = some z ∧ z.cells.size = zs.length ∧ i.size = zs.length ∧ i.bytes ≤ 1000 := by
  obtain ⟨i, z, h1, h2, h3, h4, h5, _⟩ := h.parts
  exact ⟨i, z, h1, h2, by rw [h3]; simp, h4, h5⟩
theorem Tryd.int_parts : ∃ i z, Tryd.prog.info? 3 = some i ∧ i.zero = some z ∧ z.cells.size = 1 ∧ i.size = 1 ∧ i.bytes ≤ 1000 := by
  have h : (Tryd.prog.info? 3).map (fun i => (i.zero, i.size, decide (i.bytes ≤ 1000))) = some (some (.int .i64 0), 1, true) := by kernel_rfl
  cases hi : Tryd.prog.info? 3 with
  | none => rw [hi] at h; cases h
  | some i =>
    rw [hi] at h
    simp only [Option.map_some, Option.some.injEq, Prod.mk.injEq, decide_eq_true_eq] at h
    obtain ⟨h1, h2, h3⟩ := h
    exact ⟨i, _, rfl, h1, rfl, h2, h3⟩
theorem lkN_nn (b : List UInt8) (k : Nat) (most : Int) : 0 ≤ lkN b k most := by unfold lkN; split <;> omega
theorem lkN_le (b : List UInt8) (k : Nat) (most : Int) (h : 0 ≤ most) : lkN b k most ≤ most := by
  by_cases h0 : lkE b k most = 0
  · rw [(lkE_zero h0).2.2.2]; exact (lkE_zero h0).2.2.1
  · unfold lkN; rw [if_neg h0]; exact h
theorem numN_b (d : IK) (k : Nat) (most : Int) (h : 0 ≤ most) : 0 ≤ d.numN k most ∧ d.numN k most ≤ most := by
  unfold IK.numN
  split
  · exact ⟨by omega, h⟩
  · exact ⟨lkN_nn _ _ _, lkN_le _ _ _ h⟩
theorem intC_one (l : List Int) : ∀ u ∈ (l.map intC).flatten, u.oneCell' = true := by
  intro u hu
  obtain ⟨r, hr, hu⟩ := List.mem_flatten.1 hu
  obtain ⟨n, _, rfl⟩ := List.mem_map.1 hr
  rw [List.mem_singleton.1 hu]; rfl
set_option maxRecDepth 100000 in
set_option maxHeartbeats 1000000 in
theorem mlist_any (w : World) {p : Nat} {gi : Option Nat} {d : IK} (h : InAt w p gi d) (hl : d.b.length ≤ 1000000) :
    Calls Tryd.prog 60 #[.pointer (some ⟨p, 0, none⟩)] w fun e w' => ∃ (v : Value) (xs : List Int) (d2 : IK), e = .returned v ∧ RW w' w.heap.size 3 1 v (xs.map intC) ∧ (∀ n ∈ xs, i64 n) ∧ xs.length ≤ 255 ∧ InAt w' p gi d2 ∧ Stp d (pMany (pNum 8 255)) d2 xs ∧ Only (· = p) w w' := by
  have hpl := h.lt
  have hgl : ∀ k, gi = some k → k < w.heap.size := by obtain ⟨_, _, _, _, _, _, _, h3, _⟩ := h; exact h3
  have hb := numN_b d 1 255 (by omega)
  have hS1 := Stp.num d 1 255
  obtain ⟨it, zz, hti, htz, hzc, hsz1, hby⟩ := Tryd.int_parts
  go_enter Tryd.func60, Tryd.ntmps60
  go_wp2_with fail
  refine (ismall_any 255 w h hl).mono ?_
  rintro e w1 ⟨rfl, hI1, hE1⟩
  generalize d.numN 1 255 = n0 at *
  obtain ⟨N, rfl⟩ := Int.eq_ofNat_of_zero_le hb.1
  have hN : N ≤ 255 := by omega
  generalize d.numS 1 255 = d1 at *
  have hd1 := hS1.1
  clear h
  go_wp2_with fail
  go_loopw [3, 6] (fun v j wr => ∃ (k : Nat) (xs : List Int) (dk : IK), k ≤ N ∧ j = .int .i64 k ∧ xs.length = k ∧ RW wr w.heap.size 3 1 v (xs.map intC) ∧ (∀ n ∈ xs, i64 n) ∧ InAt wr p gi dk ∧ Stp d1 (pRep (pNum 8 255) k) dk xs ∧ Only (· = p) w wr) (fun _ j _ => N - (intOf j).toNat)
  case atStart => exact ⟨0, [], d1, Nat.zero_le _, rfl, rfl, RW.nil _ _ _ _, by simp, hI1, Stp.of _ _, hE1⟩
  case round =>
    obtain ⟨k, xs, dk, hk, rfl, hxl, hR, hxs, hI, hS, hE⟩ := hrel
    clear hI1 hE1
    by_cases hlt : k < N
    · have hlt2 : (k : Int) < N := by omega
      have hk0 : (0 : Int) ≤ k := Int.natCast_nonneg _
      have hbn := numN_b dk 8 255 (by omega)
      have hSn := Stp.num dk 8 255
      have hdk := hS.1
      subst hxl
      obtain ⟨ro, rc, hvv, hz1, hz2, hz3⟩ := hR.val
      clear hz1 hz2 hz3
      rw [List.length_map] at hvv
      subst hvv
      go_wp2_with fail
      refine (inum_any 255 wr hI (by omega)).mono ?_
      rintro e w2 ⟨rfl, hI2, hE2⟩
      generalize dk.numN 8 255 = n2 at *
      generalize dk.numS 8 255 = d2 at *
      have hR2 := hR.only hE2 (fun k hk e => by have := hR.own_ge k hk; omega)
      have hA : Below w2.heap.size w2 (w2.alloc (.cells #[.int .i64 n2] 3)) := (Below.refl _ _).alloc (Nat.le_refl _) _
      have hRA := hR2.keep hA
      have hsA : RW (w2.alloc (.cells #[.int .i64 n2] 3)) 0 3 1 (.slice (some ⟨w2.heap.size, 0, none⟩) 1 1) [[.int .i64 n2]] := ⟨World.ownsRow_lit _ _ 1 (Nat.zero_le _) (by unfold maxLen; omega) rfl, by intro q hq; rw [List.mem_singleton.1 hq]; rfl⟩
      have hge : w.heap.size ≤ w2.heap.size := Nat.le_trans hE.size hE2.size
      have hge2 : w.heap.size ≤ (w2.alloc (.cells #[.int .i64 n2] 3)).heap.size := Nat.le_trans hge hA.size
      have hlm : (xs.map intC).length + 1 ≤ 100000000 := by rw [List.length_map]; omega
      have hIA := hI2.keep hA
      have hEA : Only (· = p) w (w2.alloc (.cells #[.int .i64 n2] 3)) := (hE.trans hE2 (fun _ _ e => e)).trans (Only.of_below (S := (· = p)) hA) (fun _ _ e => e)
      have hSX := Lib.hid (hS.snoc hSn)
      clear hS hSn hR hR2 hI hI2 hE hE2
      go_wp2_with (at_builtin; refine wp_apprs rfl _ _ 25 rfl it zz Tryd.underlying25 hti htz hsz1 hby hzc (by omega) hRA hsA rfl (by intro u hu; simp at hu; subst hu; rfl) hlm hge2 (by rfl) (by rfl) ?_)
      intro v3 w3 hR3 hg3 hn3 hnil3
      have hI3 := hIA.only (Only.of_grown (S := fun q => (Value.slice ro xs.length rc).ownBlock = some q) hg3 (fun q h => h)) (fun e => by have := hRA.own_ge _ e; omega) (fun k hk e => by have := hRA.own_ge _ e; have := hgl k hk; omega)
      have hE3 : Only (· = p) w w3 := (hEA.trans (Only.of_grown (S := fun q => (Value.slice ro xs.length rc).ownBlock = some q) hg3 (fun q h => h)) (fun i hi e => by have := hRA.own_ge _ e; omega))
      have HF := Lib.hid (And.intro hR3 (And.intro hI3 hE3))
      have hxs2 : ∀ n ∈ xs ++ [n2], i64 n := fun n hn => (List.mem_append.1 hn).elim (hxs n) (fun e => by rw [List.mem_singleton.1 e]; exact ⟨by omega, by omega⟩)
      clear hR3 hI3 hE3 hEA hIA hRA hsA hg3 hn3 hnil3
      go_wp2_with fail
      go_roundw
      case rel =>
        refine ⟨xs.length + 1, xs ++ [n2], d2, hlt, by go_num, by simp, ?_, hxs2, HF.out.2.1, hSX.out, HF.out.2.2⟩
        have := HF.out.1
        rw [List.map_append]; exact this
      case measure => simp [intOf]; omega
    · have hke : k = N := by omega
      subst hke
      have HXL := Lib.hid hxl
      clear hxl
      have hSt := hS1.next (f := fun n => pRep (pNum 8 255) n.toNat) (x := (k : Int)) (by rw [Int.toNat_natCast]; exact hS)
      have HF := Lib.hid (And.intro hR (And.intro hxs (And.intro hI (And.intro hSt hE))))
      clear hR hxs hI hSt hE hS hS1
      go_wp2_with fail
      go_ret
      exact ⟨_, xs, dk, rfl, HF.out.1, HF.out.2.1, by have := HXL.out; omega, HF.out.2.2.1, HF.out.2.2.2.1, HF.out.2.2.2.2⟩
end Go.Proofs.YtjhocaleampamaaDoor
