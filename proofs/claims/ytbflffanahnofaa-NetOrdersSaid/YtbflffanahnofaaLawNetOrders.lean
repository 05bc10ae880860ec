/- The law NetOrders. -/
import Derived.Test.YtbflffanahnofaaNetTop
import Derived.Test.YtbflffanahnofaaOpenMsgs
import Derived.Test.YtbflffanahnofaaLawNetFull
import Derived.Deep.DeepCutAuto
import Derived.Deep.RegionHeldLaw
namespace Go.Proofs.Ytbflffanahnofaa
open Go.RowKit
def cutM (ls : List MsgD) : List (List UInt8) := (ls.map (fun y => y.l.take 30)).take 20
theorem cutM_len (ls : List MsgD) : (cutM ls).length = min 20 ls.length := by simp [cutM]
theorem cutM_get {ls : List MsgD} {i : Nat} (h : i < ls.length) (h2 : i < 20) : (cutM ls)[i]? = some (ls[i].l.take 30) := by simp [cutM, h, h2]
/-- A message of the slice, and its front. -/
theorem MsgsAt.front {w : World} {ao : Option Addr} {n cap : Nat} {ls : List MsgD} (h : MsgsAt w (.slice ao n cap) ls) {i : Nat} (hi : i < ls.length) : ∃ (b off : Nat) (xo : Option Addr) (xc k xn : Nat),
    ao = some ⟨b, off, none⟩ ∧ w.cell? ⟨b, off + i, none⟩ = some (.slice xo xn xc) ∧ (if (30 : Int) < (xn : Int) then 30 else (xn : Int)) = (k : Int) ∧ (k : Int) ≤ xc ∧ k ≤ 30 ∧ Bsl w (.slice xo k xc) (ls[i].l.take 30) ∧ b < w.heap.size := by
  obtain ⟨⟨ao', cap', he, h1, h2, h3, h4⟩, hm⟩ := h
  simp only [Value.slice.injEq] at he
  obtain ⟨rfl, rfl, rfl⟩ := he
  obtain ⟨b, off, rfl, hc⟩ := h4 (by rintro rfl; simp at hi)
  have hb := hm ls[i] (List.getElem_mem hi)
  obtain ⟨xo, xc, hv, q1, q2, q3, q4⟩ := id hb
  have hcell : w.cell? ⟨b, off + i, none⟩ = some ls[i].v := by have := hc i hi 0 (by omega); rw [Nat.mul_one, Nat.add_zero] at this; exact this
  rw [hv] at hcell hb
  refine ⟨b, off, xo, xc, min 30 ls[i].l.length, ls[i].l.length, rfl, hcell, by split <;> omega, by omega, by omega, ?_, World.block_lt_of_cell? w _ hcell⟩
  have := hb.take (m := min 30 ls[i].l.length) (by omega)
  rwa [show ls[i].l.take (min 30 ls[i].l.length) = ls[i].l.take 30 by
    by_cases h : 30 ≤ ls[i].l.length
    · rw [Nat.min_eq_left h]
    · rw [Nat.min_eq_right (by omega), List.take_length, List.take_of_length_le (by omega)]] at this
set_option maxRecDepth 100000 in
set_option maxHeartbeats 2000000 in
theorem netOrders_walk (v : Value) (ls : List MsgD) (b : Int) (w : World) (h : MsgsAt w v ls) (_hb : (Lit.int .i64 b).wf = true) :
    Calls Try.prog 4 #[v, .int .i64 b] w fun e w' => e = .returned (.bool true) ∧ Below w.heap.size w w' := by
  obtain ⟨k, hk, hke, hke2⟩ := umodN b 21 (by omega) (by omega)
  rw [show ((21 : Nat) : Int) = 21 from rfl] at hke hke2
  obtain ⟨lo, lc, rfl, hz1, hz2, hz3, hz4⟩ := id h.1
  clear hz1 hz2 hz3 hz4
  obtain ⟨m, hm⟩ : ∃ m, m = min 20 ls.length := ⟨_, rfl⟩
  have hmin : (if (20 : Int) < (ls.length : Int) then 20 else (ls.length : Int)) = (m : Int) := by split <;> omega
  have hM := cutM_len ls
  rw [← hm] at hM
  have hm1 : m ≤ 20 := by omega
  have hm2 : m ≤ ls.length := by omega
  clear hm
  go_enter Try.func4, Try.ntmps4
  go_wp2_with fail
  refine (nnew_ok 1 _ (by omega) (by omega)).mono ?_
  rintro e w1 ⟨p, rfl, ⟨bs, hN, hge⟩, hB⟩
  go_wp2_with fail
  refine (nets_any _).mono ?_
  rintro e w2 ⟨rfl, hB2⟩
  have hN2 := hN.keep hB2
  have hBB := hB.trans (hB2.mono hB.size)
  clear hN hB hB2
  have hN3 : NetAt w2 p [((cutM ls).take 0, [])] bs := hN2
  clear hN2
  go_wp2_with fail
  go_loopw [8] (fun j wr => ∃ (i : Nat) (bs : Nat → Prop), i ≤ m ∧ j = .int .i64 i ∧ NetAt wr p [((cutM ls).take i, [])] bs ∧ (∀ k, bs k → w.heap.size ≤ k) ∧ Below w.heap.size w wr) (fun j _ => m - (intOf j).toNat)
  case atStart => exact ⟨0, bs, Nat.zero_le _, rfl, hN3, hge, hBB⟩
  case round =>
    clear hN3 hge hBB
    obtain ⟨i, bs, hi, rfl, hN, hge, hB⟩ := hrel
    have hi0 : (0 : Int) ≤ i := Int.natCast_nonneg _
    by_cases hlt : i < m
    · have hlt2 : (i : Int) < m := by omega
      have hlt3 : (i : Int) < ls.length := by omega
      obtain ⟨lb, off, xo, xc, kk, xn, rfl, hc, hmin2, hkx, hk30, hbk, hbl⟩ := h.front (i := i) (by omega)
      have hcr := (hB.cell (p := ⟨lb, off + i, none⟩) hbl).trans hc
      have hkk0 : (0 : Int) ≤ kk := Int.natCast_nonneg _
      have hMl : ((cutM ls).take i).length = i := by rw [List.length_take, hM]; omega
      have hS := nsend_ok 0 (.slice xo kk xc) (ls[i].l.take 30) wr.drew (hN.keep ((Below.refl _ _).drew)) (show 0 < 1 by omega) (show ((cutM ls).take i).length < 64 by rw [hMl]; omega) ((hbk.keep hB).keep ((Below.refl _ _).drew)) (by rw [List.length_take]; omega)
      have htk : (cutM ls).take i ++ [ls[i].l.take 30] = (cutM ls).take (i + 1) := by
        have h5 := cutM_get (ls := ls) (i := i) (by omega) (by omega)
        rw [List.take_add_one (l := cutM ls), h5]; rfl
      have HT := Lib.hid htk
      clear htk hc hk30 hbk
      go_upto_region 8 with (fail)
      go_region_law (first
        | (go_simp; go_at_call 8; refine hS.mono ?_; rintro e w2 ⟨rfl, bs2, hN2, hE2⟩))
      all_goals
        have hB2 : Below w.heap.size w w2 := hB.trans (Below.of_drew (hE2.only.to_below hB.size hge))
        have hge2 : ∀ k, bs2 k → w.heap.size ≤ k := fun k hk => (hE2.new k hk).elim (hge k) (fun e => by have := hB.size; exact Nat.le_trans this e)
        have hN3 : NetAt w2 p [((cutM ls).take (i + 1), [])] bs2 := by
          have h1 : NetAt w2 p [((cutM ls).take i ++ [ls[i].l.take 30], [])] bs2 := hN2
          rwa [HT.out] at h1
        have HF := Lib.hid (And.intro hN3 (And.intro hge2 hB2))
        clear hN3 hge2 hB2 hN2 hE2 hN hge hB hS hcr
        go_wp2_with fail
        go_roundw
        case rel => exact ⟨i + 1, bs2, by omega, by go_num, HF.out.1, HF.out.2.1, HF.out.2.2⟩
        case measure => simp [intOf]; omega
    · have him : i = m := by omega
      have hng : ¬ (i : Int) < m := by omega
      have htl : (cutM ls).take i = cutM ls := by rw [him, ← hM, List.take_length]
      rw [htl] at hN
      clear htl hi hlt
      have HM := Lib.hid hM
      have hi20 : i ≤ 20 := by omega
      subst him
      clear hM
      have hcopy : Calls Try.prog 9 #[.pointer (some ⟨p, 0, none⟩), .int .i64 0, .int .i64 k] wr fun e w' => ∃ (c : Int) (bs' : Nat → Prop) (E : List (List UInt8)), e = .returned (.int .i64 c) ∧ (!(c == 0) == decide (k < i)) = false ∧ NetAt w' p [(cutM ls ++ E, [])] bs' ∧ (∀ k, bs' k → w.heap.size ≤ k) ∧ Below w.heap.size w w' ∧ E = (if k < i then [(cutM ls).getD k []] else []) := by
        have h0 : innN [(cutM ls, [])] 0 = cutM ls := rfl
        by_cases hki : k < i
        · refine (ncopy_ok 0 k wr hN (show 0 < 1 by omega) (by rw [h0, HM.out]; exact hki) (by rw [h0, HM.out]; omega)).mono ?_
          rintro e w' ⟨rfl, bs', hN', hE⟩
          exact ⟨0, bs', [(cutM ls).getD k []], rfl, by simp [hki], hN', fun j hj => (hE.new j hj).elim (hge j) (fun e => by have := hB.size; omega), hB.trans (hE.only.to_below hB.size hge), by rw [if_pos hki]⟩
        · refine (ncopy_miss 0 k wr hN (show 0 < 1 by omega) (by rw [h0, HM.out]; omega)).mono ?_
          rintro e w' ⟨rfl, rfl⟩
          exact ⟨7, bs, [], rfl, by simp [hki], by rw [List.append_nil]; exact hN, hge, hB, by rw [if_neg hki]⟩
      clear hN hge hB
      go_wp2_with fail
      refine hcopy.mono ?_
      rintro e w2 ⟨c, bs2, E, rfl, hce, hN2, hge2, hB2, hE⟩
      have HE := Lib.hid hE
      clear hcopy hE
      go_wp2_with fail
      generalize hD : cutM ls = M at *
      have HD := Lib.hid hD
      clear hD
      go_loopw [10] (fun j wr => ∃ (r : Nat) (bs : Nat → Prop), r ≤ i ∧ j = .int .i64 r ∧ NetAt wr p [((M ++ E).drop r, M.take r)] bs ∧ (∀ k, bs k → w.heap.size ≤ k) ∧ Below w.heap.size w wr) (fun j _ => i - (intOf j).toNat)
      case atStart => exact ⟨0, bs2, Nat.zero_le _, rfl, hN2, hge2, hB2⟩
      case round =>
        clear hN2 hge2 hB2
        obtain ⟨r, bs, hr, rfl, hN, hge, hB⟩ := hrel
        have hr0 : (0 : Int) ≤ r := Int.natCast_nonneg _
        by_cases hlt : r < i
        · have hlt2 : (r : Int) < i := by omega
          have hlt3 : (r : Int) < ls.length := by omega
          obtain ⟨lb, off, xo, xc, kk, xn, rfl, hc, hmin2, hkx, hk30, hbk, hbl⟩ := h.front (i := r) (by omega)
          have hkk0 : (0 : Int) ≤ kk := Int.natCast_nonneg _
          have hMr : M[r]? = some (ls[r].l.take 30) := by rw [← HD.out]; exact cutM_get (by omega) (by omega)
          have hMlt : r < M.length := by rw [HM.out]; exact hlt
          have hd0 : ((M ++ E).drop r).getD 0 [] = ls[r].l.take 30 := by
            rw [List.getD_eq_getElem?_getD, List.getElem?_drop, Nat.add_zero, List.getElem?_append_left hMlt, hMr]; rfl
          have hde : ((M ++ E).drop r).eraseIdx 0 = (M ++ E).drop (r + 1) := by
            rw [List.eraseIdx_zero, List.tail_drop]
          have htk : M.take r ++ [ls[r].l.take 30] = M.take (r + 1) := by rw [List.take_add_one (l := M), hMr]; rfl
          have hdl : 0 < ((M ++ E).drop r).length := by rw [List.length_drop, List.length_append]; omega
          have hT : Calls Try.prog 10 #[.pointer (some ⟨p, 0, none⟩), .int .i64 0, .int .i64 0] wr fun e w' => ∃ v bs', e = .returned (.tuple #[v, .int .i64 0]) ∧ Bsl w'.drew v (ls[r].l.take 30) ∧ NetAt w' p [((M ++ E).drop (r + 1), M.take (r + 1))] bs' ∧ (∀ k, bs' k → w.heap.size ≤ k) ∧ Below w.heap.size w w' ∧ w'.cell? ⟨lb, off + r, none⟩ = some (.slice xo xn xc) ∧ Bsl w'.drew (.slice xo kk xc) (ls[r].l.take 30) := by
            refine (ntake_ok 0 0 wr hN (show 0 < 1 by omega) hdl (show (M.take r).length ≤ 1000000 by rw [List.length_take]; omega)).mono ?_
            rintro e w' ⟨v, bs', rfl, ho, hN', hE, _⟩
            have hB' := hB.trans (hE.only.to_below hB.size hge)
            have ho' : OB w' wr.heap.size v (((M ++ E).drop r).getD 0 []) := ho
            rw [hd0] at ho'
            have hN'' : NetAt w' p [(((M ++ E).drop r).eraseIdx 0, M.take r ++ [((M ++ E).drop r).getD 0 []])] bs' := hN'
            rw [hd0, hde, htk] at hN''
            exact ⟨v, bs', rfl, ho'.bsl.keep ((Below.refl _ _).drew), hN'', fun j hj => (hE.new j hj).elim (hge j) (fun e => by have := hB.size; omega), hB', (hB'.cell (p := ⟨lb, off + r, none⟩) hbl).trans hc, (hbk.keep hB').keep ((Below.refl _ _).drew)⟩
          clear hc hbk hMr hd0 hde htk hdl hN hge hB
          go_wp2_with fail
          refine hT.mono ?_
          rintro e w3 ⟨v3, bs3, rfl, hv3, hN3, hge3, hB3, hc3, hx3⟩
          have s1 := run_str _ hv3
          have s2 := run_str _ hx3
          have HF := Lib.hid (And.intro hN3 (And.intro hge3 hB3))
          clear hT hN3 hge3 hB3 hv3 hx3
          go_upto_region 18 with (fail)
          go_region
          clear s1 s2
          go_wp2_with fail
          go_roundw
          case rel => exact ⟨r + 1, bs3, by omega, by go_num, HF.out.1.keep ((Below.refl _ _).drew), HF.out.2.1, HF.out.2.2.drew⟩
          case measure => simp [intOf]; omega
        · have hri : r = i := by omega
          have hng : ¬ (r : Int) < i := by omega
          have hdr : (M ++ E).drop r = E := by rw [hri, ← HM.out, List.drop_left']; rfl
          rw [hdr] at hN
          clear hdr hr hlt hr0
          have hke3 : ¬ (i : Int) < i := by omega
          subst hri
          by_cases hki : k < r
          · have hE2 : E = [M.getD k []] := by rw [HE.out, if_pos hki]
            subst hE2
            have hki2 : (k : Int) < r := by omega
            obtain ⟨lb, off, xo, xc, kk, xn, rfl, hc, hmin2, hkx, hk30, hbk, hbl⟩ := h.front (i := k) (by omega)
            have hMk : M.getD k [] = ls[k].l.take 30 := by rw [← HD.out, List.getD_eq_getElem?_getD, cutM_get (by omega) (by omega)]; rfl
            rw [hMk] at hN
            clear hMk
            generalize ls[k].l.take 30 = tx at *
            have hkk0 : (0 : Int) ≤ kk := Int.natCast_nonneg _
            have hk0 : (0 : Int) ≤ k := Int.natCast_nonneg _
            have hkl : (k : Int) < ls.length := by omega
            have hT := ntake_ok 0 0 wr hN (show 0 < 1 by omega) (show 0 < 1 by omega) (show (M.take r).length ≤ 1000000 by rw [List.length_take]; omega)
            have HB := Lib.hid hB
            have HN := Lib.hid hN
            have HC := Lib.hid (And.intro hc hbk)
            have HK := Lib.hid hki
            clear hB hN hc hbk hce HE hki
            go_wp2_with fail
            refine hT.mono ?_
            rintro e w3 ⟨v3, bs3, rfl, ho3, hN3, hE3, _⟩
            have hB3 := HB.out.trans (hE3.only.to_below HB.out.size hge)
            have hv3 : Bsl w3.drew v3 tx := (OB.bsl ho3).keep ((Below.refl _ _).drew)
            have hx3 : Bsl w3.drew (.slice xo kk xc) tx := (HC.out.2.keep hB3).keep ((Below.refl _ _).drew)
            have hc3 : w3.cell? ⟨lb, off + k, none⟩ = some (.slice xo xn xc) := (hB3.cell (p := ⟨lb, off + k, none⟩) hbl).trans HC.out.1
            have s1 := run_str _ hv3
            have s2 := run_str _ hx3
            have hL := nlen_ok 0 w3.drew (hN3.keep ((Below.refl _ _).drew)) (show 0 < 1 by omega)
            have hL0 : Calls Try.prog 11 #[.pointer (some ⟨p, 0, none⟩), .int .i64 0] w3.drew fun e w' => e = .returned (.int .i64 0) ∧ w3.drew = w' := hL
            have HF := Lib.hid hB3
            clear hT hL hB3 hv3 hx3 ho3 hN3 hE3
            go_upto_region 23 with (fail)
            go_region_held_law (fun w' => w'.cell? ⟨lb, off + k, none⟩ = some (.slice xo xn xc)) (first | exact hc3 | go_keep) (first
              | (go_simp; go_at_call 11; refine hL0.mono ?_; rintro e w4 ⟨rfl, rfl⟩))
            all_goals
              clear s1 s2 hL0
              go_wp2_with fail
              go_ret
              exact ⟨rfl, HF.out.drew⟩
          · have hE2 : E = [] := by rw [HE.out, if_neg hki]
            subst hE2
            have hki2 : (r : Int) ≤ k := by omega
            have hT := ntake_miss 0 0 wr hN (show 0 < 1 by omega) (show ¬ ((0 : Int) ≤ 0 ∧ (0 : Int) < (0 : Nat)) by omega)
            have HB := Lib.hid hB
            clear hB hN hce HE hki
            go_wp2_with fail
            refine hT.mono ?_
            rintro e w3 ⟨rfl, rfl⟩
            clear hT
            go_wp2_with fail
            go_ret
            exact ⟨rfl, HB.out⟩
end Go.Proofs.Ytbflffanahnofaa
