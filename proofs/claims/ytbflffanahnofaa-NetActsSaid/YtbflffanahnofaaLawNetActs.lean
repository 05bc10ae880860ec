/- The law NetActs. -/
import Derived.Test.YtbflffanahnofaaNetTwo
import Derived.Test.YtbflffanahnofaaNetNil
import Derived.Test.YtbflffanahnofaaOpenNActs
import Derived.Test.YtbflffanahnofaaLawNetFull
import Derived.Deep.DeepCutAuto
import Derived.Deep.CutBlock
import Derived.Deep.RegionHeldLaw
import Derived.BigRegion
import Derived.Laws.BitsAllLaws
namespace Go.Proofs.Ytbflffanahnofaa
open Go.RowKit
theorem nactCells {w : World} {ys : List NAct} {b off : Nat} (h : ∀ i (h : i < ys.length) j, j < 4 → w.cell? ⟨b, off + i * 4 + j, none⟩ = (nactC ys[i])[j]?) {i : Nat} (hi : i < ys.length) {w' : World} (hb : Below w.heap.size w w') :
    w'.cell? ⟨b, off + i * 4, none⟩ = some (.int .i64 ys[i].what) ∧ w'.cell? ⟨b, off + i * 4 + 1, none⟩ = some (.int .i64 ys[i].bx) ∧ w'.cell? ⟨b, off + i * 4 + 2, none⟩ = some (.int .i64 ys[i].k) ∧ w'.cell? ⟨b, off + i * 4 + 3, none⟩ = some ys[i].bv ∧ b < w.heap.size := by
  have h0 : w.cell? ⟨b, off + i * 4, none⟩ = some (.int .i64 ys[i].what) := h i hi 0 (by omega)
  have h1 : w.cell? ⟨b, off + i * 4 + 1, none⟩ = some (.int .i64 ys[i].bx) := h i hi 1 (by omega)
  have h2 : w.cell? ⟨b, off + i * 4 + 2, none⟩ = some (.int .i64 ys[i].k) := h i hi 2 (by omega)
  have h3 : w.cell? ⟨b, off + i * 4 + 3, none⟩ = some ys[i].bv := h i hi 3 (by omega)
  have hlt : b < w.heap.size := World.block_lt_of_cell? w _ h0
  exact ⟨(hb.cell (p := ⟨b, off + i * 4, none⟩) hlt).trans h0, (hb.cell (p := ⟨b, off + i * 4 + 1, none⟩) hlt).trans h1, (hb.cell (p := ⟨b, off + i * 4 + 2, none⟩) hlt).trans h2, (hb.cell (p := ⟨b, off + i * 4 + 3, none⟩) hlt).trans h3, hlt⟩
theorem Siz.le {st : NSt} {n i m : Nat} (h : Siz st n i) (hm : i ≤ m) : Siz st n m := ⟨h.1, fun j => ⟨(h.2 j).1, by have := (h.2 j).2; omega⟩⟩
theorem xor1 (c : UInt8) : bits BinOp.xor IntKind.u8 (c.toNat : Int) 1 = ((c ^^^ 1).toNat : Int) := by
  have := u8_xor_nat c.toNat 1 c.toNat_lt (by omega)
  rw [UInt8.toNat_xor]; exact this
theorem innN_rep (n j : Nat) : innN (List.replicate n ([], [])) j = [] := by
  unfold innN; by_cases h : j < n <;> simp [List.getD, h]
theorem seenN_rep (n j : Nat) : seenN (List.replicate n ([], [])) j = [] := by
  unfold seenN; by_cases h : j < n <;> simp [List.getD, h]
set_option maxRecDepth 100000 in
set_option maxHeartbeats 4000000 in
theorem netActs_walk (n0 : Int) (v : Value) (ys : List NAct) (w : World) (hn : (Lit.int .i64 n0).wf = true) (h : NActsAt w v ys) :
    Calls Try.prog 5 #[.int .i64 n0, v] w fun e w' => e = .returned (.bool true) ∧ Below w.heap.size w w' := by
  obtain ⟨ao, cap, rfl, hq1, hq2, hq3, hne⟩ := id h.1
  have hbv := h.2
  clear hq1 hq2 hq3
  have hn' := bounds_i64 hn
  by_cases hbad : n0 < 1 ∨ 9 < n0
  · have hnew := fun w => nnew_bad n0 w hbad
    by_cases h1 : n0 < 1
    · clear hbad hne h hn
      go_enter Try.func5, Try.ntmps5
      go_wp2_with (first
        | (go_at_call 12; refine (znone _).mono ?_; rintro e wz ⟨rfl, rfl⟩)
        | (go_at_call 10; refine (ztake _ _ _).mono ?_; rintro e wz ⟨rfl, rfl⟩)
        | (go_at_call 8; refine (zsend _ _ _).mono ?_; rintro e wz ⟨rfl, rfl⟩)
        | (go_at_call 9; refine (zcopy _ _ _).mono ?_; rintro e wz ⟨rfl, rfl⟩)
        | (go_at_call 13; refine (zclear _ _).mono ?_; rintro e wz ⟨rfl, rfl⟩)
        | (go_at_call 11; refine (zlen _ _).mono ?_; rintro e wz ⟨rfl, rfl⟩)
        | (go_at_call 14; refine (zseen _ _).mono ?_; rintro e wz ⟨rfl, rfl⟩)
        | (go_at_call 7; refine (nets_any _).mono ?_; rintro e wz ⟨rfl, hBz⟩)
        | (go_at_call 6; refine (hnew _).mono ?_; rintro e wz ⟨rfl, rfl⟩))
      go_ret
      exact ⟨rfl, hBz⟩
    · have h2 : 9 < n0 := by omega
      clear hbad hne h hn h1
      go_enter Try.func5, Try.ntmps5
      go_wp2_with (first
        | (go_at_call 12; refine (znone _).mono ?_; rintro e wz ⟨rfl, rfl⟩)
        | (go_at_call 10; refine (ztake _ _ _).mono ?_; rintro e wz ⟨rfl, rfl⟩)
        | (go_at_call 8; refine (zsend _ _ _).mono ?_; rintro e wz ⟨rfl, rfl⟩)
        | (go_at_call 9; refine (zcopy _ _ _).mono ?_; rintro e wz ⟨rfl, rfl⟩)
        | (go_at_call 13; refine (zclear _ _).mono ?_; rintro e wz ⟨rfl, rfl⟩)
        | (go_at_call 11; refine (zlen _ _).mono ?_; rintro e wz ⟨rfl, rfl⟩)
        | (go_at_call 14; refine (zseen _ _).mono ?_; rintro e wz ⟨rfl, rfl⟩)
        | (go_at_call 7; refine (nets_any _).mono ?_; rintro e wz ⟨rfl, hBz⟩)
        | (go_at_call 6; refine (hnew _).mono ?_; rintro e wz ⟨rfl, rfl⟩))
      go_ret
      exact ⟨rfl, hBz⟩
  · obtain ⟨n, rfl⟩ := Int.eq_ofNat_of_zero_le (show 0 ≤ n0 by omega)
    have hn1 : 1 ≤ n := by omega
    have hn9 : n ≤ 9 := by omega
    have g1 : (1 : Int) ≤ n := by omega
    have g2 : (n : Int) ≤ 9 := by omega
    have hnew := fun w => nnew_ok n w hn1 hn9
    have hrew := fun w => rnew_any n w (by omega)
    clear hbad hn hn'
    go_enter Try.func5, Try.ntmps5
    go_upto_region 9 with (first
      | (go_at_call 12; refine (znone _).mono ?_; rintro e wz ⟨rfl, rfl⟩)
      | (go_at_call 10; refine (ztake _ _ _).mono ?_; rintro e wz ⟨rfl, rfl⟩)
      | (go_at_call 8; refine (zsend _ _ _).mono ?_; rintro e wz ⟨rfl, rfl⟩)
      | (go_at_call 9; refine (zcopy _ _ _).mono ?_; rintro e wz ⟨rfl, rfl⟩)
      | (go_at_call 13; refine (zclear _ _).mono ?_; rintro e wz ⟨rfl, rfl⟩)
      | (go_at_call 11; refine (zlen _ _).mono ?_; rintro e wz ⟨rfl, rfl⟩)
      | (go_at_call 14; refine (zseen _ _).mono ?_; rintro e wz ⟨rfl, rfl⟩)
      | (go_at_call 7; refine (nets_any _).mono ?_; rintro e wz ⟨rfl, hBz⟩)
      | (go_at_call 6; refine (hnew _).mono ?_; rintro e wn ⟨p, rfl, ⟨bs, hN, hgN⟩, hBn⟩)
      | (go_at_call 15; refine (hrew _).mono ?_; rintro e wy ⟨q, rfl, ⟨cs, hR, hgR⟩, hBy⟩))
    have hT0 : Two w wy p q (List.replicate n ([], [])) (List.replicate n ([], [])) (fun _ => False) :=
      ⟨bs, cs, hN.keep hBy, hR, fun k hk e => (by have := hN.lt k hk; have := hgR k e; omega), ⟨fun k hk => Nat.le_trans hBz.size (hgN k hk), fun k hk => Nat.le_trans hBz.size (Nat.le_trans hBn.size (hgR k hk))⟩, (hBz.trans (hBn.mono hBz.size)).trans (hBy.mono (Nat.le_trans hBz.size hBn.size)), fun k hk => hk.elim, fun k hk => hk.elim⟩
    have hZ0 : Siz (List.replicate n ([], [])) n 0 := ⟨List.length_replicate .., fun j => by rw [innN_rep, seenN_rep]; simp⟩
    clear hnew hrew hN hgN hBn hR hgR hBy hBz
    generalize (List.replicate n ([], []) : NSt) = st0 at *
    go_upto_block 0 with (fail)
    go_cut [9] (fun _ wx => ∃ st : NSt, Siz st n 60 ∧ Two w wx p q st st (fun _ => False))
    case first =>
      go_wp2_with fail
      go_loopw [9] (fun j wr => ∃ (i : Nat) (st : NSt), i ≤ ys.length ∧ i ≤ 60 ∧ j = .int .i64 i ∧ Siz st n i ∧ Two w wr p q st st (fun _ => False)) (fun j _ => 60 - (intOf j).toNat)
      case atStart => exact ⟨0, st0, by omega, by omega, rfl, hZ0, hT0⟩
      case round =>
        clear hZ0 hT0
        obtain ⟨i, st, hi1, hi2, rfl, hZ, hT⟩ := hrel
        have hi0 : (0 : Int) ≤ i := Int.natCast_nonneg _
        by_cases hlt : i < ys.length ∧ i < 60
        · obtain ⟨hlt1, hlt2⟩ := hlt
          have hlt8 : (i : Int) < ys.length := by omega
          have hlt9 : (i : Int) < 60 := by omega
          obtain ⟨b, off, rfl, hcells⟩ := hne (by intro e; simp [e] at hlt1)
          obtain ⟨c0, c1, c2, c3, hbw⟩ := nactCells hcells hlt1 hT.below
          have hyb := hbv _ (List.getElem_mem hlt1)
          clear hcells hne hbv h
          generalize ys[i] = y at *
          obtain ⟨what, bx, kk, bv, bl⟩ := y
          dsimp only at c0 c1 c2 c3 hyb
          obtain ⟨so, sc, rfl, hz1, hz2, hz3, hz4⟩ := id hyb
          clear hz3 hz4
          have hA : Below wr.heap.size wr (wr.alloc (.cells #[.int .i64 what, .int .i64 bx, .int .i64 kk, .slice so bl.length sc] 44)) := (Below.refl _ _).alloc (Nat.le_refl _) _
          have hv0 : ∀ j, (wr.alloc (.cells #[.int .i64 what, .int .i64 bx, .int .i64 kk, .slice so bl.length sc] 44)).cell? ⟨wr.heap.size, j, none⟩ = #[.int .i64 what, .int .i64 bx, .int .i64 kk, .slice so bl.length sc][j]? := fun j => World.cell?_alloc_new wr _ _ j
          have hvl : wr.heap.size < (wr.alloc (.cells #[.int .i64 what, .int .i64 bx, .int .i64 kk, .slice so bl.length sc] 44)).heap.size := by simp
          have hyb2 := (hyb.keep hT.below).keep hA
          have hAw := hT.below.trans (hA.mono hT.below.size)
          have hT2 := hT.fresh (E' := (· = wr.heap.size)) hA (fun k hk => by subst hk; exact ⟨Nat.le_refl _, hvl⟩)
          have hvw := hT.below.size
          have hab0 : wr.heap.size ≤ wr.heap.size := Nat.le_refl _
          have HA := Lib.hid hA
          clear hyb
          go_upto_region 13 with (fail)
          clear c0 c1 c2 c3 hA
          generalize wr.alloc (.cells #[.int .i64 what, .int .i64 bx, .int .i64 kk, .slice so bl.length sc] 44) = wA at *
          generalize hab : wr.heap.size = ab at *
          have HAB := Lib.hid hab
          clear hab
          have c0 : wA.cell? ⟨ab, 0, none⟩ = some (.int .i64 what) := hv0 0
          have c1 : wA.cell? ⟨ab, 1, none⟩ = some (.int .i64 bx) := hv0 1
          have c2 : wA.cell? ⟨ab, 2, none⟩ = some (.int .i64 kk) := hv0 2
          have c3 : wA.cell? ⟨ab, 3, none⟩ = some (.slice so bl.length sc) := hv0 3
          have hs64 : ∀ j, (innN st j).length ≤ 64 := fun j => (hZ.2 j).1
          clear hv0 hab0
          obtain ⟨q4, hq4, hke, hkz⟩ := umodN what 4 (by omega) (by omega)
          clear hkz
          rw [show ((4 : Nat) : Int) = 4 from rfl] at hke
          have hcase : (q4 : Int) = 0 ∨ (q4 : Int) = 1 ∨ (q4 : Int) = 2 ∨ (q4 : Int) = 3 := by omega
          rcases hcase with hc | hc | hc | hc
          · rw [hc] at hke
            obtain ⟨m, hm⟩ : ∃ m, m = min 30 bl.length := ⟨_, rfl⟩
            have hmin : (if (30 : Int) < (bl.length : Int) then 30 else (bl.length : Int)) = (m : Int) := by split <;> omega
            have hm0 : (0 : Int) ≤ m := Int.natCast_nonneg _
            have hm1 : (m : Int) ≤ sc := by omega
            have hsrc := hyb2.take (m := m) (by omega)
            have htl : (bl.take m).length = m := by rw [List.length_take]; omega
            have hm30 : m ≤ 30 := by omega
            clear hm hz1 hz2
            generalize bl.take m = t at hsrc htl
            subst htl
            have B1 : Below wA.heap.size wA (wA.alloc (.cells #[] 5)) := (Below.refl _ _).alloc (Nat.le_refl _) _
            have hown : OB (wA.alloc (.cells #[] 5)) wA.heap.size (.slice (some ⟨wA.heap.size, 0, none⟩) 0 0) [] := World.ownsRow_made wA #[] 0 (Nat.le_refl _) (by decide) rfl
            have hsrc1 := hsrc.keep B1
            have hl1 : ([] : List UInt8).length + t.length ≤ 140737488355328 := by simp; omega
            have hbase1 := B1.size
            go_upto_region 16 with (at_builtin; refine wp_app rfl _ _ rfl wA.heap.size _ _ _ _ rfl rfl hown hsrc1 hl1 hbase1 ?_; intro v1 w1 ho1 hg1 hn1)
            have hB1' : Below wA.heap.size wA w1 := B1.grown hg1 hbase1 hown.own_ge
            have ht : OB w1 wA.heap.size v1 t := ho1
            obtain ⟨ao1, cp1, rfl, hz1, hz2, hz3, hz4⟩ := id ht.bsl
            have cb0 := (hB1'.cell (p := ⟨ab, 1, none⟩) hvl).trans c1
            have hvl1 := Nat.lt_of_lt_of_le hvl hB1'.size
            have HA' : Below wr.heap.size wr wA := by rw [HAB.out]; exact HA.out
            have hT1 := hT.fresh (w2 := w1) (E' := fun k => k = ab ∨ (Value.slice ao1 t.length cp1).ownBlock = some k) (HA'.trans (hB1'.mono HA'.size)) (fun k hk => by
              have h1 := HAB.out
              rcases hk with rfl | hk
              · omega
              · have := ht.own_ge k hk; have := ht.own_lt k hk; omega)
            clear hT hT2 B1 hown hsrc1 hsrc hl1 hbase1 ho1 hg1 hn1 hmin hm1 c0 c1 c2 c3 hz1 hz2 hz3 hz4 hB1' hvl hyb2
            have hT := Two.keep (w2 := w1.drew) hT1 ((Below.refl _ _).drew)
            have cb : w1.drew.cell? ⟨ab, 1, none⟩ = some (.int .i64 bx) := cb0
            have hv : OB w1.drew wA.heap.size (.slice ao1 t.length cp1) t := ht
            have hlt1' : ab < w1.drew.heap.size := hvl1
            have hstr := run_str w1.drew hv.bsl
            have hE1 : ∀ k, (k = ab ∨ (Value.slice ao1 t.length cp1).ownBlock = some k) → ¬ ¬ (k = ab ∨ (Value.slice ao1 t.length cp1).ownBlock = some k) := fun k hk h => h hk
            have ht30 : t.length ≤ 1000000 := by omega
            clear cb0 ht hT1 hvl1
            go_region_held_law (fun w' => w'.cell? ⟨ab, 1, none⟩ = some (.int .i64 bx)) (first | exact cb | go_keep) (first
              | (go_simp; go_at_call 8; refine (tsend_n bx _ t hT hv.bsl ht30 hs64).mono ?_; rintro e w5 ⟨rfl, hT, hon⟩; have cb := (hon.cell (p := ⟨ab, 1, none⟩) hlt1' (hE1 ab (.inl rfl))).trans cb; have hlt1' := Nat.lt_of_lt_of_le hlt1' hon.size; have hv := hv.only hon (fun k hk => hE1 k (.inr hk)); have hstr := run_str _ hv.bsl)
              | (go_simp; go_at_call 16; refine (tsend_r bx t hT hs64).mono ?_; rintro e w6 ⟨rfl, hT, hon⟩; have cb := (hon.cell (p := ⟨ab, 1, none⟩) hlt1' (hE1 ab (.inl rfl))).trans cb; have hlt1' := Nat.lt_of_lt_of_le hlt1' hon.size; have hv := hv.only hon (fun k hk => hE1 k (.inr hk)); have hstr := run_str _ hv.bsl))
            all_goals
              have hE0 : ∀ k, (k = ab ∨ (Value.slice ao1 t.length cp1).ownBlock = some k) → w.heap.size ≤ k := fun k hk => by
                have h1 := HAB.out
                have h2 := HA'.size
                rcases hk with rfl | hk
                · omega
                · have := hv.own_ge k hk; omega
              have hZ1 := hZ.send bx t
              have HZ := Lib.hid hZ1
              have HT := Lib.hid hT
              have HV := Lib.hid hv
              clear hstr cb hon hT hv hZ hZ1 hs64 hE1 hlt1' HA' hAw
              generalize sendT st bx t = st2 at *
              generalize sendE st bx = se at *
              go_wp2_with fail
              go_loopw [12] (fun jv wx => ∃ (r : Nat) (l' : List UInt8), r ≤ t.length ∧ jv = .int .i64 r ∧ l'.length = t.length ∧ OB wx wA.heap.size (.slice ao1 t.length cp1) l' ∧ Two w wx p q st2 st2 (fun k => k = ab ∨ (Value.slice ao1 t.length cp1).ownBlock = some k)) (fun jv _ => t.length - (intOf jv).toNat)
              case atStart => exact ⟨0, t, by omega, rfl, rfl, HV.out, HT.out⟩
              case round =>
                clear HT HV
                obtain ⟨r, l', hr, rfl, hl', ho, hT⟩ := hrel
                have hr0 : (0 : Int) ≤ r := Int.natCast_nonneg _
                by_cases hlt5 : r < t.length
                · have hlt6 : (r : Int) < t.length := by omega
                  obtain ⟨g, c, hs, hz1, hgl, hz2, hz3⟩ := ho.shape (by intro e; rw [e] at hl'; simp at hl'; omega)
                  simp only [Value.slice.injEq] at hs
                  obtain ⟨rfl, hz4, rfl⟩ := hs
                  clear hz1 hz4
                  have hc := ho.cell (by omega) (j := r) (by omega)
                  have hf := ho.free (by omega) r
                  have hset := ho.set (by omega) r (l'.getD r 0 ^^^ 1)
                  have hx := xor1 (l'.getD r 0)
                  have hon : Only (fun k => k = ab ∨ (Value.slice (some ⟨g, 0, none⟩) t.length cp1).ownBlock = some k) wr (wr.setCell ⟨g, r, none⟩ (.int .u8 ((l'.getD r 0 ^^^ 1).toNat : Int))) := Only.setCell (Only.refl _ _) (p := ⟨g, r, none⟩) (fun _ => .inr rfl) _
                  have hT2 := hT.write hon hE0
                  generalize (l'.getD r 0 ^^^ 1) = c2 at *
                  generalize l'.getD r 0 = cc1 at *
                  have HX := Lib.hid hx
                  have hlen2 : (l'.set r c2).length = t.length := by rw [List.length_set]; exact hl'
                  have HF := Lib.hid (And.intro hlen2 (And.intro hset hT2))
                  clear ho hT hon hx hlen2 hset hT2 hE0
                  go_wp2_with fail
                  rw [HX.out]
                  go_roundw
                  case rel => exact ⟨r + 1, l'.set r c2, by omega, by go_num, HF.out.1, HF.out.2.1, HF.out.2.2⟩
                  case measure => simp [intOf]; omega
                · have hng : ¬ (r : Int) < t.length := by omega
                  have HT2 := Lib.hid (hT.sub (E' := fun _ => False) (fun _ h => h.elim))
                  clear hT ho hE0
                  go_wp2_with fail
                  go_roundw
                  case rel => exact ⟨i + 1, st2, by omega, by omega, by go_num, HZ.out, HT2.out⟩
                  case measure => simp [intOf]; omega
          · rw [hc] at hke
            have hs1 : ∀ j, (seenN st j).length ≤ 1000 := fun j => by have := (hZ.2 j).2; omega
            have hs2 : ∀ j, (innN st j).length ≤ 1000 ∧ (seenN st j).length ≤ 1000 := fun j => ⟨by have := (hZ.2 j).1; omega, hs1 j⟩
            have hk1 := ttake_n bx kk hT2 hs1
            clear hT hz1 hz2 hyb2 c3 hs64
            go_wp2_with fail
            refine hk1.mono ?_
            rintro e w5 ⟨v5, rfl, hv5, hT5, hon5⟩
            obtain ⟨vo, vc, rfl, hq1, hq2, hq3, hq5⟩ := id hv5
            have d1 := (hon5.cell (p := ⟨ab, 1, none⟩) hvl (fun h => h rfl)).trans c1
            have d2 := (hon5.cell (p := ⟨ab, 2, none⟩) hvl (fun h => h rfl)).trans c2
            have hk2 := ttake_r bx kk hT5 hs2
            clear hk1 c0 c1 c2 hq1 hq2 hq3 hq5 hon5 hT2
            go_wp2_with fail
            refine hk2.mono ?_
            rintro e w6 ⟨rfl, hT6, hon6⟩
            have hv6 := hv5.only hon6 (fun k hk h => h (.inr hk))
            have hstr := run_str w6 hv6
            have HZ := Lib.hid (hZ.take bx kk)
            have HT := Lib.hid (hT6.sub (E' := fun _ => False) (fun _ h => h.elim))
            clear hk2 d1 d2 hT5 hT6 hon6 hv5 hv6 hZ hs1 hs2
            unfold strN
            generalize takeT st bx kk = st2 at *
            generalize takeE st bx kk = te at *
            generalize takeL st bx kk = tl at *
            go_wp2_with fail
            go_roundw
            case rel => exact ⟨i + 1, st2, by omega, by omega, by go_num, HZ.out, HT.out⟩
            case measure => simp [intOf]; omega
          · rw [hc] at hke
            clear hT hz1 hz2 hyb2 c3
            have hT := Two.keep (w2 := wA.drew) hT2 ((Below.refl _ _).drew)
            have e1 : wA.drew.cell? ⟨ab, 1, none⟩ = some (.int .i64 bx) := c1
            have e2 : wA.drew.cell? ⟨ab, 2, none⟩ = some (.int .i64 kk) := c2
            have hlt1' : ab < wA.drew.heap.size := hvl
            go_upto_region 28 with (fail)
            clear hT2 c0 c1 c2 hvl
            go_region_held_law (fun w' => w'.cell? ⟨ab, 1, none⟩ = some (.int .i64 bx) ∧ w'.cell? ⟨ab, 2, none⟩ = some (.int .i64 kk)) (first | exact ⟨e1, e2⟩ | go_keep) (first
              | (go_simp; go_at_call 9; refine (tcopy_n bx kk hT hs64).mono ?_; rintro e w5 ⟨rfl, hT, hon⟩; have e1 := (hon.cell (p := ⟨ab, 1, none⟩) hlt1' (fun h => h rfl)).trans e1; have e2 := (hon.cell (p := ⟨ab, 2, none⟩) hlt1' (fun h => h rfl)).trans e2; have hlt1' := Nat.lt_of_lt_of_le hlt1' hon.size)
              | (go_simp; go_at_call 18; refine (tcopy_r bx kk hT hs64).mono ?_; rintro e w6 ⟨rfl, hT, hon⟩; have e1 := (hon.cell (p := ⟨ab, 1, none⟩) hlt1' (fun h => h rfl)).trans e1; have e2 := (hon.cell (p := ⟨ab, 2, none⟩) hlt1' (fun h => h rfl)).trans e2; have hlt1' := Nat.lt_of_lt_of_le hlt1' hon.size))
            all_goals
              have HZ := Lib.hid (hZ.copy bx kk)
              have HT := Lib.hid (hT.sub (E' := fun _ => False) (fun _ h => h.elim))
              clear hT e1 e2 hon hZ hs64
              generalize copyT st bx kk = st2 at *
              generalize copyE st bx kk = te at *
              go_wp2_with fail
              go_roundw
              case rel => exact ⟨i + 1, st2, by omega, by omega, by go_num, HZ.out, HT.out⟩
              case measure => simp [intOf]; omega
          · rw [hc] at hke
            have hk1 := tclear_n bx hT2
            clear hT hz1 hz2 hyb2 c3 hs64
            have hlen := hZ.1
            have hZ3 := hZ.clear bx
            by_cases hin : inB st bx
            · obtain ⟨j, rfl, hj⟩ := hin.nat
              have hcl : clearT st (j : Int) = st.set j ([], seenN st j) := by unfold clearT; rw [if_pos hin, Int.toNat_natCast]
              rw [hcl] at hk1 hZ3
              have hj0 : (0 : Int) ≤ j := Int.natCast_nonneg _
              have hj1 : (j : Int) < n := by omega
              clear hcl hin
              go_wp2_with fail
              refine hk1.mono ?_
              rintro e w5 ⟨rfl, hT5, hon5⟩
              have d1 := (hon5.cell (p := ⟨ab, 1, none⟩) hvl (fun h => h rfl)).trans c1
              have d1' : w5.drew.cell? ⟨ab, 1, none⟩ = some (.int .i64 j) := d1
              obtain ⟨cs, hR, hstep⟩ := Two.ref (w := w5.drew) (hT5.keep ((Below.refl _ _).drew))
              obtain ⟨g, hh, cg, ch, rv, ⟨r0, r1⟩, ⟨ri, rf⟩, hrl, hrr, hrn, hrp, hrb, hrset⟩ := hR.setRow false hj
              obtain ⟨cs', hR', hE'⟩ := hrset w5.drew (.slice none 0 0) [] (Only.refl _ _) (RW.nil _ _ _ _) (.inr (.inl rfl))
              have hT6 := (hstep _ _ ⟨cs', hR', hE'⟩).1
              simp only [Bool.false_eq_true, if_false] at ri rf hT6
              rw [hlen] at r0
              have hsr : setRow st false j [] = st.set j ([], seenN st j) := rfl
              rw [hsr] at hT6
              have HZ := Lib.hid hZ3
              have HT := Lib.hid (hT6.sub (E' := fun _ => False) (fun _ h => h.elim))
              clear hk1 c0 c1 c2 hon5 hT2 hT5 hT6 hstep hR hrset hR' hE' hrl hrr hrn hrp hrb hZ hZ3 hsr r1 hlen
              go_upto_region 33 with (fail)
              go_region
              clear d1 d1' r0 ri rf
              go_wp2_with fail
              go_roundw
              case rel => exact ⟨i + 1, _, by omega, by omega, by go_num, HZ.out, HT.out⟩
              case measure => simp [intOf]; omega
            · have hcl : clearT st bx = st := by unfold clearT; rw [if_neg hin]
              rw [hcl] at hk1 hZ3
              have hout : bx < 0 ∨ (n : Int) ≤ bx := by unfold inB at hin; omega
              clear hcl hin
              rcases hout with hout | hout
              · go_wp2_with fail
                refine hk1.mono ?_
                rintro e w5 ⟨rfl, hT5, hon5⟩
                have d1 := (hon5.cell (p := ⟨ab, 1, none⟩) hvl (fun h => h rfl)).trans c1
                have HZ := Lib.hid hZ3
                have HT := Lib.hid (hT5.sub (E' := fun _ => False) (fun _ h => h.elim))
                clear hk1 c0 c1 c2 hon5 hT2 hT5 hZ hZ3 hlen
                go_wp2_with fail
                go_roundw
                case rel => exact ⟨i + 1, st, by omega, by omega, by go_num, HZ.out, HT.out⟩
                case measure => simp [intOf]; omega
              · have hb0 : 0 ≤ bx := by omega
                go_wp2_with fail
                refine hk1.mono ?_
                rintro e w5 ⟨rfl, hT5, hon5⟩
                have d1 := (hon5.cell (p := ⟨ab, 1, none⟩) hvl (fun h => h rfl)).trans c1
                have HZ := Lib.hid hZ3
                have HT := Lib.hid (hT5.sub (E' := fun _ => False) (fun _ h => h.elim))
                clear hk1 c0 c1 c2 hon5 hT2 hT5 hZ hZ3 hlen
                go_wp2_with fail
                go_roundw
                case rel => exact ⟨i + 1, st, by omega, by omega, by go_num, HZ.out, HT.out⟩
                case measure => simp [intOf]; omega
        · have hng : ¬ (i < ys.length ∧ i < 60) := hlt
          have HF := Lib.hid (And.intro (Siz.le hZ hi2) hT)
          rcases (show (¬ i < ys.length) ∨ (i < ys.length ∧ ¬ i < 60) by omega) with he | ⟨he1, he2⟩
          · have he3 : ¬ (i : Int) < ys.length := by omega
            clear hng hlt
            go_wp2_with fail
            go_meet
            exact ⟨st, HF.out.1, HF.out.2⟩
          · have he3 : (i : Int) < ys.length := by omega
            have he4 : ¬ (i : Int) < 60 := by omega
            clear hng hlt
            go_wp2_with fail
            go_meet
            exact ⟨st, HF.out.1, HF.out.2⟩
    case rest =>
      clear hZ0 hT0
      obtain ⟨st, hZ, hT⟩ := hcut
      go_wp2_with fail
      go_loopw [17] (fun j wr => ∃ k : Nat, k ≤ n ∧ j = .int .i64 k ∧ Two w wr p q st st (fun _ => False)) (fun j _ => n - (intOf j).toNat)
      case atStart => exact ⟨0, by omega, rfl, hT⟩
      case round =>
        clear hT
        obtain ⟨k, hk, rfl, hT⟩ := hrel
        have hk0 : (0 : Int) ≤ k := Int.natCast_nonneg _
        have hlen := hZ.1
        by_cases hlt : k < n
        · have hlt8 : (k : Int) < n := by omega
          obtain ⟨bs, hN, _⟩ := hT.net0
          have hS := nseen_ok k wr hN (by omega) (by have := (hZ.2 k).2; omega)
          go_wp2_with fail
          refine hS.mono ?_
          rintro e wS ⟨vS, zs, rfl, hrS, hzs, hzb, hBS⟩
          have hTS := hT.keep hBS
          have hTd := Two.keep (w2 := wS.drew) hTS ((Below.refl _ _).drew)
          obtain ⟨bsd, hNd, _⟩ := hTd.net0
          have hL := nlen_ok k wS.drew hNd (by omega)
          obtain ⟨cs, ⟨g, hh, cg, ch, col, rv, ⟨⟨r0, r1⟩, hrl⟩, hrc, hrcell, hrr, hrest⟩, _⟩ := hTS.ref
          have hrI := hrr false k (by omega)
          have hrS2 := hrr true k (by omega)
          obtain ⟨ri, hz1⟩ := hrcell false k (by omega)
          obtain ⟨rs, hz2⟩ := hrcell true k (by omega)
          simp only [Bool.false_eq_true, if_false, if_true] at ri rs
          have hrI0 : rowOf st false k = innN st k := rfl
          have hrS0 : rowOf st true k = seenN st k := rfl
          rw [hrI0] at hrI
          rw [hrS0] at hrS2
          obtain ⟨io, ic, hiv, hz3, hz4, hz5⟩ := hrI.val
          obtain ⟨so, sc, hsv, hz6, hz7, hz8⟩ := hrS2.val
          rw [hiv, List.length_map] at ri
          rw [hsv] at hrS2
          rw [hsv, List.length_map] at rs
          rw [List.length_map] at hrS2
          rw [hlen] at r0 r1
          have hzl : (zs.map msgC).length = (seenN st k).length := by rw [List.length_map, ← hzs, List.length_map]
          obtain ⟨vo, vc, rfl, hz9, hza, hzc⟩ := id hrS.val
          rw [hzl] at hrS ⊢
          clear hz1 hz2 hz3 hz4 hz5 hz6 hz7 hz8 hz9 hza hzc hrI0 hrS0 hrc hrcell hrr hrest hrl hiv hsv hrI hS hT hTd hNd hN
          have HTS := Lib.hid hTS
          have r0' : wS.drew.cell? ⟨q, 0, none⟩ = some (.slice (some ⟨g, 0, none⟩) n cg) := r0
          have r1' : wS.drew.cell? ⟨q, 1, none⟩ = some (.slice (some ⟨hh, 0, none⟩) n ch) := r1
          have ri' : wS.drew.cell? ⟨g, k, none⟩ = some (.slice io (innN st k).length ic) := ri
          have rs' : wS.drew.cell? ⟨hh, k, none⟩ = some (.slice so (seenN st k).length sc) := rs
          clear hTS
          go_upto_region 38 with (fail)
          go_region_held_law (fun w' => w'.cell? ⟨q, 0, none⟩ = some (.slice (some ⟨g, 0, none⟩) n cg) ∧ w'.cell? ⟨q, 1, none⟩ = some (.slice (some ⟨hh, 0, none⟩) n ch) ∧ w'.cell? ⟨g, k, none⟩ = some (.slice io (innN st k).length ic) ∧ w'.cell? ⟨hh, k, none⟩ = some (.slice so (seenN st k).length sc)) (first | exact ⟨r0', r1', ri', rs'⟩ | go_keep) (first
            | (go_simp; go_at_call 11; refine hL.mono ?_; rintro e w5 ⟨rfl, rfl⟩))
          all_goals
            clear r0' r1' ri' rs' hL ri
            have hbw := HTS.out.below.size
            go_wp2_with fail
            go_loopw [19] (fun j wx => ∃ r : Nat, r ≤ (seenN st k).length ∧ j = .int .i64 r ∧ Below wS.heap.size wS wx) (fun j _ => (seenN st k).length - (intOf j).toNat)
            case atStart => exact ⟨0, by omega, rfl, (Below.refl _ _).drew⟩
            case round =>
              obtain ⟨r, hr, rfl, hBx⟩ := hrel
              have hr0 : (0 : Int) ≤ r := Int.natCast_nonneg _
              by_cases hlt5 : r < (seenN st k).length
              · have hlt6 : (r : Int) < (seenN st k).length := by omega
                have hne1 : zs.map msgC ≠ [] := fun e => by rw [e] at hzl; simp at hzl; omega
                have hne2 : (seenN st k).map strC ≠ [] := fun e => by
                  have h2 : ((seenN st k).map strC).length = (seenN st k).length := List.length_map ..
                  rw [e] at h2; simp at h2; omega
                obtain ⟨gv, cv, hv1, hy1, hgv, hy2, hy3⟩ := hrS.shape hne1
                obtain ⟨gs, cs2, hs1, hy4, hgs, hy5, hy6⟩ := hrS2.shape hne2
                simp only [Value.slice.injEq] at hv1 hs1
                obtain ⟨rfl, hv2, rfl⟩ := hv1
                obtain ⟨rfl, hs2, rfl⟩ := hs1
                have hzlen : r < zs.length := by rw [List.length_map] at hzl; omega
                obtain ⟨x, hx⟩ : ∃ x, x = zs[r] := ⟨_, rfl⟩
                have hxb := hzb x (by rw [hx]; exact List.getElem_mem hzlen)
                have hxl : x.l = (seenN st k)[r] := by
                  have h1 : (zs.map (·.l))[r]? = (seenN st k)[r]? := by rw [hzs]
                  rw [List.getElem?_eq_getElem (by rw [List.length_map]; exact hzlen), List.getElem?_eq_getElem hlt5, List.getElem_map, ← hx] at h1
                  exact Option.some.inj h1
                obtain ⟨xo, xc, hxv, hy7, hy8, hy9, hya⟩ := id hxb
                have ck1 : wS.cell? ⟨gv, r, none⟩ = some x.v := by
                  have := hrS.range hzl.symm (i := r) (by rw [hzl]; exact hlt5) 0 x.v (by rw [List.getElem_map, ← hx]; rfl)
                  rwa [Nat.mul_one, Nat.add_zero] at this
                have hl2 : (seenN st k).length = ((seenN st k).map strC).length := (List.length_map ..).symm
                have ck2 : wS.cell? ⟨gs, r, none⟩ = some (strN x.l) := by
                  have := hrS2.range hl2 (i := r) (by rw [← hl2]; exact hlt5) 0 (strN x.l) (by rw [List.getElem_map, hxl]; rfl)
                  rwa [Nat.mul_one, Nat.add_zero] at this
                rw [hxv] at ck1 hxb
                have hBd : Below wS.heap.size wS wr.drew := hBx.drew
                have C1 := (hBd.cell (p := ⟨gv, r, none⟩) hgv).trans ck1
                have C2 := (hBd.cell (p := ⟨gs, r, none⟩) hgs).trans ck2
                have C3 := (hBd.cell (p := ⟨q, 1, none⟩) (World.block_lt_of_cell? wS _ r1)).trans r1
                have C4 := (hBd.cell (p := ⟨hh, k, none⟩) (World.block_lt_of_cell? wS _ rs)).trans rs
                have hstr := run_str wr.drew (hxb.keep hBd)
                have HBD := Lib.hid hBd
                have HLT := Lib.hid (And.intro hlt5 (hZ.2 k).2)
                have hlt7 : (r : Int) < 60 := by have := (hZ.2 k).2; omega
                unfold strN at C2
                clear hy1 hy2 hy3 hy4 hy5 hy6 hy7 hy8 hy9 hya hv2 hs2 hxv hxl hx ck1 ck2 hxb hl2 hne1 hne2 hgv hgs hzlen hBd hBx hrS hrS2 hzb hzs hzl r0 r1 rs hr
                generalize x.l = xl at *
                go_upto_region 43 with (fail)
                go_region
                clear C1 C2 C3 C4 hstr
                go_wp2_with fail
                go_roundw
                case rel => exact ⟨r + 1, HLT.out.1, by have := HLT.out; go_num, HBD.out⟩
                case measure => have := HLT.out.1; have := HLT.out.2; simp [intOf]; omega
              · have hng : ¬ (r : Int) < (seenN st k).length := by omega
                have HT2 := Lib.hid (HTS.out.keep hBx)
                clear hrS hrS2 hzb hzs hzl r0 r1 rs hBx
                go_wp2_with fail
                go_roundw
                case rel => exact ⟨k + 1, by omega, by go_num, HT2.out⟩
                case measure => simp [intOf]; omega
        · have hng : ¬ (k : Int) < n := by omega
          obtain ⟨bs, hN, _⟩ := hT.net0
          have hL1 := nlen_bad (-1) wr hN (by omega)
          have hL2 := nlen_bad (n : Int) wr hN (by omega)
          have HB := Lib.hid hT.below
          clear hN hT
          go_wp2_with fail
          refine hL1.mono ?_
          rintro e w5 ⟨rfl, rfl⟩
          go_wp2_with fail
          refine hL2.mono ?_
          rintro e w5 ⟨rfl, rfl⟩
          go_wp2_with fail
          go_ret
          exact ⟨rfl, HB.out⟩

end Go.Proofs.Ytbflffanahnofaa
