/- The law CodecBack. -/
import Derived.Test.YtinpeieecodijaaInLaw
import Derived.Test.YtinpeieecodijaaLawCodecPuts
import Derived.Test.YtinpeieecodijaaRowApps
import Derived.Test.YtinpeieecodijaaOpen
import Derived.Deep.CutBlock
import Derived.Deep.DeepCutAuto
import Derived.Deep.RegionHeldLaw
namespace Go.Proofs.Ytinpeieecodijaa
open Go.RowKit
def partC (y : PartD) : List Value := [.int .i64 y.kind, .int .i64 y.num, y.tv]
theorem Try.info_partB : (Try.prog.info? 35).map (fun i => (i.zero.map (fun z => z.cells.size), i.size, decide (i.bytes ≤ 1000))) = some (some 3, 3, true) := by kernel_rfl
theorem Try.part_partsB : ∃ i z, Try.prog.info? 35 = some i ∧ i.zero = some z ∧ z.cells.size = 3 ∧ i.size = 3 ∧ i.bytes ≤ 1000 := by
  have h := Try.info_partB
  cases hi : Try.prog.info? 35 with
  | none => rw [hi] at h; cases h
  | some i =>
    rw [hi] at h
    simp only [Option.map_some, Option.some.injEq, Prod.mk.injEq, decide_eq_true_eq] at h
    obtain ⟨h1, h2, h3⟩ := h
    cases hz : i.zero with
    | none => rw [hz] at h1; cases h1
    | some z => rw [hz] at h1; exact ⟨i, z, rfl, hz, by simpa using h1, h2, h3⟩
/-- A part that can be put. -/
def goodP (w : World) (y : PartD) : Prop := partOk y.kind y.num = true ∧ (-9223372036854775808 ≤ y.num ∧ y.num ≤ 9223372036854775807) ∧ Bsl w y.tv y.text
theorem catL_app (a b : List PartD) : catL (a ++ b) = catL a ++ catL b := by simp [catL]
theorem catL_len (qs : List PartD) : (catL qs).length ≤ 204 * qs.length := by
  induction qs with
  | nil => simp [catL]
  | cons y qs ih =>
    have := partL_length y.kind y.num (y.text.take 200) (by simp; omega)
    simp only [catL, List.map_cons, List.flatten_cons, List.length_append, List.length_cons] at ih ⊢
    omega
set_option maxRecDepth 100000 in
set_option maxHeartbeats 1000000 in
theorem codecBack_walk (v : Value) (ps : List PartD) (w : World) (h : PartsAt w v ps) :
    Calls Try.prog 8 #[v] w fun e w' => e = .returned (.bool true) ∧ Below w.heap.size w w' := by
  obtain ⟨ao, cap, rfl, hlc, hcm, hnil, hcells, hall⟩ := h
  clear hnil
  go_enter Try.func8, Try.ntmps8
  go_upto_region 3 with (fail)
  have hO0 := OutAt.fresh w w.heap.size 32 (Nat.le_refl _)
  have hB0 : Below w.heap.size w (w.alloc (.cells #[.slice none 0 0, .bool false] 32)) := (Below.refl _ _).alloc (Nat.le_refl _) _
  generalize w.alloc (.cells #[.slice none 0 0, .bool false] 32) = w0 at *
  go_upto_block 0 with (fail)
  generalize hpp : w.heap.size = p at *
  go_cut [4, 5] (fun iv _ wx => ∃ (qs : List PartD) (g : Option Nat), RW wx p 35 3 iv (qs.map partC) ∧ (∀ y ∈ qs, goodP w y) ∧ OutAt wx p p 0 (catL qs) false g ∧ qs.length ≤ 20 ∧ Below p w wx)
  case first =>
    go_wp2_with fail
    go_loopw [4, 5] (fun iv kv wr => ∃ (r : Nat) (qs : List PartD) (g : Option Nat), r ≤ 20 ∧ r ≤ ps.length ∧ kv = .int .i64 r ∧ RW wr p 35 3 iv (qs.map partC) ∧ (∀ y ∈ qs, goodP w y) ∧ OutAt wr p p 0 (catL qs) false g ∧ qs.length ≤ r ∧ (∀ k, iv.ownBlock = some k → k ≠ p ∧ g ≠ some k) ∧ Below p w wr) (fun _ kv _ => 20 - (intOf kv).toNat)
    case atStart => exact ⟨0, [], none, by omega, by omega, rfl, RW.nil _ _ _ _, by simp, hO0, by simp, by simp [Value.ownBlock], hB0⟩
    case round =>
      clear hO0 hB0
      obtain ⟨r, qs, g, hr1, hr2, rfl, hR, hQ, hO, hql, hdis, hB⟩ := hrel
      by_cases hlt2 : r < ps.length
      · have hlt8 : (r : Int) < ps.length := by omega
        by_cases hlt : r < 20
        · have hlt6 : (r : Int) < 20 := by omega
          obtain ⟨b, off, rfl, hc⟩ := hcells (by intro e; simp [e] at hlt2)
          obtain ⟨c0, c1, c2⟩ := hc r hlt2
          have hx := hall ps[r] (List.getElem_mem hlt2)
          have hbw : b < p := by rw [← hpp]; exact World.block_lt_of_cell? w _ c0
          clear hc hcells hall
          have c0 := (hB.cell (p := ⟨b, off + r * 3, none⟩) hbw).trans c0
          have c1 := (hB.cell (p := ⟨b, off + r * 3 + 1, none⟩) hbw).trans c1
          have c2 := (hB.cell (p := ⟨b, off + r * 3 + 2, none⟩) hbw).trans c2
          rcases hx0 : ps[r] with ⟨kd, nm, tv, tx⟩
          simp only [hx0] at c0 c1 c2 hx
          clear hx0
          obtain ⟨tao, tcap, rfl, _, _, _, _⟩ := id hx.2
          go_upto_region 7 with (fail)
          have hA : Below wr.heap.size wr (wr.alloc (.cells #[.int .i64 kd, .int .i64 nm, .slice tao tx.length tcap] 35)) := (Below.refl _ _).alloc (Nat.le_refl _) _
          have hv0 : ∀ j, (wr.alloc (.cells #[.int .i64 kd, .int .i64 nm, .slice tao tx.length tcap] 35)).cell? ⟨wr.heap.size, j, none⟩ = #[.int .i64 kd, .int .i64 nm, .slice tao tx.length tcap][j]? := fun j => World.cell?_alloc_new wr _ _ j
          have hsz : wr.heap.size < (wr.alloc (.cells #[.int .i64 kd, .int .i64 nm, .slice tao tx.length tcap] 35)).heap.size := by simp
          have hpr : p ≤ wr.heap.size := by rw [← hpp]; exact hB.size
          have hBA := hB.trans (hA.mono hpr)
          generalize hW : wr.alloc (.cells #[.int .i64 kd, .int .i64 nm, .slice tao tx.length tcap] 35) = wA at *
          have hvar : ∀ w', Below wA.heap.size wA w' → w'.cell? ⟨wr.heap.size, 0, none⟩ = some (.int .i64 kd) ∧ w'.cell? ⟨wr.heap.size, 1, none⟩ = some (.int .i64 nm) ∧ w'.cell? ⟨wr.heap.size, 2, none⟩ = some (.slice tao tx.length tcap) ∧ Bsl w' (.slice tao tx.length tcap) tx := fun w' hb =>
            ⟨(hb.cell (p := ⟨wr.heap.size, 0, none⟩) hsz).trans (hv0 0), (hb.cell (p := ⟨wr.heap.size, 1, none⟩) hsz).trans (hv0 1), (hb.cell (p := ⟨wr.heap.size, 2, none⟩) hsz).trans (hv0 2), hx.2.keep (by rw [hpp]; exact hBA.trans (hb.mono (Nat.le_trans hpr hA.size)))⟩
          have hBel : Below wA.heap.size wA wA := Below.refl _ _
          obtain ⟨c0, c1, c2, hbx⟩ := hvar _ hBel
          go_cut [57] (fun cv wx => cv = .bool (partOk kd nm) ∧ Below wA.heap.size wA wx)
          case first =>
            have hkk : (kindN kd = 0 ∧ 0 ≤ nm ∧ partOk kd nm = true) ∨ (kindN kd = 0 ∧ nm < 0 ∧ partOk kd nm = false) ∨ (kindN kd = 1 ∧ nm < 0 ∧ partOk kd nm = false) ∨ (kindN kd = 1 ∧ (0 ≤ nm ∧ nm < 256) ∧ partOk kd nm = true) ∨ (kindN kd = 1 ∧ (0 ≤ nm ∧ 256 ≤ nm) ∧ partOk kd nm = false) ∨ (kindN kd = 2 ∧ 0 ≤ 0 ∧ partOk kd nm = true) ∨ (kindN kd = 3 ∧ 0 ≤ 0 ∧ partOk kd nm = true) := by
              have := kindN_lt kd
              unfold partOk
              by_cases k0 : kindN kd = 0
              · by_cases h0 : 0 ≤ nm
                · exact .inl ⟨k0, h0, by rw [if_pos k0]; simpa using h0⟩
                · exact .inr (.inl ⟨k0, by omega, by rw [if_pos k0]; simpa using h0⟩)
              · by_cases k1 : kindN kd = 1
                · by_cases h0 : 0 ≤ nm
                  · by_cases h2 : nm < 256
                    · refine .inr (.inr (.inr (.inl ⟨k1, ⟨h0, h2⟩, ?_⟩)))
                      rw [if_neg k0, if_pos k1, decide_eq_true_eq]; omega
                    · refine .inr (.inr (.inr (.inr (.inl ⟨k1, ⟨h0, by omega⟩, ?_⟩))))
                      rw [if_neg k0, if_pos k1, decide_eq_false_iff_not]; omega
                  · refine .inr (.inr (.inl ⟨k1, by omega, ?_⟩))
                    rw [if_neg k0, if_pos k1, decide_eq_false_iff_not]; omega
                · by_cases k2 : kindN kd = 2
                  · exact .inr (.inr (.inr (.inr (.inr (.inl ⟨k2, by omega, by rw [if_neg k0, if_neg k1]⟩)))))
                  · exact .inr (.inr (.inr (.inr (.inr (.inr ⟨by omega, by omega, by rw [if_neg k0, if_neg k1]⟩)))))
            rcases hkk with ⟨hk, h1, h2⟩ | ⟨hk, h1, h2⟩ | ⟨hk, h1, h2⟩ | ⟨hk, ⟨h1, h3⟩, h2⟩ | ⟨hk, ⟨h1, h3⟩, h2⟩ | ⟨hk, h1, h2⟩ | ⟨hk, h1, h2⟩
            all_goals
              have H2 := Lib.hid h2
              clear h2
              go_wp2_with (go_at_call 33; refine (kind_any kd nm _ tx _ hbx).mono ?_; rintro e wN ⟨rfl, hBN⟩; have hBel := hBel.trans (hBN.mono hBel.size); obtain ⟨c0, c1, c2, hbx⟩ := hvar _ hBel)
              go_meet
              refine ⟨?_, hBel⟩
              rw [H2.out]
              try (simp only [Value.bool.injEq, decide_eq_false_iff_not]; omega)
          case rest =>
            obtain ⟨rfl, hBel⟩ := hcut
            obtain ⟨c0, c1, c2, hbx⟩ := hvar _ hBel
            have hRc := hR.keep (hA.trans (hBel.mono hA.size))
            have hOc := hO.keep (hA.trans (hBel.mono hA.size))
            have hBc := hBA.trans (hBel.mono (Nat.le_trans hpr hA.size))
            have hRlt := hR.own_lt
            have hplt := hO.pLt
            have hgB := hO.gB
            by_cases hg : partOk kd nm = true
            · rw [hg]
              obtain ⟨i, z, hi, hz, hzc, hsz3, hby⟩ := Try.part_partsB
              have hAc : Below wc.heap.size wc (wc.alloc (.cells #[.int .i64 kd, .int .i64 nm, .slice tao tx.length tcap] 35)) := (Below.refl _ _).alloc (Nat.le_refl _) _
              have hsrc : RW (wc.alloc (.cells #[.int .i64 kd, .int .i64 nm, .slice tao tx.length tcap] 35)) 0 35 3 (.slice (some ⟨wc.heap.size, 0, none⟩) 1 1) [partC ⟨kd, nm, .slice tao tx.length tcap, tx⟩] := by
                refine ⟨?_, by intro q hq; rw [List.mem_singleton.1 hq]; rfl⟩
                exact World.ownsRow_lit wc _ 1 (Nat.zero_le _) (by unfold maxLen; omega) rfl
              have hRA := hRc.keep hAc
              have hlen5 : (qs.map partC).length + 1 ≤ 100000000 := by simp; omega
              have hpsz : p ≤ (wc.alloc (.cells #[.int .i64 kd, .int .i64 nm, .slice tao tx.length tcap] 35)).heap.size := Nat.le_trans (Nat.le_trans (Nat.le_trans hpr hA.size) hBel.size) hAc.size
              have c0A := (hAc.cell (p := ⟨wr.heap.size, 0, none⟩) (World.block_lt_of_cell? wc _ c0)).trans c0
              have c1A := (hAc.cell (p := ⟨wr.heap.size, 1, none⟩) (World.block_lt_of_cell? wc _ c1)).trans c1
              have c2A := (hAc.cell (p := ⟨wr.heap.size, 2, none⟩) (World.block_lt_of_cell? wc _ c2)).trans c2
              have hnw := fun e => Nat.lt_irrefl _ (hRlt wr.heap.size e)
              have hge := hRA.own_ge
              have hBAc := hBc.trans (hAc.mono (Nat.le_trans (Nat.le_trans hpr hA.size) hBel.size))
              have hOA := hOc.keep hAc
              have hRlt2 := hRc.own_lt
              have hwcs := hAc.size
              have hwcs2 := Nat.le_trans hA.size hBel.size
              clear hR hO hRc hOc hv0 hB hBA hvar
              go_wp2_with (at_builtin; refine wp_apprs rfl _ _ 22 rfl i z Try.underlying22 hi hz hsz3 hby hzc (by omega) hRA hsrc rfl (by intro u hu; simp [partC] at hu; rcases hu with rfl | rfl | rfl <;> rfl) hlen5 hpsz rfl rfl ?_; intro v3 w3 hR3 hg3 hn3 hnil3; have c0' := hg3.cell c0A (fun e => hnw e.symm); have c1' := hg3.cell c1A (fun e => hnw e.symm); have c2' := hg3.cell c2A (fun e => hnw e.symm))
              have hB3 := hBAc.grown hg3 hpsz hge
              have hb3 := hx.2.keep (by rw [hpp]; exact hB3)
              have hO3 := hOA.only (Only.of_grown (S := fun k => _ = some k) hg3 (fun k hk => hk)) (fun e => (hdis _ e).1 rfl) (fun k hk e => (hdis _ e).2 hk)
              have hcl := catL_len qs
              refine (put_any kd nm _ tx w3 hb3 hO3 hx.1.1 hx.1.2 (by omega)).mono ?_
              rintro e w4 ⟨rfl, g4, hO4, hE4⟩
              have hgB3 := hO3.gB
              have hp3 := hO3.pLt
              have hR4 := hR3.only hE4.only (by
                intro k hk hs
                have hk' : k ≠ p ∧ g ≠ some k := by
                  rcases hn3 with e | e
                  · rw [e] at hk; exact hdis k hk
                  · rw [e] at hk
                    have hkk := Option.some.inj hk
                    refine ⟨fun h => by omega, fun h => ?_⟩
                    have := (hOA.gB k h).2
                    omega
                rcases hs with hs | hs
                · exact hk'.1 hs
                · exact hk'.2 hs)
              have hB4 := hB3.trans (hE4.below (Nat.le_trans hpsz hg3.size) (Nat.le_refl _) (fun k hk => (hgB3 k hk).1))
              have hcat : catL qs ++ partL kd nm (tx.take 200) = catL (qs ++ [⟨kd, nm, .slice tao tx.length tcap, tx⟩]) := by rw [catL_app]; simp [catL]
              have hdis4 : ∀ k, v3.ownBlock = some k → k ≠ p ∧ g4 ≠ some k := by
                intro k hk
                have hkl := hR3.own_lt k hk
                have hk' : k ≠ p ∧ g ≠ some k := by
                  rcases hn3 with e | e
                  · rw [e] at hk; exact hdis k hk
                  · rw [e] at hk
                    have hkk := Option.some.inj hk
                    refine ⟨fun h => by omega, fun h => ?_⟩
                    have := (hOA.gB k h).2
                    omega
                refine ⟨hk'.1, ?_⟩
                rcases hE4.new with e | ⟨m, e, hm⟩
                · rw [e]; exact hk'.2
                · rw [e]; intro h; have := Option.some.inj h; omega
              rw [hcat, hg] at hO4
              have hR5 : RW w4 p 35 3 v3 ((qs ++ [(⟨kd, nm, .slice tao tx.length tcap, tx⟩ : PartD)]).map partC) := by rw [List.map_append]; exact hR4
              have hQ5 : ∀ y ∈ qs ++ [⟨kd, nm, .slice tao tx.length tcap, tx⟩], goodP w y := by
                intro y hy
                rcases List.mem_append.1 hy with hy | hy
                · exact hQ y hy
                · rw [List.mem_singleton.1 hy]; exact ⟨hg, hx.1, hx.2⟩
              clear hR4 hR3 hO3 hB3 hb3 hsrc hRA hOA hBAc c0A c1A c2A
              go_wp2_with fail
              go_roundw
              case rel => exact ⟨r + 1, (qs ++ [(⟨kd, nm, .slice tao tx.length tcap, tx⟩ : PartD)]), g4, by omega, by omega, rfl, hR5, hQ5, hO4, by simp; omega, hdis4, hB4⟩
              case measure => simp [intOf]; omega
            · have hgf : partOk kd nm = false := by simpa using hg
              rw [hgf]
              go_wp2_with fail
              go_roundw
              case rel => exact ⟨r + 1, qs, g, by omega, by omega, rfl, hRc, hQ, hOc, by omega, hdis, hBc⟩
              case measure => simp [intOf]; omega
        · have hlt6 : ¬ ((r : Int) < 20) := by omega
          go_wp2_with fail
          go_meet
          exact ⟨qs, g, hR, hQ, hO, by omega, hB⟩
      · have hlt8 : ¬ ((r : Int) < ps.length) := by omega
        go_wp2_with fail
        go_meet
        exact ⟨qs, g, hR, hQ, hO, by omega, hB⟩
  case rest =>
    obtain ⟨qs, g, hR, hQ, hO, hql, hB⟩ := hcut
    clear hO0 hB0 hcells hall
    have hcl := catL_len qs
    obtain ⟨io, ic, hiv, hic, hicm, hzz⟩ := hR.val
    rw [List.length_map] at hiv hic
    subst hiv
    clear hzz
    have hpl := hO.pLt
    go_wp2_with fail
    refine (odone_any wc hO (by omega)).mono ?_
    rintro e w1 ⟨v1, rfl, ho1, hB1'⟩
    rw [if_neg (by simp)]
    have hpc : p ≤ wc.heap.size := Nat.le_of_lt hpl
    have hB1 := hB.trans (hB1'.mono hpc)
    have hR1 := hR.keep hB1'
    clear hO hR hB hB1'
    go_wp2_with fail
    refine (codes_any w1).mono ?_
    rintro e w2 ⟨rfl, hB2'⟩
    have hp1 : p ≤ w1.heap.size := by rw [← hpp]; exact hB1.size
    have hB2 := hB1.trans (hB2'.mono hp1)
    have hR2 := hR1.keep hB2'
    have ho2 := ho1.keep hB2'
    clear hR1 hB1 hB2' ho1
    go_wp2_with fail
    refine (iof_any v1 (catL qs) w2 ho2.bsl (by omega)).mono ?_
    rintro e w3 ⟨pi, gi, rfl, hI, hpi, hgi, hB3'⟩
    have hp2 : p ≤ w2.heap.size := by rw [← hpp]; exact hB2.size
    have hB3 := hB2.trans (hB3'.mono hp2)
    have hR3 := hR2.keep hB3'
    have hRlt := hR2.own_lt
    clear hR2 hB2 hB3' ho2
    go_wp2_with fail
    go_loopw [10] (fun kv wr => ∃ r : Nat, r ≤ qs.length ∧ kv = .int .i64 r ∧ InAt wr pi gi ⟨catL (qs.drop r), 0⟩ ∧ RW wr p 35 3 (.slice io qs.length ic) (qs.map partC) ∧ Below p w wr) (fun kv _ => qs.length - (intOf kv).toNat)
    case atStart => exact ⟨0, by omega, rfl, by simpa using hI, hR3, hB3⟩
    case round =>
      clear hI hR3 hB3
      obtain ⟨r, hr, rfl, hI, hR, hB⟩ := hrel
      by_cases hlt : r < qs.length
      · have hlt8 : (r : Int) < qs.length := by omega
        have hpr : p ≤ wr.heap.size := by rw [← hpp]; exact hB.size
        have hq := hQ _ (List.getElem_mem hlt)
        have hdrop : qs.drop r = qs[r] :: qs.drop (r + 1) := List.drop_eq_getElem_cons hlt
        obtain ⟨gr, cr, hsl, hz1, hgr, hz2, hz3⟩ := hR.shape (by intro e; rw [List.map_eq_nil_iff] at e; rw [e] at hlt; simp at hlt)
        clear hz1 hz2 hz3
        simp only [Value.slice.injEq, List.length_map] at hsl
        obtain ⟨rfl, _, rfl⟩ := hsl
        have hrng := hR.range (by simp) (i := r) (by simpa using hlt)
        simp only [List.getElem_map] at hrng
        rcases hy : qs[r] with ⟨kd, nm, tv, tx⟩
        rw [hy] at hrng hdrop hq
        clear hy
        obtain ⟨hgood, hnb, hbt⟩ := hq
        dsimp only at hgood hnb hbt
        obtain ⟨tao, tcap, rfl, hy1, hy2, hy3, hy4⟩ := id hbt
        clear hy1 hy2 hy3 hy4
        have c0 : wr.cell? ⟨gr, r * 3, none⟩ = some (.int .i64 kd) := hrng 0 _ rfl
        have c1 : wr.cell? ⟨gr, r * 3 + 1, none⟩ = some (.int .i64 nm) := hrng 1 _ rfl
        have c2 : wr.cell? ⟨gr, r * 3 + 2, none⟩ = some (.slice tao tx.length tcap) := hrng 2 _ rfl
        have hrest : catL (qs.drop r) = partL kd nm (tx.take 200) ++ catL (qs.drop (r + 1)) := by rw [hdrop]; simp [catL]
        rw [hrest] at hI
        have hIlt := hI.lt
        clear hrng hdrop hrest
        generalize hcr : catL (qs.drop (r + 1)) = rest at *
        have hrl : rest.length ≤ 5000 := by
          rw [← hcr]; have := catL_len (qs.drop (r + 1)); rw [List.length_drop] at this; omega
        have HCR := Lib.hid hcr
        clear hcr
        have hA : Below wr.heap.size wr (wr.alloc (.cells #[.int .i64 kd, .int .i64 nm, .slice tao tx.length tcap] 35)) := (Below.refl _ _).alloc (Nat.le_refl _) _
        have hv0 : ∀ j, (wr.alloc (.cells #[.int .i64 kd, .int .i64 nm, .slice tao tx.length tcap] 35)).cell? ⟨wr.heap.size, j, none⟩ = #[.int .i64 kd, .int .i64 nm, .slice tao tx.length tcap][j]? := fun j => World.cell?_alloc_new wr _ _ j
        have hsz : wr.heap.size < (wr.alloc (.cells #[.int .i64 kd, .int .i64 nm, .slice tao tx.length tcap] 35)).heap.size := by simp
        go_upto_region 18 with (fail)
        have hBA := hB.trans (hA.mono hpr)
        have hIA := hI.keep hA
        have hRA := hR.keep hA
        clear hI hR hB c0 c1 c2
        generalize wr.alloc (.cells #[.int .i64 kd, .int .i64 nm, .slice tao tx.length tcap] 35) = wA at *
        generalize hvb : wr.heap.size = vb at *
        have c0 := hv0 0
        have c1 := hv0 1
        have c2 := hv0 2
        simp only [List.getElem?_toArray, List.getElem?_cons_zero, List.getElem?_cons_succ] at c0 c1 c2
        have hbtA := hbt.keep (by rw [hpp]; exact hBA)
        have hpA : p ≤ wA.heap.size := by rw [← hpp]; exact hBA.size
        clear hv0 hA
        go_wp2_with fail
        refine (text_any kd nm _ tx wA hbtA).mono ?_
        rintro e w6 ⟨vt, rfl, hot, hB6'⟩
        have hst := run_str w6 hot.bsl
        have hB6 := hBA.trans (hB6'.mono hpA)
        have hI6 := hIA.keep hB6'
        have hR6 := hRA.keep hB6'
        have c0 := (hB6'.cell (p := ⟨vb, 0, none⟩) hsz).trans c0
        have c1 := (hB6'.cell (p := ⟨vb, 1, none⟩) hsz).trans c1
        have c2 := (hB6'.cell (p := ⟨vb, 2, none⟩) hsz).trans c2
        have hbt6 := hbtA.keep hB6'
        have hsz6 := Nat.lt_of_lt_of_le hsz hB6'.size
        clear hot hBA hIA hRA hB6' hbtA hsz
        go_wp2_with fail
        clear hst
        refine (kind_any kd nm _ tx w6 hbt6).mono ?_
        rintro e w7 ⟨rfl, hB7'⟩
        have hp6 : p ≤ w6.heap.size := by rw [← hpp]; exact hB6.size
        have hB7 := hB6.trans (hB7'.mono hp6)
        have hI7 := hI6.keep hB7'
        have hR7 := hR6.keep hB7'
        have c1 := (hB7'.cell (p := ⟨vb, 1, none⟩) hsz6).trans c1
        have hsz7 := Nat.lt_of_lt_of_le hsz6 hB7'.size
        have hIl7 := Nat.le_of_lt hI7.lt
        have hIne : vb ≠ pi := by omega
        clear hI6 hR6 hB6 hB7' hbt6 hsz6 c0 c2
        have ht200 : (tx.take 200).length ≤ 200 := by simp; omega
        generalize tx.take 200 = tt at *
        have hk4 := kindN_lt kd
        have hk : kindN kd = 0 ∨ kindN kd = 1 ∨ kindN kd = 2 ∨ kindN kd = 3 := by omega
        unfold partL at hI7
        unfold partOk at hgood
        rcases hk with hk | hk | hk | hk
        · rw [if_pos hk] at hI7 hgood
          have hn0 : 0 ≤ nm := by simpa using hgood
          obtain ⟨q1, q2⟩ := num_put (l := rest) (most := 9223372036854775807) hn0 hnb.2 hnb.2
          have Q1 := Lib.hid q1
          clear q1 hgood
          have hil : (numL nm ++ rest).length ≤ 1000000 := by rw [List.length_append]; unfold numL; split <;> simp [putLowL_length] <;> omega
          go_wp2_with fail
          go_region_held_law (fun w' => w'.cell? ⟨vb, 1, none⟩ = some (.int .i64 nm)) (first | exact c1' | exact c1 | go_keep) (first
            | (go_at_call 23; refine (inum_any 9223372036854775807 _ (InAt.keep (w := w7) hI7 (Below.refl _ _).drew) hil).mono ?_; rintro e w8 ⟨rfl, hI8, hon8⟩; rw [Q1.out]; have c1' := (hon8.cell (p := ⟨vb, 1, none⟩) hsz7 hIne).trans c1))
          rw [q2] at hI8
          have honX : Only (· = pi) w7 w8 := hon8.of_drew
          have hR9 := hR7.only honX (fun k hk e => by have := hRlt k hk; omega)
          have hB9 := hB7.trans (honX.to_below (Nat.le_trans hp2 (Nat.le_trans hpi hIl7)) (fun k hk => by omega))
          clear hI7 hR7 hB7 honX hon8
          go_wp2_with fail
          go_roundw
          case rel => exact ⟨r + 1, by omega, rfl, by rw [HCR.out]; exact hI8, hR9, hB9⟩
          case measure => simp [intOf]; omega
        · rw [if_neg (by omega), if_pos hk] at hI7 hgood
          have hn0 : 0 ≤ nm ∧ nm ≤ 255 := by simpa using hgood
          obtain ⟨q1, q2⟩ := small_put (l := rest) (most := 255) hn0.1 hn0.2 hn0.2
          have Q1 := Lib.hid q1
          clear q1 hgood
          have hil : (smallL nm ++ rest).length ≤ 1000000 := by rw [List.length_append]; unfold smallL; split <;> simp <;> omega
          go_wp2_with fail
          go_region_held_law (fun w' => w'.cell? ⟨vb, 1, none⟩ = some (.int .i64 nm)) (first | exact c1' | exact c1 | go_keep) (first
            | (go_at_call 26; refine (ismall_any 255 _ (InAt.keep (w := w7) hI7 (Below.refl _ _).drew) hil).mono ?_; rintro e w8 ⟨rfl, hI8, hon8⟩; rw [Q1.out]; have c1' := (hon8.cell (p := ⟨vb, 1, none⟩) hsz7 hIne).trans c1))
          rw [q2] at hI8
          have honX : Only (· = pi) w7 w8 := hon8.of_drew
          have hR9 := hR7.only honX (fun k hk e => by have := hRlt k hk; omega)
          have hB9 := hB7.trans (honX.to_below (Nat.le_trans hp2 (Nat.le_trans hpi hIl7)) (fun k hk => by omega))
          clear hI7 hR7 hB7 honX hon8
          go_wp2_with fail
          go_roundw
          case rel => exact ⟨r + 1, by omega, rfl, by rw [HCR.out]; exact hI8, hR9, hB9⟩
          case measure => simp [intOf]; omega
        · rw [if_neg (by omega), if_neg (by omega), if_pos hk] at hI7
          obtain ⟨q1, q2⟩ := fix_put tt rest
          have hil : (tt ++ rest).length ≤ 1000000 := by rw [List.length_append]; omega
          clear hgood
          go_wp2_with fail
          refine (ifixed_any tt.length w7 hI7 hil).mono ?_
          rintro e w8 ⟨v8, rfl, ho8, hI8, hon8⟩
          rw [q1] at ho8
          rw [q2] at hI8
          have hst8 := run_str w8 ho8.bsl
          have honX := hon8
          have hR9 := hR7.only honX (fun k hk e => by have := hRlt k hk; omega)
          have hB9 := hB7.trans (honX.to_below (Nat.le_trans hp2 (Nat.le_trans hpi hIl7)) (fun k hk => by omega))
          clear hI7 hR7 hB7 honX hon8
          go_wp2_with fail
          go_roundw
          case rel => exact ⟨r + 1, by omega, rfl, by rw [HCR.out]; exact hI8, hR9, hB9⟩
          case measure => simp [intOf]; omega
        · rw [if_neg (by omega), if_neg (by omega), if_neg (by omega)] at hI7
          obtain ⟨q1, q2⟩ := byt_put (t := tt) (l := rest) (most := 200) (by omega) (by omega)
          have hil : (bytesL tt ++ rest).length ≤ 1000000 := by rw [List.length_append]; simp only [bytesL, List.length_append, List.length_reverse, putLowL_length]; omega
          clear hgood
          go_wp2_with fail
          refine (ibytes_any 200 w7 hI7 hil).mono ?_
          rintro e w8 ⟨v8, rfl, ho8, hI8, hon8⟩
          rw [q1] at ho8
          rw [q2] at hI8
          have hst8 := run_str w8 ho8.bsl
          have honX := hon8
          have hR9 := hR7.only honX (fun k hk e => by have := hRlt k hk; omega)
          have hB9 := hB7.trans (honX.to_below (Nat.le_trans hp2 (Nat.le_trans hpi hIl7)) (fun k hk => by omega))
          clear hI7 hR7 hB7 honX hon8
          go_wp2_with fail
          go_roundw
          case rel => exact ⟨r + 1, by omega, rfl, by rw [HCR.out]; exact hI8, hR9, hB9⟩
          case measure => simp [intOf]; omega
      · have hlt8 : ¬ ((r : Int) < qs.length) := by omega
        rw [List.drop_of_length_le (by omega)] at hI
        clear hR
        go_wp2_with fail
        refine (iend_any wr hI).mono ?_
        rintro e w8 ⟨rfl, rfl⟩
        rw [show IK.endE ⟨catL [], 0⟩ = 0 by simp [IK.endE, catL]]
        go_wp2_with fail
        go_ret
        exact ⟨rfl, by rw [hpp]; exact hB⟩
end Go.Proofs.Ytinpeieecodijaa
