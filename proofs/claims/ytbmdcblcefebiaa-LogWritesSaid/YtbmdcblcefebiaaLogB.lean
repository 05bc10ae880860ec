/- The log: LogObj, LogClose, LogWrite, LogAppend, LogFormat. -/
import Derived.Test.YtbmdcblcefebiaaLogA
import Derived.Test.YtbmdcblcefebiaaDiskAny
import Derived.Deep.RegionHeldLaw
import Derived.Deep.DeepCutAuto
import Derived.BigRegion
import Derived.Test.YtbmdcblcefebiaaSame
import Derived.Deep.RegionLaw
import Derived.Test.YtbmdcblcefebiaaLogLatest
/- log.Log: the object. -/
namespace Go.Proofs.Ytbmdcblcefebiaa
open Go.RowKit
structure LD where
  turn : Nat
  area : Nat
  b : List UInt8
/-- A log at lp, over a disk at p; its blocks are bs, the disk's among them. -/
def LogAt (w : World) (lp p : Nat) (d : DK) (L : LD) (bs : Nat → Prop) : Prop := ∃ (bv : Value) (ds : Nat → Prop),
  (w.cell? ⟨lp, 0, none⟩ = some (.pointer (some ⟨p, 0, none⟩)) ∧ w.cell? ⟨lp, 1, none⟩ = some (.int .i64 L.turn) ∧ w.cell? ⟨lp, 2, none⟩ = some (.int .i64 L.area) ∧ w.cell? ⟨lp, 3, none⟩ = some bv) ∧
  (∀ j, j < 4 → w.frozen? ⟨lp, j, none⟩ = false) ∧ Bsl w bv L.b ∧ DiskAt w p d ds ∧
  (¬ ds lp ∧ (L.b ≠ [] → ∀ k, bv.ownBlock = some k → k ≠ lp ∧ ¬ ds k)) ∧
  (∀ k, bs k ↔ (k = lp ∨ ds k ∨ (L.b ≠ [] ∧ bv.ownBlock = some k)))
theorem LogAt.lt {w : World} {lp p : Nat} {d : DK} {L : LD} {bs : Nat → Prop} (h : LogAt w lp p d L bs) : ∀ k, bs k → k < w.heap.size := by
  obtain ⟨bv, ds, ⟨c0, _⟩, _, hb, hD, _, hbs⟩ := h
  intro k hk
  rcases (hbs k).1 hk with rfl | hk | ⟨hne, hk⟩
  · exact World.block_lt_of_cell? w _ c0
  · exact hD.lt k hk
  · exact hb.own_lt hne k hk
theorem LogAt.only {S : Nat → Prop} {w w' : World} {lp p : Nat} {d : DK} {L : LD} {bs : Nat → Prop} (h : LogAt w lp p d L bs) (ho : Only S w w') (hS : ∀ k, bs k → ¬ S k) : LogAt w' lp p d L bs := by
  have hlt := h.lt
  obtain ⟨bv, ds, ⟨c0, c1, c2, c3⟩, hf, hb, hD, hn, hbs⟩ := h
  have hlp : bs lp := (hbs lp).2 (.inl rfl)
  have hl := hlt lp hlp
  have hs := hS lp hlp
  exact ⟨bv, ds, ⟨(ho.cell (p := ⟨lp, 0, none⟩) hl hs).trans c0, (ho.cell (p := ⟨lp, 1, none⟩) hl hs).trans c1, (ho.cell (p := ⟨lp, 2, none⟩) hl hs).trans c2, (ho.cell (p := ⟨lp, 3, none⟩) hl hs).trans c3⟩, fun j hj => (ho.frozen (p := ⟨lp, j, none⟩) hl hs).trans (hf j hj),
    hb.only' ho (fun hne k hk => hS k ((hbs k).2 (.inr (.inr ⟨hne, hk⟩)))), hD.only ho (fun k hk => hS k ((hbs k).2 (.inr (.inl hk)))), hn, hbs⟩
theorem LogAt.keep {w w' : World} {lp p : Nat} {d : DK} {L : LD} {bs : Nat → Prop} (h : LogAt w lp p d L bs) (hb : Below w.heap.size w w') : LogAt w' lp p d L bs := h.only (Only.of_below (S := fun _ => False) hb) (fun _ _ h => h)
/-- What the disk did, seen from the log. -/
theorem LogAt.disk {w : World} {lp p : Nat} {d : DK} {L : LD} {bs : Nat → Prop} (h : LogAt w lp p d L bs) : ∃ ds, DiskAt w p d ds ∧ (∀ k, ds k → bs k) ∧ (∀ (w2 : World) (d2 : DK) (ds2 : Nat → Prop), DiskAt w2 p d2 ds2 → DEff w w2 ds ds2 →
    ∃ bs2, LogAt w2 lp p d2 L bs2 ∧ DEff w w2 bs bs2) := by
  have hlt := h.lt
  obtain ⟨bv, ds, ⟨c0, c1, c2, c3⟩, hf, hb, hD, ⟨hn1, hn2⟩, hbs⟩ := h
  refine ⟨ds, hD, fun k hk => (hbs k).2 (.inr (.inl hk)), fun w2 d2 ds2 hD2 hE => ?_⟩
  have hl := hlt lp ((hbs lp).2 (.inl rfl))
  have ho := hE.only
  refine ⟨fun k => k = lp ∨ ds2 k ∨ (L.b ≠ [] ∧ bv.ownBlock = some k), ⟨bv, ds2, ⟨(ho.cell (p := ⟨lp, 0, none⟩) hl hn1).trans c0, (ho.cell (p := ⟨lp, 1, none⟩) hl hn1).trans c1, (ho.cell (p := ⟨lp, 2, none⟩) hl hn1).trans c2, (ho.cell (p := ⟨lp, 3, none⟩) hl hn1).trans c3⟩, fun j hj => (ho.frozen (p := ⟨lp, j, none⟩) hl hn1).trans (hf j hj),
    hb.only' ho (fun hne k hk => (hn2 hne k hk).2), hD2, ⟨fun e => ?_, fun hne k hk => ⟨(hn2 hne k hk).1, fun e => ?_⟩⟩, fun k => Iff.rfl⟩, ⟨ho.mono (fun k _ hk => (hbs k).2 (.inr (.inl hk))), fun k hk => ?_⟩⟩
  · rcases hE.new lp e with h1 | h1
    · exact hn1 h1
    · omega
  · rcases hE.new k e with h1 | h1
    · exact (hn2 hne k hk).2 h1
    · have := hb.own_lt hne k hk; omega
  · rcases hk with rfl | hk | hk
    · exact .inl ((hbs _).2 (.inl rfl))
    · rcases hE.new k hk with h1 | h1
      · exact .inl ((hbs k).2 (.inr (.inl h1)))
      · exact .inr h1
    · exact .inl ((hbs k).2 (.inr (.inr hk)))
/-- The log's turn, area and bytes, set. -/
theorem LogAt.set {w : World} {lp p : Nat} {d : DK} {L : LD} {bs : Nat → Prop} (h : LogAt w lp p d L bs) (t a : Nat) (v : Value) (l : List UInt8) (hv : Bsl w v l) (hn : l ≠ [] → ∀ k, v.ownBlock = some k → ¬ bs k) :
    ∃ bs2, LogAt (((w.setCell ⟨lp, 1, none⟩ (.int .i64 t)).setCell ⟨lp, 2, none⟩ (.int .i64 a)).setCell ⟨lp, 3, none⟩ v) lp p d ⟨t, a, l⟩ bs2 ∧ Only (· = lp) w (((w.setCell ⟨lp, 1, none⟩ (.int .i64 t)).setCell ⟨lp, 2, none⟩ (.int .i64 a)).setCell ⟨lp, 3, none⟩ v) ∧ (∀ k, bs2 k → bs k ∨ (l ≠ [] ∧ v.ownBlock = some k)) := by
  obtain ⟨bv, ds, ⟨c0, c1, c2, c3⟩, hf, hb, hD, ⟨hn1, hn2⟩, hbs⟩ := h
  have hon : Only (· = lp) w (((w.setCell ⟨lp, 1, none⟩ (.int .i64 t)).setCell ⟨lp, 2, none⟩ (.int .i64 a)).setCell ⟨lp, 3, none⟩ v) :=
    Only.setCell (S := (· = lp)) (Only.setCell (S := (· = lp)) (Only.setCell (S := (· = lp)) (Only.refl _ _) (p := ⟨lp, 1, none⟩) (fun _ => rfl) _) (p := ⟨lp, 2, none⟩) (fun _ => rfl) _) (p := ⟨lp, 3, none⟩) (fun _ => rfl) _
  refine ⟨fun k => k = lp ∨ ds k ∨ (l ≠ [] ∧ v.ownBlock = some k), ⟨v, ds, ⟨?_, ?_, ?_, ?_⟩, fun j hj => by simp only [World.frozen?_setCell]; exact hf j hj, hv.only' hon (fun hne k hk e => hn hne k hk ((hbs k).2 (.inl e))), hD.only hon (fun k hk e => hn1 (e ▸ hk)), ⟨hn1, fun hne k hk => ⟨fun e => hn hne k hk ((hbs k).2 (.inl e)), fun e => hn hne k hk ((hbs k).2 (.inr (.inl e)))⟩⟩, fun k => Iff.rfl⟩, hon, fun k hk => ?_⟩
  · rw [World.cell?_setCell_other _ _ _ _ (by simp), World.cell?_setCell_other _ _ _ _ (by simp), World.cell?_setCell_other _ _ _ _ (by simp)]; exact c0
  · rw [World.cell?_setCell_other _ _ _ _ (by simp), World.cell?_setCell_other _ _ _ _ (by simp)]; exact World.cell?_setCell_same _ _ _ c1
  · rw [World.cell?_setCell_other _ _ _ _ (by simp)]; exact World.cell?_setCell_same _ _ _ ((World.cell?_setCell_other _ _ _ _ (by simp)).trans c2)
  · exact World.cell?_setCell_same _ _ _ ((World.cell?_setCell_other _ _ _ _ (by simp)).trans ((World.cell?_setCell_other _ _ _ _ (by simp)).trans c3))
  · rcases hk with rfl | hk | hk
    · exact .inl ((hbs _).2 (.inl rfl))
    · exact .inl ((hbs k).2 (.inr (.inl hk)))
    · exact .inr hk
end Go.Proofs.Ytbmdcblcefebiaa
/- log.Log: close. -/
namespace Go.Proofs.Ytbmdcblcefebiaa
open Go.RowKit
attribute [local go_sem ↓] alS_eq ldS_eq stS_eq cpB_eq
attribute [local go_sem] run_alS run_guard_sec
def hdS (t a n : Nat) : List UInt8 := secT (headL t a n)
def closeE (d : DK) (t a n : Nat) : Int := if d.wrE (t % 2 : Nat) (hdS t a n) = 0 then (d.wrS (t % 2 : Nat) (hdS t a n)).syE else d.wrE (t % 2 : Nat) (hdS t a n)
def closeD (d : DK) (t a n : Nat) : DK := if d.wrE (t % 2 : Nat) (hdS t a n) = 0 then (d.wrS (t % 2 : Nat) (hdS t a n)).syS else d.wrS (t % 2 : Nat) (hdS t a n)
set_option maxRecDepth 100000 in
set_option maxHeartbeats 4000000 in
theorem lclose_any (w : World) {lp p a : Nat} {d : DK} {L : LD} {bs : Nat → Prop} (h : LogAt w lp p d L bs) (v : Value) (l : List UInt8) (hv : Bsl w v l) (hn : l ≠ [] → ∀ k, v.ownBlock = some k → ¬ bs k)
    (ha : a ≤ 1) (ht : L.turn + 1 ≤ 1000000000) (hl : l.length ≤ 1000000) (hlo : d.loose.length ≤ 100000) :
    Calls Try.prog 31 #[.pointer (some ⟨lp, 0, none⟩), .int .i64 a, v] w fun e w' => e = .returned (.int .i64 (closeE d (L.turn + 1) a l.length)) ∧
      ∃ bs2, LogAt w' lp p (closeD d (L.turn + 1) a l.length) (if closeE d (L.turn + 1) a l.length = 0 then ⟨L.turn + 1, a, l⟩ else L) bs2 ∧ Only bs w w' ∧ (∀ k, bs2 k → bs k ∨ w.heap.size ≤ k ∨ (l ≠ [] ∧ v.ownBlock = some k)) := by
  have hhd : ∀ w, Calls Try.prog 48 #[.int .i64 ((L.turn : Int) + 1), .int .i64 a, .int .i64 l.length] w fun e w' => e = .returned (secV (hdS (L.turn + 1) a l.length)) ∧ Below w.heap.size w w' := fun w => lhead_any (L.turn + 1) a l.length w ht (by omega) (by omega)
  have hhs : (hdS (L.turn + 1) a l.length).length = 64 := secT_len _
  obtain ⟨tm, htm, htm2⟩ : ∃ tm : Nat, tm = (L.turn + 1) % 2 ∧ ((L.turn : Int) + 1).tmod 2 = (tm : Int) := ⟨(L.turn + 1) % 2, rfl, by rw [Int.tmod_eq_emod_of_nonneg (by omega)]; omega⟩
  unfold closeE closeD
  rw [← htm]
  generalize hdS (L.turn + 1) a l.length = hs at *
  have ht0 : (0 : Int) ≤ L.turn := Int.natCast_nonneg _
  have ht1 : (L.turn : Int) < 1000000000 := by omega
  obtain ⟨vo, vc, rfl, hq1, hq2, hq3, hq4⟩ := id hv
  clear hq1 hq2 hq3 hq4 htm
  have hL := h
  obtain ⟨bv, ds, ⟨c0, c1, c2, c3⟩, hf, _, _, _, hbs⟩ := id h
  have hlpl := h.lt lp ((hbs lp).2 (.inl rfl))
  have hlpb := (hbs lp).2 (.inl rfl)
  clear hbs c2 c3 hf
  by_cases h1 : d.wrE tm hs = 0
  · rw [if_pos h1, if_pos h1]
    have hstep2 : ∀ (wC : World) (bs2 : Nat → Prop), LogAt wC lp p (d.wrS tm hs) L bs2 → Calls Try.prog 49 #[.pointer (some ⟨p, 0, none⟩)] wC fun e w' => e = .returned (.int .i64 (d.wrS tm hs).syE) ∧ ∃ bs3, LogAt w' lp p (d.wrS tm hs).syS L bs3 ∧ DEff wC w' bs2 bs3 := fun wC bs2 hL2 => by
      obtain ⟨ds1, hD1, hds1, hstep⟩ := hL2.disk
      refine (dsync_any _ hD1).mono ?_
      rintro e w' ⟨rfl, ds2, hD2, hE2⟩
      exact ⟨rfl, hstep _ _ _ hD2 hE2⟩
    by_cases h2 : (d.wrS tm hs).syE = 0
    · rw [if_pos h2]
      go_enter Try.func31, Try.ntmps31
      go_upto_region 2 with (fail)
      have c0d : w.drew.cell? ⟨lp, 0, none⟩ = some (.pointer (some ⟨p, 0, none⟩)) := c0
      have hLd := LogAt.keep (w' := w.drew) hL ((Below.refl _ _).drew)
      go_region_held_law (fun w' => w'.cell? ⟨lp, 0, none⟩ = some (.pointer (some ⟨p, 0, none⟩))) (first | exact c0d | go_keep) (first
        | (go_at_call 48; refine (hhd _).mono ?_; rintro e wB ⟨rfl, hB⟩; have c0d := (hB.cell (p := ⟨lp, 0, none⟩) hlpl).trans c0d; have hLd := hLd.keep hB)
        | (go_at_call 16; obtain ⟨ds1, hD1, hds1, hstep⟩ := hLd.disk; refine (dwrite_any tm hs _ hD1 hhs hlo).mono ?_; rintro e wC ⟨rfl, ds2, hD2, hE2⟩; obtain ⟨bs2, hL2, hE3⟩ := hstep _ _ _ hD2 hE2; obtain ⟨_, _, ⟨c0d, _⟩, _⟩ := id hL2))
      all_goals
        have hon1 : Only bs w wC := (Only.of_below (Below.of_drew hB)).trans hE3.only (fun _ _ h => h)
        have hnew1 : ∀ k, bs2 k → bs k ∨ w.heap.size ≤ k := fun k hk => (hE3.new k hk).imp id (fun e => Nat.le_trans hB.size e)
        have hS := hstep2 wC bs2 hL2
        clear hstep2 hLd hE2 hD2 hD1 hstep hds1
        go_wp2_with fail
        refine hS.mono ?_
        rintro e wD ⟨rfl, bs3, hL3, hE4⟩
        have hon2 : Only bs w wD := hon1.trans hE4.only (fun k hk e => (hnew1 k e).elim id (fun e2 => absurd hk (by omega)))
        have hnew2 : ∀ k, bs3 k → bs k ∨ w.heap.size ≤ k := fun k hk => (hE4.new k hk).elim (hnew1 k) (fun e => .inr (Nat.le_trans hon1.size e))
        have hv3 := hv.only' hon2 hn
        have hn3 : l ≠ [] → ∀ k, (Value.slice vo l.length vc).ownBlock = some k → ¬ bs3 k := fun hne k hk e => (hnew2 k e).elim (hn hne k hk) (fun e2 => by have := hv.own_lt hne k hk; omega)
        obtain ⟨bs4, hL4, hon4, hnew4⟩ := hL3.set (L.turn + 1) a _ l hv3 hn3
        obtain ⟨bv3, ds3, ⟨k0, k1, k2, k3⟩, kf, _, _, _, hbs3⟩ := id hL3
        have kf1 := kf 1 (by omega)
        have kf2 := kf 2 (by omega)
        have kf3 := kf 3 (by omega)
        have hlp0 : bs lp := hlpb
        have HF := Lib.hid (And.intro hL4 (And.intro (hon2.trans hon4 (fun k _ e => by rw [e]; exact hlp0)) (fun k (hk : bs4 k) => (hnew4 k hk).elim (fun e => (hnew2 k e).imp id Or.inl) (fun e => .inr (.inr e)))))
        clear hL4 hon4 hnew4 hv3 hn3 hon2 hnew2 hon1 hnew1 hL3 hE4 hS kf hbs3
        go_wp2_with fail
        go_ret
        exact ⟨by rw [h2]; rfl, bs4, HF.out.1, HF.out.2.1, HF.out.2.2⟩
    · rw [if_neg h2]
      go_enter Try.func31, Try.ntmps31
      go_upto_region 2 with (fail)
      have c0d : w.drew.cell? ⟨lp, 0, none⟩ = some (.pointer (some ⟨p, 0, none⟩)) := c0
      have hLd := LogAt.keep (w' := w.drew) hL ((Below.refl _ _).drew)
      go_region_held_law (fun w' => w'.cell? ⟨lp, 0, none⟩ = some (.pointer (some ⟨p, 0, none⟩))) (first | exact c0d | go_keep) (first
        | (go_at_call 48; refine (hhd _).mono ?_; rintro e wB ⟨rfl, hB⟩; have c0d := (hB.cell (p := ⟨lp, 0, none⟩) hlpl).trans c0d; have hLd := hLd.keep hB)
        | (go_at_call 16; obtain ⟨ds1, hD1, hds1, hstep⟩ := hLd.disk; refine (dwrite_any tm hs _ hD1 hhs hlo).mono ?_; rintro e wC ⟨rfl, ds2, hD2, hE2⟩; obtain ⟨bs2, hL2, hE3⟩ := hstep _ _ _ hD2 hE2; obtain ⟨_, _, ⟨c0d, _⟩, _⟩ := id hL2))
      all_goals
        have hon1 : Only bs w wC := (Only.of_below (Below.of_drew hB)).trans hE3.only (fun _ _ h => h)
        have hnew1 : ∀ k, bs2 k → bs k ∨ w.heap.size ≤ k := fun k hk => (hE3.new k hk).imp id (fun e => Nat.le_trans hB.size e)
        have hS := hstep2 wC bs2 hL2
        clear hstep2 hLd hE2 hD2 hD1 hstep hds1
        go_wp2_with fail
        refine hS.mono ?_
        rintro e wD ⟨rfl, bs3, hL3, hE4⟩
        have hon2 : Only bs w wD := hon1.trans hE4.only (fun k hk e => (hnew1 k e).elim id (fun e2 => absurd hk (by omega)))
        have hnew2 : ∀ k, bs3 k → bs k ∨ w.heap.size ≤ k := fun k hk => (hE4.new k hk).elim (hnew1 k) (fun e => .inr (Nat.le_trans hon1.size e))
        have HF := Lib.hid (And.intro hL3 (And.intro hon2 hnew2))
        clear hon2 hnew2 hon1 hnew1 hL3 hE4 hS ht ht1 hl hlo
        go_wp2_with fail
        go_ret
        exact ⟨rfl, bs3, HF.out.1, HF.out.2.1, fun k hk => (HF.out.2.2 k hk).imp id Or.inl⟩
  · rw [if_neg h1, if_neg h1, if_neg h1]
    go_enter Try.func31, Try.ntmps31
    go_upto_region 2 with (fail)
    have c0d : w.drew.cell? ⟨lp, 0, none⟩ = some (.pointer (some ⟨p, 0, none⟩)) := c0
    have hLd := LogAt.keep (w' := w.drew) hL ((Below.refl _ _).drew)
    go_region_held_law (fun w' => w'.cell? ⟨lp, 0, none⟩ = some (.pointer (some ⟨p, 0, none⟩))) (first | exact c0d | go_keep) (first
      | (go_at_call 48; refine (hhd _).mono ?_; rintro e wB ⟨rfl, hB⟩; have c0d := (hB.cell (p := ⟨lp, 0, none⟩) hlpl).trans c0d; have hLd := hLd.keep hB)
      | (go_at_call 16; obtain ⟨ds1, hD1, hds1, hstep⟩ := hLd.disk; refine (dwrite_any tm hs _ hD1 hhs hlo).mono ?_; rintro e wC ⟨rfl, ds2, hD2, hE2⟩; obtain ⟨bs2, hL2, hE3⟩ := hstep _ _ _ hD2 hE2; obtain ⟨_, _, ⟨c0d, _⟩, _⟩ := id hL2))
    all_goals
      have hon1 : Only bs w wC := (Only.of_below (Below.of_drew hB)).trans hE3.only (fun _ _ h => h)
      have hnew1 : ∀ k, bs2 k → bs k ∨ w.heap.size ≤ k := fun k hk => (hE3.new k hk).imp id (fun e => Nat.le_trans hB.size e)
      have HF := Lib.hid (And.intro hL2 (And.intro hon1 hnew1))
      clear hon1 hnew1 hL2 hE3 hE2 hLd hD2 hD1 hstep hds1 ht ht1 hl hlo
      go_wp2_with fail
      go_ret
      exact ⟨rfl, bs2, HF.out.1, HF.out.2.1, fun k hk => (HF.out.2.2 k hk).imp id Or.inl⟩
end Go.Proofs.Ytbmdcblcefebiaa
/- log.Log: write. -/
namespace Go.Proofs.Ytbmdcblcefebiaa
open Go.RowKit
attribute [local go_sem ↓] alS_eq ldS_eq stS_eq cpB_eq
attribute [local go_sem] run_alS run_guard_sec
/-- The sectors of b from the k-th on, written one behind the other. -/
def wrL (at_ : Nat) (b : List UInt8) : Nat → Nat → DK → Int × DK
  | 0, _, d => (0, d)
  | n + 1, k, d => if k * 64 < b.length then (if d.wrE (at_ + k : Nat) (secT (b.drop (k * 64))) = 0 then wrL at_ b n (k + 1) (d.wrS (at_ + k : Nat) (secT (b.drop (k * 64)))) else (d.wrE (at_ + k : Nat) (secT (b.drop (k * 64))), d.wrS (at_ + k : Nat) (secT (b.drop (k * 64))))) else (0, d)
def wrA (at_ : Nat) (b : List UInt8) (k : Nat) (d : DK) : Int × DK := wrL at_ b (b.length + 1) k d
def writeE (at_ : Nat) (b : List UInt8) (k : Nat) (d : DK) : Int := if (wrA at_ b k d).1 = 0 then (wrA at_ b k d).2.syE else (wrA at_ b k d).1
def writeD (at_ : Nat) (b : List UInt8) (k : Nat) (d : DK) : DK := if (wrA at_ b k d).1 = 0 then (wrA at_ b k d).2.syS else (wrA at_ b k d).2
theorem wrL_end {at_ : Nat} {b : List UInt8} {k : Nat} {d : DK} (h : ¬ k * 64 < b.length) : ∀ n, wrL at_ b n k d = (0, d)
  | 0 => rfl
  | n + 1 => by rw [wrL, if_neg h]
theorem wrS_loose (d : DK) (a : Int) (s : List UInt8) : (d.wrS a s).loose.length ≤ d.loose.length + 1 ∧ (d.wrS a s).now.length = d.now.length := by
  unfold DK.wrS
  split
  · unfold DK.write DK.burn
    split <;> simp
  · exact ⟨Nat.le_succ _, rfl⟩
theorem wrap_inL {n : Int} (h0 : 0 ≤ n) (h1 : n ≤ 1000000) : IntKind.i64.wrap n = n := by rw [IntKind.wrap_i64]; omega
set_option maxRecDepth 100000 in
set_option maxHeartbeats 4000000 in
theorem lwrite_any (w : World) {lp p a : Nat} {d : DK} {L : LD} {bs : Nat → Prop} (h : LogAt w lp p d L bs) (v : Value) (l : List UInt8) (from_ : Nat) (hv : Bsl w v l) (hn : l ≠ [] → ∀ k, v.ownBlock = some k → ¬ bs k)
    (ha : a ≤ 1) (hl : l.length ≤ 10000) (hfr : from_ ≤ 10000) (hdn : d.now.length ≤ 100) (hlo : d.loose.length ≤ 50000) :
    Calls Try.prog 36 #[.pointer (some ⟨lp, 0, none⟩), .int .i64 a, v, .int .i64 from_] w fun e w' => e = .returned (.int .i64 (writeE (2 + a * areaN d.now.length) l (from_ / 64) d)) ∧
      ∃ bs2, LogAt w' lp p (writeD (2 + a * areaN d.now.length) l (from_ / 64) d) L bs2 ∧ DEff w w' bs bs2 := by
  have har : areaN d.now.length ≤ 100 := by unfold areaN; split <;> omega
  have hac := larea_any d.now.length w (by omega)
  obtain ⟨vo, vc, rfl, hq1, hq2, hq3, hq4⟩ := id hv
  clear hq1 hq2 hq3
  have h1 := h
  obtain ⟨bvv, ds, ⟨c0, c1, c2, c3⟩, hf, _, _, _, hbs⟩ := id h
  have hlpb := (hbs lp).2 (.inl rfl)
  clear hbs c1 c2 c3 hf
  obtain ⟨ds1, hD1, _, _⟩ := h1.disk
  have hsz := dsize_any w hD1
  have h0a : (0 : Int) ≤ a := Int.natCast_nonneg _
  go_enter Try.func36, Try.ntmps36
  go_wp2_with fail
  refine hsz.mono ?_
  rintro e w1 ⟨rfl, rfl⟩
  go_wp2_with fail
  refine hac.mono ?_
  rintro e w1 ⟨rfl, rfl⟩
  obtain ⟨A, hA, hA2, hAi⟩ : ∃ A : Nat, A = 2 + a * areaN d.now.length ∧ A ≤ 1000 ∧ wrap64 (2 + wrap64 ((a : Int) * (areaN d.now.length : Int))) = (A : Int) := by
    have h2 : a * areaN d.now.length ≤ 1 * 100 := Nat.mul_le_mul ha har
    refine ⟨2 + a * areaN d.now.length, rfl, by omega, ?_⟩
    have h3 : ((a * areaN d.now.length : Nat) : Int) = (a : Int) * (areaN d.now.length : Int) := Int.natCast_mul _ _
    rw [← h3, IntWalk.wrap64_in ((a * areaN d.now.length : Nat) : Int) (by omega), IntWalk.wrap64_in _ (by omega)]; omega
  have HA := Lib.hid hA
  clear hA
  go_wp2_with fail
  rw [hAi]
  clear hAi har hac hsz hD1
  rw [show ((from_ : Int) / 64) = ((from_ / 64 : Nat) : Int) by omega]
  obtain ⟨k0, hk0⟩ : ∃ k0, k0 = from_ / 64 := ⟨_, rfl⟩
  rw [← hk0]
  have hk0b : k0 ≤ 200 := by omega
  have HK := Lib.hid hk0
  clear hk0
  go_loopw [10] (fun j wr => ∃ (k n : Nat) (dk : DK) (bs2 : Nat → Prop), j = .int .i64 k ∧ k ≤ 400 ∧ LogAt wr lp p dk L bs2 ∧ DEff w wr bs bs2 ∧ wrL A l n k dk = wrA A l k0 d ∧ l.length ≤ (k + n) * 64 ∧ dk.loose.length + n ≤ 60001 ∧ dk.now.length = d.now.length) (fun j _ => 400 - (intOf j).toNat)
  case atStart => exact ⟨k0, l.length + 1, d, bs, rfl, by omega, h, DEff.refl _ _, rfl, by omega, by omega, rfl⟩
  case round =>
    obtain ⟨k, n, dk, bs2, rfl, hk, hL, hE, hw, hfu, hlo2, hnl⟩ := hrel
    have hki0 : (0 : Int) ≤ k := Int.natCast_nonneg _
    have hwk : wrap64 ((k : Int) * 64) = (k : Int) * 64 := IntWalk.wrap64_in _ (by omega)
    by_cases hlt : k * 64 < l.length
    · have hlt2 : (k : Int) * 64 < l.length := by omega
      obtain ⟨n, rfl⟩ : ∃ m, n = m + 1 := ⟨n - 1, by omega⟩
      obtain ⟨b, off, rfl, _⟩ := hq4 (by rintro rfl; simp at hlt)
      have hvr := hv.only' hE.only hn
      have hlv := hvr.len
      have hvd := hvr.drop (m := k * 64) (by omega)
      have hi1 : (0 : Int) ≤ (k : Int) * 64 := by omega
      have hi2 : (k : Int) * 64 ≤ l.length := by omega
      have hi3 : (l.length : Int) ≤ vc := by omega
      have hi4 : ¬ vc - k * 64 = 0 := by omega
      have hA1 : Below wr.heap.size wr (wr.alloc (.cells (zC 1).toArray 39)) := (Below.refl _ _).alloc (Nat.le_refl _) _
      have hth := there_alS wr
      have hz : (wr.alloc (.cells (zC 1).toArray 39)).rangeAt wr.heap.size 0 (secC (List.replicate 64 0)) := by
        intro j u hu
        rw [World.cell?_alloc_new, ← hu]
        simp [zC, secC]
      have hsA : wr.heap.size < (wr.alloc (.cells (zC 1).toArray 39)).heap.size := by simp
      go_upto_region 6 with (fail)
      have hLA := hL.keep hA1
      have hvA := hvd.keep hA1
      have hbsl : ∀ k, bs2 k → k < wr.heap.size := hL.lt
      have hEw := hE.only.size
      have hEA : DEff w (wr.alloc (.cells (zC 1).toArray 39)) bs bs2 := hE.trans ⟨Only.of_below hA1, fun k h => .inl h⟩
      clear hL hE hA1 hvd hvr
      generalize wr.alloc (.cells (zC 1).toArray 39) = w6 at *
      have hsw := hEA.only.size
      have hwsb : w.heap.size ≤ wr.heap.size := hEw
      generalize wr.heap.size = sb at *
      have HSB := Lib.hid hwsb
      clear hwsb hsw
      have hcp := fun ty => run_cpB w6.drew ty sb _ (l.drop (k * 64)) (hvA.keep ((Below.refl _ _).drew)) hth
      have hT : List.take 64 (List.drop (k * 64) (List.map bv l)) = ((l.drop (k * 64)).take 64).map bv := by rw [List.map_take, List.map_drop]
      have HT := Lib.hid hT
      clear hT
      go_region
      rw [HT.out]
      clear hcp
      have hlT : ((l.drop (k * 64)).take 64).length ≤ 64 := by rw [List.length_take]; omega
      have hzd : w6.drew.rangeAt sb 0 (secC (List.replicate 64 0)) := hz
      have hr7 := rangeAt_cp hzd (by simp) hlT
      rw [show (l.drop (k * 64)).take 64 ++ (List.replicate 64 (0 : UInt8)).drop ((l.drop (k * 64)).take 64).length = secT (l.drop (k * 64)) by unfold secT; rw [List.drop_replicate]] at hr7
      have hss : (secT (l.drop (k * 64))).length = 64 := secT_len _
      have hon7 : Only (· = sb) w6 (w6.drew.setCells sb 0 (((l.drop (k * 64)).take 64).map bv)) := Only.setCells (S := (· = sb)) rfl _ _ (Only.refl _ _).drew
      have hL7 := LogAt.keep (w' := (w6.drew.setCells sb 0 (((l.drop (k * 64)).take 64).map bv)).drew) (hLA.only hon7 (fun k hk e => by have := hbsl k hk; omega)) ((Below.refl _ _).drew)
      have hE7 : DEff w (w6.drew.setCells sb 0 (((l.drop (k * 64)).take 64).map bv)) bs bs2 := ⟨hEA.only.trans hon7 (fun i hi e => absurd hi (by have := HSB.out; omega)), hEA.new⟩
      have hs7 : sb < (w6.drew.setCells sb 0 (((l.drop (k * 64)).take 64).map bv)).heap.size := Nat.lt_of_lt_of_le hsA hon7.size
      have hw2 := hw
      rw [wrL, if_pos hlt] at hw2
      rw [show (((A + k : Nat) : Nat) : Int) = (A : Int) + (k : Int) from Int.natCast_add _ _] at hw2
      generalize secT (l.drop (k * 64)) = ss at *
      generalize w6.drew.setCells sb 0 (((l.drop (k * 64)).take 64).map bv) = w7 at *
      obtain ⟨ds7, hD7, hds7, hst7⟩ := hL7.disk
      obtain ⟨_, _, ⟨k0c, _⟩, _⟩ := id hL7
      have hlc : (secC ss).length = 64 := by simp [secC, hss]
      have hiS : (Try.prog.info? 39).map (·.size) = some (secC ss).length := by rw [hlc]; exact Try.info_sec'
      have huS := Try.underlying39
      have hrd : w7.drew.rangeAt sb 0 (secC ss) := hr7
      have hsb2 : ∀ k, bs2 k → k ≠ sb := fun k hk e => by have := hbsl k hk; omega
      have hwr := dwrite_any ((A : Int) + k) ss w7.drew hD7 hss (by omega)
      unfold secV at hwr
      rw [show ss.map bv = secC ss from rfl] at hwr
      generalize secC ss = css at *
      have hwa : IntKind.i64.wrap ((A : Int) + (k : Int)) = (A : Int) + (k : Int) := wrap_inL (by omega) (by omega)
      have hs7d : sb < w7.drew.heap.size := hs7
      have HFU := Lib.hid (And.intro hfu (And.intro hlo2 (And.intro hk hlt)))
      have HW2 := Lib.hid hw2
      have HWW := Lib.hid hw
      clear hw hw2 hL7 hLA hEA hz hth hvA hlT hzd hon7 hr7 hD7 hfu hlo2 hk hlt hlv hsA hs7
      go_upto_region 7 with (fail)
      go_region_held_law (fun w' => w'.cell? ⟨lp, 0, none⟩ = some (.pointer (some ⟨p, 0, none⟩)) ∧ w'.rangeAt sb 0 css) (first | exact ⟨k0c, hrd⟩ | go_keep_ranges) (first
        | (go_at_call 16; refine hwr.mono ?_; rintro e wC ⟨rfl, ds8, hD8, hE8⟩; obtain ⟨bs8, hL8, hE9⟩ := hst7 _ _ _ hD8 hE8; obtain ⟨_, _, ⟨k0c, _⟩, _⟩ := id hL8; have hrd : wC.rangeAt sb 0 css := (fun j v hv => (hE9.only.cell (p := ⟨sb, 0 + j, none⟩) hs7d (fun e => hsb2 sb e rfl)).trans (hrd j v hv))))
      all_goals
        have hEF : DEff w wC bs bs8 := hE7.trans ⟨hE9.only.of_drew, hE9.new⟩
        obtain ⟨hl8, hn8⟩ := wrS_loose dk ((A : Int) + k) ss
        by_cases hz0 : dk.wrE ((A : Int) + k) ss = 0
        · have hnext : wrL A l n (k + 1) (dk.wrS ((A : Int) + k) ss) = wrA A l k0 d := by
            have h5 := HW2.out
            rw [if_pos hz0] at h5
            exact h5
          have HF := Lib.hid (And.intro hL8 (And.intro hEF (And.intro hnext (And.intro (Nat.add_le_add_right hl8 n) (hn8.trans hnl)))))
          clear hL8 hEF hnext hl8 hn8 hE7 hE8 hE9 hD8 hst7 hds7 hwr hrd
          go_wp2_with fail
          go_roundw
          case rel =>
            obtain ⟨hfu, hlo2, hk, hlt⟩ := HFU.out
            refine ⟨k + 1, n, _, bs8, by go_num, by omega, HF.out.1, HF.out.2.1, HF.out.2.2.1, by omega, ?_, HF.out.2.2.2.2⟩
            have h6 := HF.out.2.2.2.1
            omega
          case measure =>
            obtain ⟨hfu, hlo2, hk, hlt⟩ := HFU.out
            simp [intOf]; omega
        · have hR : wrA A l k0 d = (dk.wrE ((A : Int) + k) ss, dk.wrS ((A : Int) + k) ss) := by
            have h5 := HW2.out
            rw [if_neg hz0] at h5
            exact h5.symm
          have HF := Lib.hid (And.intro hL8 (And.intro hEF hR))
          clear hL8 hEF hR hl8 hn8 hE7 hE8 hE9 hD8 hst7 hds7 hwr hrd hl hfr hdn hlo
          go_wp2_with fail
          go_ret
          refine ⟨?_, bs8, ?_, HF.out.2.1⟩
          · rw [← HA.out, ← HK.out]; unfold writeE; rw [HF.out.2.2, if_neg hz0]
            rfl
          · rw [← HA.out, ← HK.out]; unfold writeD; rw [HF.out.2.2, if_neg hz0]
            exact HF.out.1
    · have hng : ¬ (k : Int) * 64 < l.length := by omega
      have hR : wrA A l k0 d = (0, dk) := by rw [← hw, wrL_end hlt]
      obtain ⟨ds7, hD7, hds7, hst7⟩ := hL.disk
      obtain ⟨_, _, ⟨k0c, _⟩, _⟩ := id hL
      have hsy := dsync_any wr hD7
      have HR := Lib.hid hR
      have HE := Lib.hid hE
      clear hw hL hE hR hfu hlo2 hk hlt hl hfr hdn hlo
      go_wp2_with fail
      refine hsy.mono ?_
      rintro e w9 ⟨rfl, ds9, hD9, hE9⟩
      obtain ⟨bs9, hL9, hE10⟩ := hst7 _ _ _ hD9 hE9
      have HF := Lib.hid (And.intro hL9 (HE.out.trans hE10))
      clear hL9 hE10 hE9 hD9 hst7 hsy
      go_wp2_with fail
      go_ret
      refine ⟨?_, bs9, ?_, HF.out.2⟩
      · rw [← HA.out, ← HK.out]; unfold writeE; rw [HR.out, if_pos rfl]
        rfl
      · rw [← HA.out, ← HK.out]; unfold writeD; rw [HR.out, if_pos rfl]
        exact HF.out.1
end Go.Proofs.Ytbmdcblcefebiaa
/- log.Log: Left, Turn, Append. -/
namespace Go.Proofs.Ytbmdcblcefebiaa
open Go.RowKit
def leftN (d : DK) (L : LD) : Int := (roomN d.now.length : Int) - L.b.length
set_option maxRecDepth 100000 in
set_option maxHeartbeats 2000000 in
theorem lleft_any (w : World) {lp p : Nat} {d : DK} {L : LD} {bs : Nat → Prop} (h : LogAt w lp p d L bs) (hdn : d.now.length ≤ 100) (hL : L.b.length ≤ 1000000) :
    Calls Try.prog 19 #[.pointer (some ⟨lp, 0, none⟩)] w fun e w' => e = .returned (.int .i64 (leftN d L)) ∧ Below w.heap.size w w' := by
  have hLd := LogAt.keep (w' := w.drew) h ((Below.refl _ _).drew)
  obtain ⟨ds, hD, hds, hst⟩ := hLd.disk
  obtain ⟨bvv, ds2, ⟨c0, c1, c2, c3⟩, hf, hb, _, _, hbs⟩ := id hLd
  obtain ⟨vo, vc, rfl, hq1, hq2, hq3, hq4⟩ := id hb
  have hS := dsize_any w.drew hD
  have hR := lroom_any d.now.length w.drew (by omega)
  have hrm : roomN d.now.length ≤ 100000 := by unfold roomN areaN; split <;> omega
  unfold leftN
  generalize roomN d.now.length = rm at *
  have hsub : IntKind.i64.wrap ((rm : Int) - (L.b.length : Int)) = (rm : Int) - (L.b.length : Int) := by rw [IntKind.wrap_i64]; omega
  clear hbs hf hq1 hq2 hq3 hq4 hst hds hb c1 c2 hLd h
  go_enter Try.func19, Try.ntmps19
  go_upto_region 3 with (fail)
  go_region_held_law (fun w' => w'.cell? ⟨lp, 0, none⟩ = some (.pointer (some ⟨p, 0, none⟩)) ∧ w'.cell? ⟨lp, 3, none⟩ = some (.slice vo L.b.length vc)) (first | exact ⟨c0, c3⟩ | go_keep) (first
    | (go_at_call 35; refine hS.mono ?_; rintro e wB ⟨rfl, rfl⟩)
    | (go_at_call 33; refine hR.mono ?_; rintro e wB ⟨rfl, rfl⟩))
  all_goals
    go_wp2_with fail
    go_ret
    exact ⟨rfl, (Below.refl _ _).drew⟩
set_option maxRecDepth 100000 in
set_option maxHeartbeats 2000000 in
theorem lturn_any (w : World) {lp p : Nat} {d : DK} {L : LD} {bs : Nat → Prop} (h : LogAt w lp p d L bs) :
    Calls Try.prog 25 #[.pointer (some ⟨lp, 0, none⟩)] w fun e w' => e = .returned (.int .i64 L.turn) ∧ w = w' := by
  obtain ⟨bvv, ds2, ⟨c0, c1, c2, c3⟩, hf, _, _, _, hbs⟩ := id h
  clear hbs hf c0 c2 c3 h
  go_enter Try.func25, Try.ntmps25
  go_wp2_with fail
  go_ret
  exact ⟨rfl, rfl⟩
/-- What Append answers, and what it leaves. -/
def appE (d : DK) (L : LD) (l : List UInt8) : Int :=
  let A := 2 + L.area * areaN d.now.length
  let b := L.b ++ recL l
  if leftN d L < (l.length : Int) + 8 then 8 else if writeE A b (L.b.length / 64) d = 0 then closeE (writeD A b (L.b.length / 64) d) (L.turn + 1) L.area b.length else writeE A b (L.b.length / 64) d
def appD (d : DK) (L : LD) (l : List UInt8) : DK :=
  let A := 2 + L.area * areaN d.now.length
  let b := L.b ++ recL l
  if leftN d L < (l.length : Int) + 8 then d else if writeE A b (L.b.length / 64) d = 0 then closeD (writeD A b (L.b.length / 64) d) (L.turn + 1) L.area b.length else writeD A b (L.b.length / 64) d
def appL (d : DK) (L : LD) (l : List UInt8) : LD := if appE d L l = 0 then ⟨L.turn + 1, L.area, L.b ++ recL l⟩ else L
set_option maxRecDepth 100000 in
set_option maxHeartbeats 4000000 in
theorem lappend_full (w : World) {lp p : Nat} {d : DK} {L : LD} {bs : Nat → Prop} (h : LogAt w lp p d L bs) (v : Value) (l : List UInt8) (hv : Bsl w v l) (hl : l.length ≤ 1000) (hdn : d.now.length ≤ 100) (hLb : L.b.length ≤ 1000000)
    (hfull : leftN d L < (l.length : Int) + 8) :
    Calls Try.prog 23 #[.pointer (some ⟨lp, 0, none⟩), v] w fun e w' => e = .returned (.int .i64 8) ∧ Below w.heap.size w w' := by
  have hS := lsize_any v l w hv (by omega)
  obtain ⟨vo, vc, rfl, hq1, hq2, hq3, hq4⟩ := id hv
  clear hq1 hq2 hq3 hq4
  go_enter Try.func23, Try.ntmps23
  go_wp2_with fail
  refine hS.mono ?_
  rintro e w1 ⟨rfl, hB1⟩
  have hLf := lleft_any w1 (h.keep hB1) hdn hLb
  generalize leftN d L = lf at *
  go_wp2_with fail
  refine hLf.mono ?_
  rintro e w2 ⟨rfl, hB2⟩
  have HB := Lib.hid (hB1.trans (hB2.mono hB1.size))
  clear hB1 hB2 hLf hS h hv
  go_wp2_with fail
  go_ret
  exact ⟨rfl, HB.out⟩
theorem wrL_loose (A : Nat) (b : List UInt8) : ∀ (n k : Nat) (d : DK), (wrL A b n k d).2.loose.length ≤ d.loose.length + n ∧ (wrL A b n k d).2.now.length = d.now.length
  | 0, _, d => ⟨Nat.le_refl _, rfl⟩
  | n + 1, k, d => by
    rw [wrL]
    split
    · have h1 := wrS_loose d (A + k : Nat) (secT (b.drop (k * 64)))
      split
      · have h2 := wrL_loose A b n (k + 1) (d.wrS (A + k : Nat) (secT (b.drop (k * 64))))
        exact ⟨by omega, h2.2.trans h1.2⟩
      · exact ⟨by show (d.wrS (A + k : Nat) (secT (b.drop (k * 64)))).loose.length ≤ _; omega, h1.2⟩
    · exact ⟨by show d.loose.length ≤ _; omega, rfl⟩
theorem syS_loose (d : DK) : d.syS.loose.length ≤ d.loose.length ∧ d.syS.now.length = d.now.length := by
  unfold DK.syS DK.burn
  split
  · split <;> split <;> simp
  · exact ⟨Nat.le_refl _, rfl⟩
theorem writeD_loose (A : Nat) (b : List UInt8) (k : Nat) (d : DK) : (writeD A b k d).loose.length ≤ d.loose.length + (b.length + 1) ∧ (writeD A b k d).now.length = d.now.length := by
  unfold writeD wrA
  have h1 := wrL_loose A b (b.length + 1) k d
  split
  · have h2 := syS_loose (wrL A b (b.length + 1) k d).2
    exact ⟨by omega, h2.2.trans h1.2⟩
  · exact h1
set_option maxRecDepth 100000 in
set_option maxHeartbeats 4000000 in
theorem lappend_ok (w : World) {lp p : Nat} {d : DK} {L : LD} {bs : Nat → Prop} (h : LogAt w lp p d L bs) (v : Value) (l : List UInt8) (hv : Bsl w v l) (hl : l.length ≤ 1000) (hdn : d.now.length ≤ 100) (hLb : L.b.length ≤ 8000)
    (hroom : ¬ leftN d L < (l.length : Int) + 8) (har : L.area ≤ 1) (ht : L.turn + 1 ≤ 1000000000) (hlo : d.loose.length ≤ 50000) :
    Calls Try.prog 23 #[.pointer (some ⟨lp, 0, none⟩), v] w fun e w' => e = .returned (.int .i64 (appE d L l)) ∧ ∃ bs2, LogAt w' lp p (appD d L l) (appL d L l) bs2 ∧ DEff w w' bs bs2 := by
  have hS := lsize_any v l w hv (by omega)
  have hgt : (l.length : Int) + 8 ≤ leftN d L := by omega
  have HROOM := Lib.hid hroom
  clear hroom
  obtain ⟨vo, vc, rfl, hq1, hq2, hq3, hq4⟩ := id hv
  clear hq1 hq2 hq3 hq4
  go_enter Try.func23, Try.ntmps23
  go_wp2_with fail
  refine hS.mono ?_
  rintro e w1 ⟨rfl, hB1⟩
  have hLf := lleft_any w1 (h.keep hB1) hdn (by omega)
  generalize hlf : leftN d L = lf at hLf hgt
  have HLF := Lib.hid hlf
  clear hlf
  go_wp2_with fail
  refine hLf.mono ?_
  rintro e w2 ⟨rfl, hB2⟩
  have hB12 := hB1.trans (hB2.mono hB1.size)
  have hL2 := h.keep hB12
  have hv2 := hv.keep hB12
  obtain ⟨bvv, ds2, ⟨c0, c1, c2, c3⟩, hf, hb, _, _, hbs⟩ := id hL2
  obtain ⟨xo, xc, rfl, hq1, hq2, hq3, hq4⟩ := id hb
  clear hq1 hq2 hq3 hq4 hf hbs hLf hS c0 c1 hB1 hB2
  have hcl := sclone_any _ L.b w2 hb (by omega)
  go_wp2_with fail
  refine hcl.mono ?_
  rintro e w3 ⟨v3, rfl, ho3, hB3⟩
  have hby := lbytes_any _ l w3 (hv2.keep hB3) (by omega)
  go_wp2_with fail
  refine hby.mono ?_
  rintro e w4 ⟨v4, rfl, ho4, hB4⟩
  have hrl := recL_len l
  have hlen4 : L.b.length + (recL l).length ≤ 140737488355328 := by omega
  have hb34 : w2.heap.size ≤ w4.heap.size := Nat.le_trans hB3.size hB4.size
  have ho3' := ho3.keep hB4
  have ho4' := ho4.bsl
  go_upto_region 6 with (at_builtin; refine wp_app rfl _ _ rfl w2.heap.size _ _ _ _ rfl rfl ho3' ho4' hlen4 hb34 ?_; intro v5 w5 ho5 hg5 hn5)
  have hB5 : Below w2.heap.size w2 w5 := (hB3.trans (hB4.mono hB3.size)).grown hg5 hb34 ho3'.own_ge
  have hL5 := LogAt.keep (w' := w5.drew) (hL2.keep hB5) ((Below.refl _ _).drew)
  have hE5 : DEff w w5.drew bs bs := ⟨Only.of_below (hB12.trans (hB5.mono hB12.size)).drew, fun k hk => .inl hk⟩
  have hv5 : Bsl w5.drew v5 (L.b ++ recL l) := ho5.bsl
  have hn5' : L.b ++ recL l ≠ [] → ∀ k, v5.ownBlock = some k → ¬ bs k := fun _ k hk e => by have := ho5.own_ge k hk; have := hL2.lt k e; omega
  have hge5 : ∀ k, v5.ownBlock = some k → w.heap.size ≤ k := fun k hk => Nat.le_trans hB12.size (ho5.own_ge k hk)
  have hlen5 : (L.b ++ recL l).length ≤ 10000 := by rw [List.length_append]; omega
  have hW := lwrite_any w5.drew hL5 v5 (L.b ++ recL l) L.b.length hv5 hn5' har hlen5 (by omega) hdn hlo
  obtain ⟨yo, yc, hvy, hq1, hq2, hq3, hq4⟩ := id hv5
  subst hvy
  have k2 : w5.drew.cell? ⟨lp, 2, none⟩ = some (.int .i64 L.area) := (hB5.cell (p := ⟨lp, 2, none⟩) (World.block_lt_of_cell? w2 _ c2)).trans c2
  have k3 : w5.drew.cell? ⟨lp, 3, none⟩ = some (.slice xo L.b.length xc) := (hB5.cell (p := ⟨lp, 3, none⟩) (World.block_lt_of_cell? w2 _ c3)).trans c3
  clear hq1 hq2 hq3 hq4 hby hcl ho3 ho4 ho3' ho4' hg5 hn5 hrl hlen4 hb34 hB3 hB4 hB5 hL2 hv2 hb c2 c3 hB12
  generalize hbb : L.b ++ recL l = bb at *
  have HBB := Lib.hid hbb
  clear hbb
  go_region_law (first
    | (go_simp; go_at_call 36; refine hW.mono ?_; rintro e w6 ⟨rfl, bs6, hL6, hE6⟩))
  all_goals
    have hE56 := hE5.trans hE6
    have hv6 := hv5.only' hE6.only hn5'
    have hn6 : bb ≠ [] → ∀ k, (Value.slice yo bb.length yc).ownBlock = some k → ¬ bs6 k := fun hne k hk e => (hE6.new k e).elim (hn5' hne k hk) (fun e2 => by have := hv5.own_lt hne k hk; omega)
    have hlw := writeD_loose (2 + L.area * areaN d.now.length) bb (L.b.length / 64) d
    by_cases hz : writeE (2 + L.area * areaN d.now.length) bb (L.b.length / 64) d = 0
    · have hC := lclose_any w6 hL6 _ bb hv6 hn6 har ht (by omega) (by omega)
      obtain ⟨bw, dw, ⟨m0, m1, m2, m3⟩, mf, _, _, _, _⟩ := id hL6
      clear mf m0 m1 m3 hlw hW hL5 hE5 hE6 hL6 hv6 hn6 hv5 hl hdn hLb ht hlo hlen5 k2 k3
      go_wp2_with fail
      refine hC.mono ?_
      rintro e w7 ⟨rfl, bs7, hL7, hon7, hnew7⟩
      have hEF : DEff w w7 bs bs7 := ⟨hE56.only.trans hon7 (fun k hk e => (hE56.new k e).elim id (fun e2 => absurd hk (by omega))), fun k hk => (hnew7 k hk).elim (hE56.new k) (fun e => e.elim (fun e2 => .inr (Nat.le_trans hE56.only.size e2)) (fun e2 => .inr (hge5 k e2.2)))⟩
      have HF := Lib.hid (And.intro hL7 hEF)
      have HZ := Lib.hid hz
      clear hL7 hEF hon7 hnew7 hC hz
      go_wp2_with fail
      go_ret
      obtain rfl := HBB.out
      have hEq : appE d L l = closeE (writeD (2 + L.area * areaN d.now.length) (L.b ++ recL l) (L.b.length / 64) d) (L.turn + 1) L.area (L.b ++ recL l).length := by
        unfold appE; dsimp only; rw [if_neg (Int.not_lt.2 HROOM.out), if_pos HZ.out]
      have hDq : appD d L l = closeD (writeD (2 + L.area * areaN d.now.length) (L.b ++ recL l) (L.b.length / 64) d) (L.turn + 1) L.area (L.b ++ recL l).length := by
        unfold appD; dsimp only; rw [if_neg (Int.not_lt.2 HROOM.out), if_pos HZ.out]
      refine ⟨by rw [hEq]; rfl, bs7, ?_, HF.out.2⟩
      unfold appL
      rw [hEq, hDq]
      exact HF.out.1
    · have HF := Lib.hid (And.intro hL6 hE56)
      have HZ := Lib.hid hz
      clear hlw hW hL5 hE5 hE6 hL6 hv6 hn6 hv5 hl hdn hLb ht hlo hlen5 k2 k3 hE56
      go_wp2_with fail
      go_ret
      obtain rfl := HBB.out
      have hEq : appE d L l = writeE (2 + L.area * areaN d.now.length) (L.b ++ recL l) (L.b.length / 64) d := by
        unfold appE; dsimp only; rw [if_neg (Int.not_lt.2 HROOM.out), if_neg HZ.out]
      have hDq : appD d L l = writeD (2 + L.area * areaN d.now.length) (L.b ++ recL l) (L.b.length / 64) d := by
        unfold appD; dsimp only; rw [if_neg (Int.not_lt.2 HROOM.out), if_neg HZ.out]
      refine ⟨by rw [hEq]; rfl, bs6, ?_, HF.out.2⟩
      unfold appL
      rw [hEq, hDq, if_neg HZ.out]
      exact HF.out.1
end Go.Proofs.Ytbmdcblcefebiaa
/- log.Format. -/
namespace Go.Proofs.Ytbmdcblcefebiaa
open Go.RowKit
/-- A log that is begun. -/
theorem LogAt.begin {w : World} {p : Nat} {d : DK} {ds : Nat → Prop} (h : DiskAt w p d ds) (t a : Nat) :
    ∃ bs, LogAt (w.alloc (.cells #[.pointer (some ⟨p, 0, none⟩), .int .i64 t, .int .i64 a, .slice none 0 0] 74)) w.heap.size p d ⟨t, a, []⟩ bs ∧ (∀ k, bs k → ds k ∨ k = w.heap.size) ∧ Below w.heap.size w (w.alloc (.cells #[.pointer (some ⟨p, 0, none⟩), .int .i64 t, .int .i64 a, .slice none 0 0] 74)) := by
  have hB : Below w.heap.size w (w.alloc (.cells #[.pointer (some ⟨p, 0, none⟩), .int .i64 t, .int .i64 a, .slice none 0 0] 74)) := (Below.refl _ _).alloc (Nat.le_refl _) _
  refine ⟨fun k => k = w.heap.size ∨ ds k ∨ (([] : List UInt8) ≠ [] ∧ (Value.slice none 0 0).ownBlock = some k), ⟨.slice none 0 0, ds, ⟨World.cell?_alloc_new w _ _ 0, World.cell?_alloc_new w _ _ 1, World.cell?_alloc_new w _ _ 2, World.cell?_alloc_new w _ _ 3⟩, fun j hj => by simp, (OB.nil _ 0).bsl, h.keep hB, ⟨fun e => by have := h.lt _ e; omega, fun hne => absurd rfl hne⟩, fun k => Iff.rfl⟩, fun k hk => ?_, hB⟩
  rcases hk with hk | hk | ⟨hne, _⟩
  · exact .inr hk
  · exact .inl hk
  · exact absurd rfl hne
set_option maxRecDepth 100000 in
set_option maxHeartbeats 4000000 in
theorem lformat_any (w : World) {p : Nat} {d : DK} {ds : Nat → Prop} (h : DiskAt w p d ds) (hoff : d.off = false) {h0 h1 : HdD} (hn : 4 ≤ d.now.length) (hn2 : d.now.length ≤ 100)
    (hh0 : HeadOk (d.now.getD 0 []) h0 0 (roomN d.now.length)) (hh1 : HeadOk (d.now.getD 1 []) h1 1 (roomN d.now.length)) (ht : (bestTo h0 h1 2).1 + 1 ≤ 1000000000) (hlo : d.loose.length ≤ 50000)
    (hok : closeE d ((bestTo h0 h1 2).1 + 1) 0 0 = 0) :
    Calls Try.prog 9 #[.pointer (some ⟨p, 0, none⟩)] w fun e w' => ∃ lp, e = .returned (.tuple #[.pointer (some ⟨lp, 0, none⟩), .int .i64 0]) ∧ ∃ bs, LogAt w' lp p (closeD d ((bestTo h0 h1 2).1 + 1) 0 0) ⟨(bestTo h0 h1 2).1 + 1, 0, []⟩ bs ∧ DEff w w' ds bs := by
  have hmy := lmay_ok w h hn
  have hla := llatest_any w h hoff hn hn2 hh0 hh1
  generalize bestTo h0 h1 2 = x at *
  obtain ⟨t, a, c⟩ := x
  dsimp only at hla ht hok ⊢
  unfold plV at hla
  go_enter Try.func9, Try.ntmps9
  go_wp2_with fail
  refine hmy.mono ?_
  rintro e w1 ⟨rfl, rfl⟩
  go_wp2_with fail
  refine hla.mono ?_
  rintro e w2 ⟨rfl, hB2⟩
  go_upto_region 8 with (fail)
  have hB3 : Below w2.heap.size w2 (w2.alloc (.cells #[.int .i64 t, .int .i64 a, .int .i64 c] 70)) := (Below.refl _ _).alloc (Nat.le_refl _) _
  have hz3 : (w2.alloc (.cells #[.int .i64 t, .int .i64 a, .int .i64 c] 70)).heap.size = w2.heap.size + 1 := by simp
  have hD3 := (h.keep hB2).keep hB3
  have hB4 := hB2.trans (hB3.mono hB2.size)
  clear hB3
  generalize w2.alloc (.cells #[.int .i64 t, .int .i64 a, .int .i64 c] 70) = w3 at *
  obtain ⟨bs4, hL4, hbs4, hB5⟩ := LogAt.begin hD3 t 0
  rw [hz3] at hL4
  have hC := lclose_any _ hL4 (.slice none 0 0) [] (OB.nil _ 0).bsl (fun hne => absurd rfl hne) (Nat.zero_le 1) ht (by simp) (by omega)
  have hE4 : DEff w (w3.alloc (.cells #[.pointer (some ⟨p, 0, none⟩), .int .i64 t, .int .i64 0, .slice none 0 0] 74)) ds bs4 := ⟨Only.of_below (hB4.trans (hB5.mono hB4.size)), fun k hk => (hbs4 k hk).imp id (fun e => by rw [e]; exact hB4.size)⟩
  generalize w2.heap.size + 1 = lp at *
  have hok2 : closeE d (t + 1) 0 ([] : List UInt8).length = 0 := hok
  have HT := Lib.hid ht
  clear hD3 hB4 hB5 hbs4 hL4 hz3 hla hmy ht hlo
  go_wp2_with fail
  refine hC.mono ?_
  rintro e w5 ⟨rfl, bs5, hL5, hon5, hnew5⟩
  rw [hok2] at hL5 ⊢
  rw [if_pos rfl] at hL5
  have hEF : DEff w w5 ds bs5 := hE4.trans ⟨hon5, fun k hk => (hnew5 k hk).imp id (fun e => e.elim id (fun e2 => absurd rfl e2.1))⟩
  have HF := Lib.hid (And.intro hL5 hEF)
  clear hL5 hEF hC hon5 hnew5 hE4
  go_wp2_with fail
  go_ret2
  exact ⟨lp, rfl, bs5, HF.out.1, HF.out.2⟩
end Go.Proofs.Ytbmdcblcefebiaa
