/- casketref16.Disk: the object, and its small methods. -/
import Derived.Test.YtdhgilpdghohoaaDiskImage
import Derived.Deep.RegionHeld
import Derived.Deep.RegionHeldLaw
import Derived.Deep.RegionLaw
namespace Go.Proofs.Ytdhgilpdghohoaa
open Go.RowKit
theorem Try.info_secNR : (Try.prog.info? 35).map (fun i => (i.zero.map (fun z => z.cells), i.size, decide (i.bytes ≤ 1000))) = some (some (List.replicate 64 (bv 0)).toArray, 64, true) := by kernel_rfl
theorem Try.sec_partsR : ∃ i z, Try.prog.info? 35 = some i ∧ i.zero = some z ∧ z.cells = (List.replicate 64 (bv 0)).toArray ∧ i.size = 64 ∧ i.bytes ≤ 1000 := by
  have h := Try.info_secNR
  cases hi : Try.prog.info? 35 with
  | none => rw [hi] at h; cases h
  | some i =>
    rw [hi] at h
    simp only [Option.map_some, Option.some.injEq, Prod.mk.injEq, decide_eq_true_eq] at h
    obtain ⟨h1, h2, h3⟩ := h
    cases hz : i.zero with
    | none => rw [hz] at h1; cases h1
    | some z => rw [hz] at h1; exact ⟨i, z, rfl, hz, by simpa using h1, h2, h3⟩
theorem Try.info_looseR : (Try.prog.info? 70).map (fun i => (i.zero.map (fun z => z.cells.size), i.size, decide (i.bytes ≤ 1000))) = some (some 65, 65, true) := by kernel_rfl
theorem Try.loose_partsR : ∃ i z, Try.prog.info? 70 = some i ∧ i.zero = some z ∧ z.cells.size = 65 ∧ i.size = 65 ∧ i.bytes ≤ 1000 := by
  have h := Try.info_looseR
  cases hi : Try.prog.info? 70 with
  | none => rw [hi] at h; cases h
  | some i =>
    rw [hi] at h
    simp only [Option.map_some, Option.some.injEq, Prod.mk.injEq, decide_eq_true_eq] at h
    obtain ⟨h1, h2, h3⟩ := h
    cases hz : i.zero with
    | none => rw [hz] at h1; cases h1
    | some z => rw [hz] at h1; exact ⟨i, z, rfl, hz, by simpa using h1, h2, h3⟩
theorem Try.built_looseR {k : Int} {cs : List Value} (hl : cs.length = 64) : Try.prog.built 70 [(0, .int .i64 k), (1, .agg cs.toArray)] = some (.int .i64 k :: cs).toArray := by
  obtain ⟨i, z, hi, hz, hzc, _⟩ := Try.loose_partsR
  exact built_rec hi Try.underlying70 hz hzc (by kernel_rfl) hl
theorem run_bld_looseR (w : World) (k : Int) (cs : List Value) (hl : cs.length = 64) : (Instr.build 70 #[(0, .int .i64 k), (1, .agg cs.toArray)]).run Try.prog w = .ok (.agg (recC k cs).toArray) w :=
  run_build (P := Try.prog) w _ _ _ (Try.built_looseR hl)
theorem run_bldSlice_looseR (w : World) (k : Int) (cs : List Value) (hl : cs.length = 64) : (Instr.buildSlice 50 1 #[(0, .agg (recC k cs).toArray)]).run Try.prog w = .ok (.slice (some ⟨w.heap.size, 0, none⟩) 1 1) (w.alloc (.cells (recC k cs).toArray 70)) := by
  obtain ⟨i, z, hi, hz, hzc, hs, _⟩ := Try.loose_partsR
  exact run_buildSlice (P := Try.prog) w _ _ 1 #[(0, .agg (recC k cs).toArray)] (recC k cs).toArray i z Try.underlying50 hi hz (by omega) (by omega) (fill_one (n := 65) (by rw [Nat.zero_mul, hs]) (by simp [hs]) (by simp [recC, hl]))
def bldGR (parts : Array (Nat × Value)) : Sem Value := Instr.build 70 parts
theorem bldG_eqR (parts : Array (Nat × Value)) : Instr.build 70 parts = bldGR parts := rfl
theorem run_bldGR (w : World) (k : Int) (cs : List Value) (hl : cs.length = 64) : (bldGR #[(0, .int .i64 k), (1, .agg cs.toArray)]).run Try.prog w = .ok (.agg (recC k cs).toArray) w := run_bld_looseR w k cs hl
def bldsGR (parts : Array (Nat × Value)) : Sem Value := Instr.buildSlice 50 1 parts
theorem bldsG_eqR (parts : Array (Nat × Value)) : Instr.buildSlice 50 1 parts = bldsGR parts := rfl
theorem run_bldsGR (w : World) (k : Int) (cs : List Value) (hl : cs.length = 64) : (bldsGR #[(0, .agg (recC k cs).toArray)]).run Try.prog w = .ok (.slice (some ⟨w.heap.size, 0, none⟩) 1 1) (w.alloc (.cells (recC k cs).toArray 70)) := run_bldSlice_looseR w k cs hl
def ldLR (v : Value) : Sem Value := Instr.loadAt 70 v
theorem ldL_eqR (v : Value) : Instr.loadAt 70 v = ldLR v := rfl
theorem run_ldLR (w : World) (b o : Nat) (cs : List Value) (h : w.rangeAt b o cs) (hl : cs.length = 65) : (ldLR (.pointer (some ⟨b, o, none⟩))).run Try.prog w = .ok (.agg cs.toArray) w :=
  run_loadAt_mid w b o _ cs _ h Try.underlying70 rfl (by rw [hl]; kernel_rfl)
def alSR : Sem Value := Instr.alloc 35 true (.tuple #[])
theorem alS_eqR : Instr.alloc 35 true (.tuple #[]) = alSR := rfl
theorem run_alSR (w : World) : alSR.run Try.prog w = .ok (.pointer (some ⟨w.heap.size, 0, none⟩)) (w.alloc (.cells (zC 1).toArray 35)) := by
  obtain ⟨i, z, hi, hz, hzc, _⟩ := Try.sec_partsR
  have hc : (zC 1).toArray = z.cells := by rw [hzc]; rfl
  rw [hc]
  simp [alSR, Instr.alloc, zeroValue, typeInfo, hi, hz, newVar, newRow]
def ldSR (v : Value) : Sem Value := Instr.loadAt 35 v
theorem ldS_eqR (v : Value) : Instr.loadAt 35 v = ldSR v := rfl
theorem run_ldSR (w : World) (b o : Nat) (s : List UInt8) (h : w.rangeAt b o (secC s)) (hl : s.length = 64) : (ldSR (.pointer (some ⟨b, o, none⟩))).run Try.prog w = .ok (secV s) w :=
  run_loadAt_mid w b o _ (secC s) _ h Try.underlying35 rfl (by rw [show (secC s).length = 64 by simp [secC, hl]]; kernel_rfl)
def stSR (v u : Value) : Sem Unit := Instr.storeAt 35 v u
theorem stS_eqR (v u : Value) : Instr.storeAt 35 v u = stSR v u := rfl
theorem run_stSR (w : World) (b o : Nat) (s : List UInt8) (h : w.there b o 64) (hl : s.length = 64) : (stSR (.pointer (some ⟨b, o, none⟩)) (secV s)).run Try.prog w = .ok () (w.setCells b o (secC s)) :=
  run_storeAt_mid w b o _ (s.map bv).toArray (by simpa [hl] using h) (by rw [List.size_toArray, List.length_map, hl]; kernel_rfl) (all_oneCell_toArray (bv_one s))
def blSR (parts : Array (Nat × Value)) : Sem Value := Instr.build 35 parts
theorem blS_eqR (parts : Array (Nat × Value)) : Instr.build 35 parts = blSR parts := rfl
theorem run_blSR (w : World) : (blSR #[]).run Try.prog w = .ok (secV (secL 0)) w := by
  obtain ⟨i, z, hi, hz, hzc, _⟩ := Try.sec_partsR
  obtain ⟨i0, hi0, hz0, hz1, hz2⟩ := info_parts Try.info_u8
  have hs : secV (secL 0) = .agg z.cells := by rw [hzc]; unfold secV secL; rw [List.map_replicate]
  rw [hs]
  simp [blSR, Instr.build, zeroValue, typeInfo, hi, hz, run_underlying Try.underlying35, sizeOf, hi0, Instr.fill]

/-- The document's disk at p; its blocks are bs. -/
def RDAt (w : World) (p : Nat) (d : DK) (bs : Nat → Prop) : Prop := ∃ fv lv,
  (w.cell? ⟨p, 0, none⟩ = some fv ∧ w.cell? ⟨p, 1, none⟩ = some lv ∧ w.cell? ⟨p, 2, none⟩ = some (.int .i64 d.fuse) ∧ w.cell? ⟨p, 3, none⟩ = some (.bool d.off)) ∧
  (∀ j, j < 4 → w.frozen? ⟨p, j, none⟩ = false) ∧
  RW w 0 35 64 fv (d.fast.map secC) ∧ RW w 0 70 65 lv (d.loose.map looC) ∧
  (fv.ownBlock ≠ some p ∧ lv.ownBlock ≠ some p) ∧ (∀ k, fv.ownBlock = some k → lv.ownBlock ≠ some k) ∧
  (d.fast.length ≤ 8192 ∧ 0 ≤ d.fuse ∧ d.fuse ≤ 9223372036854775807) ∧
  bs = (fun k => k = p ∨ fv.ownBlock = some k ∨ lv.ownBlock = some k)
theorem RDAt.lt {w : World} {p : Nat} {d : DK} {bs : Nat → Prop} (h : RDAt w p d bs) : ∀ k, bs k → k < w.heap.size := by
  obtain ⟨fv, lv, ⟨c0, _⟩, _, h1, h2, _, _, _, rfl⟩ := h
  intro k hk
  rcases hk with rfl | hk | hk
  · exact World.block_lt_of_cell? w _ c0
  · exact h1.own_lt k hk
  · exact h2.own_lt k hk
theorem RDAt.hp {w : World} {p : Nat} {d : DK} {bs : Nat → Prop} (h : RDAt w p d bs) : bs p := by
  obtain ⟨fv, lv, _, _, _, _, _, _, _, rfl⟩ := h
  exact .inl rfl
theorem RDAt.only {S : Nat → Prop} {w w' : World} {p : Nat} {d : DK} {bs : Nat → Prop} (h : RDAt w p d bs) (ho : Only S w w') (hS : ∀ k, bs k → ¬ S k) : RDAt w' p d bs := by
  have hlt := h.lt p h.hp
  obtain ⟨fv, lv, ⟨c0, c1, c2, c3⟩, hf, h1, h2, n1, n2, b, rfl⟩ := h
  have hp : ¬ S p := hS p (.inl rfl)
  exact ⟨fv, lv, ⟨(ho.cell hlt hp).trans c0, (ho.cell hlt hp).trans c1, (ho.cell hlt hp).trans c2, (ho.cell hlt hp).trans c3⟩, fun j hj => (ho.frozen hlt hp).trans (hf j hj),
    h1.only ho (fun k hk => hS k (.inr (.inl hk))), h2.only ho (fun k hk => hS k (.inr (.inr hk))), n1, n2, b, rfl⟩
theorem RDAt.keep {w w' : World} {p : Nat} {d : DK} {bs : Nat → Prop} (h : RDAt w p d bs) (hb : Below w.heap.size w w') : RDAt w' p d bs := h.only (Only.of_below (S := fun _ => False) hb) (fun _ _ h => h)
theorem RDAt.setFuse {w : World} {p : Nat} {d : DK} {bs : Nat → Prop} (h : RDAt w p d bs) {n : Int} (h1 : 0 ≤ n) (h2 : n ≤ 9223372036854775807) : RDAt (w.setCell ⟨p, 2, none⟩ (.int .i64 n)) p { d with fuse := n } bs ∧ DEff w (w.setCell ⟨p, 2, none⟩ (.int .i64 n)) bs bs := by
  have hlt := h.lt p h.hp
  have hon : Only bs w (w.setCell ⟨p, 2, none⟩ (.int .i64 n)) := (Only.refl _ _).setCell (fun _ => h.hp) _
  obtain ⟨fv, lv, ⟨c0, c1, c2, c3⟩, hf, r1, r2, n1, n2, b, rfl⟩ := h
  have hon1 : Only (· = p) w (w.setCell ⟨p, 2, none⟩ (.int .i64 n)) := Only.setCell (S := (· = p)) (Only.refl _ _) (p := ⟨p, 2, none⟩) (fun _ => rfl) _
  refine ⟨⟨fv, lv, ⟨?_, ?_, World.cell?_setCell_same w _ _ c2, ?_⟩, fun j hj => by rw [World.frozen?_setCell]; exact hf j hj, r1.only hon1 (fun k hk e => n1.1 (e ▸ hk)), r2.only hon1 (fun k hk e => n1.2 (e ▸ hk)), n1, n2, ⟨b.1, h1, h2⟩, rfl⟩, ⟨hon, fun _ h => .inl h⟩⟩
  all_goals (rw [World.cell?_setCell_other w _ _ _ (by simp)]; assumption)
theorem RDAt.setOff {w : World} {p : Nat} {d : DK} {bs : Nat → Prop} (h : RDAt w p d bs) (n : Bool) : RDAt (w.setCell ⟨p, 3, none⟩ (.bool n)) p { d with off := n } bs ∧ DEff w (w.setCell ⟨p, 3, none⟩ (.bool n)) bs bs := by
  have hlt := h.lt p h.hp
  have hon : Only bs w (w.setCell ⟨p, 3, none⟩ (.bool n)) := (Only.refl _ _).setCell (fun _ => h.hp) _
  obtain ⟨fv, lv, ⟨c0, c1, c2, c3⟩, hf, r1, r2, n1, n2, b, rfl⟩ := h
  have hon1 : Only (· = p) w (w.setCell ⟨p, 3, none⟩ (.bool n)) := Only.setCell (S := (· = p)) (Only.refl _ _) (p := ⟨p, 3, none⟩) (fun _ => rfl) _
  refine ⟨⟨fv, lv, ⟨?_, ?_, ?_, World.cell?_setCell_same w _ _ c3⟩, fun j hj => by rw [World.frozen?_setCell]; exact hf j hj, r1.only hon1 (fun k hk e => n1.1 (e ▸ hk)), r2.only hon1 (fun k hk e => n1.2 (e ▸ hk)), n1, n2, b, rfl⟩, ⟨hon, fun _ h => .inl h⟩⟩
  all_goals (rw [World.cell?_setCell_other w _ _ _ (by simp)]; assumption)
theorem RDAt.fastV {w : World} {p : Nat} {d : DK} {bs : Nat → Prop} (h : RDAt w p d bs) (hne : d.fast ≠ []) : ∃ g cap,
    w.cell? ⟨p, 0, none⟩ = some (.slice (some ⟨g, 0, none⟩) d.fast.length cap) ∧ d.fast.length ≤ cap ∧ cap ≤ 9223372036854775807 ∧ g ≠ p ∧ bs g ∧
    (∀ lv, w.cell? ⟨p, 1, none⟩ = some lv → lv.ownBlock ≠ some g) ∧
    (∀ k (hk : k < d.fast.length), w.rangeAt g (k * 64) (secC d.fast[k]) ∧ w.there g (k * 64) 64) ∧
    (∀ k, k < d.fast.length → ∀ s : List UInt8, s.length = 64 → RDAt (w.setCells g (k * 64) (secC s)) p { d with fast := d.fast.set k s } bs ∧ DEff w (w.setCells g (k * 64) (secC s)) bs bs) := by
  have hlt := h.lt p h.hp
  obtain ⟨fv, lv, ⟨c0, c1, c2, c3⟩, hf, r2, r3, n1, n2, b, rfl⟩ := h
  obtain ⟨g, cap, rfl, _, _, h1, h2⟩ := r2.shape (by simpa using hne)
  rw [List.length_map] at c0 h1
  have hgp : g ≠ p := fun e => n1.1 (by simp [Value.ownBlock, e])
  refine ⟨g, cap, c0, h1, h2, hgp, .inr (.inl rfl), fun lv' h' => by rw [c1] at h'; cases h'; exact n2 g rfl, ?_, ?_⟩
  · intro k hk
    have hk' : k < (d.fast.map secC).length := by simpa using hk
    have hr := r2.range rfl hk'
    simp only [List.getElem_map] at hr
    exact ⟨hr, r2.there rfl hk'⟩
  · intro k hk s hs
    have hset := r2.set rfl (i := k) (by simpa using hk) (r := secC s) (by rw [secC_length, hs])
    have hon : Only (· = g) w (w.setCells g (k * 64) (secC s)) := Only.setCells (S := (· = g)) rfl _ _ (Only.refl _ _)
    refine ⟨⟨_, lv, ⟨?_, ?_, ?_, ?_⟩, fun j hj => (hon.frozen hlt (fun e => hgp e.symm)).trans (hf j hj), by rw [← List.map_set] at hset; exact hset, r3.only hon (fun q hq e => n2 g rfl (e ▸ hq)), n1, n2, ?_, rfl⟩, ?_⟩
    · rw [List.length_map]
      exact (hon.cell (p := ⟨p, 0, none⟩) hlt (fun e => hgp e.symm)).trans c0
    · exact (hon.cell (p := ⟨p, 1, none⟩) hlt (fun e => hgp e.symm)).trans c1
    · exact (hon.cell (p := ⟨p, 2, none⟩) hlt (fun e => hgp e.symm)).trans c2
    · exact (hon.cell (p := ⟨p, 3, none⟩) hlt (fun e => hgp e.symm)).trans c3
    · simpa using b
    · exact ⟨hon.mono (fun i _ e => by subst e; exact .inr (.inl rfl)), fun _ h => .inl h⟩
/-- The loose writes. -/
theorem RDAt.looseV {w : World} {p : Nat} {d : DK} {bs : Nat → Prop} (h : RDAt w p d bs) : ∃ lv,
    w.cell? ⟨p, 1, none⟩ = some lv ∧ w.frozen? ⟨p, 1, none⟩ = false ∧ RW w 0 70 65 lv (d.loose.map looC) ∧ lv.ownBlock ≠ some p ∧ (∀ k, lv.ownBlock = some k → bs k) ∧
    (∀ (w2 : World) (lv' : Value) (l' : List (Nat × List UInt8)), Only (fun k => lv.ownBlock = some k) w w2 → RW w2 0 70 65 lv' (l'.map looC) → (lv'.ownBlock = lv.ownBlock ∨ lv'.ownBlock = none ∨ ∃ k, lv'.ownBlock = some k ∧ w.heap.size ≤ k) →
      ∃ bs', RDAt (w2.setCell ⟨p, 1, none⟩ lv') p { d with loose := l' } bs' ∧ DEff w (w2.setCell ⟨p, 1, none⟩ lv') bs bs') := by
  have hlt := h.lt p h.hp
  obtain ⟨fv, lv, ⟨c0, c1, c2, c3⟩, hf, r2, r3, n1, n3, b, rfl⟩ := h
  refine ⟨lv, c1, hf 1 (by omega), r3, n1.2, fun k hk => .inr (.inr hk), ?_⟩
  intro w2 lv' l' hon hr hnew
  have hp : ¬ lv.ownBlock = some p := n1.2
  have hn' : ∀ k, k < w.heap.size → lv.ownBlock ≠ some k → lv'.ownBlock ≠ some k := by
    intro k hk hne e
    rcases hnew with e2 | e2 | ⟨m, e2, hm⟩
    · exact hne (e2 ▸ e)
    · rw [e2] at e; cases e
    · rw [e2] at e; cases e; omega
  have hon1 : Only (· = p) w2 (w2.setCell ⟨p, 1, none⟩ lv') := Only.setCell (S := (· = p)) (Only.refl _ _) (p := ⟨p, 1, none⟩) (fun _ => rfl) _
  have cc : ∀ j, j ≠ 1 → (w2.setCell ⟨p, 1, none⟩ lv').cell? ⟨p, j, none⟩ = w.cell? ⟨p, j, none⟩ := by
    intro j hj
    rw [World.cell?_setCell_other w2 _ _ _ (fun e => hj (by have := congrArg Addr.off e; simpa using this.symm))]
    exact hon.cell (p := ⟨p, j, none⟩) hlt hp
  have c1' := (hon.cell (p := ⟨p, 1, none⟩) hlt hp).trans c1
  refine ⟨_, ⟨fv, lv', ⟨(cc 0 (by omega)).trans c0, World.cell?_setCell_same w2 _ _ c1', (cc 2 (by omega)).trans c2, (cc 3 (by omega)).trans c3⟩, ?_, ?_, ?_, ?_, ?_, b, rfl⟩, ?_, ?_⟩
  · intro j hj; rw [World.frozen?_setCell]; exact (hon.frozen (p := ⟨p, j, none⟩) hlt hp).trans (hf j hj)
  · exact (r2.only hon (fun k hk e => n3 k hk e)).only hon1 (fun k hk e => n1.1 (e ▸ hk))
  · exact hr.only hon1 (fun k hk e => hn' p hlt hp (e ▸ hk))
  · exact ⟨n1.1, hn' p hlt hp⟩
  · exact fun k hk => hn' k (r2.own_lt k hk) (n3 k hk)
  · exact (hon.mono (T := fun k => k = p ∨ fv.ownBlock = some k ∨ lv.ownBlock = some k) (fun _ _ h => .inr (.inr h))).trans hon1 (fun i _ e => .inl e)
  · intro k hk
    rcases hk with hk | hk | hk
    · exact .inl (.inl hk)
    · exact .inl (.inr (.inl hk))
    · rcases hnew with e2 | e2 | ⟨m, e2, hm⟩
      · exact .inl (.inr (.inr (e2 ▸ hk)))
      · rw [e2] at hk; cases hk
      · rw [e2] at hk; cases hk; exact .inr hm
set_option maxRecDepth 100000 in
set_option maxHeartbeats 400000 in
theorem rdburn_any (w : World) {p : Nat} {d : DK} {bs : Nat → Prop} (h : RDAt w p d bs) :
    Calls Try.prog 29 #[.pointer (some ⟨p, 0, none⟩)] w fun e w' => e = .returned (.bool d.burn.off) ∧ RDAt w' p d.burn bs ∧ DEff w w' bs bs := by
  have hO := h
  obtain ⟨fv, lv, ⟨c0, c1, c2, c3⟩, hf, r1, r2, n1, n2, b, rfl⟩ := h
  clear r1 r2 n1 n2 c0 c1
  have f2 := hf 2 (by omega)
  have f3 := hf 3 (by omega)
  unfold DK.burn
  by_cases h0 : 0 < d.fuse
  · rw [if_pos h0]
    obtain ⟨k1, e1⟩ := hO.setFuse (n := d.fuse - 1) (by omega) (by omega)
    obtain ⟨k2, e2⟩ := k1.setOff (d.fuse - 1 == 0)
    have hfin := And.intro k2 (e1.trans e2)
    clear k1 k2 e1 e2 hO hf
    go_enter Try.func29, Try.ntmps29
    go_wp2_with fail
    go_ret
    exact ⟨rfl, hfin⟩
  · rw [if_neg h0]
    go_enter Try.func29, Try.ntmps29
    go_wp2_with fail
    go_ret
    exact ⟨rfl, hO, DEff.refl _ _⟩
end Go.Proofs.Ytdhgilpdghohoaa
