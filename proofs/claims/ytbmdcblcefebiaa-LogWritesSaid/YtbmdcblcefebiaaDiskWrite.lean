/- disk.Disk: Write. -/
import Derived.Test.YtbmdcblcefebiaaDiskParts
import Derived.Test.YtbmdcblcefebiaaDiskSec
import Derived.Test.YtbmdcblcefebiaaRowApp
import Derived.Test.YtbmdcblcefebiaaBuild
import Derived.Deep.RegionHeld
import Derived.Deep.RegionHeldLaw
import Derived.Deep.RegionLaw
namespace Go.Proofs.Ytbmdcblcefebiaa
open Go.RowKit
theorem Try.info_sec : (Try.prog.info? 39).map (·.size) = some 64 := by kernel_rfl
theorem Try.info_loose : (Try.prog.info? 81).map (fun i => (i.zero.map (fun z => z.cells.size), i.size, decide (i.bytes ≤ 1000))) = some (some 65, 65, true) := by kernel_rfl
theorem Try.loose_parts : ∃ i z, Try.prog.info? 81 = some i ∧ i.zero = some z ∧ z.cells.size = 65 ∧ i.size = 65 ∧ i.bytes ≤ 1000 := by
  have h := Try.info_loose
  cases hi : Try.prog.info? 81 with
  | none => rw [hi] at h; cases h
  | some i =>
    rw [hi] at h
    simp only [Option.map_some, Option.some.injEq, Prod.mk.injEq, decide_eq_true_eq] at h
    obtain ⟨h1, h2, h3⟩ := h
    cases hz : i.zero with
    | none => rw [hz] at h1; cases h1
    | some z => rw [hz] at h1; exact ⟨i, z, rfl, hz, by simpa using h1, h2, h3⟩
theorem Try.built_loose {k : Int} {cs : List Value} (hl : cs.length = 64) : Try.prog.built 81 [(0, .int .i64 k), (1, .agg cs.toArray)] = some (.int .i64 k :: cs).toArray := by
  obtain ⟨i, z, hi, hz, hzc, _⟩ := Try.loose_parts
  exact built_rec hi Try.underlying81 hz hzc (by kernel_rfl) hl
def recC (k : Int) (cs : List Value) : List Value := .int .i64 k :: cs
theorem run_bld_loose (w : World) (k : Int) (cs : List Value) (hl : cs.length = 64) : (Instr.build 81 #[(0, .int .i64 k), (1, .agg cs.toArray)]).run Try.prog w = .ok (.agg (recC k cs).toArray) w :=
  run_build (P := Try.prog) w _ _ _ (Try.built_loose hl)
theorem run_bldSlice_loose (w : World) (k : Int) (cs : List Value) (hl : cs.length = 64) : (Instr.buildSlice 65 1 #[(0, .agg (recC k cs).toArray)]).run Try.prog w = .ok (.slice (some ⟨w.heap.size, 0, none⟩) 1 1) (w.alloc (.cells (recC k cs).toArray 81)) := by
  obtain ⟨i, z, hi, hz, hzc, hs, _⟩ := Try.loose_parts
  exact run_buildSlice (P := Try.prog) w _ _ 1 #[(0, .agg (recC k cs).toArray)] (recC k cs).toArray i z Try.underlying65 hi hz (by omega) (by omega) (fill_one (n := 65) (by rw [Nat.zero_mul, hs]) (by simp [hs]) (by simp [recC, hl]))
def bldG (parts : Array (Nat × Value)) : Sem Value := Instr.build 81 parts
theorem bldG_eq (parts : Array (Nat × Value)) : Instr.build 81 parts = bldG parts := rfl
theorem run_bldG (w : World) (k : Int) (cs : List Value) (hl : cs.length = 64) : (bldG #[(0, .int .i64 k), (1, .agg cs.toArray)]).run Try.prog w = .ok (.agg (recC k cs).toArray) w := run_bld_loose w k cs hl
def bldsG (parts : Array (Nat × Value)) : Sem Value := Instr.buildSlice 65 1 parts
theorem bldsG_eq (parts : Array (Nat × Value)) : Instr.buildSlice 65 1 parts = bldsG parts := rfl
theorem run_bldsG (w : World) (k : Int) (cs : List Value) (hl : cs.length = 64) : (bldsG #[(0, .agg (recC k cs).toArray)]).run Try.prog w = .ok (.slice (some ⟨w.heap.size, 0, none⟩) 1 1) (w.alloc (.cells (recC k cs).toArray 81)) := run_bldSlice_loose w k cs hl
def ldG (v : Value) : Sem Value := Instr.loadAt 39 v
theorem ldG_eq (v : Value) : Instr.loadAt 39 v = ldG v := rfl
theorem run_ldG (w : World) (b o : Nat) (cs : List Value) (h : w.rangeAt b o cs) (hl : cs.length = 64) : (ldG (.pointer (some ⟨b, o, none⟩))).run Try.prog w = .ok (.agg cs.toArray) w :=
  run_loadAt_mid w b o _ cs _ h Try.underlying39 rfl (by rw [hl]; exact Try.info_sec)
attribute [local go_sem ↓] bldG_eq bldsG_eq ldG_eq
attribute [local go_sem] run_bldG run_bldsG
def DK.write (d : DK) (at_ : Nat) (s : List UInt8) : DK := { d with now := d.now.set at_ s, loose := d.loose ++ [(at_, s)] }.burn
set_option maxRecDepth 100000 in
set_option maxHeartbeats 1000000 in
theorem dwrite_ok (k : Nat) (s : List UInt8) (w : World) {p : Nat} {d : DK} {bs : Nat → Prop} (h : DiskAt w p d bs) (hs : s.length = 64) (ho : d.off = false) (hk : k < d.now.length) (hll : d.loose.length ≤ 100000) :
    Calls Try.prog 16 #[.pointer (some ⟨p, 0, none⟩), .int .i64 k, secV s] w fun e w' => e = .returned (.int .i64 (if (d.write k s).off then 9 else 0)) ∧ ∃ bs', DiskAt w' p (d.write k s) bs' ∧ DEff w w' bs bs' := by
  have hmay : d.may k = 0 := by unfold DK.may; rw [ho, if_neg (by simp), if_neg (by omega)]
  have hlen : (secC s).length = 64 := by simp [secC, hs]
  have hone : ∀ v ∈ secC s, v.oneCell' = true := bv_one s
  have hu := Try.underlying39
  have hi : (Try.prog.info? 39).map (·.size) = some (secC s).length := by rw [hlen]; exact Try.info_sec
  unfold secV
  rw [show s.map bv = secC s from rfl]
  generalize hcs : secC s = cs at *
  generalize hD : d.write k s = D
  go_enter Try.func16, Try.ntmps16
  go_wp2_with fail
  refine (dmay_any k _ (h.keep ((Below.refl _ _).alloc (Nat.le_refl _) _))).mono ?_
  rintro e w1 ⟨rfl, rfl⟩
  rw [hmay]
  have hO : DiskAt (w.alloc (.cells cs.toArray 39)).drew p d bs := h.keep (((Below.refl _ _).alloc (Nat.le_refl _) (.cells cs.toArray 39)).drew)
  have hbox : (w.alloc (.cells cs.toArray 39)).rangeAt w.heap.size 0 cs := by
    intro j v hv
    rw [World.cell?_alloc_new]; simpa using hv
  have hE1 : DEff w (w.alloc (.cells cs.toArray 39)) bs bs := ⟨Only.of_below ((Below.refl _ _).alloc (Nat.le_refl _) _), fun _ h => .inl h⟩
  have hbsz : w.heap.size < (w.alloc (.cells cs.toArray 39)).heap.size := by simp
  have hbnot : ¬ bs w.heap.size := fun hb => by have := h.lt _ hb; omega
  obtain ⟨g, cap, c0, hcap, hcap2, hgp, hbg, hrng, hset⟩ := hO.nowV (by intro e; rw [e] at hk; simp at hk)
  obtain ⟨hO2, hE2⟩ := hset k hk s hs
  rw [hcs] at hO2 hE2
  have hth := (hrng k hk).2.1
  have hk0 : (0 : Int) ≤ (k : Int) := Int.natCast_nonneg _
  have hk8 : (k : Int) < d.now.length := by omega
  have hpl := hO.lt p hO.hp
  clear hset hrng
  have hgb : w.heap.size ≠ g := fun e => hbnot (e ▸ hbg)
  generalize hW1 : w.alloc (.cells cs.toArray 39) = W1 at *
  have hon : Only (· = g) W1.drew (W1.drew.setCells g (k * 64) cs) := Only.setCells (S := (· = g)) rfl _ _ (Only.refl _ _)
  have hc0' : (W1.drew.setCells g (k * 64) cs).cell? ⟨p, 0, none⟩ = some (.slice (some ⟨g, 0, none⟩) d.now.length cap) := (hon.cell (p := ⟨p, 0, none⟩) hpl (fun e => hgp e.symm)).trans c0
  have hbox' : (W1.drew.setCells g (k * 64) cs).rangeAt w.heap.size 0 cs := World.rangeAt_setCells_apart (w := W1.drew) hbox _ _ _ (.inl hgb)
  have hth' : (W1.drew.setCells g (k * 64) cs).there g (k * 64) 64 := World.there_setCells hth _ _ _
  have hE3 : DEff w (W1.drew.setCells g (k * 64) cs) bs bs := ⟨(hE1.only.drew).trans hE2.only (fun _ _ h => h), fun _ h => .inl h⟩
  go_wp2_with fail
  go_region_held (fun w' => w'.cell? ⟨p, 0, none⟩ = some (.slice (some ⟨g, 0, none⟩) d.now.length cap) ∧ w'.rangeAt w.heap.size 0 cs ∧ w'.there g (k * 64) 64) (first | exact ⟨hc0', hbox', hth'⟩ | go_keep_ranges) (fail)
  clear hc0' hth' hth hon hbox hO hE1 hE2 c0 hW1 hpl
  generalize W1.drew.setCells g (k * 64) cs = W2 at *
  obtain ⟨lv, c2, f2, r3, hlp, hlb, hst⟩ := hO2.looseV
  go_wp2_with fail
  obtain ⟨il, zl, hil, hzl, hzc, hsl, hbl⟩ := Try.loose_parts
  have hlr : (recC k cs).length = 65 := by simp [recC, hlen]
  have honer : ∀ u ∈ (recC k cs), u.oneCell' = true := by
    intro u hu; rcases List.mem_cons.1 hu with rfl | hu
    · rfl
    · exact hone u hu
  have hA : Below W2.drew.heap.size W2.drew (W2.drew.alloc (.cells (recC k cs).toArray 81)) := (Below.refl _ _).alloc (Nat.le_refl _) _
  have hsrcA : (W2.drew.alloc (.cells (recC k cs).toArray 81)).rangeAt W2.heap.size 0 (recC k cs) := by
    intro j v hv
    rw [show W2.heap.size = W2.drew.heap.size from rfl, World.cell?_alloc_new]; simpa using hv
  have r3A := r3.drew.keep hA
  have hpl2 : p < W2.heap.size := hO2.lt p hO2.hp
  have c2A : (W2.drew.alloc (.cells (recC k cs).toArray 81)).cell? ⟨p, 2, none⟩ = some lv := (hA.cell (p := ⟨p, 2, none⟩) hpl2).trans c2
  have hbxA : (W2.drew.alloc (.cells (recC k cs).toArray 81)).rangeAt w.heap.size 0 cs := World.rangeAt_alloc (w := W2.drew) hbox' _
  have fA : (W2.drew.alloc (.cells (recC k cs).toArray 81)).frozen? ⟨p, 2, none⟩ = false := (hA.frozen (p := ⟨p, 2, none⟩) hpl2).trans f2
  have hlb2 : ¬ lv.ownBlock = some w.heap.size := fun e => hbnot (hlb _ e)
  have hlen5 : (d.loose.map looC).length + 1 ≤ 100000000 := by simp; omega
  have hld := run_ldG W2.drew w.heap.size 0 cs hbox' hlen
  go_region_law (first
    | (refine step_appr rfl _ _ 65 rfl il zl Try.underlying65 hil hzl hsl hbl hzc (by omega) r3A hsrcA hlr honer hlen5 (Nat.zero_le _) (by rfl) (by rfl) ?_; intro v3 w3 hr3 hg3 hn3; obtain ⟨ao3, cap3, rfl, _, _, _⟩ := hr3.val; have hc3 : w3.cell? ⟨p, 2, none⟩ = some lv := hg3.cell c2A (fun e => hlp e.symm); have hbx3 : w3.rangeAt w.heap.size 0 cs := fun j v hv => hg3.cell (hbxA j v hv) (fun e => hlb2 e.symm); have hf3 : w3.frozen? ⟨p, 2, none⟩ = false := (World.frozen?_of_block (hg3.block p (Nat.lt_of_lt_of_le hpl2 hA.size) (fun e => hlp e.symm))).trans fA))
  all_goals
    have hl3 : (List.map looC d.loose ++ [recC k cs]).length = d.loose.length + 1 := by simp
    have hon3 : Only (fun k => lv.ownBlock = some k) W2 w3 := ((Only.of_below (S := fun k => lv.ownBlock = some k) hA).trans (Only.of_grown (S := fun k => lv.ownBlock = some k) hg3 (fun k hk => hk)) (fun _ _ h => h)).of_drew
    have hr4 : RW w3 0 81 65 (Value.slice ao3 (List.map looC d.loose ++ [recC k cs]).length cap3) ((d.loose ++ [(k, s)]).map looC) := by
      rw [List.map_append]; subst hcs; exact hr3
    obtain ⟨bs', hO3, hE4⟩ := hst w3 _ (d.loose ++ [(k, s)]) hon3 hr4 (hn3.imp id (fun e => .inr ⟨_, e, Nat.le_trans (Nat.le_refl _) hA.size⟩))
    rw [hl3] at hO3 hE4
    have hE5 := hE3.trans hE4
    clear hr3 hr4 hg3 hn3 hst r3 hld hsrcA r3A c2A hbxA fA hc3 hbx3 hf3 hon3 c2 f2 hbox' hO2 hE3 hE4 hone honer hi hu hA
    go_wp2_with fail
    refine (dburn_any _ hO3).mono ?_
    rintro e w5 ⟨rfl, hO5, hE6⟩
    have hw : DK.burn { now := d.now.set k s, fast := d.fast, loose := d.loose ++ [(k, s)], fuse := d.fuse, off := d.off } = D := hD
    rw [hw] at hO5 ⊢
    clear hw hD
    go_wp2_with fail
    all_goals
      rename_i hoff
      go_ret
      refine ⟨?_, bs', hO5, hE5.trans hE6⟩
      first | (rw [if_pos hoff]; rfl) | (rw [if_neg (by rw [hoff]; simp)]; rfl) | (simp; done) | (simp [hoff]; done)
set_option maxRecDepth 100000 in
set_option maxHeartbeats 1000000 in
theorem dwrite_bad (at_ : Int) (s : List UInt8) (w : World) {p : Nat} {d : DK} {bs : Nat → Prop} (h : DiskAt w p d bs) (hs : s.length = 64) (hbad : d.may at_ ≠ 0) :
    Calls Try.prog 16 #[.pointer (some ⟨p, 0, none⟩), .int .i64 at_, secV s] w fun e w' => e = .returned (.int .i64 (d.may at_)) ∧ DiskAt w' p d bs ∧ Below w.heap.size w w' := by
  have hlen : (secC s).length = 64 := by simp [secC, hs]
  have hone : ∀ v ∈ secC s, v.oneCell' = true := bv_one s
  have hi : (Try.prog.info? 39).map (·.size) = some (secC s).length := by rw [hlen]; exact Try.info_sec
  unfold secV
  rw [show s.map bv = secC s from rfl]
  generalize hcs : secC s = cs at *
  generalize hm : d.may at_ = m at *
  go_enter Try.func16, Try.ntmps16
  go_wp2_with fail
  refine (dmay_any at_ _ (h.keep ((Below.refl _ _).alloc (Nat.le_refl _) _))).mono ?_
  rintro e w1 ⟨rfl, rfl⟩
  rw [hm]
  have hk := h.keep ((Below.refl _ _).alloc (Nat.le_refl _) (.cells cs.toArray 39))
  have hb : Below w.heap.size w (w.alloc (.cells cs.toArray 39)) := (Below.refl _ _).alloc (Nat.le_refl _) _
  go_wp2_with fail
  go_ret
  exact ⟨rfl, hk, hb⟩
end Go.Proofs.Ytbmdcblcefebiaa
