/- casketref16.Disk: DocWrite. -/
import Derived.Test.YtdhgilpdghohoaaRefDisk
namespace Go.Proofs.Ytdhgilpdghohoaa
open Go.RowKit
def ldGR (v : Value) : Sem Value := Instr.loadAt 35 v
theorem ldGR_eq (v : Value) : Instr.loadAt 35 v = ldGR v := rfl
theorem run_ldGR (w : World) (b o : Nat) (cs : List Value) (h : w.rangeAt b o cs) (hl : cs.length = 64) : (ldGR (.pointer (some ⟨b, o, none⟩))).run Try.prog w = .ok (.agg cs.toArray) w :=
  run_loadAt_mid w b o _ cs _ h Try.underlying35 rfl (by rw [hl]; kernel_rfl)
attribute [local go_sem ↓] bldG_eqR bldsG_eqR ldGR_eq
attribute [local go_sem] run_bldGR run_bldsGR
set_option maxRecDepth 100000 in
set_option maxHeartbeats 1000000 in
theorem rdwrite_bad (at_ : Int) (s : List UInt8) (w : World) {p n m : Nat} {d : DK} {bs : Nat → Prop} (h : RDAt w p d bs) (hok : d.Ok n m) (_hs : s.length = 64) (hbad : d.may at_ ≠ 0) :
    Calls Try.prog 18 #[.pointer (some ⟨p, 0, none⟩), .int .i64 at_, secV s] w fun e w' => e = .returned (.int .i64 (d.may at_)) ∧ RDAt w' p d bs ∧ Below w.heap.size w w' := by
  have hfl := hok.fast
  have hnl := hok.now
  unfold secV
  rw [show s.map bv = secC s from rfl]
  generalize hcs : secC s = cs at *
  have hb : Below w.heap.size w (w.alloc (.cells cs.toArray 35)) := (Below.refl _ _).alloc (Nat.le_refl _) _
  have hk := h.keep hb
  obtain ⟨fv, lv, ⟨c0, c1, c2, c3⟩, hf, r1, r2, n1, n2, b, hbq⟩ := id hk
  obtain ⟨fo, fc, rfl, hfc, hfm, hzz⟩ := r1.val
  rw [List.length_map] at c0
  clear hzz r1 r2 n1 n2 c1 c2 hf h hbq
  unfold DK.may at *
  cases ho : d.off with
  | true =>
    rw [ho] at c3
    simp only [if_true]
    clear hbad
    go_enter Try.func18, Try.ntmps18
    go_wp2_with fail
    go_ret
    exact ⟨rfl, hk, hb⟩
  | false =>
    rw [ho] at c3 hbad
    simp only [Bool.false_eq_true, if_false] at hbad ⊢
    by_cases hb2 : at_ < 0
    · rw [if_pos (.inl hb2)]
      clear hbad
      go_enter Try.func18, Try.ntmps18
      go_wp2_with fail
      go_ret
      exact ⟨rfl, hk, hb⟩
    · by_cases hb3 : (d.now.length : Int) ≤ at_
      · rw [if_pos (.inr hb3)]
        have hb4 : (d.fast.length : Int) ≤ at_ := by omega
        clear hbad
        go_enter Try.func18, Try.ntmps18
        go_wp2_with fail
        go_ret
        exact ⟨rfl, hk, hb⟩
      · rw [if_neg (by omega)] at hbad; exact absurd rfl hbad
set_option maxRecDepth 100000 in
set_option maxHeartbeats 1000000 in
theorem rdwrite_ok (k : Nat) (s : List UInt8) (w : World) {p n m : Nat} {d : DK} {bs : Nat → Prop} (h : RDAt w p d bs) (hok : d.Ok n m) (hs : s.length = 64) (ho : d.off = false) (hk : k < n) (hll : d.loose.length ≤ 100000) :
    Calls Try.prog 18 #[.pointer (some ⟨p, 0, none⟩), .int .i64 k, secV s] w fun e w' => e = .returned (.int .i64 (if (d.write k s).off then 9 else 0)) ∧ ∃ bs', RDAt w' p (d.write k s) bs' ∧ DEff w w' bs bs' := by
  have hfl := hok.fast
  have hlen : (secC s).length = 64 := by simp [secC, hs]
  have hone : ∀ v ∈ secC s, v.oneCell' = true := bv_one s
  unfold secV
  rw [show s.map bv = secC s from rfl]
  generalize hcs : secC s = cs at *
  generalize hD : d.write k s = D
  have hB1 : Below w.heap.size w (w.alloc (.cells cs.toArray 35)) := (Below.refl _ _).alloc (Nat.le_refl _) _
  have hO := h.keep hB1
  have hbox : (w.alloc (.cells cs.toArray 35)).rangeAt w.heap.size 0 cs := by
    intro j v hv
    rw [World.cell?_alloc_new]; simpa using hv
  have hbnot : ¬ bs w.heap.size := fun hb => by have := h.lt _ hb; omega
  have hE1 : DEff w (w.alloc (.cells cs.toArray 35)) bs bs := ⟨Only.of_below hB1, fun _ h => .inl h⟩
  have hk1 : ¬ ((k : Int) < 0) := by omega
  have hk2 : ¬ ((d.fast.length : Int) ≤ (k : Int)) := by omega
  have hpl := hO.lt p hO.hp
  obtain ⟨fv, lv0, ⟨c0, c1, c2, c3⟩, hz1, r1, hz2, hz3, hz4, hz5, hz6⟩ := id hO
  obtain ⟨fo, fc, rfl, hfc, hfm, hzz⟩ := r1.val
  rw [List.length_map] at c0
  rw [ho] at c3
  clear hzz hz1 r1 hz2 hz3 hz4 hz5 hz6 c1 c2 hok h
  go_enter Try.func18, Try.ntmps18
  go_wp2_with fail
  clear c0 c3
  generalize hW1 : w.alloc (.cells cs.toArray 35) = W2 at *
  clear hW1
  obtain ⟨lv, c2, f2, r3, hlp, hlb, hst⟩ := RDAt.looseV (w := W2) hO
  obtain ⟨il, zl, hil, hzl, hzc, hsl, hbl⟩ := Try.loose_partsR
  have hlr : (recC k cs).length = 65 := by simp [recC, hlen]
  have honer : ∀ u ∈ (recC k cs), u.oneCell' = true := by
    intro u hu; rcases List.mem_cons.1 hu with rfl | hu
    · rfl
    · exact hone u hu
  have hA : Below W2.drew.heap.size W2.drew (W2.drew.alloc (.cells (recC k cs).toArray 70)) := (Below.refl _ _).alloc (Nat.le_refl _) _
  have hsrcA : (W2.drew.alloc (.cells (recC k cs).toArray 70)).rangeAt W2.heap.size 0 (recC k cs) := by
    intro j v hv
    rw [show W2.heap.size = W2.drew.heap.size from rfl, World.cell?_alloc_new]; simpa using hv
  have r3A := r3.drew.keep hA
  have c2A : (W2.drew.alloc (.cells (recC k cs).toArray 70)).cell? ⟨p, 1, none⟩ = some lv := (hA.cell (p := ⟨p, 1, none⟩) hpl).trans c2
  have fA : (W2.drew.alloc (.cells (recC k cs).toArray 70)).frozen? ⟨p, 1, none⟩ = false := (hA.frozen (p := ⟨p, 1, none⟩) hpl).trans f2
  have hlen5 : (d.loose.map looC).length + 1 ≤ 100000000 := by simp; omega
  have hld := run_ldGR W2 w.heap.size 0 cs hbox hlen
  have hld2 := run_ldGR W2.drew w.heap.size 0 cs hbox hlen
  have hbxA := World.rangeAt_alloc (w := W2.drew) hbox (.cells (recC k cs).toArray 70)
  have hldA := run_ldGR _ w.heap.size 0 cs hbxA hlen
  clear hO
  go_region_law (first
    | (refine step_appr rfl _ _ 50 rfl il zl Try.underlying50 hil hzl hsl hbl hzc (by omega) r3A hsrcA hlr honer hlen5 (Nat.zero_le _) (by rfl) (by rfl) ?_; intro v3 w3 hr3 hg3 hn3; obtain ⟨ao3, cap3, rfl, _, _, _⟩ := hr3.val; have hc3 : w3.cell? ⟨p, 1, none⟩ = some lv := hg3.cell c2A (fun e => hlp e.symm); have hf3 : w3.frozen? ⟨p, 1, none⟩ = false := (World.frozen?_of_block (hg3.block p (Nat.lt_of_lt_of_le hpl hA.size) (fun e => hlp e.symm))).trans fA))
  all_goals
    have hl3 : (List.map looC d.loose ++ [recC k cs]).length = d.loose.length + 1 := by simp
    have hon3 : Only (fun k => lv.ownBlock = some k) W2 w3 := ((Only.of_below (S := fun k => lv.ownBlock = some k) hA).trans (Only.of_grown (S := fun k => lv.ownBlock = some k) hg3 (fun k hk => hk)) (fun _ _ h => h)).of_drew
    have hr4 : RW w3 0 70 65 (Value.slice ao3 (List.map looC d.loose ++ [recC k cs]).length cap3) ((d.loose ++ [(k, s)]).map looC) := by
      rw [List.map_append]; subst hcs; exact hr3
    obtain ⟨bs', hO3, hE4⟩ := hst w3 _ (d.loose ++ [(k, s)]) hon3 hr4 (hn3.imp id (fun e => .inr ⟨_, e, Nat.le_trans (Nat.le_refl _) hA.size⟩))
    rw [hl3] at hO3 hE4
    have hE5 := hE1.trans hE4
    clear hr3 hr4 hg3 hst r3 hld hld2 hldA hsrcA r3A c2A fA hc3 hf3 hon3 c2 f2 hE4 hone honer hA hbxA hbox hE1
    go_wp2_with fail
    refine (rdburn_any (d := { d with now := d.now.set k s, loose := d.loose ++ [(k, s)] }) _ hO3).mono ?_
    rintro e w5 ⟨rfl, hO5, hE6⟩
    have hw : DK.burn { now := d.now.set k s, fast := d.fast, loose := d.loose ++ [(k, s)], fuse := d.fuse, off := d.off } = D := hD
    rw [hw] at hO5 ⊢
    clear hw hD
    go_wp2_with fail
    all_goals
      rename_i hoff
      go_ret
      refine ⟨?_, bs', hO5, hE5.trans hE6⟩
      first | (rw [if_pos hoff]; rfl) | (rw [if_neg (by rw [hoff]; simp)]; rfl) | (simp; done) | (simp [hoff]; done)
theorem rdwrite_any (at_ : Int) (s : List UInt8) (w : World) {p n m : Nat} {d : DK} {bs : Nat → Prop} (h : RDAt w p d bs) (hok : d.Ok n m) (hs : s.length = 64) (hll : d.loose.length ≤ 100000) :
    Calls Try.prog 18 #[.pointer (some ⟨p, 0, none⟩), .int .i64 at_, secV s] w fun e w' => e = .returned (.int .i64 (d.wrE at_ s)) ∧ ∃ bs', RDAt w' p (d.wrS at_ s) bs' ∧ DEff w w' bs bs' := by
  by_cases hb : d.may at_ = 0
  · obtain ⟨h1, h2, h3⟩ := DK.may_zero hb
    have := rdwrite_ok at_.toNat s w h hok hs h1 (by have := hok.now; omega) hll
    rw [Int.toNat_of_nonneg h2] at this
    unfold DK.wrE DK.wrS
    rw [if_pos hb, if_pos hb]
    exact this
  · refine (rdwrite_bad at_ s w h hok hs hb).mono ?_
    rintro e w' ⟨rfl, hO, hB⟩
    unfold DK.wrE DK.wrS
    rw [if_neg hb, if_neg hb]
    exact ⟨rfl, bs, hO, ⟨Only.of_below hB, fun _ h => .inl h⟩⟩
end Go.Proofs.Ytdhgilpdghohoaa
