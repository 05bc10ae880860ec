/- net.Net: Take. -/
import Derived.Test.YtbflffanahnofaaNetDel
import Derived.Deep.DeepCutAuto
namespace Go.Proofs.Ytbflffanahnofaa
open Go.RowKit
set_option maxRecDepth 100000 in
set_option maxHeartbeats 400000 in
theorem ntake_bad (i k : Int) (w : World) {p : Nat} {st : NSt} {bs : Nat → Prop} (h : NetAt w p st bs) (hi : ¬ (0 ≤ i ∧ i < st.length)) :
    Calls Try.prog 10 #[.pointer (some ⟨p, 0, none⟩), .int .i64 i, .int .i64 k] w fun e w' => e = .returned (.tuple #[.slice none 0 0, .int .i64 1]) ∧ w = w' := by
  obtain ⟨xs, rfl, h⟩ := h
  rw [List.length_map] at hi
  go_enter Try.func10, Try.ntmps10
  go_wp2_with fail
  refine (nmessage_bad i k w h hi).mono ?_
  rintro e w1 ⟨rfl, rfl⟩
  go_wp2_with fail
  go_ret2
  exact ⟨rfl, rfl⟩
set_option maxRecDepth 100000 in
set_option maxHeartbeats 400000 in
theorem ntake_miss (i : Nat) (k : Int) (w : World) {p : Nat} {st : NSt} {bs : Nat → Prop} (h : NetAt w p st bs) (hi : i < st.length) (hk : ¬ (0 ≤ k ∧ k < (innN st i).length)) :
    Calls Try.prog 10 #[.pointer (some ⟨p, 0, none⟩), .int .i64 i, .int .i64 k] w fun e w' => e = .returned (.tuple #[.slice none 0 0, .int .i64 7]) ∧ w = w' := by
  obtain ⟨xs, rfl, h⟩ := h
  rw [List.length_map] at hi
  rw [innN_map hi, List.length_map] at hk
  obtain ⟨g, cap, iv, ⟨c0, c1, f1, hgl⟩, hr, hz0, hz1, hz2, hz3, hz4⟩ := h.setIn hi
  obtain ⟨io, ic, rfl, hz5, hz6, hz7⟩ := hr.val
  rw [List.length_map] at c1
  clear hz0 hz1 hz2 hz3 hz4 hz5 hz6 hz7 hr
  have hm := nmessage_ok (p := p) i k w c0 c1 hi
  rw [if_neg hk] at hm
  clear hk
  go_enter Try.func10, Try.ntmps10
  go_wp2_with fail
  refine hm.mono ?_
  rintro e w1 ⟨rfl, rfl⟩
  go_wp2_with fail
  go_ret2
  exact ⟨rfl, rfl⟩
set_option maxRecDepth 100000 in
set_option maxHeartbeats 1000000 in
theorem ntake_ok (i k : Nat) (w : World) {p : Nat} {st : NSt} {bs : Nat → Prop} (h : NetAt w p st bs) (hi : i < st.length) (hk : k < (innN st i).length) (hsn : (seenN st i).length ≤ 1000000) :
    Calls Try.prog 10 #[.pointer (some ⟨p, 0, none⟩), .int .i64 i, .int .i64 k] w fun e w' => ∃ v bs', e = .returned (.tuple #[v, .int .i64 0]) ∧ OB w' w.heap.size v ((innN st i).getD k []) ∧ NetAt w' p (st.set i ((innN st i).eraseIdx k, seenN st i ++ [(innN st i).getD k []])) bs' ∧ NEff w w' bs bs' ∧ (∀ q, v.ownBlock = some q → ¬ bs' q) := by
  obtain ⟨xs, rfl, h⟩ := h
  rw [List.length_map] at hi
  rw [seenN_map hi, List.length_map] at hsn
  rw [innN_map hi, List.length_map] at hk
  rw [innN_map hi, seenN_map hi]
  obtain ⟨g, cap, iv, ⟨c0, c1, f1, hgl⟩, hr, hig, hmsg, hbg, hz3, hset⟩ := h.setIn hi
  have hlm : (xs[i].inn.map msgC).length = xs[i].inn.length := List.length_map ..
  have hne : xs[i].inn.map msgC ≠ [] := fun e => by rw [e] at hlm; simp at hlm; omega
  obtain ⟨gi, ic, rfl, hz5, hgil, hnc, hic⟩ := hr.shape hne
  rw [hlm] at *
  have hgi : gi ≠ g := fun e => hig (by rw [e]; rfl)
  clear hz5 hne
  have hw : wrap64 ((k : Int) + 1) = (k : Int) + 1 := IntWalk.wrap64_in _ (by omega)
  clear hic
  obtain ⟨x, hxd⟩ : ∃ x, x = xs[i].inn[k] := ⟨_, rfl⟩
  have hxm : x ∈ xs[i].inn := by rw [hxd]; exact List.getElem_mem hk
  obtain ⟨hxb, hxl⟩ := hmsg x hxm
  obtain ⟨xv, xl⟩ := x
  obtain ⟨xo, xc, hxv, hq1, hq2, hq3, hq4⟩ := id hxb
  clear hq1 hq2 hq3 hq4
  simp only at hxv
  subst hxv
  have hck : w.cell? ⟨gi, k, none⟩ = some (.slice xo xl.length xc) := by
    have := hr.range (List.length_map ..).symm (i := k) (by rw [List.length_map]; exact hk) 0 (.slice xo xl.length xc) (by rw [List.getElem_map, ← hxd]; rfl)
    rwa [Nat.mul_one, Nat.add_zero] at this
  have hgd : (xs[i].inn.map (·.l)).getD k [] = xl := by
    simp [List.getD, hk, ← hxd]
  rw [hgd]
  obtain ⟨m, hmn⟩ : ∃ m, xs[i].inn.length = k + m + 1 := ⟨xs[i].inn.length - k - 1, by omega⟩
  have hD := fun (w : World) (hr : RW w 0 29 1 (.slice (some ⟨gi, 0, none⟩) xs[i].inn.length ic) (xs[i].inn.map msgC)) => ndelete_any k m w (g := gi) (n := xs[i].inn.length) (cap := ic) (rs := xs[i].inn.map msgC) hr (List.length_map ..).symm hmn hnc (by
    intro u hu
    simp only [List.mem_flatten, List.mem_map] at hu
    obtain ⟨l, ⟨y, hy, rfl⟩, hu⟩ := hu
    obtain ⟨_, _, e, _⟩ := (hmsg y hy).1
    rw [List.mem_singleton.1 hu, e]; rfl)
  have hM := nmessage_ok (p := p) i (k : Int) w c0 c1 hi
  rw [if_pos (by omega)] at hM
  have hk1 : (0 : Int) ≤ k := Int.natCast_nonneg _
  have hk2 : (k : Int) < xs[i].inn.length := by omega
  have HXD := Lib.hid hxm
  have HMN := Lib.hid hmn
  clear hlm hgd hxd hmn hxm hmsg hz3 hk
  go_enter Try.func10, Try.ntmps10
  go_wp2_with fail
  refine hM.mono ?_
  rintro e w1 ⟨rfl, rfl⟩
  clear hM
  go_wp2_with fail
  rw [hw]
  refine (hD w hr).mono ?_
  rintro e w2 ⟨rfl, hr2, ho2⟩
  have hlt : (xs[i].inn.map msgC).take k ++ (xs[i].inn.map msgC).drop (k + 1) = (xs[i].inn.eraseIdx k).map msgC := by
    rw [List.eraseIdx_eq_take_drop_succ, List.map_append, List.map_take, List.map_drop]
  rw [hlt] at hr2
  have c1' := (ho2.cell (p := ⟨g, i * 2, none⟩) hgl (fun e => hgi e.symm)).trans c1
  have f1' := (ho2.frozen (p := ⟨g, i * 2, none⟩) hgl (fun e => hgi e.symm)).trans f1
  obtain ⟨bs1, hN1, hE1, hP1⟩ := hset w2 (.slice (some ⟨gi, 0, none⟩) (k + m) ic) (xs[i].inn.eraseIdx k) (⟨.slice xo xl.length xc, xl⟩ :: xs[i].held) (ho2.mono (fun q _ e => by rw [e]; rfl)) hr2 (.inl rfl) (fun x hx => by
    rcases List.mem_cons.1 hx with rfl | hx
    · exact .inl HXD.out
    · exact .inr (.inr hx)) (fun x hx => .inl (.inl (List.mem_of_mem_eraseIdx hx)))
  have HW := hE1.only.size
  generalize hxs1 : xs.set i { xs[i] with inn := xs[i].inn.eraseIdx k, held := ⟨.slice xo xl.length xc, xl⟩ :: xs[i].held } = xs1 at hN1
  have hl1 : xs1.length = xs.length := by rw [← hxs1, List.length_set]
  have hi1 : i < xs1.length := by rw [hl1]; exact hi
  have hx1 : xs1[i] = { xs[i] with inn := xs[i].inn.eraseIdx k, held := ⟨.slice xo xl.length xc, xl⟩ :: xs[i].held } := by subst hxs1; exact List.getElem_set_self _
  obtain ⟨g', cap', iv, ⟨d0, d1, e1, hgl'⟩, hrs, hig', hmsg', hbg', hz3', hset'⟩ := hN1.setSeen hi1
  have hgg : g' = g := by rw [hP1, c0] at d0; exact (by simpa using d0.symm : g' = g ∧ _).1
  subst hgg
  have hs1 : xs1[i].seen = xs[i].seen := by rw [hx1]
  obtain ⟨so, sc, rfl, hz5, hz6, hz7⟩ := hrs.val
  have hsl : (xs1[i].seen.map msgC).length = xs[i].seen.length := by rw [List.length_map, hs1]
  have hlm2 : (xs1[i].seen.map msgC).length + 1 ≤ 100000000 := by rw [hsl]; omega
  rw [hsl] at d1 hrs hig' hset'
  clear hz5 hz6 hz7 hP1 d0 hz3' hmsg' hlt hr2 ho2 hset hD hr
  have HX1 := Lib.hid hx1
  have HL1 := Lib.hid hl1
  have HS1 := Lib.hid hs1
  have HXS := Lib.hid hxs1
  clear hx1 hl1 hs1 hxs1 hsl
  obtain ⟨it, z, hti, htz, hzc, hsz, hby⟩ := Try.msg_parts
  go_upto_region 6 with (fail)
  generalize w2.setCell ⟨g', i * 2, none⟩ (.slice (some ⟨gi, 0, none⟩) (k + m) ic) = w3 at *
  have hA : Below w3.heap.size w3 (w3.alloc (.cells #[.slice xo xl.length xc] 29)) := (Below.refl _ _).alloc (Nat.le_refl _) _
  have hrA := hrs.keep hA
  have d1A := (hA.cell (p := ⟨g', i * 2 + 1, none⟩) hgl').trans d1
  have e1A := (hA.frozen (p := ⟨g', i * 2 + 1, none⟩) hgl').trans e1
  have hsrcA : RW (w3.alloc (.cells #[.slice xo xl.length xc] 29)) 0 29 1 (.slice (some ⟨w3.heap.size, 0, none⟩) 1 1) [[.slice xo xl.length xc]] := ⟨World.ownsRow_lit _ _ 1 (Nat.zero_le _) (by unfold maxLen; omega) rfl, by intro q hq; rw [List.mem_singleton.1 hq]; rfl⟩
  have hgl3 := Nat.lt_of_lt_of_le hgl' hA.size
  have HHA := Lib.hid hA
  clear hA
  go_wp2_with (at_builtin; refine wp_apprs rfl _ _ 35 rfl it z Try.underlying35 hti htz hsz hby hzc (by omega) hrA hsrcA rfl (by intro u hu; simp at hu; subst hu; rfl) hlm2 (Nat.zero_le _) (by rfl) (by rfl) ?_)
  intro v4 w4 hr4 hg4 hn4 hnil4
  obtain ⟨ao4, cap4, rfl, hy1, hy2, hy3⟩ := id hr4.val
  clear hy1 hy2 hy3 hnil4
  have d4 := hg4.cell d1A (fun e => hig' e.symm)
  have f4 : w4.frozen? ⟨g', i * 2 + 1, none⟩ = false := (World.frozen?_of_block (hg4.block g' hgl3 (fun e => hig' e.symm))).trans e1A
  obtain ⟨bs2, hN2, hE2, hP2⟩ := hset' w4 _ (xs1[i].seen ++ [⟨.slice xo xl.length xc, xl⟩]) xs1[i].held (((Only.of_below (S := fun q => (Value.slice so xs[i].seen.length sc).ownBlock = some q) HHA.out).trans (Only.of_grown (S := fun q => (Value.slice so xs[i].seen.length sc).ownBlock = some q) hg4 (fun q hq => hq)) (fun _ _ h => h))) (by rw [List.map_append]; exact hr4) (by
    rcases hn4 with e | e
    · exact .inl e
    · exact .inr (.inr ⟨_, e, Nat.le_succ _⟩)) (fun x hx => .inr (.inr hx)) (fun x hx => by
    rcases List.mem_append.1 hx with hx | hx
    · exact .inl (.inr (.inl hx))
    · rw [List.mem_singleton.1 hx]; refine .inl (.inr (.inr ?_)); rw [HX1.out]; exact List.mem_cons_self)
  have hlx : (List.map msgC xs1[i].seen ++ [[Value.slice xo xl.length xc]]).length = xs[i].seen.length + 1 := by rw [List.length_append, List.length_map, HS1.out]; rfl
  rw [hlx] at hN2 hE2
  clear hP2 hset' hr4 hg4 hn4 hrA hsrcA d1A e1A
  have hi2 : i < (xs1.set i { xs1[i] with seen := xs1[i].seen ++ [⟨.slice xo xl.length xc, xl⟩], held := xs1[i].held }).length := by rw [List.length_set]; exact hi1
  have hst : (xs1.set i { xs1[i] with seen := xs1[i].seen ++ [⟨.slice xo xl.length xc, xl⟩], held := xs1[i].held }).map BoxD.txt = (xs.map BoxD.txt).set i ((xs[i].inn.map (·.l)).eraseIdx k, xs[i].seen.map (·.l) ++ [xl]) := by
    have h3 := congrArg (List.map BoxD.txt) HXS.out
    rw [List.map_set, ← h3, List.map_set, List.set_set]
    congr 1
    have h1 := HX1.out
    have h2 := HS1.out
    simp only [BoxD.txt, h2, List.map_append, List.map_cons, List.map_nil, Prod.mk.injEq, and_true]
    rw [h1]
    simp only [List.eraseIdx_eq_take_drop_succ, List.map_append, List.map_take, List.map_drop]
  have hbm : Bsl (w4.setCell ⟨g', i * 2 + 1, none⟩ (.slice ao4 (xs[i].seen.length + 1) cap4)) (.slice xo xl.length xc) xl := by
    obtain ⟨_, _, _, _, _, _, hm, _⟩ := hN2.setSeen hi2
    exact (hm ⟨.slice xo xl.length xc, xl⟩ (by rw [List.getElem_set_self]; exact List.mem_append_right _ (List.mem_singleton.2 rfl))).1
  have HE := Lib.hid (hE1.trans hE2)
  have HN := Lib.hid hN2
  have HST := Lib.hid hst
  clear hN2 hst hi2 hE2 hE1 hN1
  rw [show (List.map msgC xs1[i].seen ++ [[Value.slice xo xl.length xc]]).length = xs[i].seen.length + 1 from hlx]
  clear hlx
  go_upto_region 7 with (fail)
  generalize w4.setCell ⟨g', i * 2 + 1, none⟩ (.slice ao4 (xs[i].seen.length + 1) cap4) = w5 at *
  have hl5 := HN.out.lt
  go_wp2_with fail
  refine (bclone_any _ xl _ hbm (by omega)).mono ?_
  rintro e w6 ⟨v, rfl, hv, hB⟩
  have hE6 : NEff w w6 bs bs2 := HE.out.trans ⟨Only.of_below hB, fun k h => .inl h⟩
  have HV := Lib.hid hv
  have HB := Lib.hid hB
  have HE6 := Lib.hid hE6
  clear hv hB hE6
  go_wp2_with fail
  go_ret2
  exact ⟨v, bs2, rfl, HV.out.mono HE.out.only.size, ⟨_, HST.out.symm, HN.out.keep HB.out⟩, HE6.out, fun q hq hb => by have := hl5 q hb; have := HV.out.own_ge q hq; omega⟩
end Go.Proofs.Ytbflffanahnofaa
