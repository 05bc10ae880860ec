/- slices.Delete of one message; (*net.Net).Take: the walks. -/
import Derived.Test.YtjhocaleampamaaDoorNetNew
import Derived.Deep.RegionLaw
import Derived.Deep.DeepCutAuto
/- slices.Delete of one message. -/
namespace Go.Proofs.YtjhocaleampamaaDoor
open Go.RowKit
theorem RW.front {w : World} {base : Nat} {e : TypeId} {sz g n cap i : Nat} {rs : List (List Value)} (h : RW w base e sz (.slice (some ⟨g, 0, none⟩) n cap) rs) (hn : n = rs.length) (hi : i ≤ n) : RW w base e sz (.slice (some ⟨g, 0, none⟩) i cap) (rs.take i) := by
  subst hn
  have hev : Even sz (rs.take i) := fun r hr => h.2 r (List.mem_of_mem_take hr)
  have hl : (rs.take i).length = i := by rw [List.length_take]; omega
  refine ⟨?_, hev⟩
  rw [hl]
  obtain ⟨h1, h2⟩ := h.1
  refine ⟨by rw [hev.flat, hl], .inr ?_⟩
  rcases h2 with ⟨h2, _⟩ | ⟨g', cap', cur, hv, hb, hg, hnc, hcm, hcs, ht⟩
  · cases h2
  · simp only [Value.slice.injEq, Option.some.injEq, Addr.mk.injEq, and_true, true_and] at hv
    obtain ⟨rfl, rfl⟩ := hv
    refine ⟨g, cap, cur, rfl, hb, hg, by omega, hcm, hcs, ?_⟩
    have hle : i * sz ≤ rs.length * sz := Nat.mul_le_mul_right _ hi
    rw [show cur.toList.take (i * sz) = (cur.toList.take (rs.length * sz)).take (i * sz) by rw [List.take_take, Nat.min_eq_left hle], ht]
    have h3 : rs.flatten = (rs.take i).flatten ++ (rs.drop i).flatten := by rw [← List.flatten_append, List.take_append_drop]
    rw [h3, List.take_left' (by rw [hev.flat, hl])]
theorem step_appfits {w : World} {ops : Array Oper} {o : Oper} {a : Act} {K : Act → World → Prop} {Q : Exit → Act → World → Prop} {E : Prop} (hgd : o.guard = none) (s x : Operand) (t : TypeId)
    (ho : o.op = .call { callee := .builtin .append, args := #[s, x], argTypes := #[t, t] })
    {base : Nat} {e : TypeId} {sz g n cap : Nat} {rs ns : List (List Value)} (i : TypeInfo) (ht : Tryd.prog.underlying t = some (.slice e)) (hi : Tryd.prog.info? e = some i) (hsz : i.size = sz)
    (h : RW w base e sz (.slice (some ⟨g, 0, none⟩) n cap) rs) (hn : n = rs.length) {ad : Addr} {m c : Nat} (hev : Even sz ns) (hm : m = ns.length) (hnews : ∀ j u, ns.flatten[j]? = some u → w.cell? (ad.add j) = some u) (h1 : ∀ u ∈ ns.flatten, u.oneCell' = true)
    (hroom : n + m ≤ cap) (hes : a.eval s = .slice (some ⟨g, 0, none⟩) n cap) (hx : a.eval x = .slice (some ad) m c)
    (hK : ∀ w', RW w' base e sz (.slice (some ⟨g, 0, none⟩) (n + m) cap) (rs ++ ns) → w.grownBy w' (some g) → K (a.put o.dst (.slice (some ⟨g, 0, none⟩) (n + m) cap)) w') :
    if Region.wanted o (yielded ops a.tmps) = true then Oper.wp Tryd.prog o a w K Q else E := by
  have hw : Region.wanted o (yielded ops a.tmps) = true := by simp [Region.wanted, hgd]
  rw [if_pos hw]
  have o1 := h.1
  rw [← hn] at o1
  obtain ⟨w', hrun, k1, k2⟩ := run_append_fits (P := Tryd.prog) w base t o.type e i sz ht hi hsz g n cap rs.flatten o1 ad m c ns.flatten (by rw [hev.flat, hm]) hnews h1 hroom
  unfold Oper.wp execOp
  simp only [ho, resolve, invoke, builtin, Sem.run_bind, Sem.run_pure, Result.andThen_ok, List.map_toArray, List.map_cons, List.map_nil, hes, hx, hrun]
  refine hK w' ⟨?_, ?_⟩ k2
  · rw [List.length_append, ← hn, ← hm, List.flatten_append]; exact k1
  · intro q hq
    rcases List.mem_append.1 hq with hq | hq
    · exact h.2 q hq
    · exact hev q hq
theorem Tryd.zero_msg0 : (Tryd.prog.info? 39).map (fun i => i.zero) = some (some (.slice none 0 0)) := by kernel_rfl
theorem Tryd.zero_msg (w : World) : (zeroValue 39).run Tryd.prog w = .ok (.slice none 0 0) w := by
  have h := Tryd.zero_msg0
  cases hi : Tryd.prog.info? 39 with
  | none => rw [hi] at h; cases h
  | some i =>
    rw [hi] at h
    have hz : i.zero = some (.slice none 0 0) := by simpa using h
    unfold zeroValue
    rw [Sem.run_bind, run_typeInfo w hi]
    simp only [Result.andThen_ok, hz]
    rfl
set_option maxRecDepth 100000 in
set_option maxHeartbeats 1000000 in
theorem ndelete_any (i m : Nat) (w : World) {g n cap : Nat} {rs : List (List Value)} (h : RW w 0 39 1 (.slice (some ⟨g, 0, none⟩) n cap) rs) (hn : n = rs.length) (him : n = i + m + 1) (hcap : n ≤ cap) (h1 : ∀ u ∈ rs.flatten, u.oneCell' = true) :
    Calls Tryd.prog 31 #[.slice (some ⟨g, 0, none⟩) n cap, .int .i64 i, .int .i64 ((i : Int) + 1)] w fun e w' => e = .returned (.slice (some ⟨g, 0, none⟩) (i + m) cap) ∧ RW w' 0 39 1 (.slice (some ⟨g, 0, none⟩) (i + m) cap) (rs.take i ++ rs.drop (i + 1)) ∧ Only (· = g) w w' := by
  obtain ⟨it, z, hi, hz, hzc, hsz, hby⟩ := Tryd.msg_parts
  have hpre := (h.front hn (show i ≤ n by omega)).drew
  have hi0 : (0 : Int) ≤ (i : Int) := Int.natCast_nonneg _
  have hi1 : (i : Int) + 1 ≤ n := by omega
  have hi2 : (n : Int) ≤ cap := by omega
  have hi3 : ¬ ((i : Int) = (i : Int) + 1) := by omega
  have hi4 : (i : Int) ≤ cap := by omega
  have hi5 : (i : Int) + 1 ≤ cap := by omega
  have hi6 : (0 : Int) ≤ (i : Int) + 1 := by omega
  have HN := Lib.hid hn
  have HI := Lib.hid him
  clear hn him
  go_enter Tryd.func31, Tryd.ntmps31
  go_wp2_with fail
  obtain ⟨q, hqn⟩ : ∃ q, n = q + 1 := ⟨i + m, by have := HI.out; omega⟩
  have hq : i + (n - (i + 1)) = q := by have := HI.out; omega
  have hev : Even 1 (rs.drop (i + 1)) := fun r hr => h.2 r (List.mem_of_mem_drop hr)
  have hml : n - (i + 1) = (rs.drop (i + 1)).length := by rw [List.length_drop, ← HN.out]
  have hfr : rs.flatten = (rs.take (i + 1)).flatten ++ (rs.drop (i + 1)).flatten := by rw [← List.flatten_append, List.take_append_drop]
  have hft : (rs.take (i + 1)).flatten.length = i + 1 := by
    have hevt : Even 1 (rs.take (i + 1)) := fun r hr => h.2 r (List.mem_of_mem_take hr)
    rw [hevt.flat, List.length_take, Nat.mul_one, ← HN.out]; omega
  have hcells : ∀ j u, (rs.drop (i + 1)).flatten[j]? = some u → w.drew.cell? ((⟨g, i + 1, none⟩ : Addr).add j) = some u := by
    intro j u hu
    have hj : j < (rs.drop (i + 1)).flatten.length := (List.getElem?_eq_some_iff.1 hu).1
    rw [hev.flat, Nat.mul_one, ← hml] at hj
    rw [Addr.add_mid]
    have o1 := h.1
    rw [← HN.out] at o1
    have := World.ownsRow.cellAt o1 (i + 1 + j) (by omega)
    show w.cell? _ = _
    rw [this, hfr, List.getElem?_append_right (by omega), hft, Nat.add_sub_cancel_left, hu]
  have hone : ∀ u ∈ (rs.drop (i + 1)).flatten, u.oneCell' = true := fun u hu => h1 u (by rw [hfr]; exact List.mem_append_right _ hu)
  have hlen : i = (rs.take i).length := by rw [List.length_take, ← HN.out]; omega
  have HQN := Lib.hid hqn
  have HML := Lib.hid hml
  have HLN := Lib.hid hlen
  clear hqn hfr hft hml hlen
  by_cases hci : cap = i + 1
  all_goals
    first
    | (have hci2 : cap - (i + 1) = 0 := by omega
       have hcell0 : ∀ j u, (rs.drop (i + 1)).flatten[j]? = some u → w.drew.cell? ((⟨g, 0, none⟩ : Addr).add j) = some u := by
         intro j u hu
         have hj : j < (rs.drop (i + 1)).flatten.length := (List.getElem?_eq_some_iff.1 hu).1
         rw [hev.flat, ← HML.out] at hj
         omega
       have hce : ∀ x y : Option Addr, (if cap = i + 1 then x else y) = x := fun x y => if_pos hci
       clear hci
       go_region_law (first
         | (refine step_appfits rfl _ _ 85 rfl it Tryd.underlying85 hi hsz hpre HLN.out hev HML.out hcell0 hone (by omega) (by rfl) (by rfl) ?_; intro w3 hr3 hg3; rw [hq] at hr3 ⊢)))
    | (have hci2 : ¬ cap - (i + 1) = 0 := by omega
       go_region_law (first
         | (refine step_appfits rfl _ _ 85 rfl it Tryd.underlying85 hi hsz hpre HLN.out hev HML.out hcells hone (by omega) (by rfl) (by rfl) ?_; intro w3 hr3 hg3; rw [hq] at hr3 ⊢)))
  all_goals
    have hqn := HQN.out
    have hq1 : (q : Int) ≤ n := by omega
    have hq2 : ¬ cap - q = 0 := by omega
    have hq3 : (q : Int) ≤ cap := by omega
    have hq0 : (0 : Int) ≤ (q : Int) := Int.natCast_nonneg _
    have hqm : q = i + m := by have := HI.out; omega
    have hnq : n - q = 1 := by omega
    have hsome : (w3.cell? ⟨g, q, none⟩).isSome = true := by
      obtain ⟨_, h2⟩ := hr3.1
      rcases h2 with ⟨h2, _⟩ | ⟨g', cap', cur, hv, hb, hg, hnc, hcm2, hcs, ht⟩
      · cases h2
      · simp only [Value.slice.injEq, Option.some.injEq, Addr.mk.injEq, and_true] at hv
        obtain ⟨hgg, _, hcc⟩ := hv
        subst hgg
        have hql : q < cur.size := by rw [hcs]; omega
        simp [World.cell?, hg, hql]
    have hcl1 : ∀ j, j < n - q → (w3.cell? ⟨g, q + j, none⟩).isSome = true := by
      intro j hj
      have : j = 0 := by omega
      subst this
      exact hsome
    have h7 : (rs.take i ++ rs.drop (i + 1)).length = q := by rw [List.length_append, ← HLN.out, ← HML.out]; omega
    have hr3o := hr3.1
    rw [h7] at hr3o
    have hclr : ∀ ty, (Builtin.clear_ #[85] ty #[.slice (some ⟨g, q, none⟩) (n - q) (cap - q)]).run Tryd.prog w3 = .ok (.tuple #[]) (w3.setCells g q (List.replicate (n - q) (.slice none 0 0))) := fun ty =>
      Lib.run_clear_slice w3 _ _ ty (.slice none 0 0) Tryd.underlying85 Tryd.zero_msg rfl rfl g q _ _ (by omega) hcl1 (fun j hj => World.ownsRow.frozenAt hr3o _)
    have hon : Only (· = g) w (w3.setCells g q (List.replicate (n - q) (.slice none 0 0))) := Only.setCells (S := (· = g)) rfl _ _ ((Only.of_grown (S := (· = g)) hg3 (fun k hk => by cases hk; rfl)).of_drew)
    have hrf : RW (w3.setCells g q (List.replicate (n - q) (.slice none 0 0))) 0 39 1 (.slice (some ⟨g, 0, none⟩) q cap) (rs.take i ++ rs.drop (i + 1)) := by
      refine ⟨?_, hr3.2⟩
      have h5 := hr3.1
      have h6 : (rs.take i ++ rs.drop (i + 1)).flatten.length = q := by rw [hr3.2.flat, h7, Nat.mul_one]
      rw [h7] at h5 ⊢
      have := ownsRow_setCells (List.replicate (n - q) (.slice none 0 0)) q h5
      rw [hnq] at this ⊢
      simp only [List.replicate_one, setAll] at this ⊢
      rw [List.set_eq_of_length_le (by omega)] at this
      exact this
    have HON := Lib.hid hon
    have HRF := Lib.hid hrf
    have HQM := Lib.hid hqm
    clear hon hrf hqm hr3 hg3 hcells hone hpre hnq hsome hqn hcl1 h7 hq hev hr3o
    go_wp2_with fail
    go_ret
    exact ⟨by rw [← HQM.out]; rfl, by rw [← HQM.out]; exact HRF.out, HON.out⟩
end Go.Proofs.YtjhocaleampamaaDoor
/- net.Net: Take. -/
namespace Go.Proofs.YtjhocaleampamaaDoor
open Go.RowKit
set_option maxRecDepth 100000 in
set_option maxHeartbeats 400000 in
theorem ntake_bad (i k : Int) (w : World) {p : Nat} {st : NSt} {bs : Nat → Prop} (h : NetAt w p st bs) (hi : ¬ (0 ≤ i ∧ i < st.length)) :
    Calls Tryd.prog 11 #[.pointer (some ⟨p, 0, none⟩), .int .i64 i, .int .i64 k] w fun e w' => e = .returned (.tuple #[.slice none 0 0, .int .i64 1]) ∧ w = w' := by
  obtain ⟨xs, rfl, h⟩ := h
  rw [List.length_map] at hi
  go_enter Tryd.func11, Tryd.ntmps11
  go_wp2_with fail
  refine (nmessage_bad i k w h hi).mono ?_
  rintro e w1 ⟨rfl, rfl⟩
  go_wp2_with fail
  go_ret2
  exact ⟨rfl, rfl⟩
set_option maxRecDepth 100000 in
set_option maxHeartbeats 400000 in
theorem ntake_miss (i : Nat) (k : Int) (w : World) {p : Nat} {st : NSt} {bs : Nat → Prop} (h : NetAt w p st bs) (hi : i < st.length) (hk : ¬ (0 ≤ k ∧ k < (innN st i).length)) :
    Calls Tryd.prog 11 #[.pointer (some ⟨p, 0, none⟩), .int .i64 i, .int .i64 k] w fun e w' => e = .returned (.tuple #[.slice none 0 0, .int .i64 7]) ∧ w = w' := by
  obtain ⟨xs, rfl, h⟩ := h
  rw [List.length_map] at hi
  rw [innN_map hi, List.length_map] at hk
  obtain ⟨g, cap, iv, ⟨c0, c1, f1, hgl⟩, hr, hz0, hz1, hz2, hz3, hz4⟩ := h.setIn hi
  obtain ⟨io, ic, rfl, hz5, hz6, hz7⟩ := hr.val
  rw [List.length_map] at c1
  clear hz0 hz1 hz2 hz3 hz4 hz5 hz6 hz7 hr
  have hm := nmessage_ok (p := p) i k w c0 c1 hi
  rw [if_neg hk] at hm
  clear hk
  go_enter Tryd.func11, Tryd.ntmps11
  go_wp2_with fail
  refine hm.mono ?_
  rintro e w1 ⟨rfl, rfl⟩
  go_wp2_with fail
  go_ret2
  exact ⟨rfl, rfl⟩
set_option maxRecDepth 100000 in
set_option maxHeartbeats 1000000 in
theorem ntake_ok (i k : Nat) (w : World) {p : Nat} {st : NSt} {bs : Nat → Prop} (h : NetAt w p st bs) (hi : i < st.length) (hk : k < (innN st i).length) (hsn : (seenN st i).length ≤ 1000000) :
    Calls Tryd.prog 11 #[.pointer (some ⟨p, 0, none⟩), .int .i64 i, .int .i64 k] w fun e w' => ∃ v bs', e = .returned (.tuple #[v, .int .i64 0]) ∧ OB w' w.heap.size v ((innN st i).getD k []) ∧ NetAt w' p (st.set i ((innN st i).eraseIdx k, seenN st i ++ [(innN st i).getD k []])) bs' ∧ NEff w w' bs bs' ∧ (∀ q, v.ownBlock = some q → ¬ bs' q) := by
  obtain ⟨xs, rfl, h⟩ := h
  rw [List.length_map] at hi
  rw [seenN_map hi, List.length_map] at hsn
  rw [innN_map hi, List.length_map] at hk
  rw [innN_map hi, seenN_map hi]
  obtain ⟨g, cap, iv, ⟨c0, c1, f1, hgl⟩, hr, hig, hmsg, hbg, hz3, hset⟩ := h.setIn hi
  have hlm : (xs[i].inn.map msgC).length = xs[i].inn.length := List.length_map ..
  have hne : xs[i].inn.map msgC ≠ [] := fun e => by rw [e] at hlm; simp at hlm; omega
  obtain ⟨gi, ic, rfl, hz5, hgil, hnc, hic⟩ := hr.shape hne
  rw [hlm] at *
  have hgi : gi ≠ g := fun e => hig (by rw [e]; rfl)
  clear hz5 hne
  have hw : wrap64 ((k : Int) + 1) = (k : Int) + 1 := IntWalk.wrap64_in _ (by omega)
  clear hic
  obtain ⟨x, hxd⟩ : ∃ x, x = xs[i].inn[k] := ⟨_, rfl⟩
  have hxm : x ∈ xs[i].inn := by rw [hxd]; exact List.getElem_mem hk
  obtain ⟨hxb, hxl⟩ := hmsg x hxm
  obtain ⟨xv, xl⟩ := x
  obtain ⟨xo, xc, hxv, hq1, hq2, hq3, hq4⟩ := id hxb
  clear hq1 hq2 hq3 hq4
  simp only at hxv
  subst hxv
  have hck : w.cell? ⟨gi, k, none⟩ = some (.slice xo xl.length xc) := by
    have := hr.range (List.length_map ..).symm (i := k) (by rw [List.length_map]; exact hk) 0 (.slice xo xl.length xc) (by rw [List.getElem_map, ← hxd]; rfl)
    rwa [Nat.mul_one, Nat.add_zero] at this
  have hgd : (xs[i].inn.map (·.l)).getD k [] = xl := by
    simp [List.getD, hk, ← hxd]
  rw [hgd]
  obtain ⟨m, hmn⟩ : ∃ m, xs[i].inn.length = k + m + 1 := ⟨xs[i].inn.length - k - 1, by omega⟩
  have hD := fun (w : World) (hr : RW w 0 39 1 (.slice (some ⟨gi, 0, none⟩) xs[i].inn.length ic) (xs[i].inn.map msgC)) => ndelete_any k m w (g := gi) (n := xs[i].inn.length) (cap := ic) (rs := xs[i].inn.map msgC) hr (List.length_map ..).symm hmn hnc (by
    intro u hu
    simp only [List.mem_flatten, List.mem_map] at hu
    obtain ⟨l, ⟨y, hy, rfl⟩, hu⟩ := hu
    obtain ⟨_, _, e, _⟩ := (hmsg y hy).1
    rw [List.mem_singleton.1 hu, e]; rfl)
  have hM := nmessage_ok (p := p) i (k : Int) w c0 c1 hi
  rw [if_pos (by omega)] at hM
  have hk1 : (0 : Int) ≤ k := Int.natCast_nonneg _
  have hk2 : (k : Int) < xs[i].inn.length := by omega
  have HXD := Lib.hid hxm
  have HMN := Lib.hid hmn
  clear hlm hgd hxd hmn hxm hmsg hz3 hk
  go_enter Tryd.func11, Tryd.ntmps11
  go_wp2_with fail
  refine hM.mono ?_
  rintro e w1 ⟨rfl, rfl⟩
  clear hM
  go_wp2_with fail
  rw [hw]
  refine (hD w hr).mono ?_
  rintro e w2 ⟨rfl, hr2, ho2⟩
  have hlt : (xs[i].inn.map msgC).take k ++ (xs[i].inn.map msgC).drop (k + 1) = (xs[i].inn.eraseIdx k).map msgC := by
    rw [List.eraseIdx_eq_take_drop_succ, List.map_append, List.map_take, List.map_drop]
  rw [hlt] at hr2
  have c1' := (ho2.cell (p := ⟨g, i * 2, none⟩) hgl (fun e => hgi e.symm)).trans c1
  have f1' := (ho2.frozen (p := ⟨g, i * 2, none⟩) hgl (fun e => hgi e.symm)).trans f1
  obtain ⟨bs1, hN1, hE1, hP1⟩ := hset w2 (.slice (some ⟨gi, 0, none⟩) (k + m) ic) (xs[i].inn.eraseIdx k) (⟨.slice xo xl.length xc, xl⟩ :: xs[i].held) (ho2.mono (fun q _ e => by rw [e]; rfl)) hr2 (.inl rfl) (fun x hx => by
    rcases List.mem_cons.1 hx with rfl | hx
    · exact .inl HXD.out
    · exact .inr (.inr hx)) (fun x hx => .inl (.inl (List.mem_of_mem_eraseIdx hx)))
  have HW := hE1.only.size
  generalize hxs1 : xs.set i { xs[i] with inn := xs[i].inn.eraseIdx k, held := ⟨.slice xo xl.length xc, xl⟩ :: xs[i].held } = xs1 at hN1
  have hl1 : xs1.length = xs.length := by rw [← hxs1, List.length_set]
  have hi1 : i < xs1.length := by rw [hl1]; exact hi
  have hx1 : xs1[i] = { xs[i] with inn := xs[i].inn.eraseIdx k, held := ⟨.slice xo xl.length xc, xl⟩ :: xs[i].held } := by subst hxs1; exact List.getElem_set_self _
  obtain ⟨g', cap', iv, ⟨d0, d1, e1, hgl'⟩, hrs, hig', hmsg', hbg', hz3', hset'⟩ := hN1.setSeen hi1
  have hgg : g' = g := by rw [hP1, c0] at d0; exact (by simpa using d0.symm : g' = g ∧ _).1
  subst hgg
  have hs1 : xs1[i].seen = xs[i].seen := by rw [hx1]
  obtain ⟨so, sc, rfl, hz5, hz6, hz7⟩ := hrs.val
  have hsl : (xs1[i].seen.map msgC).length = xs[i].seen.length := by rw [List.length_map, hs1]
  have hlm2 : (xs1[i].seen.map msgC).length + 1 ≤ 100000000 := by rw [hsl]; omega
  rw [hsl] at d1 hrs hig' hset'
  clear hz5 hz6 hz7 hP1 d0 hz3' hmsg' hlt hr2 ho2 hset hD hr
  have HX1 := Lib.hid hx1
  have HL1 := Lib.hid hl1
  have HS1 := Lib.hid hs1
  have HXS := Lib.hid hxs1
  clear hx1 hl1 hs1 hxs1 hsl
  obtain ⟨it, z, hti, htz, hzc, hsz, hby⟩ := Tryd.msg_parts
  go_upto_region 6 with (fail)
  generalize w2.setCell ⟨g', i * 2, none⟩ (.slice (some ⟨gi, 0, none⟩) (k + m) ic) = w3 at *
  have hA : Below w3.heap.size w3 (w3.alloc (.cells #[.slice xo xl.length xc] 39)) := (Below.refl _ _).alloc (Nat.le_refl _) _
  have hrA := hrs.keep hA
  have d1A := (hA.cell (p := ⟨g', i * 2 + 1, none⟩) hgl').trans d1
  have e1A := (hA.frozen (p := ⟨g', i * 2 + 1, none⟩) hgl').trans e1
  have hsrcA : RW (w3.alloc (.cells #[.slice xo xl.length xc] 39)) 0 39 1 (.slice (some ⟨w3.heap.size, 0, none⟩) 1 1) [[.slice xo xl.length xc]] := ⟨World.ownsRow_lit _ _ 1 (Nat.zero_le _) (by unfold maxLen; omega) rfl, by intro q hq; rw [List.mem_singleton.1 hq]; rfl⟩
  have hgl3 := Nat.lt_of_lt_of_le hgl' hA.size
  have HHA := Lib.hid hA
  clear hA
  go_wp2_with (at_builtin; refine wp_apprs rfl _ _ 85 rfl it z Tryd.underlying85 hti htz hsz hby hzc (by omega) hrA hsrcA rfl (by intro u hu; simp at hu; subst hu; rfl) hlm2 (Nat.zero_le _) (by rfl) (by rfl) ?_)
  intro v4 w4 hr4 hg4 hn4 hnil4
  obtain ⟨ao4, cap4, rfl, hy1, hy2, hy3⟩ := id hr4.val
  clear hy1 hy2 hy3 hnil4
  have d4 := hg4.cell d1A (fun e => hig' e.symm)
  have f4 : w4.frozen? ⟨g', i * 2 + 1, none⟩ = false := (World.frozen?_of_block (hg4.block g' hgl3 (fun e => hig' e.symm))).trans e1A
  obtain ⟨bs2, hN2, hE2, hP2⟩ := hset' w4 _ (xs1[i].seen ++ [⟨.slice xo xl.length xc, xl⟩]) xs1[i].held (((Only.of_below (S := fun q => (Value.slice so xs[i].seen.length sc).ownBlock = some q) HHA.out).trans (Only.of_grown (S := fun q => (Value.slice so xs[i].seen.length sc).ownBlock = some q) hg4 (fun q hq => hq)) (fun _ _ h => h))) (by rw [List.map_append]; exact hr4) (by
    rcases hn4 with e | e
    · exact .inl e
    · exact .inr (.inr ⟨_, e, Nat.le_succ _⟩)) (fun x hx => .inr (.inr hx)) (fun x hx => by
    rcases List.mem_append.1 hx with hx | hx
    · exact .inl (.inr (.inl hx))
    · rw [List.mem_singleton.1 hx]; refine .inl (.inr (.inr ?_)); rw [HX1.out]; exact List.mem_cons_self)
  have hlx : (List.map msgC xs1[i].seen ++ [[Value.slice xo xl.length xc]]).length = xs[i].seen.length + 1 := by rw [List.length_append, List.length_map, HS1.out]; rfl
  rw [hlx] at hN2 hE2
  clear hP2 hset' hr4 hg4 hn4 hrA hsrcA d1A e1A
  have hi2 : i < (xs1.set i { xs1[i] with seen := xs1[i].seen ++ [⟨.slice xo xl.length xc, xl⟩], held := xs1[i].held }).length := by rw [List.length_set]; exact hi1
  have hst : (xs1.set i { xs1[i] with seen := xs1[i].seen ++ [⟨.slice xo xl.length xc, xl⟩], held := xs1[i].held }).map BoxD.txt = (xs.map BoxD.txt).set i ((xs[i].inn.map (·.l)).eraseIdx k, xs[i].seen.map (·.l) ++ [xl]) := by
    have h3 := congrArg (List.map BoxD.txt) HXS.out
    rw [List.map_set, ← h3, List.map_set, List.set_set]
    congr 1
    have h1 := HX1.out
    have h2 := HS1.out
    simp only [BoxD.txt, h2, List.map_append, List.map_cons, List.map_nil, Prod.mk.injEq, and_true]
    rw [h1]
    simp only [List.eraseIdx_eq_take_drop_succ, List.map_append, List.map_take, List.map_drop]
  have hbm : Bsl (w4.setCell ⟨g', i * 2 + 1, none⟩ (.slice ao4 (xs[i].seen.length + 1) cap4)) (.slice xo xl.length xc) xl := by
    obtain ⟨_, _, _, _, _, _, hm, _⟩ := hN2.setSeen hi2
    exact (hm ⟨.slice xo xl.length xc, xl⟩ (by rw [List.getElem_set_self]; exact List.mem_append_right _ (List.mem_singleton.2 rfl))).1
  have HE := Lib.hid (hE1.trans hE2)
  have HN := Lib.hid hN2
  have HST := Lib.hid hst
  clear hN2 hst hi2 hE2 hE1 hN1
  rw [show (List.map msgC xs1[i].seen ++ [[Value.slice xo xl.length xc]]).length = xs[i].seen.length + 1 from hlx]
  clear hlx
  go_upto_region 7 with (fail)
  generalize w4.setCell ⟨g', i * 2 + 1, none⟩ (.slice ao4 (xs[i].seen.length + 1) cap4) = w5 at *
  have hl5 := HN.out.lt
  go_wp2_with fail
  refine (bclone_any _ xl _ hbm (by omega)).mono ?_
  rintro e w6 ⟨v, rfl, hv, hB⟩
  have hE6 : NEff w w6 bs bs2 := HE.out.trans ⟨Only.of_below hB, fun k h => .inl h⟩
  have HV := Lib.hid hv
  have HB := Lib.hid hB
  have HE6 := Lib.hid hE6
  clear hv hB hE6
  go_wp2_with fail
  go_ret2
  exact ⟨v, bs2, rfl, HV.out.mono HE.out.only.size, ⟨_, HST.out.symm, HN.out.keep HB.out⟩, HE6.out, fun q hq hb => by have := hl5 q hb; have := HV.out.own_ge q hq; omega⟩
end Go.Proofs.YtjhocaleampamaaDoor
