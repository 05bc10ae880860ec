/- slices.Delete of one message. -/
import Derived.Test.YtbflffanahnofaaNetNew
import Derived.Deep.RegionLaw
namespace Go.Proofs.Ytbflffanahnofaa
open Go.RowKit
theorem RW.front {w : World} {base : Nat} {e : TypeId} {sz g n cap i : Nat} {rs : List (List Value)} (h : RW w base e sz (.slice (some ⟨g, 0, none⟩) n cap) rs) (hn : n = rs.length) (hi : i ≤ n) : RW w base e sz (.slice (some ⟨g, 0, none⟩) i cap) (rs.take i) := by
  subst hn
  have hev : Even sz (rs.take i) := fun r hr => h.2 r (List.mem_of_mem_take hr)
  have hl : (rs.take i).length = i := by rw [List.length_take]; omega
  refine ⟨?_, hev⟩
  rw [hl]
  obtain ⟨h1, h2⟩ := h.1
  refine ⟨by rw [hev.flat, hl], .inr ?_⟩
  rcases h2 with ⟨h2, _⟩ | ⟨g', cap', cur, hv, hb, hg, hnc, hcm, hcs, ht⟩
  · cases h2
  · simp only [Value.slice.injEq, Option.some.injEq, Addr.mk.injEq, and_true, true_and] at hv
    obtain ⟨rfl, rfl⟩ := hv
    refine ⟨g, cap, cur, rfl, hb, hg, by omega, hcm, hcs, ?_⟩
    have hle : i * sz ≤ rs.length * sz := Nat.mul_le_mul_right _ hi
    rw [show cur.toList.take (i * sz) = (cur.toList.take (rs.length * sz)).take (i * sz) by rw [List.take_take, Nat.min_eq_left hle], ht]
    have h3 : rs.flatten = (rs.take i).flatten ++ (rs.drop i).flatten := by rw [← List.flatten_append, List.take_append_drop]
    rw [h3, List.take_left' (by rw [hev.flat, hl])]
theorem step_appfits {w : World} {ops : Array Oper} {o : Oper} {a : Act} {K : Act → World → Prop} {Q : Exit → Act → World → Prop} {E : Prop} (hgd : o.guard = none) (s x : Operand) (t : TypeId)
    (ho : o.op = .call { callee := .builtin .append, args := #[s, x], argTypes := #[t, t] })
    {base : Nat} {e : TypeId} {sz g n cap : Nat} {rs ns : List (List Value)} (i : TypeInfo) (ht : Try.prog.underlying t = some (.slice e)) (hi : Try.prog.info? e = some i) (hsz : i.size = sz)
    (h : RW w base e sz (.slice (some ⟨g, 0, none⟩) n cap) rs) (hn : n = rs.length) {ad : Addr} {m c : Nat} (hev : Even sz ns) (hm : m = ns.length) (hnews : ∀ j u, ns.flatten[j]? = some u → w.cell? (ad.add j) = some u) (h1 : ∀ u ∈ ns.flatten, u.oneCell' = true)
    (hroom : n + m ≤ cap) (hes : a.eval s = .slice (some ⟨g, 0, none⟩) n cap) (hx : a.eval x = .slice (some ad) m c)
    (hK : ∀ w', RW w' base e sz (.slice (some ⟨g, 0, none⟩) (n + m) cap) (rs ++ ns) → w.grownBy w' (some g) → K (a.put o.dst (.slice (some ⟨g, 0, none⟩) (n + m) cap)) w') :
    if Region.wanted o (yielded ops a.tmps) = true then Oper.wp Try.prog o a w K Q else E := by
  have hw : Region.wanted o (yielded ops a.tmps) = true := by simp [Region.wanted, hgd]
  rw [if_pos hw]
  have o1 := h.1
  rw [← hn] at o1
  obtain ⟨w', hrun, k1, k2⟩ := run_append_fits (P := Try.prog) w base t o.type e i sz ht hi hsz g n cap rs.flatten o1 ad m c ns.flatten (by rw [hev.flat, hm]) hnews h1 hroom
  unfold Oper.wp execOp
  simp only [ho, resolve, invoke, builtin, Sem.run_bind, Sem.run_pure, Result.andThen_ok, List.map_toArray, List.map_cons, List.map_nil, hes, hx, hrun]
  refine hK w' ⟨?_, ?_⟩ k2
  · rw [List.length_append, ← hn, ← hm, List.flatten_append]; exact k1
  · intro q hq
    rcases List.mem_append.1 hq with hq | hq
    · exact h.2 q hq
    · exact hev q hq
theorem Try.zero_msg0 : (Try.prog.info? 29).map (fun i => i.zero) = some (some (.slice none 0 0)) := by kernel_rfl
theorem Try.zero_msg (w : World) : (zeroValue 29).run Try.prog w = .ok (.slice none 0 0) w := by
  have h := Try.zero_msg0
  cases hi : Try.prog.info? 29 with
  | none => rw [hi] at h; cases h
  | some i =>
    rw [hi] at h
    have hz : i.zero = some (.slice none 0 0) := by simpa using h
    unfold zeroValue
    rw [Sem.run_bind, run_typeInfo w hi]
    simp only [Result.andThen_ok, hz]
    rfl
set_option maxRecDepth 100000 in
set_option maxHeartbeats 1000000 in
theorem ndelete_any (i m : Nat) (w : World) {g n cap : Nat} {rs : List (List Value)} (h : RW w 0 29 1 (.slice (some ⟨g, 0, none⟩) n cap) rs) (hn : n = rs.length) (him : n = i + m + 1) (hcap : n ≤ cap) (h1 : ∀ u ∈ rs.flatten, u.oneCell' = true) :
    Calls Try.prog 22 #[.slice (some ⟨g, 0, none⟩) n cap, .int .i64 i, .int .i64 ((i : Int) + 1)] w fun e w' => e = .returned (.slice (some ⟨g, 0, none⟩) (i + m) cap) ∧ RW w' 0 29 1 (.slice (some ⟨g, 0, none⟩) (i + m) cap) (rs.take i ++ rs.drop (i + 1)) ∧ Only (· = g) w w' := by
  obtain ⟨it, z, hi, hz, hzc, hsz, hby⟩ := Try.msg_parts
  have hpre := (h.front hn (show i ≤ n by omega)).drew
  have hi0 : (0 : Int) ≤ (i : Int) := Int.natCast_nonneg _
  have hi1 : (i : Int) + 1 ≤ n := by omega
  have hi2 : (n : Int) ≤ cap := by omega
  have hi3 : ¬ ((i : Int) = (i : Int) + 1) := by omega
  have hi4 : (i : Int) ≤ cap := by omega
  have hi5 : (i : Int) + 1 ≤ cap := by omega
  have hi6 : (0 : Int) ≤ (i : Int) + 1 := by omega
  have HN := Lib.hid hn
  have HI := Lib.hid him
  clear hn him
  go_enter Try.func22, Try.ntmps22
  go_wp2_with fail
  obtain ⟨q, hqn⟩ : ∃ q, n = q + 1 := ⟨i + m, by have := HI.out; omega⟩
  have hq : i + (n - (i + 1)) = q := by have := HI.out; omega
  have hev : Even 1 (rs.drop (i + 1)) := fun r hr => h.2 r (List.mem_of_mem_drop hr)
  have hml : n - (i + 1) = (rs.drop (i + 1)).length := by rw [List.length_drop, ← HN.out]
  have hfr : rs.flatten = (rs.take (i + 1)).flatten ++ (rs.drop (i + 1)).flatten := by rw [← List.flatten_append, List.take_append_drop]
  have hft : (rs.take (i + 1)).flatten.length = i + 1 := by
    have hevt : Even 1 (rs.take (i + 1)) := fun r hr => h.2 r (List.mem_of_mem_take hr)
    rw [hevt.flat, List.length_take, Nat.mul_one, ← HN.out]; omega
  have hcells : ∀ j u, (rs.drop (i + 1)).flatten[j]? = some u → w.drew.cell? ((⟨g, i + 1, none⟩ : Addr).add j) = some u := by
    intro j u hu
    have hj : j < (rs.drop (i + 1)).flatten.length := (List.getElem?_eq_some_iff.1 hu).1
    rw [hev.flat, Nat.mul_one, ← hml] at hj
    rw [Addr.add_mid]
    have o1 := h.1
    rw [← HN.out] at o1
    have := World.ownsRow.cellAt o1 (i + 1 + j) (by omega)
    show w.cell? _ = _
    rw [this, hfr, List.getElem?_append_right (by omega), hft, Nat.add_sub_cancel_left, hu]
  have hone : ∀ u ∈ (rs.drop (i + 1)).flatten, u.oneCell' = true := fun u hu => h1 u (by rw [hfr]; exact List.mem_append_right _ hu)
  have hlen : i = (rs.take i).length := by rw [List.length_take, ← HN.out]; omega
  have HQN := Lib.hid hqn
  have HML := Lib.hid hml
  have HLN := Lib.hid hlen
  clear hqn hfr hft hml hlen
  by_cases hci : cap = i + 1
  all_goals
    first
    | (have hci2 : cap - (i + 1) = 0 := by omega
       have hcell0 : ∀ j u, (rs.drop (i + 1)).flatten[j]? = some u → w.drew.cell? ((⟨g, 0, none⟩ : Addr).add j) = some u := by
         intro j u hu
         have hj : j < (rs.drop (i + 1)).flatten.length := (List.getElem?_eq_some_iff.1 hu).1
         rw [hev.flat, ← HML.out] at hj
         omega
       have hce : ∀ x y : Option Addr, (if cap = i + 1 then x else y) = x := fun x y => if_pos hci
       clear hci
       go_region_law (first
         | (refine step_appfits rfl _ _ 35 rfl it Try.underlying35 hi hsz hpre HLN.out hev HML.out hcell0 hone (by omega) (by rfl) (by rfl) ?_; intro w3 hr3 hg3; rw [hq] at hr3 ⊢)))
    | (have hci2 : ¬ cap - (i + 1) = 0 := by omega
       go_region_law (first
         | (refine step_appfits rfl _ _ 35 rfl it Try.underlying35 hi hsz hpre HLN.out hev HML.out hcells hone (by omega) (by rfl) (by rfl) ?_; intro w3 hr3 hg3; rw [hq] at hr3 ⊢)))
  all_goals
    have hqn := HQN.out
    have hq1 : (q : Int) ≤ n := by omega
    have hq2 : ¬ cap - q = 0 := by omega
    have hq3 : (q : Int) ≤ cap := by omega
    have hq0 : (0 : Int) ≤ (q : Int) := Int.natCast_nonneg _
    have hqm : q = i + m := by have := HI.out; omega
    have hnq : n - q = 1 := by omega
    have hsome : (w3.cell? ⟨g, q, none⟩).isSome = true := by
      obtain ⟨_, h2⟩ := hr3.1
      rcases h2 with ⟨h2, _⟩ | ⟨g', cap', cur, hv, hb, hg, hnc, hcm2, hcs, ht⟩
      · cases h2
      · simp only [Value.slice.injEq, Option.some.injEq, Addr.mk.injEq, and_true] at hv
        obtain ⟨hgg, _, hcc⟩ := hv
        subst hgg
        have hql : q < cur.size := by rw [hcs]; omega
        simp [World.cell?, hg, hql]
    have hcl1 : ∀ j, j < n - q → (w3.cell? ⟨g, q + j, none⟩).isSome = true := by
      intro j hj
      have : j = 0 := by omega
      subst this
      exact hsome
    have h7 : (rs.take i ++ rs.drop (i + 1)).length = q := by rw [List.length_append, ← HLN.out, ← HML.out]; omega
    have hr3o := hr3.1
    rw [h7] at hr3o
    have hclr : ∀ ty, (Builtin.clear_ #[35] ty #[.slice (some ⟨g, q, none⟩) (n - q) (cap - q)]).run Try.prog w3 = .ok (.tuple #[]) (w3.setCells g q (List.replicate (n - q) (.slice none 0 0))) := fun ty =>
      Lib.run_clear_slice w3 _ _ ty (.slice none 0 0) Try.underlying35 Try.zero_msg rfl rfl g q _ _ (by omega) hcl1 (fun j hj => World.ownsRow.frozenAt hr3o _)
    have hon : Only (· = g) w (w3.setCells g q (List.replicate (n - q) (.slice none 0 0))) := Only.setCells (S := (· = g)) rfl _ _ ((Only.of_grown (S := (· = g)) hg3 (fun k hk => by cases hk; rfl)).of_drew)
    have hrf : RW (w3.setCells g q (List.replicate (n - q) (.slice none 0 0))) 0 29 1 (.slice (some ⟨g, 0, none⟩) q cap) (rs.take i ++ rs.drop (i + 1)) := by
      refine ⟨?_, hr3.2⟩
      have h5 := hr3.1
      have h6 : (rs.take i ++ rs.drop (i + 1)).flatten.length = q := by rw [hr3.2.flat, h7, Nat.mul_one]
      rw [h7] at h5 ⊢
      have := ownsRow_setCells (List.replicate (n - q) (.slice none 0 0)) q h5
      rw [hnq] at this ⊢
      simp only [List.replicate_one, setAll] at this ⊢
      rw [List.set_eq_of_length_le (by omega)] at this
      exact this
    have HON := Lib.hid hon
    have HRF := Lib.hid hrf
    have HQM := Lib.hid hqm
    clear hon hrf hqm hr3 hg3 hcells hone hpre hnq hsome hqn hcl1 h7 hq hev hr3o
    go_wp2_with fail
    go_ret
    exact ⟨by rw [← HQM.out]; rfl, by rw [← HQM.out]; exact HRF.out, HON.out⟩
end Go.Proofs.Ytbflffanahnofaa
