/- disk.Disk: Sync. -/
import Derived.Test.YtbmdcblcefebiaaDiskParts
import Derived.Deep.RegionHeld
import Derived.Deep.RegionHeldLaw
namespace Go.Proofs.Ytbmdcblcefebiaa
open Go.RowKit
theorem run_copyr {w : World} {b1 b2 : Nat} {e t : TypeId} {sz g1 g2 n c1 c2 : Nat} {rs1 rs2 : List (List Value)} (ht : Try.prog.underlying t = some (.slice e)) (hsz : (Try.prog.info? e).map (·.size) = some sz) (ty : TypeId)
    (h1 : RW w b1 e sz (.slice (some ⟨g1, 0, none⟩) n c1) rs1) (h2 : RW w b2 e sz (.slice (some ⟨g2, 0, none⟩) n c2) rs2) (hn1 : n = rs1.length) (hn2 : n = rs2.length) (hone : ∀ u ∈ rs2.flatten, u.oneCell' = true) :
    (Builtin.copy_ #[t, t] ty #[.slice (some ⟨g1, 0, none⟩) n c1, .slice (some ⟨g2, 0, none⟩) n c2]).run Try.prog w = .ok (goInt n) (w.setCells g1 0 rs2.flatten) ∧
    RW (w.setCells g1 0 rs2.flatten) b1 e sz (.slice (some ⟨g1, 0, none⟩) n c1) rs2 := by
  have hl2 : rs2.flatten.length = n * sz := by rw [h2.2.flat, hn2]
  have hl1 : rs1.flatten.length = n * sz := by rw [h1.2.flat, hn1]
  have o1 := h1.1
  have o2 := h2.1
  rw [← hn1] at o1
  rw [← hn2] at o2
  have hc1 : ∀ j, j < n * sz → (w.cell? ⟨g1, j, none⟩).isSome = true := by
    intro j hj
    rw [World.ownsRow.cellAt o1 j hj, List.getElem?_eq_getElem (by omega)]; rfl
  have hc2 : ∀ j v, rs2.flatten[j]? = some v → w.cell? ((⟨g2, 0, none⟩ : Addr).add j) = some v := by
    intro j v hv
    have hj : j < n * sz := by have := (List.getElem?_eq_some_iff.1 hv).1; omega
    rw [Addr.add_mid, Nat.zero_add, World.ownsRow.cellAt o2 j hj]; exact hv
  have hl := run_loadCells_list (P := Try.prog) w ⟨g2, 0, none⟩ rs2.flatten hc2
  have hst := run_storeCells_cells (P := Try.prog) g1 0 rs2.flatten 0 w (by simpa [hl2] using hc1) (fun j hj => World.ownsRow.frozenAt o1 _) hone
  refine ⟨?_, ?_, h2.2⟩
  · cases hq : Try.prog.info? e with
    | none => simp [hq] at hsz
    | some i =>
      have hi : i.size = sz := by simpa [hq] using hsz
      rw [hl2] at hl
      simp [Builtin.copy_, run_underlying ht, Builtin.lenOf, Builtin.firstCells, sizeOf, typeInfo, hq, hi, hl, hst]
  · have := ownsRow_setCells rs2.flatten 0 o1
    have hd : rs1.flatten.drop (0 + rs2.flatten.length) = [] := List.drop_eq_nil_of_le (by omega)
    rw [setAll_eq _ _ _ (by omega), hd, List.take_zero, List.nil_append, List.append_nil] at this
    rw [← hn2]
    exact this
theorem step_copyr {w : World} {ops : Array Oper} {o : Oper} {a : Act} {K : Act → World → Prop} {Q : Exit → Act → World → Prop} {E : Prop} (hgd : o.guard = none) (x y : Operand) (t : TypeId)
    (ho : o.op = .call { callee := .builtin .copy, args := #[x, y], argTypes := #[t, t] })
    {b1 b2 : Nat} {e : TypeId} {sz g1 g2 n c1 c2 : Nat} {rs1 rs2 : List (List Value)} (ht : Try.prog.underlying t = some (.slice e)) (hsz : (Try.prog.info? e).map (·.size) = some sz)
    (h1 : RW w b1 e sz (.slice (some ⟨g1, 0, none⟩) n c1) rs1) (h2 : RW w b2 e sz (.slice (some ⟨g2, 0, none⟩) n c2) rs2) (hn1 : n = rs1.length) (hn2 : n = rs2.length) (hone : ∀ u ∈ rs2.flatten, u.oneCell' = true)
    (hx : a.eval x = .slice (some ⟨g1, 0, none⟩) n c1) (hy : a.eval y = .slice (some ⟨g2, 0, none⟩) n c2)
    (hK : K (a.put o.dst (goInt n)) (w.setCells g1 0 rs2.flatten)) :
    if Region.wanted o (yielded ops a.tmps) = true then Oper.wp Try.prog o a w K Q else E := by
  have hw : Region.wanted o (yielded ops a.tmps) = true := by simp [Region.wanted, hgd]
  rw [if_pos hw]
  have hrun := (run_copyr ht hsz o.type h1 h2 hn1 hn2 hone).1
  unfold Oper.wp execOp
  simp only [ho, resolve, invoke, builtin, Sem.run_bind, Sem.run_pure, Result.andThen_ok, List.map_toArray, List.map_cons, List.map_nil, hx, hy, hrun]
  exact hK
theorem secs_one (l : List (List UInt8)) : ∀ u ∈ (l.map secC).flatten, u.oneCell' = true := by
  intro u hu
  obtain ⟨q, hq, hu⟩ := List.mem_flatten.1 hu
  obtain ⟨s, _, rfl⟩ := List.mem_map.1 hq
  exact bv_one s u hu
theorem Try.info_sec' : (Try.prog.info? 39).map (·.size) = some 64 := by kernel_rfl
/-- Both rows of sectors, and the one laid over the other. -/
theorem DiskAt.both {w : World} {p : Nat} {d : DK} {bs : Nat → Prop} (h : DiskAt w p d bs) (hne : d.now ≠ []) : ∃ gn cn gf cf,
    w.cell? ⟨p, 0, none⟩ = some (.slice (some ⟨gn, 0, none⟩) d.now.length cn) ∧ w.cell? ⟨p, 1, none⟩ = some (.slice (some ⟨gf, 0, none⟩) d.now.length cf) ∧
    RW w 0 39 64 (.slice (some ⟨gf, 0, none⟩) d.now.length cf) (d.fast.map secC) ∧ RW w 0 39 64 (.slice (some ⟨gn, 0, none⟩) d.now.length cn) (d.now.map secC) ∧ gf ≠ p ∧
    (d.now.length ≤ cn ∧ d.now.length ≤ cf ∧ cn ≤ 9223372036854775807 ∧ cf ≤ 9223372036854775807) ∧
    DiskAt (w.setCells gf 0 (d.now.map secC).flatten) p { d with fast := d.now } bs ∧ DEff w (w.setCells gf 0 (d.now.map secC).flatten) bs bs := by
  have hlt := h.lt p h.hp
  obtain ⟨nv, fv, lv, ⟨c0, c1, c2, c3, c4⟩, hf, r1, r2, r3, n1, n2, n3, b, rfl⟩ := h
  obtain ⟨gn, cn, rfl, _, _, h1, h2⟩ := r1.shape (by simpa using hne)
  obtain ⟨gf, cf, rfl, _, _, h3, h4⟩ := r2.shape (by intro e; have := congrArg List.length e; rw [List.length_map, ← b.1] at this; exact hne (List.eq_nil_of_length_eq_zero this))
  have hnf := b.1
  simp only [List.length_map, ← hnf] at c0 c1 r1 r2 n1 n2 n3 h1 h3
  have hgp : gf ≠ p := fun e => n1.2.1 (by simp [Value.ownBlock, e])
  have hcp := (run_copyr (e := 39) (t := 64) Try.underlying64 Try.info_sec' 0 r2 r1 (by simp [hnf]) (by simp) (secs_one d.now)).2
  have hon : Only (· = gf) w (w.setCells gf 0 (d.now.map secC).flatten) := Only.setCells (S := (· = gf)) rfl _ _ (Only.refl _ _)
  refine ⟨gn, cn, gf, cf, c0, c1, r2, r1, hgp, ⟨h1, h3, h2, h4⟩, ⟨_, _, lv, ⟨(hon.cell (p := ⟨p, 0, none⟩) hlt (fun e => hgp e.symm)).trans c0, (hon.cell (p := ⟨p, 1, none⟩) hlt (fun e => hgp e.symm)).trans c1, (hon.cell (p := ⟨p, 2, none⟩) hlt (fun e => hgp e.symm)).trans c2, (hon.cell (p := ⟨p, 3, none⟩) hlt (fun e => hgp e.symm)).trans c3, (hon.cell (p := ⟨p, 4, none⟩) hlt (fun e => hgp e.symm)).trans c4⟩,
    fun j hj => (hon.frozen hlt (fun e => hgp e.symm)).trans (hf j hj), r1.only hon (fun q hq e => (n2 q hq).1 (by rw [e]; rfl)), hcp, r3.only hon (fun q hq e => n3 gf rfl (e ▸ hq)), n1, n2, n3, ⟨rfl, b.2⟩, rfl⟩,
    ⟨hon.mono (fun i _ e => by subst e; exact .inr (.inr (.inl rfl))), fun _ h => .inl h⟩⟩
set_option maxRecDepth 100000 in
set_option maxHeartbeats 1000000 in
theorem dsync_ok (w : World) {p : Nat} {d : DK} {bs : Nat → Prop} (h : DiskAt w p d bs) (ho : d.off = false) (hne : d.now ≠ []) :
    Calls Try.prog 49 #[.pointer (some ⟨p, 0, none⟩)] w fun e w' => e = .returned (.int .i64 (if d.burn.off then 9 else 0)) ∧ ∃ bs', DiskAt w' p (if d.burn.off then d.burn else { d.burn with fast := d.now, loose := [] }) bs' ∧ DEff w w' bs bs' := by
  have hpos : 0 < d.now.length := List.length_pos_iff.2 hne
  have hmay : d.may 0 = 0 := by unfold DK.may; rw [ho, if_neg (by simp), if_neg (by omega)]
  have hbn : d.burn.now = d.now := by unfold DK.burn; split <;> rfl
  generalize hD : d.burn = D
  rw [hD] at hbn
  have hneD : D.now ≠ [] := by rw [hbn]; exact hne
  rw [← hbn]
  clear hbn hne hpos
  cases hoff : D.off with
  | true =>
    simp only [if_true]
    go_enter Try.func49, Try.ntmps49
    go_wp2_with fail
    refine (dmay_any 0 _ h).mono ?_
    rintro e w1 ⟨rfl, rfl⟩
    rw [hmay]
    go_wp2_with fail
    refine (dburn_any _ h).mono ?_
    rintro e w1 ⟨rfl, hO1, hE1⟩
    rw [hD] at hO1 ⊢
    rw [hoff]
    go_wp2_with fail
    go_ret
    exact ⟨rfl, bs, hO1, hE1⟩
  | false =>
    simp only [Bool.false_eq_true, if_false]
    go_enter Try.func49, Try.ntmps49
    go_wp2_with fail
    refine (dmay_any 0 _ h).mono ?_
    rintro e w1 ⟨rfl, rfl⟩
    rw [hmay]
    go_wp2_with fail
    refine (dburn_any _ h).mono ?_
    rintro e w1 ⟨rfl, hO1, hE1⟩
    rw [hD] at hO1 ⊢
    rw [hoff]
    have hlenf : D.now.length = (D.fast.map secC).length := by
      obtain ⟨_, _, _, _, _, _, _, _, _, _, _, b, _⟩ := hO1
      simpa using b.1
    obtain ⟨gn, cn, gf, cf, c0, c1, rf, rn, hgp, hcaps, hO2, hE2⟩ := DiskAt.both (w := w1.drew) hO1 hneD
    obtain ⟨lv, c2, f2, r3, hlp, hlb, hst⟩ := hO2.looseV
    obtain ⟨bs', hO3, hE3⟩ := hst _ (.slice none 0 0) [] (Only.refl _ _) (RW.nil _ _ _ _) (.inr (.inl rfl))
    have hpl := hO1.lt p hO1.hp
    have hon : Only (· = gf) w1.drew (w1.drew.setCells gf 0 (D.now.map secC).flatten) := Only.setCells (S := (· = gf)) rfl _ _ (Only.refl _ _)
    have c0' := (hon.cell (p := ⟨p, 0, none⟩) hpl (fun e => hgp e.symm)).trans c0
    have c1' := (hon.cell (p := ⟨p, 1, none⟩) hpl (fun e => hgp e.symm)).trans c1
    have hE4 : DEff w (w1.drew.setCells gf 0 (D.now.map secC).flatten) bs bs := ⟨(hE1.only.drew).trans hE2.only (fun _ _ h => h), fun _ h => .inl h⟩
    have hE5 := hE4.trans hE3
    have hone := secs_one D.now
    have HF := Lib.hid hlenf
    clear hst hlenf
    go_wp2_with fail
    go_region_held_law (fun w' => w'.cell? ⟨p, 0, none⟩ = some (.slice (some ⟨gn, 0, none⟩) D.now.length cn) ∧ w'.cell? ⟨p, 1, none⟩ = some (.slice (some ⟨gf, 0, none⟩) D.now.length cf)) (first | exact ⟨c0', c1'⟩ | go_keep) (first
      | (refine step_copyr rfl _ _ 64 rfl Try.underlying64 Try.info_sec' rf rn HF.out (by simp) hone (by rfl) (by rfl) ?_))
    clear c0 c1 rf rn hO2 hE2 r3 hon c0' c1' hE4 hone HF hO1 hE1 hE3
    generalize w1.drew.setCells gf 0 (D.now.map secC).flatten = W2 at *
    go_wp2_with fail
    go_ret
    exact ⟨rfl, bs', hO3, hE5⟩
set_option maxRecDepth 100000 in
set_option maxHeartbeats 1000000 in
theorem dsync_bad (w : World) {p : Nat} {d : DK} {bs : Nat → Prop} (h : DiskAt w p d bs) (hbad : d.may 0 ≠ 0) :
    Calls Try.prog 49 #[.pointer (some ⟨p, 0, none⟩)] w fun e w' => e = .returned (.int .i64 (d.may 0)) ∧ w = w' := by
  generalize hm : d.may 0 = m at *
  go_enter Try.func49, Try.ntmps49
  go_wp2_with fail
  refine (dmay_any 0 _ h).mono ?_
  rintro e w1 ⟨rfl, rfl⟩
  rw [hm]
  go_wp2_with fail
  go_ret
  exact ⟨rfl, rfl⟩
end Go.Proofs.Ytbmdcblcefebiaa
