/- casketref23.Net: New, box, DocSend. -/
import Derived.Test.YtbflffanahnofaaRefNetObj
import Derived.Deep.RegionLaw
import Derived.BigRegion
namespace Go.Proofs.Ytbflffanahnofaa
open Go.RowKit
theorem Try.info_str : (Try.prog.info? 9).map (fun i => (i.zero.map (fun z => z.cells.size), i.size, decide (i.bytes ≤ 1000))) = some (some 1, 1, true) := by kernel_rfl
theorem Try.str_parts : ∃ i z, Try.prog.info? 9 = some i ∧ i.zero = some z ∧ z.cells.size = 1 ∧ i.size = 1 ∧ i.bytes ≤ 1000 := by
  have h := Try.info_str
  cases hi : Try.prog.info? 9 with
  | none => rw [hi] at h; cases h
  | some i =>
    rw [hi] at h
    simp only [Option.map_some, Option.some.injEq, Prod.mk.injEq, decide_eq_true_eq] at h
    obtain ⟨h1, h2, h3⟩ := h
    cases hz : i.zero with
    | none => rw [hz] at h1; cases h1
    | some z => rw [hz] at h1; exact ⟨i, z, rfl, hz, by simpa using h1, h2, h3⟩
theorem strC_one (l : List (List UInt8)) : ∀ u ∈ (l.map strC).flatten, u.oneCell' = true := by
  intro u hu
  simp only [List.mem_flatten, List.mem_map] at hu
  obtain ⟨r, ⟨x, _, rfl⟩, hu⟩ := hu
  rw [List.mem_singleton.1 hu]; rfl
theorem Src.lit (w : World) (l : List UInt8) : Src (w.alloc (.cells #[strN l] 9)) 1 (.slice (some ⟨w.heap.size, 0, none⟩) 1 1) [strC l] := by
  refine ⟨by intro q hq; rw [List.mem_singleton.1 hq]; rfl, strC_one [l], .inr ⟨⟨w.heap.size, 0, none⟩, 1, rfl, fun j u hu => ?_⟩⟩
  have hj : j = 0 := by have := (List.getElem?_eq_some_iff.1 hu).1; simp [strC] at this; exact this
  subst hj
  rw [Addr.add_mid, World.cell?_alloc_new]
  simpa [strC] using hu
theorem RW.made (w : World) (b : Nat) (hb : b ≤ w.heap.size) (e : TypeId) (sz : Nat) : RW (w.alloc (.cells #[] e)) b e sz (.slice (some ⟨w.heap.size, 0, none⟩) 0 0) [] :=
  ⟨World.ownsRow_made w #[] 0 hb (by decide) (by simp), by intro q hq; cases hq⟩
def apS (ty : TypeId) (vs : Array Value) : Sem Value := Builtin.append_ #[48, 48] ty vs
theorem apS_eq (ty : TypeId) (vs : Array Value) : Builtin.append_ #[48, 48] ty vs = apS ty vs := rfl
theorem app_str {w W : World} {v x : Value} {rs ns : List (List UInt8)} {m : Nat} (hB : Below w.heap.size w W) (h : RW W w.heap.size 9 1 v (rs.map strC)) (hs : Src W 1 x (ns.map strC)) (hm : m = rs.length + ns.length) (hl : m ≤ 1000000) :
    ∃ ao c w', (apS 48 #[v, x]).run Try.prog W = .ok (.slice ao m c) w' ∧ RW w' w.heap.size 9 1 (.slice ao m c) ((rs ++ ns).map strC) ∧ Below w.heap.size w w' ∧ W.grownBy w' v.ownBlock := by
  obtain ⟨it, z, hti, htz, hzc, hsz, hby⟩ := Try.str_parts
  obtain ⟨v', w', hrun, hr, hg, hn⟩ := run_appsv it z Try.underlying48 hti htz hsz hby hzc (by omega) 48 h hs (by rw [List.length_map, List.length_map]; omega) hB.size
  obtain ⟨ao, c, rfl, _⟩ := id hr.val
  have hlen : (rs.map strC ++ ns.map strC).length = m := by rw [List.length_append, List.length_map, List.length_map]; omega
  rw [hlen] at hrun hr
  exact ⟨ao, c, w', hrun, by rw [List.map_append]; exact hr, hB.grown hg hB.size h.own_ge, hg⟩
set_option maxRecDepth 100000 in
set_option maxHeartbeats 400000 in
theorem rbox_any (k : Int) (w : World) {p g n cg : Nat} (c0 : w.cell? ⟨p, 0, none⟩ = some (.slice (some ⟨g, 0, none⟩) n cg)) :
    Calls Try.prog 23 #[.pointer (some ⟨p, 0, none⟩), .int .i64 k] w fun e w' => e = .returned (.bool (decide (0 ≤ k ∧ k < n))) ∧ w = w' := by
  by_cases h0 : 0 ≤ k
  · by_cases h1 : k < n
    · rw [decide_eq_true (show 0 ≤ k ∧ k < n from ⟨h0, h1⟩)]
      go_enter Try.func23, Try.ntmps23
      go_wp2_with fail
      go_ret
      exact ⟨rfl, rfl⟩
    · rw [decide_eq_false (show ¬ (0 ≤ k ∧ k < n) by omega)]
      have h2 : (n : Int) ≤ k := by omega
      clear h1
      go_enter Try.func23, Try.ntmps23
      go_wp2_with fail
      go_ret
      refine ⟨?_, rfl⟩
      show Ending.returned (.bool (decide (k < n))) = _
      rw [decide_eq_false (by omega)]
  · rw [decide_eq_false (show ¬ (0 ≤ k ∧ k < n) by omega)]
    have h2 : k < 0 := by omega
    clear h0
    go_enter Try.func23, Try.ntmps23
    go_wp2_with fail
    go_ret
    exact ⟨rfl, rfl⟩
set_option maxRecDepth 100000 in
set_option maxHeartbeats 400000 in
theorem rsend_bad (i : Int) (l : List UInt8) (w : World) {p : Nat} {st : NSt} {bs : Nat → Prop} (h : RNet w p st bs) (hi : ¬ (0 ≤ i ∧ i < st.length)) :
    Calls Try.prog 16 #[.pointer (some ⟨p, 0, none⟩), .int .i64 i, strN l] w fun e w' => e = .returned (.int .i64 1) ∧ w = w' := by
  obtain ⟨g, h, cg, ch, col, rv, ⟨⟨c0, _⟩, _⟩, _⟩ := h
  have hb := rbox_any i w c0
  rw [decide_eq_false hi] at hb
  clear hi
  go_enter Try.func16, Try.ntmps16
  go_wp2_with fail
  refine hb.mono ?_
  rintro e w1 ⟨rfl, rfl⟩
  go_wp2_with fail
  go_ret
  exact ⟨rfl, rfl⟩
set_option maxRecDepth 100000 in
set_option maxHeartbeats 400000 in
theorem rsend_full (i : Nat) (l : List UInt8) (w : World) {p : Nat} {st : NSt} {bs : Nat → Prop} (hN : RNet w p st bs) (hi : i < st.length) (hf : (innN st i).length = 64) :
    Calls Try.prog 16 #[.pointer (some ⟨p, 0, none⟩), .int .i64 i, strN l] w fun e w' => e = .returned (.int .i64 10) ∧ w = w' := by
  obtain ⟨g, h, cg, ch, v, ⟨c0, c1⟩, ⟨ci, fi⟩, hl, hr, hz1, hz0, hz2, hz3⟩ := hN.setRow false hi
  obtain ⟨vo, vc, rfl, hz4, hz5, hz6⟩ := hr.val
  have hlen : ((rowOf st false i).map strC).length = 64 := by rw [List.length_map]; exact hf
  rw [hlen] at ci
  have hb := rbox_any i w c0
  rw [decide_eq_true (by omega)] at hb
  have hi0 : (0 : Int) ≤ i := Int.natCast_nonneg _
  have hi1 : (i : Int) < st.length := by omega
  rw [if_neg (by simp)] at ci fi
  clear hz0 hz1 hz2 hz3 hz4 hz5 hz6 hr hl hlen hf
  go_enter Try.func16, Try.ntmps16
  go_wp2_with fail
  refine hb.mono ?_
  rintro e w1 ⟨rfl, rfl⟩
  go_wp2_with fail
  go_ret
  exact ⟨rfl, rfl⟩
attribute [local go_sem ↓] apS_eq
set_option maxRecDepth 100000 in
set_option maxHeartbeats 2000000 in
theorem rsend_ok (i : Nat) (l : List UInt8) (w : World) {p : Nat} {st : NSt} {bs : Nat → Prop} (hN : RNet w p st bs) (hi : i < st.length) (hf : (innN st i).length < 64) :
    Calls Try.prog 16 #[.pointer (some ⟨p, 0, none⟩), .int .i64 i, strN l] w fun e w' => e = .returned (.int .i64 0) ∧ ∃ bs', RNet w' p (st.set i (innN st i ++ [l], seenN st i)) bs' ∧ NEff w w' bs bs' := by
  obtain ⟨g, h, cg, ch, v, ⟨c0, c1⟩, ⟨ci, fi⟩, hl, hr, hne, ⟨hpg, _, _⟩, hbs, hset⟩ := hN.setRow false hi
  have hro : rowOf st false i = innN st i := rfl
  rw [hro] at hr
  have hsrc := hr.src (strC_one _)
  have hlm : ((innN st i).map strC).length = (innN st i).length := List.length_map ..
  obtain ⟨vo, vc, rfl, hz4, hz5, hz6⟩ := id hr.val
  rw [hlm] at *
  have hb := rbox_any i w c0
  rw [decide_eq_true (by omega)] at hb
  have hi0 : (0 : Int) ≤ i := Int.natCast_nonneg _
  have hi1 : (i : Int) < st.length := by omega
  have hf1 : ¬ (64 : Int) ≤ (innN st i).length := by omega
  simp only [Bool.false_eq_true, if_false] at ci fi hset
  clear hz6 hr hlm hro hbs hne
  -- the worlds
  have B0 : Below w.heap.size w w.drew := (Below.refl _ _).drew
  have B1 : Below w.heap.size w (w.alloc (.cells #[] 9)).drew := ((Below.refl _ _).alloc (Nat.le_refl _) _).drew
  have B1' : Below w.heap.size w (w.alloc (.cells #[strN l] 9)).drew := ((Below.refl _ _).alloc (Nat.le_refl _) _).drew
  have z1 : (w.alloc (.cells #[] 9)).heap.size = w.heap.size + 1 := by simp
  have z1' : (w.alloc (.cells #[strN l] 9)).heap.size = w.heap.size + 1 := by simp
  have K2 : Below (w.alloc (.cells #[] 9)).heap.size (w.alloc (.cells #[] 9)) ((w.alloc (.cells #[] 9)).alloc (.cells #[strN l] 9)).drew := ((Below.refl _ _).alloc (Nat.le_refl _) _).drew
  have K3 : Below (w.alloc (.cells #[strN l] 9)).heap.size (w.alloc (.cells #[strN l] 9)) ((w.alloc (.cells #[strN l] 9)).alloc (.cells #[] 9)).drew := ((Below.refl _ _).alloc (Nat.le_refl _) _).drew
  have B2 : Below w.heap.size w ((w.alloc (.cells #[] 9)).alloc (.cells #[strN l] 9)).drew := (((Below.refl _ _).alloc (Nat.le_refl _) _).alloc (by omega) _).drew
  have B3 : Below w.heap.size w ((w.alloc (.cells #[strN l] 9)).alloc (.cells #[] 9)).drew := (((Below.refl _ _).alloc (Nat.le_refl _) _).alloc (by omega) _).drew
  have M1 : RW (w.alloc (.cells #[] 9)) w.heap.size 9 1 (.slice (some ⟨w.heap.size, 0, none⟩) 0 0) (([] : List (List UInt8)).map strC) := RW.made w w.heap.size (Nat.le_refl _) 9 1
  have M2 := M1.keep K2
  have M3 : RW ((w.alloc (.cells #[strN l] 9)).alloc (.cells #[] 9)).drew w.heap.size 9 1 (.slice (some ⟨w.heap.size + 1, 0, none⟩) 0 0) (([] : List (List UInt8)).map strC) := by
    have := RW.made (w.alloc (.cells #[strN l] 9)) w.heap.size (by omega) 9 1
    rw [z1'] at this; exact this
  have L2 : Src ((w.alloc (.cells #[] 9)).alloc (.cells #[strN l] 9)).drew 1 (.slice (some ⟨w.heap.size + 1, 0, none⟩) 1 1) ([l].map strC) := by
    have := Src.lit (w.alloc (.cells #[] 9)) l
    rw [z1] at this; exact this
  have L3 : Src ((w.alloc (.cells #[strN l] 9)).alloc (.cells #[] 9)).drew 1 (.slice (some ⟨w.heap.size, 0, none⟩) 1 1) ([l].map strC) := (Src.lit w l).keep K3
  obtain ⟨a1, k1, w1, R1, O1, b1, G1⟩ := app_str (m := (innN st i).length) (rs := []) B1 M1.drew (hsrc.keep B1) (by simp) (by omega)
  obtain ⟨a2, k2, w2, R2, O2, b2, G2⟩ := app_str (m := (innN st i).length) (rs := []) B2 M2 (hsrc.keep B2) (by simp) (by omega)
  obtain ⟨a3, k3, w3, R3, O3, b3, G3⟩ := app_str (m := (innN st i).length) (rs := []) B3 M3 (hsrc.keep B3) (by simp) (by omega)
  have J1 : Below w1.heap.size w1 (w1.alloc (.cells #[strN l] 9)) := (Below.refl _ _).alloc (Nat.le_refl _) _
  have b1' := b1.trans (J1.mono b1.size)
  have L2' := L2.only (Only.of_grown (S := (· = w.heap.size)) G2 (fun k hk => (Option.some.inj hk).symm)) (fun _ k hk e => by have hk2 := Option.some.inj hk; dsimp only at hk2; omega)
  have L3' := L3.only (Only.of_grown (S := (· = w.heap.size + 1)) G3 (fun k hk => (Option.some.inj hk).symm)) (fun _ k hk e => by have hk2 := Option.some.inj hk; dsimp only at hk2; omega)
  obtain ⟨d1, e1, x1, T1, P1, f1, _⟩ := app_str (m := (innN st i).length + 1) (ns := [l]) b1' (O1.keep J1) (Src.lit w1 l) (by simp) (by omega)
  obtain ⟨d2, e2, x2, T2, P2, f2, _⟩ := app_str (m := (innN st i).length + 1) (ns := [l]) b2 O2 L2' (by simp) (by omega)
  obtain ⟨d3, e3, x3, T3, P3, f3, _⟩ := app_str (m := (innN st i).length + 1) (ns := [l]) b3 O3 L3' (by simp) (by omega)
  have cc : ∀ {W : World}, Below w.heap.size w W → W.cell? ⟨p, 0, none⟩ = some (.slice (some ⟨g, 0, none⟩) st.length cg) ∧ W.cell? ⟨g, i, none⟩ = some (.slice vo (innN st i).length vc) ∧ W.frozen? ⟨g, i, none⟩ = false := fun b =>
    ⟨(b.cell (p := ⟨p, 0, none⟩) hl.1).trans c0, (b.cell (p := ⟨g, i, none⟩) hl.2.1).trans ci, (b.frozen (p := ⟨g, i, none⟩) hl.2.1).trans fi⟩
  have fin : ∀ {W : World} {ao : Option Addr} {c : Nat}, RW W w.heap.size 9 1 (.slice ao ((innN st i).length + 1) c) (([] ++ innN st i ++ [l]).map strC) → Below w.heap.size w W →
      ∃ bs', RNet (W.setCell ⟨g, i, none⟩ (.slice ao ((innN st i).length + 1) c)) p (st.set i (innN st i ++ [l], seenN st i)) bs' ∧ NEff w (W.setCell ⟨g, i, none⟩ (.slice ao ((innN st i).length + 1) c)) bs bs' := by
    intro W ao c hr hb
    exact hset W _ (innN st i ++ [l]) (Only.of_below hb) (hr.mono (Nat.zero_le _)) (by
      cases ho : (Value.slice ao ((innN st i).length + 1) c).ownBlock with
      | none => exact .inr (.inl rfl)
      | some k => exact .inr (.inr ⟨k, rfl, hr.own_ge k ho⟩))
  have F1 := Lib.hid (fin P1 f1)
  have F2 := Lib.hid (fin P2 f2)
  have F3 := Lib.hid (fin P3 f3)
  obtain ⟨A0, A0', A0''⟩ := cc B0
  obtain ⟨A1, A1', _⟩ := cc B1
  obtain ⟨A2, A2', _⟩ := cc B1'
  obtain ⟨A3, A3', _⟩ := cc B2
  obtain ⟨A4, A4', _⟩ := cc B3
  have A5 := (cc b1).1
  have A6 := (cc b2).1
  have A7 := (cc b3).1
  have A8 := (cc b1').1
  obtain ⟨A9, A9', A9''⟩ := cc f1
  obtain ⟨A10, A10', A10''⟩ := cc f2
  obtain ⟨A11, A11', A11''⟩ := cc f3
  unfold strN at R2 R3 T1 A2 A2' A3 A3' A4 A4' A8
  clear B0 B1 B1' B2 B3 K2 K3 M1 M2 M3 L2 L3 O1 O2 O3 b1 b2 b3 G1 G2 G3 J1 b1' L2' L3' P1 P2 P3 f1 f2 f3 fin cc hset hsrc z1 z1'
  unfold strN
  go_enter Try.func16, Try.ntmps16
  go_wp2_with fail
  refine hb.mono ?_
  rintro e w1 ⟨rfl, rfl⟩
  go_wp2_with fail
  go_region
  all_goals
    clear R1 R2 R3 T1 T2 T3 A0 A0' A0'' A1 A1' A2 A2' A3 A3' A4 A4' A5 A6 A7 A8 A9 A9' A9'' A10 A10' A10'' A11 A11' A11''
    go_wp2_with fail
    go_ret
    first
    | exact ⟨rfl, F1.out⟩
    | exact ⟨rfl, F2.out⟩
    | exact ⟨rfl, F3.out⟩
end Go.Proofs.Ytbflffanahnofaa
