/- casketref23.Net: DocTake, DocCopy. -/
import Derived.Test.YtbflffanahnofaaRefNet
import Derived.Test.YtbflffanahnofaaNetDel
import Derived.BigRegion
import Derived.Deep.DeepCutAuto
import Derived.IntWalk
import Derived.Laws.BitsLemmas
namespace Go.Proofs.Ytbflffanahnofaa
open Go.RowKit
attribute [local go_sem ↓] apS_eq
theorem Src.back {w : World} {base : Nat} {e : TypeId} {sz g n cap k c : Nat} {rs : List (List Value)} (h : RW w base e sz (.slice (some ⟨g, 0, none⟩) n cap) rs) (h1 : ∀ u ∈ rs.flatten, u.oneCell' = true) (hn : n = rs.length) (hk : k ≤ n) : Src w sz (.slice (some ⟨g, k * sz, none⟩) (n - k) c) (rs.drop k) := by
  subst hn
  have hev : Even sz (rs.drop k) := fun r hr => h.2 r (List.mem_of_mem_drop hr)
  have hfr : rs.flatten = (rs.take k).flatten ++ (rs.drop k).flatten := by rw [← List.flatten_append, List.take_append_drop]
  have hft : (rs.take k).flatten.length = k * sz := by
    have hevt : Even sz (rs.take k) := fun r hr => h.2 r (List.mem_of_mem_take hr)
    rw [hevt.flat, List.length_take, Nat.min_eq_left hk]
  refine ⟨hev, fun u hu => h1 u (by rw [hfr]; exact List.mem_append_right _ hu), .inr ⟨⟨g, k * sz, none⟩, c, by rw [List.length_drop], fun j u hu => ?_⟩⟩
  have hj : j < (rs.drop k).flatten.length := (List.getElem?_eq_some_iff.1 hu).1
  rw [hev.flat, List.length_drop] at hj
  rw [Addr.add_mid]
  have hlt : k * sz + j < rs.length * sz := by
    have : k * sz + (rs.length - k) * sz = rs.length * sz := by rw [← Nat.add_mul, Nat.add_sub_cancel' hk]
    omega
  rw [World.ownsRow.cellAt h.1 _ hlt, hfr, List.getElem?_append_right (by omega), hft, Nat.add_sub_cancel_left, hu]
theorem app_str0 {W : World} {v x : Value} {rs ns : List (List UInt8)} {m : Nat} (h : RW W 0 9 1 v (rs.map strC)) (hs : Src W 1 x (ns.map strC)) (hm : m = rs.length + ns.length) (hl : m ≤ 1000000) :
    ∃ ao c w', (apS 48 #[v, x]).run Try.prog W = .ok (.slice ao m c) w' ∧ RW w' 0 9 1 (.slice ao m c) ((rs ++ ns).map strC) ∧ W.grownBy w' v.ownBlock ∧ ((Value.slice ao m c).ownBlock = v.ownBlock ∨ (Value.slice ao m c).ownBlock = some W.heap.size) := by
  obtain ⟨it, z, hti, htz, hzc, hsz, hby⟩ := Try.str_parts
  obtain ⟨v', w', hrun, hr, hg, hn⟩ := run_appsv it z Try.underlying48 hti htz hsz hby hzc (by omega) 48 h hs (by rw [List.length_map, List.length_map]; omega) (Nat.zero_le _)
  obtain ⟨ao, c, rfl, _⟩ := id hr.val
  have hlen : (rs.map strC ++ ns.map strC).length = m := by rw [List.length_append, List.length_map, List.length_map]; omega
  rw [hlen] at hrun hr hn
  exact ⟨ao, c, w', hrun, by rw [List.map_append]; exact hr, hg, hn⟩
theorem setRow_two {st : NSt} {i : Nat} (hi : i < st.length) (a b : List (List UInt8)) : setRow (setRow st false i a) true i b = st.set i (a, b) := by
  simp [setRow, innN, List.getD, hi]
theorem wrapS {n : Int} (h0 : 0 ≤ n) (h1 : n ≤ 1000000) : IntKind.i64.wrap n = n := by rw [IntKind.wrap_i64]; omega
theorem wrapT {n : Int} (h0 : 0 ≤ n) (h1 : n ≤ 1000000) : wrap64 n = n := IntWalk.wrap64_in _ (by omega)
set_option maxRecDepth 100000 in
set_option maxHeartbeats 400000 in
theorem rtake_bad (i k : Int) (w : World) {p : Nat} {st : NSt} {bs : Nat → Prop} (h : RNet w p st bs) (hi : ¬ (0 ≤ i ∧ i < st.length)) :
    Calls Try.prog 17 #[.pointer (some ⟨p, 0, none⟩), .int .i64 i, .int .i64 k] w fun e w' => e = .returned (.tuple #[strN [], .int .i64 1]) ∧ w = w' := by
  obtain ⟨g, h, cg, ch, col, rv, ⟨⟨c0, _⟩, _⟩, _⟩ := h
  have hb := rbox_any i w c0
  rw [decide_eq_false hi] at hb
  clear hi
  unfold strN
  go_enter Try.func17, Try.ntmps17
  go_wp2_with fail
  refine hb.mono ?_
  rintro e w1 ⟨rfl, rfl⟩
  go_wp2_with fail
  go_ret2
  exact ⟨rfl, rfl⟩
set_option maxRecDepth 100000 in
set_option maxHeartbeats 400000 in
theorem rtake_miss (i : Nat) (k : Int) (w : World) {p : Nat} {st : NSt} {bs : Nat → Prop} (hN : RNet w p st bs) (hi : i < st.length) (hk : ¬ (0 ≤ k ∧ k < (innN st i).length)) :
    Calls Try.prog 17 #[.pointer (some ⟨p, 0, none⟩), .int .i64 i, .int .i64 k] w fun e w' => e = .returned (.tuple #[strN [], .int .i64 7]) ∧ w = w' := by
  obtain ⟨g, h, cg, ch, v, ⟨c0, c1⟩, ⟨ci, fi⟩, hl, hr, hz1, hz0, hz2, hz3⟩ := hN.setRow false hi
  obtain ⟨vo, vc, rfl, hz4, hz5, hz6⟩ := hr.val
  have hlen : ((rowOf st false i).map strC).length = (innN st i).length := List.length_map ..
  rw [hlen] at ci
  have hb := rbox_any i w c0
  rw [decide_eq_true (by omega)] at hb
  have hi0 : (0 : Int) ≤ i := Int.natCast_nonneg _
  have hi1 : (i : Int) < st.length := by omega
  rw [if_neg (by simp)] at ci fi
  clear hz0 hz1 hz2 hz3 hz4 hz5 hz6 hr hl hlen
  generalize (innN st i).length = n at *
  unfold strN
  by_cases h0 : k < 0
  · clear hk
    go_enter Try.func17, Try.ntmps17
    go_wp2_with fail
    refine hb.mono ?_
    rintro e w1 ⟨rfl, rfl⟩
    go_wp2_with fail
    go_ret2
    exact ⟨rfl, rfl⟩
  · have h1 : (n : Int) ≤ k := by omega
    clear hk
    go_enter Try.func17, Try.ntmps17
    go_wp2_with fail
    refine hb.mono ?_
    rintro e w1 ⟨rfl, rfl⟩
    go_wp2_with fail
    go_ret2
    exact ⟨rfl, rfl⟩
set_option maxRecDepth 100000 in
set_option maxHeartbeats 2000000 in
theorem rtake_ok (i k : Nat) (w : World) {p : Nat} {st : NSt} {bs : Nat → Prop} (hN : RNet w p st bs) (hi : i < st.length) (hk : k < (innN st i).length) (hle : (innN st i).length ≤ 1000) (hls : (seenN st i).length ≤ 1000) :
    Calls Try.prog 17 #[.pointer (some ⟨p, 0, none⟩), .int .i64 i, .int .i64 k] w fun e w' => e = .returned (.tuple #[strN ((innN st i).getD k []), .int .i64 0]) ∧ ∃ bs', RNet w' p (st.set i ((innN st i).eraseIdx k, seenN st i ++ [(innN st i).getD k []])) bs' ∧ NEff w w' bs bs' := by
  obtain ⟨g, h, cg, ch, v, ⟨c0, c1⟩, ⟨ci, fi⟩, hl, hr, hne, ⟨hpg, _, _⟩, hbs, hset⟩ := hN.setRow false hi
  have hro : rowOf st false i = innN st i := rfl
  rw [hro] at hr
  have hlm : ((innN st i).map strC).length = (innN st i).length := List.length_map ..
  obtain ⟨gi, vc, rfl, hz4, hgil, hcn, hcm⟩ := hr.shape (by intro e; rw [e] at hlm; simp at hlm; omega)
  rw [hlm] at hcn ci hr hset hne hbs
  have hsF := (hr.front hlm.symm (show k ≤ (innN st i).length by omega)).src (fun u hu => by
    rw [← List.map_take] at hu; exact strC_one _ u hu)
  have hsB := fun c => Src.back (c := c) (k := k + 1) hr (strC_one _) hlm.symm (by omega)
  rw [← List.map_take] at hsF
  have hck : w.cell? ⟨gi, k, none⟩ = some (strN ((innN st i).getD k [])) := by
    have h1 := hr.range hlm.symm (i := k) (by rw [hlm]; exact hk) 0 (strN ((innN st i).getD k [])) (by simp [strC, List.getD, hk])
    rwa [Nat.mul_one, Nat.add_zero] at h1
  have hb := rbox_any i w c0
  rw [decide_eq_true (by omega)] at hb
  have hi0 : (0 : Int) ≤ i := Int.natCast_nonneg _
  have hi1 : (i : Int) < st.length := by omega
  have hk0 : (0 : Int) ≤ k := Int.natCast_nonneg _
  have hk1 : (k : Int) < (innN st i).length := by omega
  have hk2 : (k : Int) ≤ vc := by omega
  have hk3 : (k : Int) + 1 ≤ (innN st i).length := by omega
  have hk4 : ((innN st i).length : Int) ≤ vc := by omega
  have hk5 : (0 : Int) ≤ (k : Int) + 1 := by omega
  have hk6 : (k : Int) + 1 ≤ 1000000 := by omega
  simp only [Bool.false_eq_true, if_false] at ci fi hset
  clear hro hlm hz4 hcm
  have B0 : Below w.heap.size w w.drew := (Below.refl _ _).drew
  have B1 : Below w.heap.size w (w.alloc (.cells #[] 9)).drew := ((Below.refl _ _).alloc (Nat.le_refl _) _).drew
  have M1 : RW (w.alloc (.cells #[] 9)) w.heap.size 9 1 (.slice (some ⟨w.heap.size, 0, none⟩) 0 0) (([] : List (List UInt8)).map strC) := RW.made w w.heap.size (Nat.le_refl _) 9 1
  obtain ⟨a1, k1, w1, R1, O1, b1, G1⟩ := app_str (m := k) (rs := []) B1 M1.drew (hsF.keep B1) (by simp; omega) (by omega)
  have hsB1 : ∀ c, Src w1 1 (.slice (some ⟨gi, k + 1, none⟩) ((innN st i).length - (k + 1)) c) (((innN st i).drop (k + 1)).map strC) := fun c => by
    have := (hsB c).keep b1
    rw [Nat.mul_one, ← List.map_drop] at this; exact this
  have hsN : ∀ c, (innN st i).length - (k + 1) = 0 → Src w1 1 (.slice (some ⟨gi, 0, none⟩) ((innN st i).length - (k + 1)) c) (((innN st i).drop (k + 1)).map strC) := fun c h0 => by
    have h1 : (innN st i).drop (k + 1) = [] := List.drop_eq_nil_iff.2 (by omega)
    rw [h0, h1]
    exact ⟨(by intro q hq; cases hq), (by intro u hu; cases hu), .inr ⟨⟨gi, 0, none⟩, c, rfl, (by intro j u hu; simp at hu)⟩⟩
  obtain ⟨bo, hbo, hsX⟩ : ∃ bo, ((vc = k + 1 ∧ bo = 0) ∨ (¬ vc = k + 1 ∧ bo = k + 1)) ∧ ∀ c, Src w1 1 (.slice (some ⟨gi, bo, none⟩) ((innN st i).length - (k + 1)) c) (((innN st i).drop (k + 1)).map strC) := by
    by_cases hv : vc = k + 1
    · exact ⟨0, .inl ⟨hv, rfl⟩, fun c => hsN c (by omega)⟩
    · exact ⟨k + 1, .inr ⟨hv, rfl⟩, hsB1⟩
  have hle2 : (innN st i).take k ++ (innN st i).drop (k + 1) = (innN st i).eraseIdx k := List.eraseIdx_eq_take_drop_succ .. |>.symm
  obtain ⟨d1, e1, x1, T1, P1, f1, _⟩ := app_str (m := (innN st i).length - 1) (rs := [] ++ (innN st i).take k) b1 O1 (hsX (vc - (k + 1))) (by rw [List.nil_append, List.length_take, List.length_drop]; omega) (by omega)
  rw [List.nil_append, hle2] at P1
  obtain ⟨bs6, hN6, hE6⟩ := hset x1 (.slice d1 ((innN st i).length - 1) e1) ((innN st i).eraseIdx k) (Only.of_below f1) (P1.mono (Nat.zero_le _)) (by
    cases ho : (Value.slice d1 ((innN st i).length - 1) e1).ownBlock with
    | none => exact .inr (.inl rfl)
    | some k => exact .inr (.inr ⟨k, rfl, P1.own_ge k ho⟩))
  have cc : ∀ {W : World}, Below w.heap.size w W → W.cell? ⟨p, 0, none⟩ = some (.slice (some ⟨g, 0, none⟩) st.length cg) ∧ W.cell? ⟨g, i, none⟩ = some (.slice (some ⟨gi, 0, none⟩) (innN st i).length vc) ∧ W.frozen? ⟨g, i, none⟩ = false := fun b =>
    ⟨(b.cell (p := ⟨p, 0, none⟩) hl.1).trans c0, (b.cell (p := ⟨g, i, none⟩) hl.2.1).trans ci, (b.frozen (p := ⟨g, i, none⟩) hl.2.1).trans fi⟩
  have HS := Lib.hid (And.intro hN6 hE6)
  have HD := Lib.hid (And.intro hi (And.intro hle hls))
  obtain ⟨A0, A0', q0⟩ := cc B0
  obtain ⟨A1, A1', q1⟩ := cc B1
  obtain ⟨A2, A2', q2⟩ := cc b1
  obtain ⟨A3, A3', A3''⟩ := cc f1
  generalize (innN st i).getD k [] = sx at *
  clear q0 q1 q2 hsB hsF hsN hsX hsB1 hset hN6 hE6 B0 B1 M1 O1 b1 G1 P1 f1 hN hne hbs hr cc hle2 hgil hl c1 hcn hle hls hi
  have hw1 := wrapT hk5 hk6
  have HW2 := Lib.hid (wrapS hk5 hk6)
  clear hk6
  unfold strN at hck
  go_enter Try.func17, Try.ntmps17
  go_wp2_with fail
  refine hb.mono ?_
  rintro e w1 ⟨rfl, rfl⟩
  have HBO := Lib.hid hbo
  clear hbo
  go_wp2_with fail
  go_upto_region 6 with (fail)
  go_cut [8] (fun v wx => v = .string ⟨sx.toArray⟩ ∧ ∃ bs6, RNet wx p (setRow st false i ((innN st i).eraseIdx k)) bs6 ∧ NEff w wx bs bs6)
  case first =>
    rcases HBO.out with ⟨hv, hbo⟩ | ⟨hv, hbo⟩
    all_goals
      subst hbo
      first
      | (have hce : ∀ x y : Option Addr, (if vc = k + 1 then x else y) = x := fun x y => if_pos hv
         have hci2 : vc - (k + 1) = 0 := by omega
         rw [hci2] at T1)
      | (have hci2 : ¬ vc - (k + 1) = 0 := by omega)
      clear hv
      go_region
      clear R1 T1 A0 A0' A1 A1' A2 A2' A3 A3' A3'' hci2 hck ci fi hw1 hk2 hk3 hk4 hk5
      go_wp2_with fail
      go_meet
      exact ⟨rfl, bs6, HS.out.1, HS.out.2⟩
  case rest =>
    clear R1 T1 A0 A0' A1 A1' A2 A2' A3 A3' A3'' hck ci fi hw1 hk2 hk3 hk4 hk5 HS
    obtain ⟨rfl, bs6, hN6, hE6⟩ := hcut
    have HS := Lib.hid (And.intro hN6 hE6)
    clear hN6 hE6
    obtain ⟨g7, h7, cg7, ch7, v7, ⟨c07, c17⟩, ⟨ci7, fi7⟩, hl7, hr7, hne7, hpn7, hbs7, hset7⟩ := HS.out.1.setRow true (i := i) (by rw [setRow_len]; exact HD.out.1)
    have hsn : rowOf (setRow st false i ((innN st i).eraseIdx k)) true i = seenN st i := by rw [rowOf_setRow HD.out.1]; simp; rfl
    rw [hsn] at hr7
    rw [setRow_len] at c07 c17
    obtain ⟨so, sc, rfl, q1, q2, q3⟩ := id hr7.val
    rw [List.length_map] at ci7 hr7 hset7 hne7 hbs7
    simp only [if_true] at ci7 fi7 hset7
    have B6 : Below wc.heap.size wc (wc.alloc (.cells #[strN sx] 9)).drew := ((Below.refl _ _).alloc (Nat.le_refl _) _).drew
    have L6 : Src (wc.alloc (.cells #[strN sx] 9)).drew 1 (.slice (some ⟨wc.heap.size, 0, none⟩) 1 1) ([sx].map strC) := Src.lit wc sx
    obtain ⟨d7, e7, y1, T7, P7, G7, O7⟩ := app_str0 (m := (seenN st i).length + 1) (hr7.keep B6) L6 (by simp) (by have := HD.out.2.2; omega)
    have hz6 : (wc.alloc (.cells #[strN sx] 9)).drew.heap.size = wc.heap.size + 1 := by show (wc.alloc (.cells #[strN sx] 9)).heap.size = _; simp
    have hon7 : Only (fun k => (Value.slice so (seenN st i).length sc).ownBlock = some k) wc y1 := (Only.of_below B6).trans (Only.of_grown (S := fun k => (Value.slice so (seenN st i).length sc).ownBlock = some k) G7 (fun k hk => hk)) (fun _ _ h => h)
    obtain ⟨bs7, hN7, hE7⟩ := hset7 y1 (.slice d7 ((seenN st i).length + 1) e7) (seenN st i ++ [sx]) hon7 P7 (O7.imp id (fun e => .inr ⟨_, e, B6.size⟩))
    rw [setRow_two HD.out.1] at hN7
    have C1 := (B6.cell (p := ⟨p, 1, none⟩) hl7.1).trans c17
    have C2 := (B6.cell (p := ⟨h7, i, none⟩) hl7.2.2).trans ci7
    have C3 := (hon7.cell (p := ⟨p, 1, none⟩) hl7.1 hne7.1).trans c17
    have C4 := (hon7.cell (p := ⟨h7, i, none⟩) hl7.2.2 hne7.2.2).trans ci7
    have C5 := (hon7.frozen (p := ⟨h7, i, none⟩) hl7.2.2 hne7.2.2).trans fi7
    have C6 : wc.drew.cell? ⟨p, 1, none⟩ = some (.slice (some ⟨h7, 0, none⟩) st.length ch7) := c17
    have C7 : wc.drew.cell? ⟨h7, i, none⟩ = some (.slice so (seenN st i).length sc) := ci7
    have HF := Lib.hid (And.intro hN7 (HS.out.2.trans hE7))
    unfold strN at C1 C2 T7
    clear hN7 hE7 hset7 hon7 hz6 O7 G7 P7 L6 B6 hr7 hne7 hpn7 hbs7 hl7 q1 q2 q3 hsn c07
    go_upto_region 7 with (fail)
    go_region
    clear C1 C2 C3 C4 C5 C6 C7 T7
    go_wp2_with fail
    go_ret2
    exact ⟨rfl, bs7, HF.out.1, HF.out.2⟩
end Go.Proofs.Ytbflffanahnofaa
