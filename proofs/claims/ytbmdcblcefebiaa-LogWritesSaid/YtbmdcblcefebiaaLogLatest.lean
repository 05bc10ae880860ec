/- log: latest. -/
import Derived.Test.YtbmdcblcefebiaaLogA
import Derived.Test.YtbmdcblcefebiaaDiskAny
namespace Go.Proofs.Ytbmdcblcefebiaa
open Go.RowKit
abbrev HdD := Option (Nat × Nat × Nat)
/-- What a head's sector holds: nothing, or a head. -/
def HeadOk (s : List UInt8) (h : HdD) (i room : Nat) : Prop := match h with
  | none => s = secL 0
  | some (t, a, c) => s = secT (headL t a c) ∧ t % 2 = i ∧ 1 ≤ t ∧ t ≤ 1000000000 ∧ a ≤ 1 ∧ c ≤ room
def plOf (h : HdD) : Nat × Nat × Nat := h.getD (0, 0, 0)
theorem lread_any {s : List UInt8} {h : HdD} {i room : Nat} (ho : HeadOk s h i room) (hr : room ≤ 1000000) (w : World) :
    Calls Try.prog 47 #[secV s, .int .i64 (i : Nat), .int .i64 room] w fun e w' => e = .returned (plV (plOf h).1 (plOf h).2.1 (plOf h).2.2) ∧ Below w.heap.size w w' := by
  cases h with
  | none =>
    have : s = secL 0 := ho
    subst this
    exact lread_zero i room w
  | some x =>
    obtain ⟨t, a, c⟩ := x
    obtain ⟨rfl, rfl, h1, h2, h3, h4⟩ := ho
    exact lread_head t a c room w h1 h2 h3 h4 hr
/-- A variable that holds a place. -/
def PlAt (w : World) (b : Nat) (x : Nat × Nat × Nat) : Prop := (w.cell? ⟨b, 0, none⟩ = some (.int .i64 x.1) ∧ w.cell? ⟨b, 1, none⟩ = some (.int .i64 x.2.1) ∧ w.cell? ⟨b, 2, none⟩ = some (.int .i64 x.2.2)) ∧
  (w.frozen? ⟨b, 0, none⟩ = false ∧ w.frozen? ⟨b, 1, none⟩ = false ∧ w.frozen? ⟨b, 2, none⟩ = false)
theorem PlAt.lt {w : World} {b : Nat} {x : Nat × Nat × Nat} (h : PlAt w b x) : b < w.heap.size := World.block_lt_of_cell? w _ h.1.1
theorem PlAt.keep {w w' : World} {b : Nat} {x : Nat × Nat × Nat} (h : PlAt w b x) (hb : Below w.heap.size w w') : PlAt w' b x := by
  have hl := h.lt
  obtain ⟨⟨a, c, d⟩, e, f, g⟩ := h
  exact ⟨⟨(hb.cell (p := ⟨b, 0, none⟩) hl).trans a, (hb.cell (p := ⟨b, 1, none⟩) hl).trans c, (hb.cell (p := ⟨b, 2, none⟩) hl).trans d⟩, (hb.frozen (p := ⟨b, 0, none⟩) hl).trans e, (hb.frozen (p := ⟨b, 1, none⟩) hl).trans f, (hb.frozen (p := ⟨b, 2, none⟩) hl).trans g⟩
theorem PlAt.zero (w : World) : PlAt (w.alloc (.cells #[.int .i64 0, .int .i64 0, .int .i64 0] 70)) w.heap.size (0, 0, 0) :=
  ⟨⟨World.cell?_alloc_new w _ _ 0, World.cell?_alloc_new w _ _ 1, World.cell?_alloc_new w _ _ 2⟩, by simp, by simp, by simp⟩
theorem PlAt.set {w : World} {r : Nat} {x : Nat × Nat × Nat} (h : PlAt w r x) (y : Nat × Nat × Nat) :
    PlAt (((w.setCell ⟨r, 0, none⟩ (.int .i64 y.1)).setCell ⟨r, 1, none⟩ (.int .i64 y.2.1)).setCell ⟨r, 2, none⟩ (.int .i64 y.2.2)) r y ∧ Only (· = r) w (((w.setCell ⟨r, 0, none⟩ (.int .i64 y.1)).setCell ⟨r, 1, none⟩ (.int .i64 y.2.1)).setCell ⟨r, 2, none⟩ (.int .i64 y.2.2)) := by
  obtain ⟨d0, d1, d2, _⟩ := set3 (.int .i64 (y.1 : Int)) (.int .i64 (y.2.1 : Int)) (.int .i64 (y.2.2 : Int)) h.1.1 h.1.2.1 h.1.2.2
  exact ⟨⟨⟨d0, d1, d2⟩, by simp only [World.frozen?_setCell]; exact h.2⟩, Only.setCell (S := (· = r)) (Only.setCell (S := (· = r)) (Only.setCell (S := (· = r)) (Only.refl _ _) (p := ⟨r, 0, none⟩) (fun _ => rfl) _) (p := ⟨r, 1, none⟩) (fun _ => rfl) _) (p := ⟨r, 2, none⟩) (fun _ => rfl) _⟩
theorem PlAt.only {S : Nat → Prop} {w w' : World} {b : Nat} {x : Nat × Nat × Nat} (h : PlAt w b x) (ho : Only S w w') (hS : ¬ S b) : PlAt w' b x := by
  have hl := h.lt
  obtain ⟨⟨a, c, d⟩, e, f, g⟩ := h
  exact ⟨⟨(ho.cell (p := ⟨b, 0, none⟩) hl hS).trans a, (ho.cell (p := ⟨b, 1, none⟩) hl hS).trans c, (ho.cell (p := ⟨b, 2, none⟩) hl hS).trans d⟩, (ho.frozen (p := ⟨b, 0, none⟩) hl hS).trans e, (ho.frozen (p := ⟨b, 1, none⟩) hl hS).trans f, (ho.frozen (p := ⟨b, 2, none⟩) hl hS).trans g⟩
theorem rangeAt_set3 {w : World} {sb r : Nat} {cs : List Value} (h : w.rangeAt sb 0 cs) (hne : sb ≠ r) (u0 u1 u2 : Value) : (((w.setCell ⟨r, 0, none⟩ u0).setCell ⟨r, 1, none⟩ u1).setCell ⟨r, 2, none⟩ u2).rangeAt sb 0 cs := fun j v hv => by
  have hx : ∀ o o', (⟨r, o', none⟩ : Addr) ≠ ⟨sb, o, none⟩ := fun o o' e => hne (by simpa using (congrArg Addr.block e).symm)
  rw [World.cell?_setCell_other _ _ _ _ (hx _ _), World.cell?_setCell_other _ _ _ _ (hx _ _), World.cell?_setCell_other _ _ _ _ (hx _ _)]
  exact h j v hv
/-- The better of two places. -/
def plMax (x y : Nat × Nat × Nat) : Nat × Nat × Nat := if x.1 < y.1 then y else x
attribute [local go_sem ↓] alS_eq ldS_eq stS_eq cpB_eq
attribute [local go_sem] run_alS run_guard_sec
theorem results_cell_tmp' {P : Program} {fn : Func} {a u : Tmp} {t : TypeId} {b o : Nat} {v : Value} {w : World} {tmps : Array Value} (h : fn.results = #[.cell a t, .tmp u]) (ha : tmps.getD a undef = .pointer (some ⟨b, o, none⟩))
    (hr : (loadVar t ⟨b, o, none⟩).run P w = .ok v w) : (results fn tmps).run P w = .ok (.tuple #[v, tmps.getD u undef]) w := results_cell_tmp h ha hr
/-- The places of the heads up to one. -/
def bestTo (h0 h1 : HdD) (i : Nat) : Nat × Nat × Nat := if i = 0 then (0, 0, 0) else if i = 1 then plMax (0, 0, 0) (plOf h0) else plMax (plMax (0, 0, 0) (plOf h0)) (plOf h1)
set_option maxRecDepth 100000 in
set_option maxHeartbeats 4000000 in
theorem llatest_any (w : World) {p : Nat} {d : DK} {bs : Nat → Prop} (h : DiskAt w p d bs) (hoff : d.off = false) {h0 h1 : HdD} (hn : 4 ≤ d.now.length) (hn2 : d.now.length ≤ 100)
    (hh0 : HeadOk (d.now.getD 0 []) h0 0 (roomN d.now.length)) (hh1 : HeadOk (d.now.getD 1 []) h1 1 (roomN d.now.length)) :
    Calls Try.prog 30 #[.pointer (some ⟨p, 0, none⟩)] w fun e w' => e = .returned (.tuple #[plV (bestTo h0 h1 2).1 (bestTo h0 h1 2).2.1 (bestTo h0 h1 2).2.2, .int .i64 0]) ∧ Below w.heap.size w w' := by
  have hrm : roomN d.now.length ≤ 1000000 := by unfold roomN areaN; split <;> omega
  have hmay : ∀ i : Nat, i < 2 → d.readE i = 0 ∧ d.readV i = d.now.getD i [] := fun i hi => by
    have hm : d.may i = 0 := by unfold DK.may; rw [hoff, if_neg (by simp), if_neg (by omega)]
    exact ⟨hm, by unfold DK.readV; rw [if_pos hm, Int.toNat_natCast]⟩
  go_enter Try.func30, Try.ntmps30
  go_wp2_with fail
  have hz0 := PlAt.zero w
  have hz1 := PlAt.zero (w.alloc (.cells #[.int .i64 0, .int .i64 0, .int .i64 0] 70))
  have hsz : (w.alloc (.cells #[.int .i64 0, .int .i64 0, .int .i64 0] 70)).heap.size = w.heap.size + 1 := by simp
  rw [hsz] at hz1
  have hB1 : Below w.heap.size w (w.alloc (.cells #[.int .i64 0, .int .i64 0, .int .i64 0] 70)) := (Below.refl _ _).alloc (Nat.le_refl _) _
  have hB2 : Below (w.heap.size + 1) (w.alloc (.cells #[.int .i64 0, .int .i64 0, .int .i64 0] 70)) ((w.alloc (.cells #[.int .i64 0, .int .i64 0, .int .i64 0] 70)).alloc (.cells #[.int .i64 0, .int .i64 0, .int .i64 0] 70)) := (Below.refl _ _).alloc (by omega) _
  have hz2 := hz0.keep (by rw [hsz]; exact hB2)
  have hBB := hB1.trans (hB2.mono (by omega))
  clear hz0 hB1 hB2 hsz
  generalize (w.alloc (.cells #[.int .i64 0, .int .i64 0, .int .i64 0] 70)).alloc (.cells #[.int .i64 0, .int .i64 0, .int .i64 0] 70) = w2 at *
  go_loopw [9] (fun j wr => ∃ i : Nat, i ≤ 2 ∧ j = .int .i64 i ∧ PlAt wr w.heap.size (0, 0, 0) ∧ PlAt wr (w.heap.size + 1) (bestTo h0 h1 i) ∧ Below w.heap.size w wr) (fun j _ => 2 - (intOf j).toNat)
  case atStart => exact ⟨0, by omega, rfl, hz2, hz1, hBB⟩
  case round =>
    clear hz1 hz2 hBB
    obtain ⟨i, hi, rfl, hr, hb, hB⟩ := hrel
    have hi0 : (0 : Int) ≤ i := Int.natCast_nonneg _
    by_cases hlt : i < 2
    · have hlt2 : (i : Int) < 2 := by omega
      obtain ⟨hm1, hm2⟩ := hmay i hlt
      obtain ⟨hx, hok, hnx⟩ : ∃ hx : HdD, HeadOk (d.now.getD i []) hx i (roomN d.now.length) ∧ bestTo h0 h1 (i + 1) = plMax (bestTo h0 h1 i) (plOf hx) := by
        rcases (show i = 0 ∨ i = 1 by omega) with rfl | rfl
        · exact ⟨h0, hh0, rfl⟩
        · exact ⟨h1, hh1, rfl⟩
      have hsl : (d.now.getD i []).length = 64 := by
        unfold HeadOk at hok
        split at hok
        · rw [hok]; simp [secL]
        · rw [hok.1]; exact secT_len _
      have hD := h.keep hB
      have hrd := dread_any (i : Int) wr hD
      rw [hm1, hm2] at hrd
      clear hm1 hm2
      generalize d.now.getD i [] = ss at *
      go_wp2_with fail
      refine hrd.mono ?_
      rintro e w4 ⟨rfl, hB4⟩
      have hst := run_stS (w4.alloc (.cells (zC 1).toArray 39)) w4.heap.size 0 ss (there_alS w4) hsl
      obtain ⟨hv1, hv2, hv3⟩ := secV_var w4 ss hsl
      have hD5 := (hD.keep hB4).keep hv2
      have hr5 := (hr.keep hB4).keep hv2
      have hb5 := (hb.keep hB4).keep hv2
      have hB5 := (hB.trans (hB4.mono hB.size)).trans (hv2.mono (Nat.le_trans hB.size hB4.size))
      have hs5 : w4.heap.size < ((w4.alloc (.cells (zC 1).toArray 39)).setCells w4.heap.size 0 (secC ss)).heap.size := by omega
      clear hrd hD hr hb hB4 hv2 hv3 hB
      go_upto_region 8 with (fail)
      clear hst
      generalize (w4.alloc (.cells (zC 1).toArray 39)).setCells w4.heap.size 0 (secC ss) = w5 at *
      generalize w4.heap.size = sb at *
      have hlc : (secC ss).length = 64 := by simp [secC, hsl]
      have hiS : (Try.prog.info? 39).map (·.size) = some (secC ss).length := by rw [hlc]; exact Try.info_sec'
      have huS := Try.underlying39
      have hrdH : ∀ w, Calls Try.prog 47 #[.agg (secC ss).toArray, .int .i64 (i : Nat), .int .i64 (roomN d.now.length)] w fun e w' => e = .returned (plV (plOf hx).1 (plOf hx).2.1 (plOf hx).2.2) ∧ Below w.heap.size w w' := fun w => lread_any hok hrm w
      have hD6 := DiskAt.keep (w' := w5.drew) hD5 ((Below.refl _ _).drew)
      have hv6 : w5.drew.rangeAt sb 0 (secC ss) := hv1
      have hn8 : d.now.length ≤ 100000 := by omega
      have hp6 : PlAt (w5.drew.alloc (.cells #[.int .i64 0, .int .i64 0, .int .i64 0] 70)) w5.heap.size (0, 0, 0) := PlAt.zero w5.drew
      have hs6 : sb < w5.drew.heap.size := hs5
      have hAl : Below w5.drew.heap.size w5.drew (w5.drew.alloc (.cells #[.int .i64 0, .int .i64 0, .int .i64 0] 70)) := (Below.refl _ _).alloc (Nat.le_refl _) _
      generalize secC ss = css at *
      unfold plV at hrdH
      generalize hpx : plOf hx = px at *
      have HNX := Lib.hid hnx
      clear hnx hpx
      have hsr : sb ≠ w5.heap.size := Nat.ne_of_lt hs5
      clear hok hsl hlc
      go_region_held_law (fun w' => w'.rangeAt sb 0 css) (first | exact rangeAt_set3 hvC hsr _ _ _ | exact hvC | exact hv6 | go_keep_ranges) (first
        | (go_at_call 35; refine (dsize_any _ (by first | exact hD6 | exact hD6.keep hAl)).mono ?_; rintro e wB ⟨rfl, rfl⟩)
        | (go_at_call 33; refine (lroom_any d.now.length _ hn8).mono ?_; rintro e wB ⟨rfl, rfl⟩)
        | (go_at_call 47; refine (hrdH _).mono ?_; rintro e wC ⟨rfl, hBC⟩; first | (have hpC := hp6.keep hBC; obtain ⟨⟨y0, y1, y2⟩, y3, y4, y5⟩ := id hpC; have hBD := hAl.trans (hBC.mono hAl.size); have hvC : wC.rangeAt sb 0 css := (fun j v hv => (hBD.cell (p := ⟨sb, 0 + j, none⟩) hs6).trans (hv6 j v hv))) | (have hBD := hBC; have hvC : wC.rangeAt sb 0 css := (fun j v hv => (hBD.cell (p := ⟨sb, 0 + j, none⟩) hs6).trans (hv6 j v hv)))))
      all_goals
        first
        | (obtain ⟨hP, hPo⟩ := hpC.set px
           have hBF : Below w5.heap.size w5 (((wC.setCell ⟨w5.heap.size, 0, none⟩ (.int .i64 px.1)).setCell ⟨w5.heap.size, 1, none⟩ (.int .i64 px.2.1)).setCell ⟨w5.heap.size, 2, none⟩ (.int .i64 px.2.2)) := (Below.of_drew hBD).trans (hPo.to_below hBD.size (fun k hk => by rw [hk]; exact Nat.le_refl _))
           have hPb : w5.heap.size ≤ w5.heap.size := Nat.le_refl _
           generalize ((wC.setCell ⟨w5.heap.size, 0, none⟩ (.int .i64 px.1)).setCell ⟨w5.heap.size, 1, none⟩ (.int .i64 px.2.1)).setCell ⟨w5.heap.size, 2, none⟩ (.int .i64 px.2.2) = wF at *)
        | (have hP : PlAt (wC.alloc (.cells #[.int .i64 px.1, .int .i64 px.2.1, .int .i64 px.2.2] 70)) wC.heap.size px := ⟨⟨World.cell?_alloc_new wC _ _ 0, World.cell?_alloc_new wC _ _ 1, World.cell?_alloc_new wC _ _ 2⟩, by simp, by simp, by simp⟩
           have hBF : Below w5.heap.size w5 (wC.alloc (.cells #[.int .i64 px.1, .int .i64 px.2.1, .int .i64 px.2.2] 70)) := (Below.of_drew hBD).alloc hBD.size _
           have hPb : w5.heap.size ≤ wC.heap.size := hBD.size
           generalize wC.alloc (.cells #[.int .i64 px.1, .int .i64 px.2.1, .int .i64 px.2.2] 70) = wF at *)
        have hr6 := hr5.keep hBF
        have hb6 := hb5.keep hBF
        have hB6 := hB5.trans (hBF.mono hB5.size)
        have hbl := hb5.lt
        obtain ⟨⟨x0, x1, x2⟩, x3, x4, x5⟩ := id hP
        obtain ⟨⟨z0, z1, z2⟩, z3, z4, z5⟩ := id hb6
        by_cases hgt : (bestTo h0 h1 i).1 < px.1
        · have hgt2 : ((bestTo h0 h1 i).1 : Int) < (px.1 : Int) := by omega
          obtain ⟨hs1, hs2⟩ := hb6.set px
          have F1 := hs1
          rw [show px = bestTo h0 h1 (i + 1) by rw [HNX.out]; unfold plMax; rw [if_pos hgt]] at F1
          have F2 := hr6.only hs2 (by omega)
          have F3 := hB6.trans (hs2.to_below hB6.size (fun k hk => by rw [hk]; omega))
          have HF := Lib.hid (And.intro F2 F3)
          have HF1 := Lib.hid hs1
          have hq : px = bestTo h0 h1 (i + 1) := by rw [HNX.out]; unfold plMax; rw [if_pos hgt]
          have HF2 := Lib.hid hq
          clear hq
          clear F1 F2 F3 hs1 hs2 hr6 hb6 hB6 hr5 hb5 hB5 hP hBF hPb hD5 hv1 hrdH hD6 hv6 hp6 hAl hBC hBD hvC hbl
          go_wp2_with fail
          go_roundw
          case rel => exact ⟨i + 1, by omega, by go_num, HF.out.1, by rw [← HF2.out]; exact HF1.out, HF.out.2⟩
          case measure => simp [intOf]; omega
        · have hgt2 : (px.1 : Int) ≤ ((bestTo h0 h1 i).1 : Int) := by omega
          have hq : bestTo h0 h1 i = bestTo h0 h1 (i + 1) := by rw [HNX.out]; unfold plMax; rw [if_neg hgt]
          have HF2 := Lib.hid hq
          clear hq
          have HF := Lib.hid (And.intro hr6 (And.intro hb6 hB6))
          clear hr6 hb6 hB6 hr5 hb5 hB5 hP hBF hPb hD5 hv1 hrdH hD6 hv6 hp6 hAl hBC hBD hvC hbl
          go_wp2_with fail
          go_roundw
          case rel => exact ⟨i + 1, by omega, by go_num, HF.out.1, by rw [← HF2.out]; exact HF.out.2.1, HF.out.2.2⟩
          case measure => simp [intOf]; omega
    · have hi2 : i = 2 := by omega
      subst hi2
      obtain ⟨⟨x0, x1, x2⟩, x3, x4, x5⟩ := id hr
      obtain ⟨⟨z0, z1, z2⟩, z3, z4, z5⟩ := id hb
      obtain ⟨hs1, hs2⟩ := hr.set (bestTo h0 h1 2)
      have HF := Lib.hid (And.intro hs1 (hB.trans (hs2.to_below hB.size (fun k hk => by rw [hk]; exact Nat.le_refl _))))
      clear hs1 hs2 hr hb hB
      generalize hbb : bestTo h0 h1 2 = bb at *
      have HBB := Lib.hid hbb
      clear hbb
      go_wp2_with fail
      obtain ⟨⟨y0, y1, y2⟩, _⟩ := HF.out.1
      refine bodyPost_ret (results_cell_tmp (v := plV bb.1 bb.2.1 bb.2.2) Try.results30 rfl ?_) rfl ⟨by rw [HBB.out]; rfl, HF.out.2⟩
      unfold plV
      go_simp
end Go.Proofs.Ytbmdcblcefebiaa
