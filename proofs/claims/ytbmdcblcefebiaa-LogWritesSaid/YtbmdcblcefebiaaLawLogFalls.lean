/- The walk of LogFalls. -/
import Derived.Test.YtbmdcblcefebiaaLogFallP
import Derived.Test.YtbmdcblcefebiaaLawLogEnds
import Derived.Deep.DeepCutAuto
import Derived.Deep.CutBlock
namespace Go.Proofs.Ytbmdcblcefebiaa
open Go.RowKit
theorem mem_allL {rs : List (List UInt8)} {r : List UInt8} (h : r ∈ rs) : r.length ≤ (allL rs).length := by
  obtain ⟨a, b, rfl⟩ := List.append_of_mem h
  rw [allL_append, show r :: b = [r] ++ b from rfl, allL_append, List.length_append, List.length_append]
  have : (allL [r]).length = r.length + 8 := by simp [allL, recL_len]
  omega
theorem recsA_fit {rs : List (List UInt8)} (h : (allL rs).length ≤ 10000) : recsA (allL rs) = (rs, (allL rs).length) := recsA_all rs (fun r hr => by have := mem_allL hr; omega)
theorem fallCells {w : World} {ys : List FallD} {b off : Nat} (h : ∀ i (h : i < ys.length) j, j < 3 → w.cell? ⟨b, off + i * 3 + j, none⟩ = (fallC ys[i])[j]?) {i : Nat} (hi : i < ys.length) {w' : World} (hb : Below w.heap.size w w') :
    w'.cell? ⟨b, off + i * 3, none⟩ = some ys[i].rv ∧ w'.cell? ⟨b, off + i * 3 + 1, none⟩ = some (.int .i64 ys[i].fuse) ∧ w'.cell? ⟨b, off + i * 3 + 2, none⟩ = some ys[i].sv := by
  have h0 : w.cell? ⟨b, off + i * 3, none⟩ = some ys[i].rv := h i hi 0 (by omega)
  have h1 : w.cell? ⟨b, off + i * 3 + 1, none⟩ = some (.int .i64 ys[i].fuse) := h i hi 1 (by omega)
  have h2 : w.cell? ⟨b, off + i * 3 + 2, none⟩ = some ys[i].sv := h i hi 2 (by omega)
  have hlt : b < w.heap.size := World.block_lt_of_cell? w _ h0
  exact ⟨(hb.cell (p := ⟨b, off + i * 3, none⟩) hlt).trans h0, (hb.cell (p := ⟨b, off + i * 3 + 1, none⟩) hlt).trans h1, (hb.cell (p := ⟨b, off + i * 3 + 2, none⟩) hlt).trans h2⟩
theorem actCells {w : World} {ys : List LAct} {b off : Nat} (h : ∀ i (h : i < ys.length) j, j < 2 → w.cell? ⟨b, off + i * 2 + j, none⟩ = (lactC ys[i])[j]?) {i : Nat} (hi : i < ys.length) {w' : World} (hb : Below w.heap.size w w') :
    w'.cell? ⟨b, off + i * 2, none⟩ = some (.bool ys[i].rep) ∧ w'.cell? ⟨b, off + i * 2 + 1, none⟩ = some ys[i].rv := by
  have h0 : w.cell? ⟨b, off + i * 2, none⟩ = some (.bool ys[i].rep) := h i hi 0 (by omega)
  have h1 : w.cell? ⟨b, off + i * 2 + 1, none⟩ = some ys[i].rv := h i hi 1 (by omega)
  have hlt : b < w.heap.size := World.block_lt_of_cell? w _ h0
  exact ⟨(hb.cell (p := ⟨b, off + i * 2, none⟩) hlt).trans h0, (hb.cell (p := ⟨b, off + i * 2 + 1, none⟩) hlt).trans h1⟩
theorem lactsAt_keep {w w' : World} {v : Value} {ys : List LAct} (h : LActsAt w v ys) (hb : Below w.heap.size w w') : ∀ y ∈ ys, MsgsAt w' y.rv y.recs := fun y hy => (h.2 y hy).keep hb
theorem msB_nil (P : Nat → Prop) : ∀ k, msB (.slice none 0 0) [] k → ¬ P k := by
  rintro k (hk | ⟨y, hy, _⟩)
  · cases hk
  · cases hy
/-- How things stand between two calls: the log is good, or the power is off. -/
def Mid2 (w0 wx : World) (sv : Value) (ys : List MsgD) (nv : Value) (zs : List MsgD) (lp p ab T : Nat) : Prop := ab < wx.heap.size ∧ ∃ (d : DK) (L : LD) (bs : Nat → Prop),
  MS wx w0.heap.size sv ys ∧ MS wx w0.heap.size nv zs ∧ LogAt wx lp p d L bs ∧ (∀ k, bs k → w0.heap.size ≤ k) ∧ (∀ k, msB sv ys k → ¬ bs k) ∧ (∀ k, msB nv zs k → ¬ bs k) ∧ (∀ k, bs k → k ≠ ab) ∧ d.now.length = 22 ∧ L.turn ≤ T ∧ Below w0.heap.size w0 wx ∧
  CrashOk d 22 T (ys.map (·.l)) (zs.map (·.l)) ∧ (d.off = true ∨ (Hlt d ∧ Img d.now L.turn L.area L.b ∧ L.b = allL (ys.map (·.l)) ∧ zs.map (·.l) = ys.map (·.l)))
theorem CrashOk.le {d : DK} {n T T' : Nat} {a b : List (List UInt8)} (h : CrashOk d n T a b) (hT : T ≤ T') : CrashOk d n T' a b :=
  ⟨h.1, h.2.1, fun stay => by obtain ⟨t, a, b, h1, h2, h3⟩ := h.2.2 stay; exact ⟨t, a, b, h1, Nat.le_trans h2 hT, h3⟩⟩
theorem Mid2.le {w0 wx : World} {sv nv : Value} {ys zs : List MsgD} {lp p ab T T' : Nat} (h : Mid2 w0 wx sv ys nv zs lp p ab T) (hT : T ≤ T') : Mid2 w0 wx sv ys nv zs lp p ab T' := by
  obtain ⟨h0, d, L, bs, h1, h2, h3, h4, h5, h6, h7, h8, h9, h10, h11, h12⟩ := h
  exact ⟨h0, d, L, bs, h1, h2, h3, h4, h5, h6, h7, h8, Nat.le_trans h9 hT, h10, h11.le hT, h12⟩
/-- How things stand behind a call that answered g. -/
def Aft (w0 wx : World) (sv : Value) (ys : List MsgD) (nv : Value) (zs : List MsgD) (lp p ab T : Nat) (g : Int) : Prop := ab < wx.heap.size ∧ ∃ (d : DK) (L : LD) (bs : Nat → Prop),
  MS wx w0.heap.size sv ys ∧ MS wx w0.heap.size nv zs ∧ LogAt wx lp p d L bs ∧ (∀ k, bs k → w0.heap.size ≤ k) ∧ (∀ k, msB sv ys k → ¬ bs k) ∧ (∀ k, msB nv zs k → ¬ bs k) ∧ (∀ k, bs k → k ≠ ab) ∧ d.now.length = 22 ∧ L.turn ≤ T ∧ Below w0.heap.size w0 wx ∧
  ((g = 0 ∧ Hlt d ∧ Img d.now L.turn L.area L.b ∧ L.b = allL (zs.map (·.l))) ∨ (g = 9 ∧ d.off = true ∧ CrashOk d 22 T (ys.map (·.l)) (zs.map (·.l))) ∨ (g = 8 ∧ Hlt d ∧ Img d.now L.turn L.area L.b ∧ L.b = allL (ys.map (·.l))))
theorem Aft.of_put {w0 w6 w7 : World} {e : Ending} {sv nv : Value} {ys zs : List MsgD} {lp p ab T a2 : Nat} {d : DK} {L : LD} {bs : Nat → Prop} (h : PutRes w6 w7 e lp p d L bs a2 (allL (zs.map (·.l)))) (hab : ab < w6.heap.size) (hS : MS w6 w0.heap.size sv ys) (hZ : MS w6 w0.heap.size nv zs)
    (hbs : ∀ k, bs k → w0.heap.size ≤ k) (hdS : ∀ k, msB sv ys k → ¬ bs k) (hdZ : ∀ k, msB nv zs k → ¬ bs k) (hba : ∀ k, bs k → k ≠ ab) (hn : d.now.length = 22) (hT : L.turn + 1 ≤ T) (hB : Below w0.heap.size w0 w6) (hLb : L.b = allL (ys.map (·.l))) :
    ∃ g : Int, e = .returned (.int .i64 g) ∧ Aft w0 w7 sv ys nv zs lp p ab T g ∧ ∀ j, w7.cell? ⟨ab, j, none⟩ = w6.cell? ⟨ab, j, none⟩ := by
  obtain ⟨d2, bs2, hE, hn2, hc⟩ := h
  obtain ⟨hbs2, hB2⟩ := hE.own hbs hB (Nat.le_refl _)
  have hS2 := hS.only hE.only (fun k hk e => hdS k hk e)
  have hZ2 := hZ.only hE.only (fun k hk e => hdZ k hk e)
  have hdS2 : ∀ k, msB sv ys k → ¬ bs2 k := fun k hk e => (hE.new k e).elim (hdS k hk) (fun e2 => by have := hS.lt k hk; omega)
  have hdZ2 : ∀ k, msB nv zs k → ¬ bs2 k := fun k hk e => (hE.new k e).elim (hdZ k hk) (fun e2 => by have := hZ.lt k hk; omega)
  have hba2 : ∀ k, bs2 k → k ≠ ab := fun k hk e => (hE.new k hk).elim (fun e2 => hba k e2 e) (fun e2 => by omega)
  have hcell : ∀ j, w7.cell? ⟨ab, j, none⟩ = w6.cell? ⟨ab, j, none⟩ := fun j => hE.only.cell (p := ⟨ab, j, none⟩) hab (fun e => hba ab e rfl)
  have hab2 := Nat.lt_of_lt_of_le hab hE.only.size
  rcases hc with ⟨rfl, hL, hH, hI, hf⟩ | ⟨rfl, hL, hoff, h0, hfl, hlo, hst⟩
  · exact ⟨0, rfl, ⟨hab2, d2, _, bs2, hS2, hZ2, hL, hbs2, hdS2, hdZ2, hba2, by rw [hn2, hn], hT, hB2, .inl ⟨rfl, hH, hI, rfl⟩⟩, hcell⟩
  · refine ⟨9, rfl, ⟨hab2, d2, L, bs2, hS2, hZ2, hL, hbs2, hdS2, hdZ2, hba2, by rw [hn2, hn], by omega, hB2, .inr (.inl ⟨rfl, hoff, by rw [hfl, hn], fun x hx => by rw [← hn]; exact hlo x hx, fun stay => ?_⟩)⟩, hcell⟩
    obtain ⟨h1, h2, h3⟩ := hst stay
    rcases h1 with h1 | h1
    · exact ⟨_, _, _, h1, by omega, .inl hLb, h2, by rw [h3, hn]⟩
    · exact ⟨_, _, _, h1, hT, .inr rfl, h2, by rw [h3, hn]⟩
set_option maxRecDepth 100000 in
set_option maxHeartbeats 4000000 in
theorem logFalls_walk (v : Value) (fs : List FallD) (w : World) (hv : FallsAt w v fs) :
    Calls Try.prog 4 #[v] w fun e w' => e = .returned (.bool true) ∧ Below w.heap.size w w' := by
  obtain ⟨⟨ao, cap, rfl, hz1, hz2, hz3, hne⟩, hfo⟩ := hv
  have hr22 : roomN 22 = 640 := rfl
  clear hz3
  go_enter Try.func4, Try.ntmps4
  go_wp2_with fail
  refine (dnew_ok 22 w (by omega) (by omega)).mono ?_
  rintro e w1 ⟨p, rfl, ⟨ds, hD, hds⟩, hB1⟩
  go_wp2_with fail
  refine (format_new w1 hD (by omega) (by omega)).mono ?_
  rintro e w2 ⟨lp, rfl, d, bs, hL, hE, hH, hI, hn, hfu⟩
  obtain ⟨hbs2, hB2⟩ := hE.own hds hB1 (Nat.le_refl _)
  clear hE hD hds hB1
  go_wp2_with fail
  refine (logs_any w2).mono ?_
  rintro e w3 ⟨rfl, hB3⟩
  have hL3 := hL.keep hB3
  have hBB3 := hB2.trans (hB3.mono hB2.size)
  clear hL hB3 hB2
  go_wp2_with fail
  go_loopw [5, 7, 8] (fun lv sv j wr => ∃ (i lp : Nat) (d : DK) (L : LD) (bs : Nat → Prop) (ys : List MsgD), j = .int .i64 i ∧ lv = .pointer (some ⟨lp, 0, none⟩) ∧ i ≤ 4 ∧ MS wr w.heap.size sv ys ∧ LogAt wr lp p d L bs ∧ (∀ k, bs k → w.heap.size ≤ k) ∧ (∀ k, msB sv ys k → ¬ bs k) ∧
    d.now.length = 22 ∧ L.turn ≤ 1 + 8 * i ∧ Below w.heap.size w wr ∧ Hlt d ∧ Img d.now L.turn L.area L.b ∧ L.b = allL (ys.map (·.l))) (fun _ _ j _ => 4 - (intOf j).toNat)
  case atStart => exact ⟨0, lp, d, _, bs, [], rfl, rfl, by omega, MS.nil _ _, hL3, hbs2, msB_nil _, hn, by show 1 ≤ _; omega, hBB3, hH, hI, by simp [allL]⟩
  case round =>
    clear hL3 hbs2 hBB3 hH hI hn hfu
    obtain ⟨i, lp, d, L, bs, ys, rfl, rfl, hi4, hS, hL, hbs, hdj, hn, hT, hB, hH, hI, hLb⟩ := hrel
    have hi0 : (0 : Int) ≤ i := Int.natCast_nonneg _
    by_cases hlt : i < fs.length
    · have hlt2 : (i : Int) < fs.length := by omega
      by_cases hl4 : i < 4
      · have hl42 : (i : Int) < 4 := by omega
        obtain ⟨b, off, rfl, hcells⟩ := hne (by intro e; simp [e] at hlt)
        obtain ⟨c0, c1, c2⟩ := fallCells hcells hlt hB
        obtain ⟨hac, hst⟩ := hfo _ (List.getElem_mem hlt)
        clear hcells hne hfo
        generalize fs[i] = y at *
        obtain ⟨rv, acts, fuse, sv, stay⟩ := y
        dsimp only at c0 c1 c2 hac hst
        have hsp : ¬ False := id
        obtain ⟨⟨ro, rc, rfl, hr1, hr2, hr3, hrc⟩, hra⟩ := hac
        obtain ⟨so, sc, rfl, hs1, hs2, hs3⟩ := id hst
        clear hs3 hr3
        have hA : Below wr.heap.size wr (wr.alloc (.cells #[.slice ro acts.length rc, .int .i64 fuse, .slice so stay.length sc] 52)) := (Below.refl _ _).alloc (Nat.le_refl _) _
        have hv0 : ∀ j, (wr.alloc (.cells #[.slice ro acts.length rc, .int .i64 fuse, .slice so stay.length sc] 52)).cell? ⟨wr.heap.size, j, none⟩ = #[Value.slice ro acts.length rc, .int .i64 fuse, .slice so stay.length sc][j]? := fun j => World.cell?_alloc_new wr _ _ j
        have hvl : wr.heap.size < (wr.alloc (.cells #[.slice ro acts.length rc, .int .i64 fuse, .slice so stay.length sc] 52)).heap.size := by simp
        have hBA := hB.trans (hA.mono hB.size)
        have hSA := hS.keep hA
        have hLA := hL.keep hA
        have hab : ∀ k, bs k → k ≠ wr.heap.size := fun k hk e => by have := hL.lt k hk; omega
        have habw := hB.size
        clear hA hS hL hB
        go_upto_region 10 with (fail)
        clear c0 c1 c2
        generalize wr.alloc (.cells #[.slice ro acts.length rc, .int .i64 fuse, .slice so stay.length sc] 52) = wA at *
        generalize wr.heap.size = ab at *
        have c0 : wA.cell? ⟨ab, 0, none⟩ = some (.slice ro acts.length rc) := hv0 0
        have c1 : wA.cell? ⟨ab, 1, none⟩ = some (.int .i64 fuse) := hv0 1
        have c2 : wA.cell? ⟨ab, 2, none⟩ = some (.slice so stay.length sc) := hv0 2
        clear hv0
        obtain ⟨q, hq, hq1, hq2⟩ := umodL fuse 16 (by omega) (by omega)
        clear hq2
        rw [show ((16 : Nat) : Int) = 16 from rfl] at hq1
        obtain ⟨dsA, hDA, hdsA, hstA⟩ := hLA.disk
        have hfz := dfuse_any (q : Int) wA hDA (by omega)
        have hmx : max (q : Int) 0 = (q : Int) := by omega
        rw [hmx] at hfz
        have hlA := hLA.lt
        have HX := Lib.hid (And.intro hSA (And.intro hLA (And.intro hbs (And.intro hdj (And.intro hn (And.intro hT (And.intro hBA (And.intro hH (And.intro hI (And.intro hLb (And.intro hstA hab)))))))))))
        clear hSA hLA hbs hdj hn hT hBA hH hI hLb hstA hab hDA hdsA hmx hlA
        go_wp2_with fail
        refine hfz.mono ?_
        rintro e wF ⟨rfl, hDF, hEF⟩
        obtain ⟨hSA, hLA, hbs, hdj, hn, hT, hBA, hH, hI, hLb, hstA, hab⟩ := HX.out
        obtain ⟨bsF, hLF, hEL⟩ := hstA _ _ _ hDF hEF
        have hHF : Hlt { d with fuse := (q : Int) } := hlt_of hH.on hH.loose hH.fast hH.sec hH.n4 hH.n100 ⟨by show (0 : Int) ≤ q; omega, by show (q : Int) ≤ _; omega⟩
        obtain ⟨hbsF, hBF⟩ := hEL.own hbs hBA (Nat.le_refl _)
        have hSF := hSA.only hEL.only (fun k hk e => hdj k hk e)
        have hdjF : ∀ k, msB u7 ys k → ¬ bsF k := fun k hk e => (hEL.new k e).elim (hdj k hk) (fun e2 => by have := hSA.lt k hk; omega)
        have habF : ∀ k, bsF k → k ≠ ab := fun k hk e => (hEL.new k hk).elim (fun e2 => hab k e2 e) (fun e2 => by omega)
        have c0 := (hEL.only.cell (p := ⟨ab, 0, none⟩) hvl (fun e => hab ab e rfl)).trans c0
        have c2 := (hEL.only.cell (p := ⟨ab, 2, none⟩) hvl (fun e => hab ab e rfl)).trans c2
        have hCr : CrashOk { d with fuse := (q : Int) } 22 (1 + 8 * i) (ys.map (·.l)) (ys.map (·.l)) := by
          have := CrashOk.good (nw := ys.map (·.l)) hHF hI hT hLb
          rw [show ({ d with fuse := (q : Int) } : DK).now.length = 22 from hn] at this
          exact this
        have hM0 : Mid2 w wF u7 ys u7 ys lp p ab (1 + 8 * i) := ⟨Nat.lt_of_lt_of_le hvl hEL.only.size, _, L, bsF, hSF, hSF, hLF, hbsF, hdjF, hdjF, habF, hn, hT, hBF, hCr, .inr ⟨hHF, hI, hLb, rfl⟩⟩
        clear hSA hLA hbs hdj hn hT hBA hH hI hLb hstA hab hDF hEF hLF hEL hHF hbsF hBF hSF hdjF habF hCr HX hfz c1 hq1 hq
        go_upto_block 2 with (fail)
        go_cut [7, 10] (fun sv nv wx => ∃ (ys2 zs2 : List MsgD), Mid2 w wx sv ys2 nv zs2 lp p ab (1 + 8 * i + 6) ∧ wx.cell? ⟨ab, 2, none⟩ = some (.slice so stay.length sc))
        case first =>
          go_wp2_with fail
          go_loopw [7, 10, 11] (fun sv nv j wr => ∃ (k : Nat) (ys2 zs2 : List MsgD), j = .int .i64 k ∧ k ≤ 6 ∧ Mid2 w wr sv ys2 nv zs2 lp p ab (1 + 8 * i + k) ∧ wr.cell? ⟨ab, 0, none⟩ = some (.slice ro acts.length rc) ∧ wr.cell? ⟨ab, 2, none⟩ = some (.slice so stay.length sc)) (fun _ _ j _ => 6 - (intOf j).toNat)
          case atStart => exact ⟨0, ys, ys, rfl, by omega, hM0, c0, c2⟩
          case round =>
            clear hM0 c0 c2
            obtain ⟨k, ys2, zs2, rfl, hk6, hM, c0, c2⟩ := hrel
            have HM := Lib.hid hM
            have hk0 : (0 : Int) ≤ k := Int.natCast_nonneg _
            by_cases hka : k < acts.length
            · have hka2 : (k : Int) < acts.length := by omega
              by_cases hk7 : k < 6
              · have hk72 : (k : Int) < 6 := by omega
                obtain ⟨habl, d2, L2, bs2, hS2, hZ2, hL2, hbs2, hdS, hdZ, hab2, hn2, hT2, hB2, hCr2, hgd⟩ := hM
                obtain ⟨ds2, hD2, hds2, hst2⟩ := hL2.disk
                have hof := doff_any wr hD2
                have HX := Lib.hid (And.intro hS2 (And.intro hZ2 (And.intro hL2 (And.intro hbs2 (And.intro hdS (And.intro hdZ (And.intro hab2 (And.intro hn2 (And.intro hT2 (And.intro hB2 hCr2))))))))))
                clear hS2 hZ2 hL2 hbs2 hdS hdZ hab2 hn2 hT2 hCr2 hD2 hds2 hst2
                rcases hgd with hoff | ⟨hH2, hI2, hLb2, hzy⟩
                · rw [hoff] at hof
                  go_wp2_with fail
                  refine hof.mono ?_
                  rintro e w5 ⟨rfl, rfl⟩
                  go_wp2_with fail
                  go_meet
                  exact ⟨ys2, zs2, HM.out.le (by omega), c2⟩
                · rw [hH2.on] at hof
                  go_wp2_with fail
                  refine hof.mono ?_
                  rintro e w5 ⟨rfl, rfl⟩
                  obtain ⟨g, o, rfl, hcc⟩ := hrc (by intro e; simp [e] at hka)
                  obtain ⟨e0, e1⟩ := actCells hcc hka hB2
                  have hrm := (hra _ (List.getElem_mem hka)).keep hB2
                  generalize acts[k] = act at *
                  obtain ⟨rep, arv, recs⟩ := act
                  dsimp only at e0 e1 hrm
                  have hfw := lfew_any wr rep arv recs hrm
                  obtain ⟨av, ac, rfl, hq1, hq2, hq3, hq4⟩ := id hrm
                  clear hq1 hq2 hq3 hq4 hrc hra hcc
                  clear HM
                  go_wp2_with fail
                  refine hfw.mono ?_
                  rintro e w6 ⟨uv, ins, rfl, hU, hUl, hB6⟩
                  obtain ⟨hS2, hZ2, hL2, hbs2, hdS, hdZ, hab2, hn2, hT2, hB2', hCr2⟩ := HX.out
                  obtain ⟨f3, f100⟩ := fewL_len (recs.map (·.l)) 3 100
                  rw [← hUl] at f3 f100
                  have hi3 : ins.length ≤ 3 := by rw [List.length_map] at f3; exact f3
                  have hi100 : ∀ z ∈ ins, z.l.length ≤ 100 := fun z hz => f100 z.l (List.mem_map_of_mem hz)
                  have hiall : (allL (ins.map (·.l))).length ≤ 324 := by have := allL_le 100 _ f100; omega
                  have hgU := hU.ge
                  have hU0 := hU.mono hB2'.size
                  have hS6 := hS2.keep hB6
                  have hZ6 := hZ2.keep hB6
                  have hL6 := hL2.keep hB6
                  have hdU : ∀ k, msB uv ins k → ¬ bs2 k := fun k hk e => by have := hL2.lt k e; have := hgU k hk; omega
                  have hB06 := hB2'.trans (hB6.mono hB2'.size)
                  have hab6 := Nat.lt_of_lt_of_le habl hB6.size
                  have c0 := (hB6.cell (p := ⟨ab, 0, none⟩) habl).trans c0
                  have c2 := (hB6.cell (p := ⟨ab, 2, none⟩) habl).trans c2
                  have e0 := (hB6.cell (p := ⟨g, o + k * 2, none⟩) (World.block_lt_of_cell? wr _ e0)).trans e0
                  obtain ⟨uo, uc, rfl, hq1, hq2, hq3, hq4⟩ := id hU.msgs
                  clear hq3 hq4 hU hfw hS2 hZ2 hL2 hB2' hCr2 HX f3 f100 hUl hB6 hof hgU hB2 hrm e1
                  have HXX := Lib.hid (And.intro hU0 (And.intro hS6 (And.intro hZ6 (And.intro hL6 (And.intro hdU (And.intro hB06 (And.intro hbs2 (And.intro hdS (And.intro hdZ (And.intro hab2 (And.intro hn2 (And.intro hT2 (And.intro hH2 (And.intro hI2 (And.intro hLb2 hzy)))))))))))))))
                  clear hU0 hS6 hZ6 hL6 hdU hB06 hbs2 hdS hdZ hab2 hn2 hT2 hH2 hI2 hLb2 hzy
                  go_upto_if 85 with (fail)
                  go_cut [7, 10, 13] (fun sv nv gv wx => ∃ (gg : Int) (ys3 zs3 : List MsgD), gv = .int .i64 gg ∧ Aft w wx sv ys3 nv zs3 lp p ab (1 + 8 * i + k + 1) gg ∧ wx.cell? ⟨ab, 0, none⟩ = some (.slice (some ⟨g, o, none⟩) acts.length rc) ∧ wx.cell? ⟨ab, 2, none⟩ = some (.slice so stay.length sc))
                  case first =>
                    cases rep with
                    | true =>
                      obtain ⟨hU0, hS6, hZ6, hL6, hdU, hB06, hbs2, hdS, hdZ, hab2, hn2, hT2, hH2, hI2, hLb2, hzy⟩ := HXX.out
                      have hrp := replace_st w6 hL6 hH2 hI2 _ ins hU0.msgs (fun y hy => by have := hi100 y hy; omega) (by omega) (by omega) (by rw [hn2, hr22]; omega)
                      clear hU0 hS6 hZ6 hL6 hdU hB06 hbs2 hdS hdZ hab2 hn2 hT2 hH2 hI2 hLb2 hzy
                      go_wp2_with fail
                      refine hrp.mono ?_
                      intro e w7 hpr
                      obtain ⟨hU0, hS6, hZ6, hL6, hdU, hB06, hbs2, hdS, hdZ, hab2, hn2, hT2, hH2, hI2, hLb2, hzy⟩ := HXX.out
                      obtain ⟨gg, rfl, hAf, hcl⟩ := Aft.of_put (T := 1 + 8 * i + k + 1) hpr hab6 hS6 hU0 hbs2 hdS hdU hab2 hn2 (by omega) hB06 hLb2
                      have k0 := (hcl 0).trans c0
                      have k2 := (hcl 2).trans c2
                      have HA := Lib.hid hAf
                      clear hU0 hS6 hZ6 hL6 hdU hB06 hbs2 hdS hdZ hab2 hn2 hT2 hH2 hI2 hLb2 hzy hpr hrp hAf hcl c0 c2
                      go_wp2_with fail
                      go_meet
                      exact ⟨gg, ys2, ins, rfl, HA.out, k0, k2⟩
                    | false =>
                      cases ins with
                      | nil =>
                        have HC := Lib.hid (And.intro c0 c2)
                        clear c0 c2 hiall hi3 hi100
                        go_wp2_with fail
                        go_meet
                        obtain ⟨hU0, hS6, hZ6, hL6, hdU, hB06, hbs2, hdS, hdZ, hab2, hn2, hT2, hH2, hI2, hLb2, hzy⟩ := HXX.out
                        exact ⟨0, ys2, zs2, rfl, ⟨hab6, d2, L2, bs2, hS6, hZ6, hL6, hbs2, hdS, hdZ, hab2, hn2, by omega, hB06, .inl ⟨rfl, hH2, hI2, by rw [hLb2, hzy]⟩⟩, HC.out.1, HC.out.2⟩
                      | cons z0 zt =>
                        obtain ⟨hU0, hS6, hZ6, hL6, hdU, hB06, hbs2, hdS, hdZ, hab2, hn2, hT2, hH2, hI2, hLb2, hzy⟩ := HXX.out
                        have hl0 : ((zt.length : Int) + 1) > 0 := by omega
                        have hl00 : (0 : Int) < (zt.length : Int) + 1 := by omega
                        obtain ⟨g2, o2, rfl, hz0c, hb0⟩ : ∃ g2 o2, uo = some ⟨g2, o2, none⟩ ∧ w6.cell? ⟨g2, o2, none⟩ = some z0.v ∧ Bsl w6 z0.v z0.l := by
                          obtain ⟨ao', cap', he, h1, h2, hcs, hbb⟩ := hU0.msgs
                          injection he with e1 e2 e3
                          obtain ⟨g2, o2, hg, hcc⟩ := hcs (by simp)
                          exact ⟨g2, o2, by rw [e1, hg], hcc 0 (by simp), hbb z0 (by simp)⟩
                        have hz100 := hi100 z0 (by simp)
                        obtain ⟨zo, zc, hzv, hq3, hq4, hq5, hq6⟩ := id hb0
                        clear hq5 hq6
                        rw [hzv] at hz0c hb0
                        have hA : Below w6.heap.size w6 (w6.alloc (.cells #[] 37)) := (Below.refl _ _).alloc (Nat.le_refl _) _
                        have hr0 : RW (w6.alloc (.cells #[] 37)).drew w6.heap.size 37 1 (.slice (some ⟨w6.heap.size, 0, none⟩) 0 0) [] := ⟨World.ownsRow_lit (base := w6.heap.size) (e := 37) (size := 1) w6 #[] 0 (Nat.le_refl _) (by unfold maxLen; omega) rfl, by intro r hr; cases hr⟩
                        have hone : ∀ u ∈ (ys2.map msgC).flatten, u.oneCell' = true := by
                          rw [map_msgC_flat]
                          intro u hu
                          obtain ⟨y, hy, rfl⟩ := List.mem_map.1 hu
                          obtain ⟨ya, yc, he, _⟩ := (hS6.2 y hy).1
                          rw [he]; rfl
                        have hsr : Src (w6.alloc (.cells #[] 37)).drew 1 u7 (ys2.map msgC) := ((hS6.1.src hone).keep hA).keep ((Below.refl _ _).drew)
                        have hyl : ys2.length ≤ 640 := by
                          have h1 := allL_count (ys2.map (·.l))
                          rw [← hLb2, List.length_map] at h1
                          have h2 := hI2.fit
                          rw [hn2, hr22] at h2; omega
                        have hlm1 : ([] : List (List Value)).length + (ys2.map msgC).length ≤ 100000000 := by rw [List.length_map]; simp; omega
                        have hlm2 : ([] ++ ys2.map msgC).length + 1 ≤ 100000000 := by rw [List.nil_append, List.length_map]; omega
                        have hge1 : w6.heap.size ≤ (w6.alloc (.cells #[] 37)).drew.heap.size := hA.size
                        have hg2l : g2 < w6.heap.size := World.block_lt_of_cell? w6 _ hz0c
                        have hcd : w6.drew.cell? ⟨g2, o2, none⟩ = some (.slice zo z0.l.length zc) := hz0c
                        have hcA : (w6.alloc (.cells #[] 37)).drew.cell? ⟨g2, o2, none⟩ = some (.slice zo z0.l.length zc) := (hA.cell (p := ⟨g2, o2, none⟩) hg2l).trans hz0c
                        have hng : some g2 ≠ (Value.slice (some ⟨w6.heap.size, 0, none⟩) 0 0).ownBlock := fun e => by have : g2 = w6.heap.size := Option.some.inj e; omega
                        obtain ⟨it, zz, hti, htz, hzc, hsz1, hby⟩ := Try.msg_parts
                        obtain ⟨so2, sc2, hsv, hq7, hq8, hq9⟩ := id hS6.1.val
                        clear hq9 hq8 hq7
                        clear hU0 hS6 hZ6 hL6 hdU hB06 hbs2 hdS hdZ hab2 hn2 hT2 hH2 hI2 hLb2 hzy hyl hsv
                        have hzE : (w6.alloc (.cells #[] 37)).heap.size = w6.heap.size + 1 := by simp
                        have hzR : (w6.alloc (.cells #[.slice zo z0.l.length zc] 37)).heap.size = w6.heap.size + 1 := by simp
                        have hA2 : Below (w6.alloc (.cells #[] 37)).heap.size (w6.alloc (.cells #[] 37)) ((w6.alloc (.cells #[] 37)).alloc (.cells #[.slice zo z0.l.length zc] 37)) := (Below.refl _ _).alloc (Nat.le_refl _) _
                        have hAR : Below w6.heap.size w6 (w6.alloc (.cells #[.slice zo z0.l.length zc] 37)) := (Below.refl _ _).alloc (Nat.le_refl _) _
                        have hAR2 : Below (w6.alloc (.cells #[.slice zo z0.l.length zc] 37)).heap.size (w6.alloc (.cells #[.slice zo z0.l.length zc] 37)) ((w6.alloc (.cells #[.slice zo z0.l.length zc] 37)).alloc (.cells #[] 37)) := (Below.refl _ _).alloc (Nat.le_refl _) _
                        have hbB : Below w6.heap.size w6 ((w6.alloc (.cells #[] 37)).alloc (.cells #[.slice zo z0.l.length zc] 37)).drew := (hA.trans (hA2.mono hA.size)).drew
                        have hbC : Below w6.heap.size w6 ((w6.alloc (.cells #[.slice zo z0.l.length zc] 37)).alloc (.cells #[] 37)).drew := (hAR.trans (hAR2.mono hAR.size)).drew
                        have hr0' : RW (w6.alloc (.cells #[] 37)) w6.heap.size 37 1 (.slice (some ⟨w6.heap.size, 0, none⟩) 0 0) [] := hr0
                        have hr0b : RW ((w6.alloc (.cells #[] 37)).alloc (.cells #[.slice zo z0.l.length zc] 37)).drew w6.heap.size 37 1 (.slice (some ⟨w6.heap.size, 0, none⟩) 0 0) [] := (hr0'.keep hA2).drew
                        have hRb : RW ((w6.alloc (.cells #[] 37)).alloc (.cells #[.slice zo z0.l.length zc] 37)).drew 0 37 1 (.slice (some ⟨w6.heap.size + 1, 0, none⟩) 1 1) [[.slice zo z0.l.length zc]] := by
                          have h1 : RW ((w6.alloc (.cells #[] 37)).alloc (.cells #[.slice zo z0.l.length zc] 37)) 0 37 1 (.slice (some ⟨(w6.alloc (.cells #[] 37)).heap.size, 0, none⟩) 1 1) [[.slice zo z0.l.length zc]] := ⟨World.ownsRow_lit _ _ 1 (Nat.zero_le _) (by unfold maxLen; omega) rfl, by intro q hq; rw [List.mem_singleton.1 hq]; rfl⟩
                          rw [hzE] at h1
                          exact h1.drew
                        have hr0c : RW ((w6.alloc (.cells #[.slice zo z0.l.length zc] 37)).alloc (.cells #[] 37)).drew w6.heap.size 37 1 (.slice (some ⟨w6.heap.size + 1, 0, none⟩) 0 0) [] := by
                          have h1 : RW ((w6.alloc (.cells #[.slice zo z0.l.length zc] 37)).alloc (.cells #[] 37)) w6.heap.size 37 1 (.slice (some ⟨(w6.alloc (.cells #[.slice zo z0.l.length zc] 37)).heap.size, 0, none⟩) 0 0) [] := ⟨World.ownsRow_lit (base := w6.heap.size) (e := 37) (size := 1) (w6.alloc (.cells #[.slice zo z0.l.length zc] 37)) #[] 0 (by rw [hzR]; omega) (by unfold maxLen; omega) rfl, by intro r hr; cases hr⟩
                          rw [hzR] at h1
                          exact h1.drew
                        have hRc : RW ((w6.alloc (.cells #[.slice zo z0.l.length zc] 37)).alloc (.cells #[] 37)).drew 0 37 1 (.slice (some ⟨w6.heap.size, 0, none⟩) 1 1) [[.slice zo z0.l.length zc]] := by
                          have h1 : RW (w6.alloc (.cells #[.slice zo z0.l.length zc] 37)) 0 37 1 (.slice (some ⟨w6.heap.size, 0, none⟩) 1 1) [[.slice zo z0.l.length zc]] := ⟨World.ownsRow_lit _ _ 1 (Nat.zero_le _) (by unfold maxLen; omega) rfl, by intro q hq; rw [List.mem_singleton.1 hq]; rfl⟩
                          exact (h1.keep hAR2).drew
                        have hsr6 := HXX.out.2.1.1.src hone
                        have hsrb : Src ((w6.alloc (.cells #[] 37)).alloc (.cells #[.slice zo z0.l.length zc] 37)).drew 1 u7 (ys2.map msgC) := hsr6.keep hbB
                        have hsrc' : Src ((w6.alloc (.cells #[.slice zo z0.l.length zc] 37)).alloc (.cells #[] 37)).drew 1 u7 (ys2.map msgC) := hsr6.keep hbC
                        have hcB : ((w6.alloc (.cells #[] 37)).alloc (.cells #[.slice zo z0.l.length zc] 37)).drew.cell? ⟨g2, o2, none⟩ = some (.slice zo z0.l.length zc) := (hbB.cell (p := ⟨g2, o2, none⟩) hg2l).trans hz0c
                        have hcC : ((w6.alloc (.cells #[.slice zo z0.l.length zc] 37)).alloc (.cells #[] 37)).drew.cell? ⟨g2, o2, none⟩ = some (.slice zo z0.l.length zc) := (hbC.cell (p := ⟨g2, o2, none⟩) hg2l).trans hz0c
                        have hcR : (w6.alloc (.cells #[.slice zo z0.l.length zc] 37)).drew.cell? ⟨g2, o2, none⟩ = some (.slice zo z0.l.length zc) := (hAR.cell (p := ⟨g2, o2, none⟩) hg2l).trans hz0c
                        clear hone hsr6 hr0'
                        have hmap : (ys2 ++ [z0]).map msgC = [] ++ ys2.map msgC ++ [[.slice zo z0.l.length zc]] := by rw [List.map_append, List.nil_append]; show _ ++ [[z0.v]] = _; rw [hzv]
                        have HMAP := Lib.hid hmap
                        clear hmap
                        go_upto_region 21 with (fail)
                        go_cut [10] (fun nv wx => RW wx w6.heap.size 37 1 nv ((ys2 ++ [z0]).map msgC) ∧ Below w6.heap.size w6 wx)
                        case first =>
                          go_region_law (first
                            | (refine step_appsv rfl _ _ 22 rfl it zz Try.underlying22 hti htz hsz1 hby hzc (by omega) hr0 hsr hlm1 hge1 (by rfl) (by rfl) ?_; intro v5 w5 hr5 hg5 hn5; have c5 : w5.cell? ⟨g2, o2, none⟩ = some (.slice zo z0.l.length zc) := hg5.cell hcA hng; have h5A : Below w5.heap.size w5 (w5.alloc (.cells #[.slice zo z0.l.length zc] 37)) := (Below.refl _ _).alloc (Nat.le_refl _) _; have hrA := hr5.keep h5A; have hsrcA : RW (w5.alloc (.cells #[.slice zo z0.l.length zc] 37)) 0 37 1 (.slice (some ⟨w5.heap.size, 0, none⟩) 1 1) [[.slice zo z0.l.length zc]] := ⟨World.ownsRow_lit _ _ 1 (Nat.zero_le _) (by unfold maxLen; omega) rfl, by intro q hq; rw [List.mem_singleton.1 hq]; rfl⟩; have hB5 : Below w6.heap.size w6 (w5.alloc (.cells #[.slice zo z0.l.length zc] 37)) := (Below.grown (hA.drew) hg5 hA.size hr0.own_ge).trans (h5A.mono (Below.grown (hA.drew) hg5 hA.size hr0.own_ge).size); have hbs5 := hB5.size)
                            | (refine step_appsv rfl _ _ 22 rfl it zz Try.underlying22 hti htz hsz1 hby hzc (by omega) hr0b hsrb hlm1 hbB.size (by rfl) (by rfl) ?_; intro v5 w5 hr5 hg5 hn5; have hrA := hr5; have hsrcA := hRb.only (Only.of_grown (S := (· = w6.heap.size)) hg5 (fun q hq => (Option.some.inj hq).symm)) (fun q hq e => by have h5 : w6.heap.size + 1 = q := Option.some.inj hq; have h6 : q = w6.heap.size := e; omega); have hB5 : Below w6.heap.size w6 w5 := Below.grown hbB hg5 hbB.size hr0b.own_ge; have hbs5 := hB5.size)
                            | (refine step_appsv rfl _ _ 22 rfl it zz Try.underlying22 hti htz hsz1 hby hzc (by omega) hr0c hsrc' hlm1 hbC.size (by rfl) (by rfl) ?_; intro v5 w5 hr5 hg5 hn5; have hrA := hr5; have hsrcA := hRc.only (Only.of_grown (S := (· = w6.heap.size + 1)) hg5 (fun q hq => (Option.some.inj hq).symm)) (fun q hq e => by have h5 : w6.heap.size = q := Option.some.inj hq; have h6 : q = w6.heap.size + 1 := e; omega); have hB5 : Below w6.heap.size w6 w5 := Below.grown hbC hg5 hbC.size hr0c.own_ge; have hbs5 := hB5.size)
                            | (refine step_apprs rfl _ _ 22 rfl it zz Try.underlying22 hti htz hsz1 hby hzc (by omega) hrA hsrcA rfl (by intro u hu; simp at hu; subst hu; rfl) hlm2 hbs5 (by rfl) (by rfl) ?_; intro v7 w7 hr7 hg7 hn7 hnil7; have hB7 : Below w6.heap.size w6 w7 := Below.grown hB5 hg7 hbs5 hrA.own_ge))
                          all_goals
                            have HF := Lib.hid (And.intro hr7 hB7)
                            clear hr7 hB7
                            go_wp2_with fail
                            go_meet
                            exact ⟨by rw [HMAP.out]; exact HF.out.1, HF.out.2⟩
                        case rest =>
                          obtain ⟨hr7, hB7⟩ := hcut
                          obtain ⟨hU0, hS6, hZ6, hL6, hdU, hB06, hbs2, hdS, hdZ, hab2, hn2, hT2, hH2, hI2, hLb2, hzy⟩ := HXX.out
                          have hc7 := (hB7.cell (p := ⟨g2, o2, none⟩) hg2l).trans hz0c
                          have hb7 := hb0.keep hB7
                          have hL7 := hL6.keep hB7
                          have hS7 := hS6.keep hB7
                          have hB07 := hB06.trans (hB7.mono hB06.size)
                          have hab7 := Nat.lt_of_lt_of_le hab6 hB7.size
                          have c07 := (hB7.cell (p := ⟨ab, 0, none⟩) hab6).trans c0
                          have c27 := (hB7.cell (p := ⟨ab, 2, none⟩) hab6).trans c2
                          have hN7 : MS wc w.heap.size u10 (ys2 ++ [z0]) := ⟨hr7.mono hB06.size, fun y hy => by
                            rcases List.mem_append.1 hy with hy | hy
                            · exact hS7.2 y hy
                            · rw [List.mem_singleton.1 hy]
                              exact ⟨by rw [hzv]; exact hb7, (hU0.2 z0 (by simp)).2⟩⟩
                          have hdN : ∀ k, msB u10 (ys2 ++ [z0]) k → ¬ bs2 k := fun k hk e => by
                            have hlt := hL6.lt k e
                            rcases hk with hk | ⟨y, hy, hne, hk⟩
                            · have := hr7.own_ge k hk; omega
                            · rcases List.mem_append.1 hy with hy | hy
                              · exact hdS k (.inr ⟨y, hy, hne, hk⟩) e
                              · rw [List.mem_singleton.1 hy] at hne hk
                                exact hdU k (.inr ⟨z0, by simp, hne, hk⟩) e
                          have hbq : L2.b ++ recL z0.l = allL ((ys2 ++ [z0]).map (·.l)) := by rw [List.map_append, allL_append, hLb2]; simp [allL]
                          by_cases hroom : 640 < L2.b.length + (z0.l.length + 8)
                          · have hap := append_full wc hL7 hH2 hI2 _ z0.l hb7 (by omega) (by rw [hn2, hr22]; exact hroom)
                            have HG := Lib.hid (And.intro hS7 (And.intro hN7 (And.intro hL7 (And.intro hbs2 (And.intro hdS (And.intro hdN (And.intro hab2 (And.intro hn2 (And.intro hT2 (And.intro hB07 (And.intro hH2 (And.intro hI2 hLb2))))))))))))
                            clear hU0 hS6 hZ6 hL6 hdU hB06 hbs2 hdS hdZ hab2 hn2 hT2 hH2 hI2 hLb2 hzy hL7 hS7 hB07 hN7 hdN hbq hroom hr7 hB7 hb7 hz0c c0 c2
                            go_wp2_with fail
                            refine hap.mono ?_
                            rintro e w8 ⟨rfl, hB8⟩
                            obtain ⟨hS7, hN7, hL7, hbs2, hdS, hdN, hab2, hn2, hT2, hB07, hH2, hI2, hLb2⟩ := HG.out
                            have k0 := (hB8.cell (p := ⟨ab, 0, none⟩) hab7).trans c07
                            have k2 := (hB8.cell (p := ⟨ab, 2, none⟩) hab7).trans c27
                            have hAf : Aft w w8 u7 ys2 u10 (ys2 ++ [z0]) lp p ab (1 + 8 * i + k + 1) 8 := ⟨Nat.lt_of_lt_of_le hab7 hB8.size, d2, L2, bs2, hS7.keep hB8, hN7.keep hB8, hL7.keep hB8, hbs2, hdS, hdN, hab2, hn2, by omega, hB07.trans (hB8.mono hB07.size), .inr (.inr ⟨rfl, hH2, hI2, hLb2⟩)⟩
                            have HA := Lib.hid hAf
                            clear hS7 hN7 hL7 hbs2 hdS hdN hab2 hn2 hT2 hB07 hH2 hI2 hLb2 hAf hB8 hap c07 c27
                            go_wp2_with fail
                            go_meet
                            exact ⟨8, ys2, ys2 ++ [z0], rfl, HA.out, k0, k2⟩
                          · have hap := append_st wc hL7 hH2 hI2 _ z0.l hb7 (by omega) (by omega) (by rw [hn2, hr22]; omega)
                            rw [hbq] at hap
                            have HG := Lib.hid (And.intro hS7 (And.intro hN7 (And.intro hbs2 (And.intro hdS (And.intro hdN (And.intro hab2 (And.intro hn2 (And.intro hT2 (And.intro hB07 hLb2)))))))))
                            clear hU0 hS6 hZ6 hL6 hdU hB06 hbs2 hdS hdZ hab2 hn2 hT2 hH2 hI2 hLb2 hzy hL7 hS7 hB07 hN7 hdN hbq hroom hr7 hB7 hb7 hz0c c0 c2
                            go_wp2_with fail
                            refine hap.mono ?_
                            intro e w8 hpr
                            obtain ⟨hS7, hN7, hbs2, hdS, hdN, hab2, hn2, hT2, hB07, hLb2⟩ := HG.out
                            obtain ⟨gg, rfl, hAf, hcl⟩ := Aft.of_put (T := 1 + 8 * i + k + 1) hpr hab7 hS7 hN7 hbs2 hdS hdN hab2 hn2 (by omega) hB07 hLb2
                            have k0 := (hcl 0).trans c07
                            have k2 := (hcl 2).trans c27
                            have HA := Lib.hid hAf
                            clear hS7 hN7 hbs2 hdS hdN hab2 hn2 hT2 hB07 hLb2 hAf hcl hpr hap c07 c27
                            go_wp2_with fail
                            go_meet
                            exact ⟨gg, ys2, ys2 ++ [z0], rfl, HA.out, k0, k2⟩
                  case rest =>
                    obtain ⟨gg, ys3, zs3, rfl, hAf, k0, k2⟩ := hcut
                    have HC := Lib.hid (And.intro k0 k2)
                    obtain ⟨habc, d4, L4, bs4, hS4, hZ4, hL4, hbs4, hdS4, hdZ4, hab4, hn4, hT4, hB4, hcs⟩ := hAf
                    obtain ⟨ds4, hD4, _, hst4⟩ := hL4.disk
                    have hof4 := doff_any wc hD4
                    have HX4 := Lib.hid (And.intro hS4 (And.intro hZ4 (And.intro hL4 (And.intro hbs4 (And.intro hdS4 (And.intro hdZ4 (And.intro hab4 (And.intro hn4 (And.intro hT4 hB4)))))))))
                    clear hS4 hZ4 hL4 hbs4 hdS4 hdZ4 hab4 hn4 hT4 hB4 hst4 hD4 HXX hiall hi3 hi100 e0 c0 c2 k0 k2
                    rcases hcs with ⟨rfl, hH4, hI4, hLb4⟩ | ⟨rfl, hoff4, hCr4⟩ | ⟨rfl, hH4, hI4, hLb4⟩
                    · clear hof4
                      go_wp2_with fail
                      go_roundw
                      case rel =>
                        obtain ⟨hS4, hZ4, hL4, hbs4, hdS4, hdZ4, hab4, hn4, hT4, hB4⟩ := HX4.out
                        refine ⟨k + 1, zs3, zs3, by go_num, by omega, ⟨habc, d4, L4, bs4, hZ4, hZ4, hL4, hbs4, hdZ4, hdZ4, hab4, hn4, by omega, hB4, ?_, .inr ⟨hH4, hI4, hLb4, rfl⟩⟩, HC.out.1, HC.out.2⟩
                        have := CrashOk.good (nw := zs3.map (·.l)) hH4 hI4 hT4 hLb4
                        rw [hn4] at this
                        exact this.le (by omega)
                      case measure => simp [intOf]; omega
                    · rw [hoff4] at hof4
                      go_wp2_with fail
                      refine hof4.mono ?_
                      rintro e w9 ⟨rfl, rfl⟩
                      clear hof4
                      go_wp2_with fail
                      go_roundw
                      case rel =>
                        obtain ⟨hS4, hZ4, hL4, hbs4, hdS4, hdZ4, hab4, hn4, hT4, hB4⟩ := HX4.out
                        exact ⟨k + 1, ys3, zs3, by go_num, by omega, ⟨habc, d4, L4, bs4, hS4, hZ4, hL4, hbs4, hdS4, hdZ4, hab4, hn4, by omega, hB4, hCr4.le (by omega), .inl hoff4⟩, HC.out.1, HC.out.2⟩
                      case measure => simp [intOf]; omega
                    · rw [hH4.on] at hof4
                      go_wp2_with fail
                      refine hof4.mono ?_
                      rintro e w9 ⟨rfl, rfl⟩
                      clear hof4
                      go_wp2_with fail
                      go_roundw
                      case rel =>
                        obtain ⟨hS4, hZ4, hL4, hbs4, hdS4, hdZ4, hab4, hn4, hT4, hB4⟩ := HX4.out
                        refine ⟨k + 1, ys3, ys3, by go_num, by omega, ⟨habc, d4, L4, bs4, hS4, hS4, hL4, hbs4, hdS4, hdS4, hab4, hn4, by omega, hB4, ?_, .inr ⟨hH4, hI4, hLb4, rfl⟩⟩, HC.out.1, HC.out.2⟩
                        have := CrashOk.good (nw := ys3.map (·.l)) hH4 hI4 hT4 hLb4
                        rw [hn4] at this
                        exact this.le (by omega)
                      case measure => simp [intOf]; omega
              · have hk72 : ¬ (k : Int) < 6 := by omega
                clear hM hrc hra
                go_wp2_with fail
                go_meet
                exact ⟨ys2, zs2, HM.out.le (by omega), c2⟩
            · have hka2 : ¬ (k : Int) < acts.length := by omega
              clear hM hrc hra
              go_wp2_with fail
              go_meet
              exact ⟨ys2, zs2, HM.out.le (by omega), c2⟩
        case rest =>
          obtain ⟨ys2, zs2, ⟨habc, d2, L2, bs2, hS2, hZ2, hL2, hbs2, hdS, hdZ, hab2, hn2, hT2, hB2, hCr2, hgd⟩, c2⟩ := hcut
          obtain ⟨ds2, hD2, hds2, hst2⟩ := hL2.disk
          obtain ⟨hfl, hlo, hcr⟩ := hCr2
          obtain ⟨t5, a5, b5, hI5, ht5, hb5, hH5, hn5⟩ := hcr stay
          have hsl : stay ≠ [] → ∀ k, (Value.slice so stay.length sc).ownBlock = some k → ¬ ds2 k := fun hne k hk e => by
            obtain ⟨ao9, cp9, he9, _, _, hc9⟩ := id hst
            obtain ⟨b9, o9, rfl, hc9'⟩ := hc9 hne
            injection he9 with h1 _ _
            rw [h1] at hk
            have hkb : b9 = k := Option.some.inj hk
            have hlt9 := World.block_lt_of_cell? w _ (hc9' 0 (List.length_pos_iff.2 hne))
            have := hbs2 k (hds2 k e)
            dsimp only at hlt9
            omega
          have hcra := dcrash_any stay _ wc hD2 (by intro e; rw [e] at hfl; simp at hfl) (fun x hx => by rw [hfl]; exact hlo x hx) (hst.keep hB2) hsl
          have HX := Lib.hid (And.intro hS2 (And.intro hZ2 (And.intro hbs2 (And.intro hds2 (And.intro hdS (And.intro hdZ (And.intro hB2 (And.intro hI5 (And.intro ht5 (And.intro hb5 (And.intro hH5 hn5)))))))))))
          clear hS2 hZ2 hL2 hbs2 hdS hdZ hab2 hn2 hT2 hB2 hgd hD2 hds2 hst2 hfl hlo hcr hI5 ht5 hb5 hH5 hn5 hsl hM0 c0 hrc hra hst
          go_wp2_with fail
          refine hcra.mono ?_
          rintro e w5 ⟨rfl, ds5, hD5, hE5⟩
          obtain ⟨hS2, hZ2, hbs2, hds2, hdS, hdZ, hB2, hI5, ht5, hb5, hH5, hn5⟩ := HX.out
          obtain ⟨hds5, hB5⟩ := hE5.own (fun k hk => hbs2 k (hds2 k hk)) hB2 (Nat.le_refl _)
          have hS5 := hS2.only hE5.only (fun k hk e => hdS k hk (hds2 k e))
          have hZ5 := hZ2.only hE5.only (fun k hk e => hdZ k hk (hds2 k e))
          have hdS5 : ∀ k, msB u7 ys2 k → ¬ ds5 k := fun k hk e => (hE5.new k e).elim (fun e2 => hdS k hk (hds2 k e2)) (fun e2 => by have := hS2.lt k hk; omega)
          have hdZ5 : ∀ k, msB u10 zs2 k → ¬ ds5 k := fun k hk e => (hE5.new k e).elim (fun e2 => hdZ k hk (hds2 k e2)) (fun e2 => by have := hZ2.lt k hk; omega)
          obtain ⟨rs, hrs, hrs2⟩ : ∃ rs, b5 = allL rs ∧ (rs = ys2.map (·.l) ∨ rs = zs2.map (·.l)) := by
            rcases hb5 with h | h
            · exact ⟨_, h, .inl rfl⟩
            · exact ⟨_, h, .inr rfl⟩
          have hbl : (allL rs).length ≤ 10000 := by
            have h1 := hI5.fit
            have h2 := roomN_le hI5.n100
            rw [← hrs]; omega
          have hop := open_st w5 hD5 hH5 hI5
          rw [hrs, recsA_fit hbl] at hop
          rw [hrs] at hI5
          dsimp only at hop
          rw [List.take_length] at hop
          have HY := Lib.hid (And.intro hS5 (And.intro hZ5 (And.intro hdS5 (And.intro hdZ5 (And.intro hds5 (And.intro hB5 (And.intro hI5 (And.intro ht5 (And.intro hH5 (And.intro hn5 hrs2))))))))))
          clear hS2 hZ2 hbs2 hds2 hdS hdZ hB2 hI5 ht5 hb5 hH5 hn5 hds5 hB5 hS5 hZ5 hdS5 hdZ5 hrs hrs2 hbl hD5 hE5 hcra HX
          go_wp2_with fail
          refine hop.mono ?_
          rintro e w6 ⟨lp6, u, ys6, rfl, hM6, hys6, hB6, bs6, hL6, hbs6⟩
          obtain ⟨hS5, hZ5, hdS5, hdZ5, hds5, hB5, hI5, ht5, hH5, hn5, hrs2⟩ := HY.out
          have hS6 := hS5.keep hB6
          have hZ6 := hZ5.keep hB6
          have hdS6 : ∀ k, msB u7 ys2 k → ¬ bs6 k := fun k hk e => (hbs6 k e).elim (hdS5 k hk) (fun e2 => by have := hS5.lt k hk; omega)
          have hdZ6 : ∀ k, msB u10 zs2 k → ¬ bs6 k := fun k hk e => (hbs6 k e).elim (hdZ5 k hk) (fun e2 => by have := hZ5.lt k hk; omega)
          have hbs60 : ∀ k, bs6 k → w.heap.size ≤ k := fun k hk => (hbs6 k hk).elim (hds5 k) (fun e => Nat.le_trans hB5.size e)
          have hB06 := hB5.trans (hB6.mono hB5.size)
          obtain ⟨ro6, rc6, rfl, hq1, hq2, hq3, hq4⟩ := id hM6
          clear hq1 hq2 hq3 hq4
          have hSm := refSame_any w6 _ _ ys6 ys2 hM6 hS6.msgs
          have hZm := fun w' (h : Below w6.heap.size w6 w') => refSame_any w' _ _ ys6 zs2 (hM6.keep h) (hZ6.keep h).msgs
          have HZ := Lib.hid (And.intro hS6 (And.intro hZ6 (And.intro hdS6 (And.intro hdZ6 (And.intro hbs60 (And.intro hB06 (And.intro hL6 (And.intro hI5 (And.intro ht5 (And.intro hH5 (And.intro hn5 (And.intro hrs2 hys6))))))))))))
          clear hS5 hZ5 hdS5 hdZ5 hds5 hB5 hI5 ht5 hH5 hn5 hrs2 hS6 hZ6 hdS6 hdZ6 hbs60 hB06 hL6 hbs6 hM6 hop HY hB6
          by_cases hsame : ys6.map (·.l) = ys2.map (·.l)
          · rw [decide_eq_true hsame] at hSm
            have HSA := Lib.hid hsame
            clear hsame hys6
            go_wp2_with fail
            refine hSm.mono ?_
            rintro e w7 ⟨rfl, hB7⟩
            have HB7 := Lib.hid hB7
            clear hSm hZm hB7
            go_wp2_with fail
            go_roundw
            case rel =>
              obtain ⟨hS6, hZ6, hdS6, hdZ6, hbs60, hB06, hL6, hI5, ht5, hH5, hn5, hrs2, hys6⟩ := HZ.out
              exact ⟨i + 1, lp6, _, _, bs6, ys2, by go_num, rfl, by omega, hS6.keep HB7.out, hL6.keep HB7.out, hbs60, hdS6, hn5, by show t5 ≤ _; omega, hB06.trans (HB7.out.mono hB06.size), hH5, hI5, by show allL rs = _; rw [← hys6, HSA.out]⟩
            case measure => simp [intOf]; omega
          · rw [decide_eq_false hsame] at hSm
            have hz : ys6.map (·.l) = zs2.map (·.l) := by
              obtain ⟨_, _, _, _, _, _, _, _, _, _, _, hrs2, hys6⟩ := HZ.out
              rcases hrs2 with h | h
              · exact absurd (hys6.trans h) hsame
              · exact hys6.trans h
            rw [decide_eq_true hz] at hZm
            have HSA := Lib.hid hz
            clear hsame hz hys6
            go_wp2_with fail
            refine hSm.mono ?_
            rintro e w7 ⟨rfl, hB7⟩
            clear hSm
            go_wp2_with fail
            refine (hZm _ hB7).mono ?_
            rintro e w8 ⟨rfl, hB8⟩
            have HB8 := Lib.hid (hB7.trans (hB8.mono hB7.size))
            clear hZm hB7 hB8
            go_wp2_with fail
            go_roundw
            case rel =>
              obtain ⟨hS6, hZ6, hdS6, hdZ6, hbs60, hB06, hL6, hI5, ht5, hH5, hn5, hrs2, hys6⟩ := HZ.out
              exact ⟨i + 1, lp6, _, _, bs6, zs2, by go_num, rfl, by omega, hZ6.keep HB8.out, hL6.keep HB8.out, hbs60, hdZ6, hn5, by show t5 ≤ _; omega, hB06.trans (HB8.out.mono hB06.size), hH5, hI5, by show allL rs = _; rw [← hys6, HSA.out]⟩
            case measure => simp [intOf]; omega
      · have hl42 : ¬ (i : Int) < 4 := by omega
        have HB := Lib.hid hB
        clear hS hL hbs hdj hn hT hB hH hI hLb hne hfo
        go_wp2_with fail
        go_ret
        exact ⟨rfl, HB.out⟩
    · have hlt2 : ¬ (i : Int) < fs.length := by omega
      have HB := Lib.hid hB
      clear hS hL hbs hdj hn hT hB hH hI hLb hne hfo
      go_wp2_with fail
      go_ret
      exact ⟨rfl, HB.out⟩
end Go.Proofs.Ytbmdcblcefebiaa
