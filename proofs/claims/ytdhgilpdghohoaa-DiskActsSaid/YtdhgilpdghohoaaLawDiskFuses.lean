/- The law DiskFuses. -/
import Derived.Test.YtdhgilpdghohoaaDiskAny
import Derived.Test.YtdhgilpdghohoaaOpenActs
import Derived.Deep.RegionHeldLaw
import Derived.Laws.Bits64
import Derived.Laws.BitsLemmas
import Derived.IntWalk
namespace Go.Proofs.Ytdhgilpdghohoaa
open Go.RowKit
theorem umod (x : Int) (m : Nat) (h0 : 0 < m) (h : m ≤ 100000) : ∃ q : Nat, q < m ∧ wrap64 ((IntKind.u64.wrap x).tmod m) = (q : Int) ∧ IntKind.i64.wrap ((IntKind.u64.wrap x).tmod m) = (q : Int) := by
  have h1 : 0 ≤ (IntKind.u64.wrap x).tmod m := by rw [IntKind.wrap_u64]; exact Int.tmod_nonneg _ (by omega)
  have h2 : (IntKind.u64.wrap x).tmod m < m := by rw [IntKind.wrap_u64]; exact Int.tmod_lt_of_pos _ (by omega)
  refine ⟨((IntKind.u64.wrap x).tmod m).toNat, by omega, ?_, ?_⟩
  · rw [IntWalk.wrap64_in _ (by omega)]; omega
  · rw [IntKind.wrap_i64]; omega
/-- The cells of an act of the row. -/
theorem actCells {w : World} {ys : List ActD} {b off : Nat} (h : ∀ i (h : i < ys.length) j, j < 5 → w.cell? ⟨b, off + i * 5 + j, none⟩ = (actC ys[i])[j]?) {i : Nat} (hi : i < ys.length) {w' : World} (hb : Below w.heap.size w w') :
    w'.cell? ⟨b, off + i * 5, none⟩ = some (.int .i64 ys[i].what) ∧ w'.cell? ⟨b, off + i * 5 + 1, none⟩ = some (.int .i64 ys[i].at_) ∧ w'.cell? ⟨b, off + i * 5 + 2, none⟩ = some (.int .u8 ys[i].by_.toNat) ∧
    w'.cell? ⟨b, off + i * 5 + 3, none⟩ = some (.int .i64 ys[i].n) ∧ w'.cell? ⟨b, off + i * 5 + 4, none⟩ = some ys[i].sv ∧ b < w.heap.size := by
  have h0 : w.cell? ⟨b, off + i * 5, none⟩ = some (.int .i64 ys[i].what) := h i hi 0 (by omega)
  have h1 : w.cell? ⟨b, off + i * 5 + 1, none⟩ = some (.int .i64 ys[i].at_) := h i hi 1 (by omega)
  have h2 : w.cell? ⟨b, off + i * 5 + 2, none⟩ = some (.int .u8 ys[i].by_.toNat) := h i hi 2 (by omega)
  have h3 : w.cell? ⟨b, off + i * 5 + 3, none⟩ = some (.int .i64 ys[i].n) := h i hi 3 (by omega)
  have h4 : w.cell? ⟨b, off + i * 5 + 4, none⟩ = some ys[i].sv := h i hi 4 (by omega)
  have hlt : b < w.heap.size := World.block_lt_of_cell? w _ h0
  exact ⟨(hb.cell hlt).trans h0, (hb.cell hlt).trans h1, (hb.cell hlt).trans h2, (hb.cell hlt).trans h3, (hb.cell hlt).trans h4, hlt⟩
structure FInv (n r : Nat) (d : DK) : Prop where
  ok : d.Ok 4 r
  on : r < n → d.off = false ∧ d.fuse = n - r
  off : n ≤ r → d.off = true
theorem FInv.start (n : Nat) (h : 0 < n) : FInv n 0 { DK.new 4 with fuse := n } :=
  ⟨⟨rfl, rfl, by simp [DK.new], by simp [DK.new], (DK.Ok.new 4).nowS, (DK.Ok.new 4).fastS, by simp⟩, fun _ => ⟨rfl, by simp⟩, fun h2 => by omega⟩
theorem FInv.may {n r : Nat} {d : DK} (h : FInv n r d) {k : Int} (hk : 0 ≤ k ∧ k < 4) : d.may k = if r < n then 0 else 9 := by
  have hl := h.ok.now
  unfold DK.may
  by_cases hr : r < n
  · rw [(h.on hr).1, if_neg (by simp), if_neg (by omega), if_pos hr]
  · rw [h.off (by omega), if_pos rfl, if_neg hr]
theorem FInv.burn {n r : Nat} {d : DK} (h : r < n) (h2 : d.fuse = n - r) : d.burn.off = decide (n ≤ r + 1) ∧ (r + 1 < n → d.burn.fuse = n - ((r + 1 : Nat) : Int)) := by
  unfold DK.burn
  rw [if_pos (by omega)]
  constructor
  · show (d.fuse - 1 == 0) = _
    rw [Bool.eq_iff_iff, beq_iff_eq, decide_eq_true_eq]; omega
  · intro h3
    show d.fuse - 1 = _
    omega
theorem FInv.write {n r : Nat} {d : DK} (h : FInv n r d) {k : Int} (hk : 0 ≤ k ∧ k < 4) {s : List UInt8} (hs : s.length = 64) : d.wrE k s = (if r + 1 < n then 0 else 9) ∧ FInv n (r + 1) (d.wrS k s) := by
  have hm := h.may hk
  unfold DK.wrE
  by_cases hr : r < n
  · rw [if_pos hr] at hm
    obtain ⟨b1, b2⟩ := FInv.burn (d := { d with now := d.now.set k.toNat s, loose := d.loose ++ [(k.toNat, s)] }) hr (h.on hr).2
    have hw : d.wrS k s = d.write k.toNat s := by unfold DK.wrS; rw [if_pos hm]
    refine ⟨?_, h.ok.wrS k hs, ?_, ?_⟩
    · rw [if_pos hm]
      unfold DK.write
      rw [b1]
      by_cases h2 : r + 1 < n
      · rw [if_pos h2, if_neg (by simp; omega)]
      · rw [if_neg h2, if_pos (by simp; omega)]
    · intro h2
      rw [hw]; unfold DK.write
      exact ⟨by rw [b1]; simp; omega, b2 h2⟩
    · intro h2
      rw [hw]; unfold DK.write
      rw [b1]; simpa using h2
  · rw [if_neg hr] at hm
    rw [if_neg (by omega), hm, if_neg (by omega)]
    have hw : d.wrS k s = d := by unfold DK.wrS; rw [if_neg (by omega)]
    refine ⟨rfl, h.ok.wrS k hs, fun h2 => by omega, fun _ => by rw [hw]; exact h.off (by omega)⟩
theorem FInv.sync {n r : Nat} {d : DK} (h : FInv n r d) : d.syE = (if r + 1 < n then 0 else 9) ∧ FInv n (r + 1) d.syS := by
  have hm := h.may (k := 0) (by omega)
  unfold DK.syE
  by_cases hr : r < n
  · rw [if_pos hr] at hm
    obtain ⟨b1, b2⟩ := FInv.burn (d := d) hr (h.on hr).2
    have hw : d.syS = if d.burn.off then d.burn else { d.burn with fast := d.now, loose := [] } := by unfold DK.syS; rw [if_pos hm]
    refine ⟨?_, h.ok.syS.more (by omega), ?_, ?_⟩
    · rw [if_pos hm, b1]
      by_cases h2 : r + 1 < n
      · rw [if_pos h2, if_neg (by simp; omega)]
      · rw [if_neg h2, if_pos (by simp; omega)]
    · intro h2
      have b3 : d.burn.off = false := by rw [b1]; simp; omega
      rw [hw, b3, if_neg (by simp)]
      exact ⟨b3, b2 h2⟩
    · intro h2
      have b3 : d.burn.off = true := by rw [b1]; simpa using h2
      rw [hw, b3, if_pos rfl]; exact b3
  · rw [if_neg hr] at hm
    rw [if_neg (by omega), hm, if_neg (by omega)]
    have hw : d.syS = d := by unfold DK.syS; rw [if_neg (by omega)]
    exact ⟨rfl, h.ok.syS.more (by omega), fun h2 => by omega, fun _ => by rw [hw]; exact h.off (by omega)⟩
set_option maxRecDepth 100000 in
set_option maxHeartbeats 1000000 in
theorem diskFuses_walk (n : Int) (v : Value) (ys : List ActD) (w : World) (hn : (Lit.int .i64 n).wf = true) (h : ActsAt w v ys) :
    Calls Try.prog 3 #[.int .i64 n, v] w fun e w' => e = .returned (.bool true) ∧ Below w.heap.size w w' := by
  have hnb := int_of_wf hn
  obtain ⟨⟨ao, cap, rfl, hlc, hcm, hnil, hcells⟩, hall⟩ := h
  clear hnil hn
  go_enter Try.func3, Try.ntmps3
  go_wp2_with fail
  refine (dnew_ok 4 w (by omega) (by omega)).mono ?_
  rintro e w1 ⟨p, rfl, ⟨bs, hO, hbs⟩, hB1⟩
  go_wp2_with fail
  refine (disks_any w1).mono ?_
  rintro e w2 ⟨rfl, hB2⟩
  go_wp2_with fail
  obtain ⟨q, hq, hqe, _⟩ := umod n 10 (by omega) (by omega)
  rw [show ((10 : Nat) : Int) = 10 from rfl] at hqe
  rw [hqe, IntWalk.wrap64_in _ (by omega)]
  clear hqe
  have hO2 := hO.keep hB2
  refine (dfuse_any (1 + (q : Int)) w2 hO2 (by omega)).mono ?_
  rintro e w3 ⟨rfl, hO3, hE3⟩
  obtain ⟨hbs3, hB3⟩ := hE3.own hbs (hB1.trans (hB2.mono hB1.size)) (Nat.le_refl _)
  obtain ⟨m, hm⟩ : ∃ m : Nat, m = 1 + q := ⟨_, rfl⟩
  have hI : FInv m 0 { DK.new 4 with fuse := max (1 + (q : Int)) 0 } := by
    have := FInv.start m (by omega)
    rwa [show max (1 + (q : Int)) 0 = (m : Int) by omega]
  generalize ({ DK.new 4 with fuse := max (1 + (q : Int)) 0 } : DK) = d at hO3 hI
  have hme : (1 + (q : Int)) = (m : Int) := by omega
  have hmb : 1 ≤ m ∧ m ≤ 10 := by omega
  rw [hme] at *
  clear hO hO2 hB1 hB2 hE3 hbs hme hm hq
  go_wp2_with fail
  go_loopw [7, 8] (fun kv iv wr => ∃ r : Nat, r ≤ ys.length ∧ r ≤ 20 ∧ kv = .int .i64 r ∧ iv = .int .i64 r ∧ ∃ d bs, DiskAt wr p d bs ∧ FInv m r d ∧ (∀ k, bs k → w.heap.size ≤ k) ∧ Below w.heap.size w wr) (fun _ iv _ => 20 - (intOf iv).toNat)
  case atStart => exact ⟨0, by omega, by omega, rfl, rfl, d, bs, hO3, hI, hbs3, hB3⟩
  case round =>
    clear hO3 hI hbs3 hB3 hall
    obtain ⟨r, hr1, hr2, rfl, rfl, d, bs, hO, hI, hbs, hB⟩ := hrel
    by_cases hlt : r < ys.length
    · by_cases hlt2 : r < 20
      · have hlt8 : (r : Int) < ys.length := by omega
        have hlt9 : (r : Int) < 20 := by omega
        obtain ⟨b, off, rfl, hcells2⟩ := hcells (by intro e; simp [e] at hlt)
        obtain ⟨c0, c1, c2, c3, c4, hbw⟩ := actCells hcells2 hlt hB
        obtain ⟨d0, d1, d2, d3, d4, _⟩ := actCells hcells2 hlt (Below.refl w.heap.size w)
        clear d0 d3 d4
        clear c3 c4 hcells2 hcells
        generalize ys[r] = y at *
        by_cases hw : y.what.tmod 3 = 0
        · obtain ⟨hs1, hs2⟩ := hI.sync
          go_wp2_with fail
          refine (dsync_any wr hO).mono ?_
          rintro e w1 ⟨rfl, bs1, hO1, hE1⟩
          rw [hs1]
          obtain ⟨hbs1, hB1⟩ := hE1.own hbs hB (Nat.le_refl _)
          have hoff := hs2.on
          have hoff2 := hs2.off
          clear c0 c1 c2 hO hE1 hB hbs hs1 hI
          by_cases hf : r + 1 < m
          · skip
            have hf8 : (r : Int) + 1 < m := by omega
            rw [if_pos hf]
            have ho := (hoff hf).1
            clear hoff hoff2
            go_wp2_with fail
            refine (doff_any _ hO1).mono ?_
            rintro e w2 ⟨rfl, rfl⟩
            rw [ho]
            go_wp2_with fail
            go_roundw
            case rel => exact ⟨r + 1, by omega, by omega, rfl, rfl, _, bs1, hO1, hs2, hbs1, hB1⟩
            case measure => simp [intOf]; omega
          · skip
            have hf8 : ¬ ((r : Int) + 1 < m) := by omega
            have hf9 : (m : Int) ≤ (r : Int) + 1 := by omega
            rw [if_neg hf]
            have ho := hoff2 (by omega)
            clear hoff hoff2
            go_wp2_with fail
            refine (doff_any _ hO1).mono ?_
            rintro e w2 ⟨rfl, rfl⟩
            rw [ho]
            go_wp2_with fail
            go_roundw
            case rel => exact ⟨r + 1, by omega, by omega, rfl, rfl, _, bs1, hO1, hs2, hbs1, hB1⟩
            case measure => simp [intOf]; omega
        · obtain ⟨k, hk, _, hke⟩ := umod y.at_ 4 (by omega) (by omega)
          rw [show ((4 : Nat) : Int) = 4 from rfl] at hke
          obtain ⟨hs1, hs2⟩ := hI.write (k := (k : Int)) (by omega) (secL_len y.by_)
          have hfew : d.loose.length ≤ 100000 := by have := hI.ok.few; omega
          have hoff := hs2.on
          have hoff2 := hs2.off
          have HS2 := Lib.hid hs2
          have HOF := Lib.hid hoff
          have HOF2 := Lib.hid hoff2
          by_cases hf : r + 1 < m
          · skip
            have hf8 : (r : Int) + 1 < m := by omega
            rw [if_pos hf] at hs1
            have ho := (hoff hf).1
            go_wp2_with fail
            clear hs2 hI hoff hoff2 c0 hlt8 hlt9
            go_region_held_law (fun w' => w'.cell? ⟨b, off + r * 5 + 1, none⟩ = some (.int .i64 y.at_) ∧ w'.cell? ⟨b, off + r * 5 + 2, none⟩ = some (.int .u8 y.by_.toNat)) (first | exact ⟨c1'', c2''⟩ | exact ⟨c1', c2'⟩ | go_keep) (first
              | (go_at_call 12; refine (sector_any y.by_ _).mono ?_; rintro e w4 ⟨rfl, hB4⟩; have c1' := (hB4.cell (p := ⟨b, off + r * 5 + 1, none⟩) (Nat.lt_of_lt_of_le hbw hB.size)).trans c1; have c2' := (hB4.cell (p := ⟨b, off + r * 5 + 2, none⟩) (Nat.lt_of_lt_of_le hbw hB.size)).trans c2; have hO4 := DiskAt.keep (w := wr.drew) hO hB4)
              | (go_at_call 11; (try rw [hke]); refine (dwrite_any (k : Int) (secL y.by_) w4 hO4 (secL_len y.by_) hfew).mono ?_; rintro e w5 ⟨rfl, bs1, hO1, hE1⟩; rw [hs1]; obtain ⟨hbs1, hB1⟩ := hE1.own hbs (hB.drew.trans (hB4.mono hB.size)) (Nat.le_refl _); have c1'' := (hB1.cell (p := ⟨b, off + r * 5 + 1, none⟩) hbw).trans d1; have c2'' := (hB1.cell (p := ⟨b, off + r * 5 + 2, none⟩) hbw).trans d2))
            clear d1 d2 c1 c2
            go_wp2_with fail
            refine (doff_any _ hO1).mono ?_
            rintro e w2 ⟨rfl, rfl⟩
            rw [ho]
            go_wp2_with fail
            go_roundw
            case rel => exact ⟨r + 1, by omega, by omega, rfl, rfl, _, bs1, hO1, HS2.out, hbs1, hB1⟩
            case measure => simp [intOf]; omega
          · skip
            have hf8 : ¬ ((r : Int) + 1 < m) := by omega
            have hf9 : (m : Int) ≤ (r : Int) + 1 := by omega
            rw [if_neg hf] at hs1
            have ho := hoff2 (by omega)
            go_wp2_with fail
            clear hs2 hI hoff hoff2 c0 hlt8 hlt9
            go_region_held_law (fun w' => w'.cell? ⟨b, off + r * 5 + 1, none⟩ = some (.int .i64 y.at_) ∧ w'.cell? ⟨b, off + r * 5 + 2, none⟩ = some (.int .u8 y.by_.toNat)) (first | exact ⟨c1'', c2''⟩ | exact ⟨c1', c2'⟩ | go_keep) (first
              | (go_at_call 12; refine (sector_any y.by_ _).mono ?_; rintro e w4 ⟨rfl, hB4⟩; have c1' := (hB4.cell (p := ⟨b, off + r * 5 + 1, none⟩) (Nat.lt_of_lt_of_le hbw hB.size)).trans c1; have c2' := (hB4.cell (p := ⟨b, off + r * 5 + 2, none⟩) (Nat.lt_of_lt_of_le hbw hB.size)).trans c2; have hO4 := DiskAt.keep (w := wr.drew) hO hB4)
              | (go_at_call 11; (try rw [hke]); refine (dwrite_any (k : Int) (secL y.by_) w4 hO4 (secL_len y.by_) hfew).mono ?_; rintro e w5 ⟨rfl, bs1, hO1, hE1⟩; rw [hs1]; obtain ⟨hbs1, hB1⟩ := hE1.own hbs (hB.drew.trans (hB4.mono hB.size)) (Nat.le_refl _); have c1'' := (hB1.cell (p := ⟨b, off + r * 5 + 1, none⟩) hbw).trans d1; have c2'' := (hB1.cell (p := ⟨b, off + r * 5 + 2, none⟩) hbw).trans d2))
            clear d1 d2 c1 c2
            go_wp2_with fail
            refine (doff_any _ hO1).mono ?_
            rintro e w2 ⟨rfl, rfl⟩
            rw [ho]
            go_wp2_with fail
            go_roundw
            case rel => exact ⟨r + 1, by omega, by omega, rfl, rfl, _, bs1, hO1, HS2.out, hbs1, hB1⟩
            case measure => simp [intOf]; omega
      · have hlt8 : (r : Int) < ys.length := by omega
        have hlt9 : ¬ ((r : Int) < 20) := by omega
        clear hcells
        have hok := hI.ok
        go_wp2_with fail
        refine (dcrash_any [] _ wr hO (by intro e; have := hok.fast; simp [e] at this) (fun x hx => by have := (hok.ats x hx).1; have := hok.fast; omega) (BoolSl.nil _) (by simp)).mono ?_
        rintro e w1 ⟨rfl, bs1, hO1, hE1⟩
        obtain ⟨hbs1, hB1⟩ := hE1.own hbs hB (Nat.le_refl _)
        have hs : (d.crash []).syE = 0 := by
          have h1 : (d.crash []).may 0 = 0 := by
            have := (hok.crash []).now
            unfold DK.may
            rw [if_neg (by simp [DK.crash]), if_neg (by omega)]
          have h2 : (d.crash []).burn.off = false := by simp [DK.burn, DK.crash]
          simp [DK.syE, h1, h2]
        have ho : (d.crash []).off = false := rfl
        go_wp2_with fail
        refine (doff_any w1 hO1).mono ?_
        rintro e w2 ⟨rfl, rfl⟩
        rw [ho]
        go_wp2_with fail
        refine (dsync_any w1 hO1).mono ?_
        rintro e w2 ⟨rfl, bs2, hO2, hE2⟩
        rw [hs]
        obtain ⟨hbs2, hB2⟩ := hE2.own hbs1 hB1 (Nat.le_refl _)
        go_wp2_with fail
        go_ret
        exact ⟨rfl, hB2⟩
    · have hlt8 : ¬ ((r : Int) < ys.length) := by omega
      clear hcells
      have hok := hI.ok
      go_wp2_with fail
      refine (dcrash_any [] _ wr hO (by intro e; have := hok.fast; simp [e] at this) (fun x hx => by have := (hok.ats x hx).1; have := hok.fast; omega) (BoolSl.nil _) (by simp)).mono ?_
      rintro e w1 ⟨rfl, bs1, hO1, hE1⟩
      obtain ⟨hbs1, hB1⟩ := hE1.own hbs hB (Nat.le_refl _)
      have hs : (d.crash []).syE = 0 := by
        have h1 : (d.crash []).may 0 = 0 := by
          have := (hok.crash []).now
          unfold DK.may
          rw [if_neg (by simp [DK.crash]), if_neg (by omega)]
        have h2 : (d.crash []).burn.off = false := by simp [DK.burn, DK.crash]
        simp [DK.syE, h1, h2]
      have ho : (d.crash []).off = false := rfl
      go_wp2_with fail
      refine (doff_any w1 hO1).mono ?_
      rintro e w2 ⟨rfl, rfl⟩
      rw [ho]
      go_wp2_with fail
      refine (dsync_any w1 hO1).mono ?_
      rintro e w2 ⟨rfl, bs2, hO2, hE2⟩
      rw [hs]
      obtain ⟨hbs2, hB2⟩ := hE2.own hbs1 hB1 (Nat.le_refl _)
      go_wp2_with fail
      go_ret
      exact ⟨rfl, hB2⟩
end Go.Proofs.Ytdhgilpdghohoaa
