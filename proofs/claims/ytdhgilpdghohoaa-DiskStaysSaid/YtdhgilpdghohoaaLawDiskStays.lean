/- The law DiskStays. -/
import Derived.Test.YtdhgilpdghohoaaDiskAny
import Derived.Test.YtdhgilpdghohoaaOpenActs
import Derived.Test.YtdhgilpdghohoaaArr
import Derived.Test.YtdhgilpdghohoaaLawDiskFuses
import Derived.Deep.RegionHeldLaw
import Derived.Deep.DeepCutAuto
import Derived.Deep.CutBlock
namespace Go.Proofs.Ytdhgilpdghohoaa
open Go.RowKit
structure DK.Calm (d : DK) (m : Nat) : Prop where
  ok : d.Ok 6 m
  off : d.off = false
  fuse : d.fuse = 0
theorem DK.Calm.write {d : DK} {m : Nat} (h : d.Calm m) {k : Nat} (hk : k < 6) {s : List UInt8} (hs : s.length = 64) : d.wrE k s = 0 ∧ (d.wrS k s).Calm (m + 1) ∧ (d.wrS k s) = { d with now := d.now.set k s, loose := d.loose ++ [(k, s)] } := by
  have hm : d.may k = 0 := by
    have := h.ok.now
    unfold DK.may; rw [h.off, if_neg (by simp), if_neg (by omega)]
  have hw : d.write k s = { d with now := d.now.set k s, loose := d.loose ++ [(k, s)] } := by
    unfold DK.write DK.burn
    rw [if_neg (by show ¬ (0 < d.fuse); rw [h.fuse]; omega)]
  have hS : d.wrS k s = { d with now := d.now.set k s, loose := d.loose ++ [(k, s)] } := by
    unfold DK.wrS; rw [if_pos hm, Int.toNat_natCast, hw]
  refine ⟨?_, ⟨h.ok.wrS k hs, by rw [hS]; exact h.off, by rw [hS]; exact h.fuse⟩, hS⟩
  unfold DK.wrE; rw [if_pos hm, Int.toNat_natCast, hw]
  show (if d.off = true then (9 : Int) else 0) = 0
  rw [h.off]; simp
theorem DK.Calm.sync {d : DK} {m : Nat} (h : d.Calm m) : d.syE = 0 ∧ d.syS = { d with fast := d.now, loose := [] } := by
  have hm : d.may 0 = 0 := by
    have := h.ok.now
    unfold DK.may; rw [h.off, if_neg (by simp), if_neg (by omega)]
  have hb : d.burn = d := by unfold DK.burn; rw [if_neg (by rw [h.fuse]; omega)]
  constructor
  · unfold DK.syE; rw [if_pos hm, hb, h.off]; simp
  · unfold DK.syS; rw [if_pos hm, hb, h.off]; simp [h.off]
/-- Each sector is one byte again and again, one of those that were marked. -/
def Marked (M : Nat → Bool) (f : List (List UInt8)) : Prop := f.length = 6 ∧ ∀ i, i < 6 → ∃ c : UInt8, f[i]? = some (secL c) ∧ M (i * 256 + c.toNat) = true
def MarkedL (M : Nat → Bool) (l : List (Nat × List UInt8)) : Prop := ∀ x ∈ l, x.1 < 6 ∧ ∃ c : UInt8, x.2 = secL c ∧ M (x.1 * 256 + c.toNat) = true
theorem Marked.lay {M : Nat → Bool} : ∀ (l : List (Nat × List UInt8)) (f : List (List UInt8)) (stay : List Bool), Marked M f → MarkedL M l → Marked M (lay f l stay)
  | [], f, _, hf, _ => hf
  | _ :: _, f, [], hf, _ => hf
  | x :: xs, f, b :: bs, hf, hl => by
    rw [Go.Proofs.Ytdhgilpdghohoaa.lay]
    refine Marked.lay xs _ bs ?_ (fun y hy => hl y (by simp [hy]))
    cases b with
    | false => exact hf
    | true =>
      obtain ⟨h1, c, h2, h3⟩ := hl x (by simp)
      refine ⟨by simpa using hf.1, fun i hi => ?_⟩
      simp only [if_true]
      by_cases he : x.1 = i
      · subst he
        refine ⟨c, ?_, h3⟩
        rw [List.getElem?_set_self (by have := hf.1; omega), h2]
      · rw [List.getElem?_set_ne he]
        exact hf.2 i hi
theorem Marked.mono {M M' : Nat → Bool} {f : List (List UInt8)} (h : Marked M f) (hm : ∀ j, M j = true → M' j = true) : Marked M' f :=
  ⟨h.1, fun i hi => by obtain ⟨c, h1, h2⟩ := h.2 i hi; exact ⟨c, h1, hm _ h2⟩⟩
theorem MarkedL.mono {M M' : Nat → Bool} {f : List (Nat × List UInt8)} (h : MarkedL M f) (hm : ∀ j, M j = true → M' j = true) : MarkedL M' f :=
  fun x hx => by obtain ⟨h0, c, h1, h2⟩ := h x hx; exact ⟨h0, c, h1, hm _ h2⟩
def at0 (F : List UInt8) (i : Nat) : UInt8 := F.getD i 0
theorem BoolSl.own_lt {w : World} {v : Value} {l : List Bool} (h : BoolSl w v l) (hne : l ≠ []) : ∀ k, v.ownBlock = some k → k < w.heap.size := by
  obtain ⟨ao, cap, rfl, h1, h2, h3⟩ := h
  obtain ⟨b, off, rfl, hc⟩ := h3 hne
  intro k hk
  simp [Value.ownBlock] at hk; subst hk
  exact World.block_lt_of_cell? w _ (hc 0 (List.length_pos_iff.2 hne))
theorem Marked.get {M : Nat → Bool} {d : DK} {m : Nat} (h : Marked M d.now) (hc : d.Calm m) {i : Nat} (hi : i < 6) : ∃ c : UInt8, d.readV i = secL c ∧ d.readE i = 0 ∧ M (i * 256 + c.toNat) = true := by
  obtain ⟨c, h1, h2⟩ := h.2 i hi
  have hm : d.may i = 0 := by
    have := hc.ok.now
    unfold DK.may; rw [hc.off, if_neg (by simp), if_neg (by omega)]
  refine ⟨c, ?_, hm, h2⟩
  unfold DK.readV
  rw [if_pos hm, Int.toNat_natCast, List.getD, h1]; rfl
/-- The 1536 marks. -/
def zMay : Array Value := (List.replicate 1536 (.bool false)).toArray
def alM : Sem Value := Instr.alloc 42 true (.tuple #[])
theorem alM_eq : Instr.alloc 42 true (.tuple #[]) = alM := rfl
theorem Try.info_may : (Try.prog.info? 42).map (fun i => i.zero.map (fun z => z.cells)) = some (some zMay) := by kernel_rfl
theorem run_alM (w : World) : alM.run Try.prog w = .ok (.pointer (some ⟨w.heap.size, 0, none⟩)) (w.alloc (.cells zMay 42)) := by
  have h := Try.info_may
  cases hi : Try.prog.info? 42 with
  | none => rw [hi] at h; cases h
  | some i =>
    rw [hi] at h
    simp only [Option.map_some, Option.some.injEq] at h
    cases hz : i.zero with
    | none => rw [hz] at h; cases h
    | some z =>
      rw [hz] at h
      have hzc : z.cells = zMay := by simpa using h
      simp [alM, Instr.alloc, zeroValue, typeInfo, hi, hz, newVar, newRow, hzc]
attribute [local go_sem ↓] alM_eq alS_eq stS_eq ldS_eq
attribute [local go_sem] run_alM run_alS run_guard_sec
set_option maxRecDepth 100000 in
set_option maxHeartbeats 2000000 in
theorem diskStays_walk (fv : Value) (first : List UInt8) (v : Value) (ys : List ActD) (sv : Value) (stay : List Bool) (w : World) (hfirst : Bsl w fv first) (h : ActsAt w v ys) (hstay : BoolSl w sv stay) :
    Calls Try.prog 4 #[fv, v, sv] w fun e w' => e = .returned (.bool true) ∧ Below w.heap.size w w' := by
  obtain ⟨⟨ao, cap, rfl, hlc, hcm, hnil, hcells⟩, hall⟩ := h
  obtain ⟨fo, fcap, rfl, hfl, hfm, hfn, hfc⟩ := id hfirst
  obtain ⟨so, scap, rfl, hsl, hsm, hsc⟩ := id hstay
  clear hnil hfn hall
  go_enter Try.func4, Try.ntmps4
  go_wp2_with fail
  refine (dnew_ok 6 w (by omega) (by omega)).mono ?_
  rintro e w1 ⟨p, rfl, ⟨bs, hO, hbs⟩, hB1⟩
  go_wp2_with fail
  refine (disks_any w1).mono ?_
  rintro e w2 ⟨rfl, hB2⟩
  have hO2 := hO.keep hB2
  have hBB := hB1.trans (hB2.mono hB1.size)
  have hC : (DK.new 6).Calm 0 := ⟨DK.Ok.new 6, rfl, rfl⟩
  have hN : (DK.new 6).now = (List.replicate 6 (0 : UInt8)).map secL := rfl
  generalize DK.new 6 = d at *
  clear hO hB1 hB2
  go_upto_region 5 with (fail)
  go_upto_block 0 with (fail)
  have hFA : ArrAt (w2.alloc (.cells #[.int .u8 0, .int .u8 0, .int .u8 0, .int .u8 0, .int .u8 0, .int .u8 0] 40)) w2.heap.size (fun i => bv (at0 (List.replicate 6 (0 : UInt8)) i)) 6 := by
    refine ArrAt.alloc w2 _ _ _ _ fun j hj => ?_
    match j, hj with
    | 0, _ => rfl
    | 1, _ => rfl
    | 2, _ => rfl
    | 3, _ => rfl
    | 4, _ => rfl
    | 5, _ => rfl
  have hA2 : Below w2.heap.size w2 (w2.alloc (.cells #[.int .u8 0, .int .u8 0, .int .u8 0, .int .u8 0, .int .u8 0, .int .u8 0] 40)) := (Below.refl _ _).alloc (Nat.le_refl _) _
  have hO3 := hO2.keep hA2
  have hBB3 := hBB.trans (hA2.mono hBB.size)
  have hfb : ¬ bs w2.heap.size := fun e => by have := hO2.lt _ e; omega
  have hfbB : w.heap.size ≤ w2.heap.size := hBB.size
  generalize w2.alloc (.cells #[.int .u8 0, .int .u8 0, .int .u8 0, .int .u8 0, .int .u8 0, .int .u8 0] 40) = w3 at *
  generalize w2.heap.size = fb at *
  go_cut [10] (fun _ wx => ∃ (F : List UInt8) (d : DK) (bs : Nat → Prop), F.length = 6 ∧ DiskAt wx p d bs ∧ d.Calm 6 ∧ d.now = F.map secL ∧ (∀ k, bs k → w.heap.size ≤ k) ∧ Below w.heap.size w wx ∧ ArrAt wx fb (fun i => bv (at0 F i)) 6 ∧ ¬ bs fb)
  case first =>
    go_wp2_with fail
    go_loopw [10] (fun iv wr => ∃ r : Nat, r ≤ 6 ∧ r ≤ first.length ∧ iv = .int .i64 r ∧ ∃ (F : List UInt8) (d : DK) (bs : Nat → Prop), F.length = 6 ∧ DiskAt wr p d bs ∧ d.Calm r ∧ d.now = F.map secL ∧ (∀ k, bs k → w.heap.size ≤ k) ∧ Below w.heap.size w wr ∧ ArrAt wr fb (fun i => bv (at0 F i)) 6 ∧ ¬ bs fb) (fun iv _ => 6 - (intOf iv).toNat)
    case atStart => exact ⟨0, by omega, by omega, rfl, List.replicate 6 0, d, bs, by simp, hO3, hC, hN, hbs, hBB3, hFA, hfb⟩
    case round =>
      clear hO2 hO3 hC hN hbs hBB hBB3 hFA hfb hA2
      obtain ⟨r, hr1, hr2, rfl, F, d, bs, hF, hO, hC, hN, hbs, hB, hFA, hfb⟩ := hrel
      by_cases hlt : r < 6
      · have hlt6 : (r : Int) < 6 := by omega
        by_cases hlt2 : r < first.length
        · have hlt8 : (r : Int) < first.length := by omega
          obtain ⟨b, off, rfl, hcell⟩ := hfc (by intro e; simp [e] at hlt2)
          have c0 := hcell r hlt2
          have hbw : b < w.heap.size := World.block_lt_of_cell? w _ c0
          have c1 := (hB.cell (p := ⟨b, off + r, none⟩) hbw).trans c0
          obtain ⟨he, hC2, hS⟩ := hC.write (k := r) hlt (secL_len (first.getD r 0))
          have hfew : d.loose.length ≤ 100000 := by have := hC.ok.few; omega
          have hbf : b ≠ fb := fun e => by omega
          generalize first.getD r 0 = cc at *
          clear hcell hfc
          have HS := Lib.hid hS
          have HN := Lib.hid hN
          clear hS hN
          go_wp2_with fail
          refine (sector_any cc wr).mono ?_
          rintro e w4 ⟨rfl, hB4⟩
          go_wp2_with fail
          refine (dwrite_any r (secL cc) w4 (hO.keep hB4) (secL_len cc) hfew).mono ?_
          rintro e w5 ⟨rfl, bs5, hO5, hE5⟩
          rw [he]
          obtain ⟨hbs5, hB5⟩ := hE5.own hbs (hB.trans (hB4.mono hB.size)) (Nat.le_refl _)
          have hF4 := hFA.keep hB4
          have hfb5 : ¬ bs5 fb := hE5.not (hF4.lt (by omega)) hfb
          have hF5 := hF4.only hE5.only hfb
          have c5 := (hB5.cell (p := ⟨b, off + r, none⟩) hbw).trans c0
          obtain ⟨cf, ff⟩ := hF5 r hlt
          have hset := hF5.set r (bv cc)
          have hO6 := hO5.only (only_cell w5 ⟨fb, r, none⟩ (bv cc)) (fun k hk e => hfb5 (by have h' : k = fb := e; subst h'; exact hk))
          have hB6 : Below w.heap.size w (w5.setCell ⟨fb, r, none⟩ (bv cc)) := hB5.setCell hfbB _
          clear hO hC hB hFA hfb hE5 hF4 hF5 hO5 hB5 c1 c0 hB4 hbs
          unfold bv at hset hO6 hB6 cf
          go_wp2_with fail
          go_roundw
          case rel =>
            refine ⟨r + 1, by omega, by omega, rfl, F.set r cc, _, bs5, by simpa using hF, hO6, hC2, ?_, hbs5, hB6, ?_, hfb5⟩
            · rw [HS.out]
              show d.now.set r (secL cc) = _
              rw [HN.out, List.map_set]
            · refine hset.congr fun j hj => ?_
              by_cases hjr : j = r
              · subst hjr; simp [at0, List.getD, hF, hj, bv]
              · simp [at0, List.getD, hjr, bv, List.getElem?_set_ne (Ne.symm hjr)]
          case measure => simp [intOf]; omega
        · have hlt8 : ¬ ((r : Int) < first.length) := by omega
          go_wp2_with fail
          go_meet
          exact ⟨F, d, bs, hF, hO, ⟨hC.ok.more hr1, hC.off, hC.fuse⟩, hN, hbs, hB, hFA, hfb⟩
      · have hlt8 : ¬ ((r : Int) < 6) := by omega
        go_wp2_with fail
        go_meet
        exact ⟨F, d, bs, hF, hO, ⟨hC.ok.more hr1, hC.off, hC.fuse⟩, hN, hbs, hB, hFA, hfb⟩
  case rest =>
    clear hO2 hO3 hC hN hbs hBB hBB3 hFA hfb hA2 hfc hfl hfm hfirst
    obtain ⟨F, d, bs, hF, hO, hC, hN, hbs, hB, hFA, hfb⟩ := hcut
    obtain ⟨he, hS⟩ := hC.sync
    have HN := Lib.hid hN
    clear hN
    go_wp2_with fail
    refine (dsync_any wc hO).mono ?_
    rintro e w5 ⟨rfl, bs5, hO5, hE5⟩
    rw [he]
    obtain ⟨hbs5, hB5⟩ := hE5.own hbs hB (Nat.le_refl _)
    have hfb5 : ¬ bs5 fb := hE5.not (hFA.lt (by omega)) hfb
    have hF5 := hFA.only hE5.only hfb
    have hC5 : d.syS.Calm 0 := by
      rw [hS]
      exact ⟨⟨hC.ok.now, hC.ok.now, by simp, by simp, hC.ok.nowS, hC.ok.nowS, hC.ok.fuse⟩, hC.off, hC.fuse⟩
    have hfast : d.syS.fast = F.map secL := by rw [hS]; exact HN.out
    have hloose : d.syS.loose = [] := by rw [hS]
    generalize d.syS = d at *
    clear hO hC HN hbs hB hFA hfb he hS hE5
    go_upto_block 2 with (fail)
    have hA : Below w5.heap.size w5 (w5.alloc (.cells zMay 42)) := (Below.refl _ _).alloc (Nat.le_refl _) _
    have hM : ArrAt (w5.alloc (.cells zMay 42)) w5.heap.size (fun _ => .bool false) 1536 := ArrAt.alloc w5 _ _ _ _ fun j hj => by unfold zMay; rw [List.getElem?_toArray, List.getElem?_replicate, if_pos hj]
    have hO6 := hO5.keep hA
    have hF6 := hF5.keep hA
    have hB6 := hB5.trans (hA.mono hB5.size)
    have hmb : ¬ bs5 w5.heap.size := fun e => by have := hO5.lt _ e; omega
    have hmbf : w5.heap.size ≠ fb := fun e => by have := hF5.lt (by omega); omega
    have hmbB : w.heap.size ≤ w5.heap.size := hB5.size
    generalize w5.alloc (.cells zMay 42) = w6 at *
    generalize w5.heap.size = mb at *
    clear hO5 hF5 hB5 hA
    go_cut [12] (fun _ wx => ∃ M : Nat → Bool, ArrAt wx mb (fun j => .bool (M j)) 1536 ∧ (∀ i, i < 6 → M (i * 256 + (at0 F i).toNat) = true) ∧ DiskAt wx p d bs5 ∧ Below w.heap.size w wx)
    case first =>
      go_wp2_with fail
      go_loopw [12] (fun iv wr => ∃ r : Nat, r ≤ 6 ∧ iv = .int .i64 r ∧ ∃ M : Nat → Bool, ArrAt wr mb (fun j => .bool (M j)) 1536 ∧ (∀ i, i < r → M (i * 256 + (at0 F i).toNat) = true) ∧ DiskAt wr p d bs5 ∧ ArrAt wr fb (fun i => bv (at0 F i)) 6 ∧ Below w.heap.size w wr) (fun iv _ => 6 - (intOf iv).toNat)
      case atStart => exact ⟨0, by omega, rfl, fun _ => false, hM, by omega, hO6, hF6, hB6⟩
      case round =>
        clear hO6 hF6 hB6 hM
        obtain ⟨r, hr, rfl, M, hM, hMF, hO, hFA, hB⟩ := hrel
        by_cases hlt : r < 6
        · have hlt6 : (r : Int) < 6 := by omega
          have cf : wr.cell? ⟨fb, r, none⟩ = some (.int .u8 ((at0 F r).toNat : Int)) := (hFA r hlt).1
          have h256 := UInt8.toNat_lt (at0 F r)
          obtain ⟨cm, fm⟩ := hM (r * 256 + (at0 F r).toNat) (by omega)
          dsimp only at cm
          have hset := hM.set (r * 256 + (at0 F r).toNat) (.bool true)
          have hO6 := hO.only (only_cell wr ⟨mb, r * 256 + (at0 F r).toNat, none⟩ (.bool true)) (fun k hk e => hmb (by have h' : k = mb := e; subst h'; exact hk))
          have hF6 := hFA.only (only_cell wr ⟨mb, r * 256 + (at0 F r).toNat, none⟩ (.bool true)) (fun e => hmbf e.symm)
          have hB6 : Below w.heap.size w (wr.setCell ⟨mb, r * 256 + (at0 F r).toNat, none⟩ (.bool true)) := hB.setCell hmbB _
          have hMF' : ∀ i, i < r + 1 → (if i * 256 + (at0 F i).toNat = r * 256 + (at0 F r).toNat then true else M (i * 256 + (at0 F i).toNat)) = true := by
            intro i hi
            split
            · rfl
            · rename_i hne
              exact hMF i (by rcases Nat.lt_succ_iff_lt_or_eq.1 hi with h | h
                              · exact h
                              · subst h; exact absurd rfl hne)
          have HM := Lib.hid hMF'
          have h0 : (0 : Int) ≤ ((at0 F r).toNat : Int) := Int.natCast_nonneg _
          have h8 : ((at0 F r).toNat : Int) < 256 := by omega
          generalize (at0 F r).toNat = cN at *
          clear hMF hMF' hO hFA hM hB
          go_wp2_with fail
          go_region
          go_wp2_with fail
          go_roundw
          case rel =>
            refine ⟨r + 1, by omega, rfl, fun j => if j = r * 256 + cN then true else M j, ?_, HM.out, hO6, hF6, hB6.drew⟩
            refine ArrAt.congr (w := (wr.setCell ⟨mb, r * 256 + cN, none⟩ (.bool true)).drew) hset fun j hj => ?_
            dsimp only
            split <;> rfl
          case measure => simp [intOf]; omega
        · have hlt8 : ¬ ((r : Int) < 6) := by omega
          go_wp2_with fail
          go_meet
          exact ⟨M, hM, fun i hi => hMF i (by omega), hO, hB⟩
    case rest =>
      clear hO6 hF6 hB6 hM
      obtain ⟨M, hM, hMF, hO, hB⟩ := hcut
      have hMk : Marked M d.fast := by
        rw [hfast]
        refine ⟨by simp [hF], fun i hi => ⟨at0 F i, ?_, hMF i hi⟩⟩
        simp [at0, List.getD, hF, hi]
      have hMl : MarkedL M d.loose := by rw [hloose]; intro x hx; simp at hx
      clear hfast hloose hMF hF
      go_upto_block 4 with (fail)
      go_cut [13, 14] (fun _ _ wx => ∃ (M : Nat → Bool) (d : DK) (bs : Nat → Prop), ArrAt wx mb (fun j => .bool (M j)) 1536 ∧ Marked M d.fast ∧ MarkedL M d.loose ∧ DiskAt wx p d bs ∧ d.Calm 20 ∧ (∀ k, bs k → w.heap.size ≤ k) ∧ ¬ bs mb ∧ Below w.heap.size w wx)
      case first =>
        go_wp2_with fail
        go_loopw [13] (fun iv wr => ∃ r : Nat, r ≤ 20 ∧ r ≤ ys.length ∧ iv = .int .i64 r ∧ ∃ (M : Nat → Bool) (d : DK) (bs : Nat → Prop), ArrAt wr mb (fun j => .bool (M j)) 1536 ∧ Marked M d.fast ∧ MarkedL M d.loose ∧ DiskAt wr p d bs ∧ d.Calm r ∧ (∀ k, bs k → w.heap.size ≤ k) ∧ ¬ bs mb ∧ Below w.heap.size w wr) (fun iv _ => 20 - (intOf iv).toNat)
        case atStart => exact ⟨0, by omega, by omega, rfl, M, d, bs5, hM, hMk, hMl, hO, hC5, hbs5, hmb, hB⟩
        case round =>
          clear hM hMk hMl hO hC5 hbs5 hmb hB hfb5
          obtain ⟨r, hr1, hr2, rfl, M, d, bs, hM, hMk, hMl, hO, hC, hbs, hmb, hB⟩ := hrel
          by_cases hlt2 : r < ys.length
          · have hlt8 : (r : Int) < ys.length := by omega
            by_cases hlt : r < 20
            · have hlt6 : (r : Int) < 20 := by omega
              obtain ⟨b, off, rfl, hcells2⟩ := hcells (by intro e; simp [e] at hlt2)
              obtain ⟨_, c1, c2, _, _, hbw⟩ := actCells hcells2 hlt2 hB
              obtain ⟨_, d1, d2, _, _, _⟩ := actCells hcells2 hlt2 (Below.refl w.heap.size w)
              clear hcells2 hcells
              generalize ys[r] = y at *
              obtain ⟨k, hk, hke, hke2⟩ := umod y.at_ 6 (by omega) (by omega)
              rw [show ((6 : Nat) : Int) = 6 from rfl] at hke hke2
              obtain ⟨he, hC2, hS⟩ := hC.write (k := k) hk (secL_len y.by_)
              have hfew : d.loose.length ≤ 100000 := by have := hC.ok.few; omega
              have HS := Lib.hid hS
              clear hS
              go_wp2_with fail
              refine (sector_any y.by_ wr).mono ?_
              rintro e w4 ⟨rfl, hB4⟩
              go_wp2_with fail
              refine (dwrite_any k (secL y.by_) w4 (hO.keep hB4) (secL_len y.by_) hfew).mono ?_
              rintro e w5 ⟨rfl, bs5, hO5, hE5⟩
              rw [he]
              obtain ⟨hbs5, hB5⟩ := hE5.own hbs (hB.trans (hB4.mono hB.size)) (Nat.le_refl _)
              have hM4 := hM.keep hB4
              have hmb5 : ¬ bs5 mb := hE5.not (hM4.lt (by omega)) hmb
              have hM5 := hM4.only hE5.only hmb
              have c5 := (hB5.cell (p := ⟨b, off + r * 5 + 2, none⟩) hbw).trans d2
              have h256 := UInt8.toNat_lt y.by_
              obtain ⟨cm, fm⟩ := hM5 (k * 256 + y.by_.toNat) (by omega)
              dsimp only at cm
              have hset := hM5.set (k * 256 + y.by_.toNat) (.bool true)
              have hO6 := hO5.only (only_cell w5 ⟨mb, k * 256 + y.by_.toNat, none⟩ (.bool true)) (fun k hk e => hmb5 (by have h' : k = mb := e; subst h'; exact hk))
              have hB6 : Below w.heap.size w (w5.setCell ⟨mb, k * 256 + y.by_.toNat, none⟩ (.bool true)) := hB5.setCell hmbB _
              have h0 : (0 : Int) ≤ (y.by_.toNat : Int) := Int.natCast_nonneg _
              have h8 : (y.by_.toNat : Int) < 256 := by omega
              have h60 : (0 : Int) ≤ (k : Int) := Int.natCast_nonneg _
              have h68 : (k : Int) < 6 := by omega
              have hmon : ∀ j, M j = true → (if j = k * 256 + y.by_.toNat then true else M j) = true := fun j hj => by split <;> simp [hj]
              have hMk6 : Marked (fun j => if j = k * 256 + y.by_.toNat then true else M j) (d.wrS k (secL y.by_)).fast := by
                rw [HS.out]; exact hMk.mono hmon
              have hMl6 : MarkedL (fun j => if j = k * 256 + y.by_.toNat then true else M j) (d.wrS k (secL y.by_)).loose := by
                rw [HS.out]
                intro x hx
                rcases List.mem_append.1 hx with hx | hx
                · exact hMl.mono hmon x hx
                · rw [List.mem_singleton.1 hx]; exact ⟨hk, y.by_, rfl, by simp⟩
              generalize d.wrS k (secL y.by_) = d6 at *
              generalize y.by_.toNat = cN at *
              clear HS hMk hMl hmon hO hC hbs hmb hB hM hB4 hE5 hB5 hM4 hM5 c1 c2 d1 d2 hO5 he
              go_wp2_with fail
              go_region
              go_wp2_with fail
              go_roundw
              case rel =>
                refine ⟨r + 1, by omega, by omega, rfl, _, d6, bs5, ?_, hMk6, hMl6, hO6, hC2, hbs5, hmb5, hB6.drew⟩
                refine ArrAt.congr (w := (w5.setCell ⟨mb, k * 256 + cN, none⟩ (.bool true)).drew) hset fun j hj => ?_
                (try dsimp only)
                split <;> rfl
              case measure => simp [intOf]; omega
            · have hlt6 : ¬ ((r : Int) < 20) := by omega
              go_wp2_with fail
              go_meet
              exact ⟨M, d, bs, hM, hMk, hMl, hO, ⟨hC.ok.more hr1, hC.off, hC.fuse⟩, hbs, hmb, hB⟩
          · have hlt8 : ¬ ((r : Int) < ys.length) := by omega
            go_wp2_with fail
            go_meet
            exact ⟨M, d, bs, hM, hMk, hMl, hO, ⟨hC.ok.more hr1, hC.off, hC.fuse⟩, hbs, hmb, hB⟩
      case rest =>
        clear hM hMk hMl hO hC5 hbs5 hmb hB hfb5 hcells
        obtain ⟨M, d, bs, hM, hMk, hMl, hO, hC, hbs, hmb, hB⟩ := hcut
        have hok := hC.ok
        have hMk7 : Marked M (d.crash stay).now := Marked.lay _ _ _ hMk hMl
        have hC7 : (d.crash stay).Calm 0 := ⟨hok.crash stay, rfl, rfl⟩
        have hl7 : (d.crash stay).loose = [] := rfl
        go_wp2_with fail
        refine (dcrash_any stay _ wc hO (by intro e; have := hok.fast; simp [e] at this) (fun x hx => by have := (hok.ats x hx).1; have := hok.fast; omega) (hstay.keep hB) (fun hne k hk hb => by have := hstay.own_lt hne k hk; have := hbs k hb; omega)).mono ?_
        rintro e w7 ⟨rfl, bs7, hO7, hE7⟩
        generalize d.crash stay = d7 at *
        obtain ⟨hbs7, hB7⟩ := hE7.own hbs hB (Nat.le_refl _)
        have hmb7 : ¬ bs7 mb := hE7.not (hM.lt (by omega)) hmb
        have hM7 := hM.only hE7.only hmb
        clear hE7 hO hB hM hbs hmb hMk hMl hok hC
        go_wp2_with fail
        go_loopw [15] (fun iv wr => ∃ r : Nat, r ≤ 6 ∧ iv = .int .i64 r ∧ ArrAt wr mb (fun j => .bool (M j)) 1536 ∧ DiskAt wr p d7 bs7 ∧ Below w.heap.size w wr) (fun iv _ => 6 - (intOf iv).toNat)
        case atStart => exact ⟨0, by omega, rfl, hM7, hO7, hB7⟩
        case round =>
          clear hM7 hO7 hB7
          obtain ⟨r, hr1, rfl, hM, hO, hB⟩ := hrel
          by_cases hlt : r < 6
          · have hlt6 : (r : Int) < 6 := by omega
            have h60 : (0 : Int) ≤ (r : Int) := Int.natCast_nonneg _
            obtain ⟨c, hv, he, hm⟩ := hMk7.get hC7 hlt
            go_wp2_with fail
            refine (dread_any r wr hO).mono ?_
            rintro e w8 ⟨rfl, hB8⟩
            rw [hv, he]
            have hM8 := hM.keep hB8
            have hst := run_stS (w8.alloc (.cells (zC 1).toArray 43)) w8.heap.size 0 (secL c) (there_alS w8) (secL_len c)
            obtain ⟨hv1, hv2, hv3⟩ := secV_var w8 (secL c) (secL_len c)
            have hM9 := hM8.keep hv2
            have hBB8 := hB.trans (hB8.mono hB.size)
            have hBB := hBB8.trans (hv2.mono hBB8.size)
            have hO9 := (hO.keep hB8).keep hv2
            clear hO hM hB8 hM8 hBB8 hB
            go_wp2_with fail
            clear hst hv2
            have hsz : w8.heap.size < ((w8.alloc (.cells (zC 1).toArray 43)).setCells w8.heap.size 0 (secC (secL c))).heap.size := by omega
            generalize (w8.alloc (.cells (zC 1).toArray 43)).setCells w8.heap.size 0 (secC (secL c)) = w9 at *
            have hc0 : w9.cell? ⟨w8.heap.size, 0, none⟩ = some (.int .u8 (c.toNat : Int)) := hv1 0 _ (by simp [secC, secL, bv])
            have hcm : w9.cell? ⟨mb, r * 256 + c.toNat, none⟩ = some (.bool true) := by
              have := (hM9 (r * 256 + c.toNat) (by have := UInt8.toNat_lt c; omega)).1
              dsimp only at this
              rw [hm] at this; exact this
            have hmlt := hM9.lt (by omega)
            have h0 : (0 : Int) ≤ (c.toNat : Int) := Int.natCast_nonneg _
            have h8 : (c.toNat : Int) < 256 := by have := UInt8.toNat_lt c; omega
            have hld := fun d os => run_ldS (Sort.grow (redrawn w9 d) os) w8.heap.size 0 (secL c) (fun j v hv => ((below_regrown w9 d os).cell (p := ⟨w8.heap.size, 0 + j, none⟩) hsz).trans (hv1 j v hv)) (secL_len c)
            have hq0 := fun d os => ((below_regrown w9 d os).cell (p := ⟨w8.heap.size, 0, none⟩) hsz).trans hc0
            have hqm := fun d os => ((below_regrown w9 d os).cell (p := ⟨mb, r * 256 + c.toNat, none⟩) hmlt).trans hcm
            have cS : ∀ d os, Calls Try.prog 12 #[.int .u8 (c.toNat : Int)] (Sort.grow (redrawn w9 d) os) fun e w'' => e = .returned (secV (secL c)) ∧ ∃ p : Regrown, w'' = Sort.grow (redrawn w9 p.d) p.os :=
              fun d os => Calls.regrown_of (sector_any c _)
            have heq := fun w => run_neq_sec 43 Try.underlying43 (secL c) (secL c) (secL_len c) (secL_len c) w
            simp only [beq_self_eq_true, Bool.not_true] at heq
            generalize c.toNat = cN at *
            have HM := Lib.hid hM9
            clear hc0 hcm hv he hm hv1 hM9
            refine wp_region_quiet_below (by kernel_rfl) (by kernel_rfl) ?_
            repeat (quiet_step (first | (go_at_call 12; exact cS _ _)))
            refine wpQuiet_nil ?_
            rintro w10 ⟨⟨d2, os2⟩, rfl⟩
            have hb9 := below_regrown w9 d2 os2
            have hO10 := hO9.keep hb9
            have hM10 := HM.out.keep hb9
            have hB10 := hBB.trans (hb9.mono hBB.size)
            generalize Sort.grow (redrawn w9 d2) os2 = w10 at *
            clear hq0 hqm hld cS heq
            go_wp2_with fail
            go_roundw
            case rel => exact ⟨r + 1, by omega, rfl, hM10, hO10, hB10⟩
            case measure => simp [intOf]; omega
          · have hlt6 : ¬ ((r : Int) < 6) := by omega
            go_wp2_with fail
            refine (dloose_any wr hO).mono ?_
            rintro e w8 ⟨rfl, rfl⟩
            rw [hl7]
            go_wp2_with fail
            refine (doff_any wr hO).mono ?_
            rintro e w8 ⟨rfl, rfl⟩
            rw [hC7.off]
            go_wp2_with fail
            go_ret
            exact ⟨rfl, hB⟩
end Go.Proofs.Ytdhgilpdghohoaa
