/- The log: SEqual, LogRecL, LogRecs, LogLoad, LogOpen. -/
import Derived.Test.YtbmdcblcefebiaaSame
import Derived.Deep.QuietTactic
import Derived.BigQuiet
import Derived.Deep.DeepCutAuto
import Derived.Test.YtbmdcblcefebiaaLogA
import Derived.Test.YtbmdcblcefebiaaCrcBurst
import Derived.Test.YtbmdcblcefebiaaRowApps
import Derived.Test.YtbmdcblcefebiaaInMore
import Derived.Deep.RegionLaw
import Derived.Test.YtbmdcblcefebiaaLogB
import Derived.Deep.RegionHeldLaw
/- slices.Equal of bytes. -/
namespace Go.Proofs.Ytbmdcblcefebiaa
open Go.RowKit
set_option maxRecDepth 100000 in
set_option maxHeartbeats 1000000 in
theorem sequal_any (va vb : Value) (la lb : List UInt8) (w : World) (ha : Bsl w va la) (hb : Bsl w vb lb) :
    Calls Try.prog 58 #[va, vb] w fun e w' => e = .returned (.bool (decide (la = lb))) ∧ Below w.heap.size w w' := by
  obtain ⟨ao, cap, rfl, hlc, hcm, hnil, hca⟩ := ha
  obtain ⟨bo, cap', rfl, hlc', hcm', hnil', hcb⟩ := hb
  clear hnil hnil'
  by_cases hlen : la.length = lb.length
  · have hne : ((la.length : Int) != (lb.length : Int)) = false := by rw [hlen]; simp
    have HL := Lib.hid hlen; clear hlen
    have hll : lb.length ≤ la.length ∧ la.length ≤ lb.length := by have := HL.out; omega
    have hDT : ∀ k : Nat, la.take k = lb.take k → la.length ≤ k → decide (la = lb) = true := fun k h h2 => by
      rw [List.take_of_length_le h2, List.take_of_length_le (by have := HL.out; omega)] at h
      exact decide_eq_true h
    have hDF : ∀ k : Nat, la.getD k 0 ≠ lb.getD k 0 → decide (la = lb) = false := fun k h => decide_eq_false (fun e => h (by rw [e]))
    have HDT := Lib.hid hDT
    have HDF := Lib.hid hDF
    clear hDT hDF
    go_enter Try.func58, Try.ntmps58
    go_wp2_with fail
    go_loopw [13] (fun i wr => ∃ k : Nat, k ≤ la.length ∧ i = .int .i64 k ∧ la.take k = lb.take k ∧ Below w.heap.size w wr) (fun i _ => la.length - (intOf i).toNat)
    case atStart => exact ⟨0, Nat.zero_le _, rfl, by simp, Below.refl _ _⟩
    case round =>
      obtain ⟨k, hk, rfl, htk, hbel⟩ := hrel
      have HI := Lib.hid htk; clear htk
      by_cases hlt : k < la.length
      · obtain ⟨b, off, rfl, hc⟩ := hca (by intro h; simp [h] at hlt)
        obtain ⟨b2, off2, rfl, hc2⟩ := hcb (by intro h; simp [h] at hll; simp [hll] at hlt)
        have hck := hc k hlt
        have hck2 := hc2 k (by omega)
        have hck := (hbel.cell (World.block_lt_of_cell? w _ hck)).trans hck
        have hck2 := (hbel.cell (World.block_lt_of_cell? w _ hck2)).trans hck2
        clear hc hc2 hca hcb
        obtain ⟨c, hcc⟩ : ∃ c, c = la.getD k 0 := ⟨_, rfl⟩
        obtain ⟨c2, hcc2⟩ : ∃ c, c = lb.getD k 0 := ⟨_, rfl⟩
        rw [← hcc] at hck
        rw [← hcc2] at hck2
        have HC := Lib.hid hcc; clear hcc
        have HC2 := Lib.hid hcc2; clear hcc2
        have hi1 : (k : Int) < (la.length : Int) := by omega
        have hi2 : (k : Int) < (lb.length : Int) := by omega
        have hk0 : (0 : Int) ≤ k := Int.natCast_nonneg _
        have hnext : c = c2 → la.take (k + 1) = lb.take (k + 1) := fun e => by
          rw [take_succ_getD hlt, take_succ_getD (by omega : k < lb.length), ← HC.out, ← HC2.out, HI.out, e]
        have HN := Lib.hid hnext
        clear hnext
        by_cases he : c = c2
        · subst he
          go_upto_region 6 with (fail)
          go_quiet (fail)
          go_wp2_with fail
          go_roundw
          case rel => exact ⟨k + 1, by omega, by go_num, HN.out rfl, below_drewN hbel _⟩
          case measure => simp [intOf]; omega
        · have hne2 : ¬ (c.toNat : Int) = (c2.toNat : Int) := fun e => he (UInt8.toNat_inj.1 (by omega))
          have hfin := HDF.out k (by rw [← HC.out, ← HC2.out]; exact he)
          have HFIN := Lib.hid hfin
          clear hfin he
          go_upto_region 6 with (fail)
          go_quiet (fail)
          go_wp2_with fail
          go_ret
          exact ⟨by rw [HFIN.out]; rfl, below_drewN hbel _⟩
      · have hfin := HDT.out k HI.out (by omega)
        have HFIN := Lib.hid hfin
        clear hfin
        have hng : ¬ (k : Int) < la.length := by omega
        go_wp2_with fail
        go_ret
        exact ⟨by rw [HFIN.out]; rfl, hbel⟩
  · have hne : ¬ (la.length : Int) = (lb.length : Int) := by omega
    have hd : decide (la = lb) = false := by simp; intro h; exact hlen (by rw [h])
    have HD := Lib.hid hd; clear hd
    clear hca hcb hlen
    go_enter Try.func58, Try.ntmps58
    go_wp2_with fail
    go_ret
    exact ⟨by rw [HD.out]; rfl, Below.refl _ _⟩
end Go.Proofs.Ytbmdcblcefebiaa
/- log: the records that stand in bytes (plain). -/
namespace Go.Proofs.Ytbmdcblcefebiaa
open Crc
/-- What is read as the first record. -/
def recR (b : List UInt8) : List UInt8 := IK.bytL ⟨b, 0⟩ 2147483647
/-- Does a record stand first? -/
def recOk (b : List UInt8) : Bool := decide ((recR b).length + 8 ≤ b.length) && decide (recL (recR b) = b.take ((recR b).length + 8))
/-- The records that stand in bytes, and how many bytes these have. -/
def recsL : Nat → List UInt8 → List (List UInt8) × Nat
  | 0, _ => ([], 0)
  | n + 1, b => if b ≠ [] ∧ recOk b = true then (recR b :: (recsL n (b.drop ((recR b).length + 8))).1, (recR b).length + 8 + (recsL n (b.drop ((recR b).length + 8))).2) else ([], 0)
def recsA (b : List UInt8) : List (List UInt8) × Nat := recsL (b.length + 1) b
/-- The bytes of records. -/
def allL (rs : List (List UInt8)) : List UInt8 := (rs.map recL).flatten
theorem recR_len (b : List UInt8) : (recR b).length ≤ b.length := by
  unfold recR IK.bytL
  split
  · simp
  · split
    · simp
    · split
      · simp
      · rw [List.length_take, List.length_drop]; exact Nat.le_trans (Nat.min_le_right _ _) (Nat.sub_le _ _)
theorem recL_split (r : List UInt8) : recL r = bytesL r ++ putLowL 4 (crcOf ((bytesL r).map UInt8.toNat)) := rfl
theorem recR_recL (r : List UInt8) (t : List UInt8) (h : r.length ≤ 2147483647) : recR (recL r ++ t) = r := by
  unfold recR
  rw [recL_split, List.append_assoc]
  exact (byt_put (t := r) (l := putLowL 4 (crcOf ((bytesL r).map UInt8.toNat)) ++ t) (most := 2147483647) (by omega) (by omega)).1
theorem recOk_recL (r : List UInt8) (t : List UInt8) (h : r.length ≤ 2147483647) : recOk (recL r ++ t) = true := by
  have hl := recL_len r
  unfold recOk
  rw [recR_recL r t h, List.take_left' hl, List.length_append]
  simp; omega
theorem recsL_all (t : List UInt8) (ht : ∀ n, recsL n t = ([], 0)) : ∀ (rs : List (List UInt8)) (n : Nat), (∀ r ∈ rs, r.length ≤ 2147483647) → rs.length ≤ n → recsL n (allL rs ++ t) = (rs, (allL rs).length)
  | [], n, _, _ => by simpa [allL] using ht n
  | r :: rs, n, h, hn => by
    obtain ⟨m, rfl⟩ : ∃ m, n = m + 1 := ⟨n - 1, by simp at hn; omega⟩
    have hl := recL_len r
    have hr := h r (by simp)
    have ih := recsL_all t ht rs m (fun x hx => h x (by simp [hx])) (by simpa using hn)
    have ha : allL (r :: rs) = recL r ++ allL rs := by simp [allL]
    rw [ha, List.append_assoc, recsL, if_pos ⟨by intro e; have := congrArg List.length e; simp [hl] at this, recOk_recL r _ hr⟩, recR_recL r _ hr, List.drop_left' hl, ih, List.length_append, hl]
theorem recsL_nil : ∀ n, recsL n [] = ([], 0)
  | 0 => rfl
  | n + 1 => by rw [recsL, if_neg (by simp)]
theorem allL_count (rs : List (List UInt8)) : rs.length ≤ (allL rs).length := by
  induction rs with
  | nil => simp [allL]
  | cons r rs ih =>
    have ha : allL (r :: rs) = recL r ++ allL rs := by simp [allL]
    have hl := recL_len r
    rw [ha, List.length_append, List.length_cons]; omega
theorem recsA_all (rs : List (List UInt8)) (h : ∀ r ∈ rs, r.length ≤ 2147483647) : recsA (allL rs) = (rs, (allL rs).length) := by
  have := recsL_all [] recsL_nil rs ((allL rs).length + 1) h (by have := allL_count rs; omega)
  rw [List.append_nil] at this
  exact this
/-- A byte of what is closed, changed. -/
theorem openOk_byte (m : List UInt8) (j : Nat) (hj : j < m.length + 4) (c : UInt8) (hc : c ≠ 0) : openOk ((closeL m).set j ((closeL m).getD j 0 ^^^ c)) = false := by
  have hcl := closeL_length m
  have hc0 : c.toNat ≠ 0 := fun e => hc (UInt8.toNat_inj.1 (by simpa using e))
  have hc1 : c.toNat < 256 := c.toNat_lt
  have key : ∀ (k i : Nat), k ≤ m.length → i < 4 → j = k + i → xa (closeL m) k (c.toNat * 256 ^ i) 4 = (closeL m).set j ((closeL m).getD j 0 ^^^ c) := by
    intro k i hk hi hji
    apply List.ext_getElem
    · simp [xa_length]
    · intro q h1 h2
      rw [xa_length] at h1
      have h3 := xa_getD (closeL m) k (c.toNat * 256 ^ i) 4 (by omega) q h1
      have hgd : ∀ (l : List UInt8) (q : Nat) (hq : q < l.length), l.getD q 0 = l[q] := fun l q hq => by simp [List.getD, hq]
      rw [hgd _ _ (by rw [xa_length]; exact h1)] at h3
      rw [h3, List.getElem_set]
      by_cases hq : j = q
      · subst hq
        rw [if_pos (by omega), if_pos rfl, show j - k = i by omega, Nat.mul_div_cancel _ (Nat.pow_pos (by omega))]
        rw [UInt8.ofNat_toNat]
      · rw [if_neg hq]
        by_cases hin : k ≤ q ∧ q < k + 4
        · rw [if_pos hin]
          have hz : UInt8.ofNat (c.toNat * 256 ^ i / 256 ^ (q - k)) = 0 := by
            rcases Nat.lt_or_gt_of_ne (show q - k ≠ i by omega) with h | h
            · obtain ⟨e, he⟩ : ∃ e, i = (q - k) + 1 + e := ⟨i - (q - k) - 1, by omega⟩
              have : c.toNat * 256 ^ i / 256 ^ (q - k) = 256 * (c.toNat * 256 ^ e) := by
                rw [he, Nat.pow_add, Nat.pow_add, Nat.pow_one]
                rw [show c.toNat * (256 ^ (q - k) * 256 * 256 ^ e) = (256 * (c.toNat * 256 ^ e)) * 256 ^ (q - k) by simp only [Nat.mul_comm, Nat.mul_left_comm, Nat.mul_assoc]]
                exact Nat.mul_div_cancel _ (Nat.pow_pos (by omega))
              rw [this]
              apply UInt8.toNat_inj.1
              simp
            · have : c.toNat * 256 ^ i / 256 ^ (q - k) = 0 := by
                apply Nat.div_eq_of_lt
                obtain ⟨e, he⟩ : ∃ e, q - k = i + 1 + e := ⟨q - k - i - 1, by omega⟩
                rw [he, Nat.pow_add, Nat.pow_add, Nat.pow_one]
                calc c.toNat * 256 ^ i < 256 * 256 ^ i := Nat.mul_lt_mul_of_pos_right hc1 (Nat.pow_pos (by omega))
                  _ = 256 ^ i * 256 := Nat.mul_comm _ _
                  _ ≤ 256 ^ i * 256 * 256 ^ e := Nat.le_mul_of_pos_right _ (Nat.pow_pos (by omega))
              rw [this]; rfl
          rw [hz, UInt8.xor_zero, hgd _ _ h1]
        · rw [if_neg hin, hgd _ _ h1]
  have hb : ∀ i, i < 4 → c.toNat * 256 ^ i < 4294967296 ∧ c.toNat * 256 ^ i ≠ 0 := fun i hi => by
    rcases (show i = 0 ∨ i = 1 ∨ i = 2 ∨ i = 3 by omega) with rfl | rfl | rfl | rfl <;> simp <;> omega
  by_cases h : j ≤ m.length
  · rw [← key j 0 h (by omega) rfl]
    exact burst_open m j _ h (hb 0 (by omega)).1 (hb 0 (by omega)).2
  · rw [← key m.length (j - m.length) (Nat.le_refl _) (by omega) (by omega)]
    exact burst_open m m.length _ (Nat.le_refl _) (hb _ (by omega)).1 (hb _ (by omega)).2
/-- A record with a byte changed, behind its length, is none. -/
theorem recOk_changed (r t : List UInt8) (h : r.length ≤ 2147483647) (j : Nat) (h4 : 4 ≤ j) (hj : j < r.length + 8) (c : UInt8) (hc : c ≠ 0) :
    recOk ((recL r).set j ((recL r).getD j 0 ^^^ c) ++ t) = false := by
  have hl := recL_len r
  have hbl : (bytesL r).length = r.length + 4 := by simp [bytesL, putLowL_length]; omega
  have hno := openOk_byte (bytesL r) j (by omega) c hc
  have hsp : (recL r).set j ((recL r).getD j 0 ^^^ c) = (putLowL 4 r.length).reverse ++ ((recL r).set j ((recL r).getD j 0 ^^^ c)).drop 4 := by
    have h1 : ((recL r).set j ((recL r).getD j 0 ^^^ c)).take 4 = (putLowL 4 r.length).reverse := by
      rw [List.take_set_of_le h4]
      rw [recL_split]; unfold bytesL
      rw [List.append_assoc]
      exact List.take_left' (by simp [putLowL_length])
    rw [← h1, List.take_append_drop]
  change openOk ((recL r).set j ((recL r).getD j 0 ^^^ c)) = false at hno
  generalize hx : (recL r).set j ((recL r).getD j 0 ^^^ c) = x at *
  have hxl : x.length = r.length + 8 := by rw [← hx, List.length_set, hl]
  generalize hy : x.drop 4 = y at *
  have hyl : y.length = r.length + 4 := by rw [← hy, List.length_drop, hxl]; omega
  have hr2 : recR (x ++ t) = y.take r.length := by
    unfold recR
    have h5 : x ++ t = bytesL (y.take r.length) ++ (y.drop r.length ++ t) := by
      unfold bytesL
      rw [List.length_take, hyl, Nat.min_eq_left (by omega), hsp, List.append_assoc, List.append_assoc, ← List.append_assoc (y.take _), List.take_append_drop]
    rw [h5]
    exact (byt_put (t := y.take r.length) (l := y.drop r.length ++ t) (most := 2147483647) (by rw [List.length_take, hyl]; omega) (by rw [List.length_take, hyl]; omega)).1
  unfold recOk
  rw [hr2, Bool.and_eq_false_iff]
  refine .inr (decide_eq_false fun he => ?_)
  have hyt : (y.take r.length).length = r.length := by rw [List.length_take, hyl]; omega
  rw [hyt, List.take_left' hxl] at he
  have h6 : openOk (recL (y.take r.length)) = true := openOk_close _
  rw [he, hno] at h6
  cases h6
end Go.Proofs.Ytbmdcblcefebiaa
/- log: records. -/
namespace Go.Proofs.Ytbmdcblcefebiaa
open Go.RowKit
/-- A message, as a slice and as its bytes. -/
structure MsgD where
  v : Value
  l : List UInt8
def msgC (x : MsgD) : List Value := [x.v]
theorem Try.info_msg : (Try.prog.info? 37).map (fun i => (i.zero.map (fun z => z.cells.size), i.size, decide (i.bytes ≤ 1000))) = some (some 1, 1, true) := by kernel_rfl
theorem Try.msg_parts : ∃ i z, Try.prog.info? 37 = some i ∧ i.zero = some z ∧ z.cells.size = 1 ∧ i.size = 1 ∧ i.bytes ≤ 1000 := by
  have h := Try.info_msg
  cases hi : Try.prog.info? 37 with
  | none => rw [hi] at h; cases h
  | some i =>
    rw [hi] at h
    simp only [Option.map_some, Option.some.injEq, Prod.mk.injEq, decide_eq_true_eq] at h
    obtain ⟨h1, h2, h3⟩ := h
    cases hz : i.zero with
    | none => rw [hz] at h1; cases h1
    | some z => rw [hz] at h1; exact ⟨i, z, rfl, hz, by simpa using h1, h2, h3⟩
set_option maxRecDepth 100000 in
set_option maxHeartbeats 4000000 in
theorem lrecords_any (v : Value) (l : List UInt8) (w : World) (hv : Bsl w v l) (hl : l.length ≤ 1000000) :
    Calls Try.prog 42 #[v] w fun e w' => ∃ (u : Value) (ys : List MsgD), e = .returned (.tuple #[u, .int .i64 (recsA l).2]) ∧ RW w' w.heap.size 37 1 u (ys.map msgC) ∧ ys.map (·.l) = (recsA l).1 ∧ (∀ y ∈ ys, Bsl w' y.v y.l ∧ (y.l ≠ [] → ∀ k, y.v.ownBlock = some k → w.heap.size ≤ k)) ∧ Below w.heap.size w w' := by
  obtain ⟨vo, vc, rfl, hq1, hq2, hq3, hq4⟩ := id hv
  clear hq1 hq2 hq3
  obtain ⟨it, z, hti, htz, hzc, hsz, hby⟩ := Try.msg_parts
  go_enter Try.func42, Try.ntmps42
  go_wp2_with fail
  go_loopw [4, 5] (fun u j wr => ∃ (q n : Nat) (ys : List MsgD), q ≤ l.length ∧ j = .int .i64 q ∧ RW wr w.heap.size 37 1 u (ys.map msgC) ∧ (∀ y ∈ ys, Bsl wr y.v y.l ∧ (y.l ≠ [] → ∀ k, y.v.ownBlock = some k → u.ownBlock ≠ some k ∧ w.heap.size ≤ k)) ∧ Below w.heap.size w wr ∧
    recsA l = (ys.map (·.l) ++ (recsL n (l.drop q)).1, q + (recsL n (l.drop q)).2) ∧ l.length < q + n ∧ ys.length ≤ q) (fun _ j _ => l.length - (intOf j).toNat)
  case atStart => exact ⟨0, l.length + 1, [], Nat.zero_le _, rfl, RW.nil _ _ _ _, by simp, Below.refl _ _, by simp [recsA], by omega, by simp⟩
  case round =>
    obtain ⟨q, n, ys, hq, rfl, hrv, hyb, hB, hrec, hfu, hyq⟩ := hrel
    have hq0 : (0 : Int) ≤ q := Int.natCast_nonneg _
    by_cases hlt : q < l.length
    · have hlt2 : (q : Int) < l.length := by omega
      obtain ⟨n, rfl⟩ : ∃ m, n = m + 1 := ⟨n - 1, by omega⟩
      obtain ⟨b, off, rfl, _⟩ := hq4 (by rintro rfl; simp at hlt)
      have hvr := hv.keep hB
      have hlv := hvr.len
      have hvd := hvr.drop (m := q) (by omega)
      have hi2 : (q : Int) ≤ l.length := by omega
      have hi3 : (l.length : Int) ≤ vc := by omega
      have hi4 : ¬ vc - q = 0 := by omega
      have hdl : (l.drop q).length = l.length - q := List.length_drop
      have hdne : l.drop q ≠ [] := fun e => by rw [e] at hdl; simp at hdl; omega
      go_wp2_with fail
      refine (iof_any _ (l.drop q) wr hvd (by omega)).mono ?_
      rintro e w1 ⟨ip, ig, rfl, hI, hip, hig, hB1⟩
      go_wp2_with fail
      refine (ibytes_any 2147483647 w1 hI (by show (l.drop q).length ≤ _; omega)).mono ?_
      rintro e w2 ⟨v2, rfl, ho2, hI2, hon2⟩
      have hr2 : OB w2 w1.heap.size v2 (recR (l.drop q)) := ho2
      have hB2 : Below wr.heap.size wr w2 := hB1.trans (hon2.to_below hB1.size (fun k hk => by rw [hk]; exact hip))
      clear hI hI2 hon2 ho2
      have hrl := recR_len (l.drop q)
      have hstep : recsL (n + 1) (l.drop q) = if recOk (l.drop q) = true then (recR (l.drop q) :: (recsL n (l.drop (q + ((recR (l.drop q)).length + 8)))).1, (recR (l.drop q)).length + 8 + (recsL n (l.drop (q + ((recR (l.drop q)).length + 8)))).2) else ([], 0) := by
        rw [recsL, List.drop_drop]
        by_cases h : recOk (l.drop q) = true
        · rw [if_pos ⟨hdne, h⟩, if_pos h]
        · rw [if_neg (fun e => h e.2), if_neg h]
      have hokq : recOk (l.drop q) = (decide ((recR (l.drop q)).length + 8 ≤ (l.drop q).length) && decide (recL (recR (l.drop q)) = (l.drop q).take ((recR (l.drop q)).length + 8))) := rfl
      rw [hdl] at hokq hrl
      rw [hstep] at hrec
      generalize recR (l.drop q) = r at *
      generalize recOk (l.drop q) = okq at *
      have hr0 : (0 : Int) ≤ (r.length : Int) := Int.natCast_nonneg _
      obtain ⟨ro, rc, rfl, hy1, hy2, hy3, hy4⟩ := id hr2.bsl
      clear hy1 hy2 hy3 hy4
      have hS := lsize_any _ r w2 hr2.bsl (by omega)
      go_wp2_with fail
      refine hS.mono ?_
      rintro e w3 ⟨rfl, hB3⟩
      have hBx := (hB2.trans (hB3.mono hB2.size)).drew
      have hrb := hr2.bsl.keep (hB3.drew)
      have hrv3 := hrv.keep hBx
      have hBw := hB.trans (hBx.mono hB.size)
      have hyb3 : ∀ y ∈ ys, Bsl w3.drew y.v y.l ∧ (y.l ≠ [] → ∀ k, y.v.ownBlock = some k → u4.ownBlock ≠ some k ∧ w.heap.size ≤ k) := fun y hy => ⟨(hyb y hy).1.keep hBx, (hyb y hy).2⟩
      have hge : w.heap.size ≤ w2.heap.size := Nat.le_trans hB.size hB2.size
      have hs23 := hB3.size
      have hnr : r ≠ [] → ∀ k, (Value.slice ro r.length rc).ownBlock = some k → u4.ownBlock ≠ some k ∧ w.heap.size ≤ k := fun hne k hk => by
        have h1 := hr2.own_ge k hk
        have h2 := hB1.size
        exact ⟨fun e => by have := hrv.own_lt k e; omega, Nat.le_trans hB.size (Nat.le_trans h2 h1)⟩
      have HYB := Lib.hid hyb3
      have HNR := Lib.hid hnr
      clear hyb hyb3 hnr hB1 hB2 hrv hS hip hig hr2 hB
      by_cases hfit : r.length + 8 ≤ l.length - q
      · have hf2 : (r.length : Int) + 8 ≤ (l.length : Int) - q := by omega
        have hj1 : (q : Int) ≤ (q : Int) + ((r.length : Int) + 8) := by omega
        have hj2 : (q : Int) + ((r.length : Int) + 8) ≤ vc := by omega
        have hj3 : (0 : Int) ≤ (q : Int) + ((r.length : Int) + 8) := by omega
        have hby := lbytes_any _ r w3.drew hrb (by omega)
        have htk := hvd.take (m := r.length + 8) (by rw [hdl]; exact hfit)
        have hdec : decide (recL r = (l.drop q).take (r.length + 8)) = okq := by rw [hokq, decide_eq_true hfit, Bool.true_and]
        obtain ⟨E, hE, hE2⟩ : ∃ E : Nat, E = q + (r.length + 8) ∧ IntKind.i64.wrap ((q : Int) + ((r.length : Int) + 8)) = (E : Int) := ⟨q + (r.length + 8), rfl, by rw [IntKind.wrap_i64]; omega⟩
        have hEv : E ≤ vc := by omega
        have hqE : q ≤ E := by omega
        have hnq : ¬ vc = q := by omega
        have hgd : decide (IntKind.i64.wrap ((l.length : Int) - (q : Int)) < (r.length : Int) + 8) = false := decide_eq_false (by rw [IntKind.wrap_i64]; omega)
        have hEq8 : E - q = r.length + 8 := by omega
        have htk3 : Bsl w3.drew (.slice (some ⟨b, off + q, none⟩) (E - q) (vc - q)) ((l.drop q).take (r.length + 8)) := by rw [hEq8]; exact htk.keep hBx
        have hrl9 : r.length ≤ 1000000 := by omega
        have hEl : E ≤ l.length := by omega
        have HQ := Lib.hid (And.intro hrec (And.intro hfu (And.intro hyq (And.intro hl (And.intro hE hEl)))))
        have HB := Lib.hid hBw
        have HR := Lib.hid hrv3
        have HD := Lib.hid hdec
        have HTK := Lib.hid htk3
        have HRB := Lib.hid hrb
        clear hv hstep hrec hokq hfu hyq hrb hvr htk htk3 hlv hvd hdl hdne hq4 hl hB3 hBx hBw hs23 hge hrl hrv3 hdec hE hEq8 hEl hrl9 hfit
        go_upto_region 6 with (fail)
        refine wp_region_any (by kernel_rfl) ?_
        change wpAny _ _ _ _ _ _ _ (World.drew _)
        refine wpAny_take (i := 0) (v := ?v_a0) rfl (by kernel_rfl) (by kernel_rfl) (by kernel_rfl) (fun _ _ _ h => h) (Or.inl ⟨by kernel_rfl, ?y_a0⟩) ?r_a0
        case y_a0 => intro w; go_simp; try with_reducible rfl
        case' r_a0 => skip
        refine wpAny_take (i := 1) (v := ?v_a1) rfl (by kernel_rfl) (by kernel_rfl) (by kernel_rfl) (fun _ _ _ h => h) (Or.inl ⟨by kernel_rfl, ?y_a1⟩) ?r_a1
        case y_a1 => intro w; go_simp; try with_reducible rfl
        case' r_a1 => skip
        refine wpAny_take (i := 2) (v := ?v_a2) rfl (by kernel_rfl) (by kernel_rfl) (by kernel_rfl) (fun _ _ _ h => h) (Or.inl ⟨by kernel_rfl, ?y_a2⟩) ?r_a2
        case y_a2 => intro w; go_simp; try with_reducible rfl
        case' r_a2 => skip
        refine wpAny_take (i := 3) (v := ?v_a3) rfl (by kernel_rfl) (by kernel_rfl) (by kernel_rfl) (fun _ _ _ h => h) (Or.inl ⟨by kernel_rfl, ?y_a3⟩) ?r_a3
        case y_a3 => intro w; go_simp; try with_reducible rfl
        case' r_a3 => skip
        refine wpAny_take (i := 4) (v := ?v_a4) rfl (by kernel_rfl) (by kernel_rfl) (by kernel_rfl) (fun _ _ _ h => h) (Or.inl ⟨by kernel_rfl, ?y_a4⟩) ?r_a4
        case y_a4 => intro w; go_simp; try with_reducible rfl
        case' r_a4 => skip
        refine wpAny_take (i := 5) (v := ?v_a5) rfl (by kernel_rfl) (by kernel_rfl) (by kernel_rfl) (fun _ _ _ h => h) (Or.inl ⟨by kernel_rfl, ?y_a5⟩) ?r_a5
        case y_a5 => intro w; go_simp; try with_reducible rfl
        case' r_a5 => skip
        refine wpAny_take (i := 6) (v := ?v_a6) rfl (by kernel_rfl) (by kernel_rfl) (by kernel_rfl) (fun _ _ _ h => h) (Or.inl ⟨by kernel_rfl, ?y_a6⟩) ?r_a6
        case y_a6 => intro w; go_simp; try with_reducible rfl
        case' r_a6 => skip
        refine wpAny_take (i := 7) (v := ?v_a7) rfl (by kernel_rfl) (by kernel_rfl) (by kernel_rfl) (fun _ _ _ h => h) (Or.inl ⟨by kernel_rfl, ?y_a7⟩) ?r_a7
        case y_a7 => intro w; go_simp; try with_reducible rfl
        case' r_a7 => skip
        refine wpAny_take (i := 9) (v := ?v_a9) rfl (by kernel_rfl) (by kernel_rfl) (by kernel_rfl) (fun _ _ _ h => h) (Or.inl ⟨by kernel_rfl, ?y_a9⟩) ?r_a9
        case y_a9 => intro w; go_simp; try with_reducible rfl
        case' r_a9 => skip
        refine wpAny_take (i := 10) (v := ?v_a10) rfl (by kernel_rfl) (by kernel_rfl) (by kernel_rfl) (fun _ _ _ h => h) (Or.inl ⟨by kernel_rfl, ?y_a10⟩) ?r_a10
        case y_a10 => intro w; go_simp; try with_reducible rfl
        case' r_a10 => skip
        refine wpAny_take (i := 11) (v := ?v_a11) rfl (by kernel_rfl) (by kernel_rfl) (by kernel_rfl) (fun _ _ _ h => h) (Or.inl ⟨by kernel_rfl, ?y_a11⟩) ?r_a11
        case y_a11 => intro w; go_simp; try with_reducible rfl
        case' r_a11 => skip
        refine wpAny_take (i := 12) (v := ?v_a12) rfl (by kernel_rfl) (by kernel_rfl) (by kernel_rfl) (fun _ _ _ h => h) (Or.inl ⟨by kernel_rfl, ?y_a12⟩) ?r_a12
        case y_a12 => intro w; go_simp; try with_reducible rfl
        case' r_a12 => skip
        refine wpAny_take (i := 13) (v := ?v_a13) rfl (by kernel_rfl) (by kernel_rfl) (by kernel_rfl) (fun _ _ _ h => h) (Or.inl ⟨by kernel_rfl, ?y_a13⟩) ?r_a13
        case y_a13 => intro w; go_simp; try with_reducible rfl
        case' r_a13 => skip
        refine wpAny_take (i := 14) (v := ?v_a14) rfl (by kernel_rfl) (by kernel_rfl) (by kernel_rfl) (fun _ _ _ h => h) (Or.inl ⟨by kernel_rfl, ?y_a14⟩) ?r_a14
        case y_a14 => intro w; go_simp; try with_reducible rfl
        case' r_a14 => skip
        refine wpAny_ready (rs := [8]) (by kernel_rfl) (by simp) ?_
        refine AllReady.cons rfl (fun KA hKA => ?_) AllReady.nil
        rw [if_pos (by kernel_rfl)]
        go_simp; go_at_call 34; refine hby.mono ?_; rintro e w4 ⟨v4, rfl, ho4, hB4⟩
        try go_simp
        refine hKA _ _ ?_
        clear hKA KA
        have heq := sequal_any _ _ _ _ w4 ho4.bsl (HTK.out.keep hB4)
        rw [HD.out] at heq
        refine wpAny_ready (rs := [15]) (by kernel_rfl) (by simp) ?_
        refine AllReady.cons rfl (fun KB hKB => ?_) AllReady.nil
        rw [if_pos (by kernel_rfl)]
        go_simp; go_at_call 58; refine heq.mono ?_; rintro e w5 ⟨rfl, hB5⟩
        try go_simp
        refine hKB _ _ ?_
        clear hKB KB
        refine wpAny_take (i := 16) (v := ?v_a16) rfl (by kernel_rfl) (by kernel_rfl) (by kernel_rfl) (fun _ _ _ h => h) (Or.inl ⟨by kernel_rfl, ?y_a16⟩) ?r_a16
        case y_a16 => intro w; go_simp; try with_reducible rfl
        case' r_a16 => skip
        refine wpAny_take (i := 17) (v := ?v_a17) rfl (by kernel_rfl) (by kernel_rfl) (by kernel_rfl) (fun _ _ _ h => h) (Or.inl ⟨by kernel_rfl, ?y_a17⟩) ?r_a17
        case y_a17 => intro w; go_simp; try with_reducible rfl
        case' r_a17 => skip
        refine wpAny_done (by kernel_rfl) ?_ _
        have hB35 : Below w3.drew.heap.size w3.drew w5 := hB4.trans (hB5.mono hB4.size)
        have HB5 := Lib.hid (HB.out.trans (hB35.mono HB.out.size))
        have HR5 := Lib.hid (HR.out.keep hB35)
        have hyb5 : ∀ y ∈ ys, Bsl w5 y.v y.l ∧ (y.l ≠ [] → ∀ k, y.v.ownBlock = some k → u4.ownBlock ≠ some k ∧ w.heap.size ≤ k) := fun y hy => ⟨(HYB.out y hy).1.keep hB35, (HYB.out y hy).2⟩
        have HY5 := Lib.hid hyb5
        have HRB5 := Lib.hid (HRB.out.keep hB35)
        clear heq hby hB4 hB5 ho4 HD HTK HR HB HYB hyb5 hB35 HRB hgd hj1 hj2 hj3
        clear hE2 hEv hqE hnq
        cases okq with
        | false =>
          clear hf2
          go_wp2_with fail
          go_ret2
          obtain ⟨hrec, _⟩ := HQ.out
          rw [if_neg (by simp)] at hrec
          rw [hrec]
          exact ⟨u4, ys, by simp, HR5.out, by simp, fun y hy => ⟨(HY5.out y hy).1, fun hne k hk => ((HY5.out y hy).2 hne k hk).2⟩, HB5.out⟩
        | true =>
          clear hf2
          obtain ⟨uo, uc, hue, hz1, hz2, hz3⟩ := id HR5.out.val
          clear hz1 hz2 hz3
          have hA : Below w5.heap.size w5 (w5.alloc (.cells #[.slice ro r.length rc] 37)) := (Below.refl _ _).alloc (Nat.le_refl _) _
          have hrA := HR5.out.keep hA
          have hsrcA : RW (w5.alloc (.cells #[.slice ro r.length rc] 37)) 0 37 1 (.slice (some ⟨w5.heap.size, 0, none⟩) 1 1) [[.slice ro r.length rc]] := ⟨World.ownsRow_lit _ _ 1 (Nat.zero_le _) (by unfold maxLen; omega) rfl, by intro q hq; rw [List.mem_singleton.1 hq]; rfl⟩
          have hlm2 : (ys.map msgC).length + 1 ≤ 100000000 := by rw [List.length_map]; have := HQ.out.2.2.1; have := HQ.out.2.2.2.1; omega
          have hbs : w.heap.size ≤ (w5.alloc (.cells #[.slice ro r.length rc] 37)).heap.size := Nat.le_trans HB5.out.size hA.size
          have HHA := Lib.hid hA
          have HUE := Lib.hid hue
          clear hA hue
          go_wp2_with (at_builtin; refine wp_apprs rfl _ _ 22 rfl it z Try.underlying22 hti htz hsz hby hzc (by omega) hrA hsrcA rfl (by intro u hu; simp at hu; subst hu; rfl) hlm2 hbs (by rfl) (by rfl) ?_)
          intro v6 w6 hr6 hg6 hn6 hnil6
          obtain ⟨ao6, cap6, rfl, hz1, hz2, hz3⟩ := id hr6.val
          clear hz1 hz2 hz3 hnil6
          have hon6 : Only (fun k => u4.ownBlock = some k) w5 w6 := (Only.of_below (S := fun k => u4.ownBlock = some k) HHA.out).trans (Only.of_grown (S := fun k => u4.ownBlock = some k) hg6 (fun k hk => hk)) (fun _ _ h => h)
          have hyb6 : ∀ y ∈ ys ++ [⟨.slice ro r.length rc, r⟩], Bsl w6 y.v y.l ∧ (y.l ≠ [] → ∀ k, y.v.ownBlock = some k → (Value.slice ao6 (ys.map msgC ++ [[Value.slice ro r.length rc]]).length cap6).ownBlock ≠ some k ∧ w.heap.size ≤ k) := by
            intro y hy
            have hkey : Bsl w5 y.v y.l ∧ (y.l ≠ [] → ∀ k, y.v.ownBlock = some k → u4.ownBlock ≠ some k ∧ w.heap.size ≤ k) := by
              rcases List.mem_append.1 hy with hy | hy
              · exact HY5.out y hy
              · rw [List.mem_singleton.1 hy]
                exact ⟨HRB5.out, fun hne k hk => HNR.out hne k hk⟩
            refine ⟨hkey.1.only' hon6 (fun hne k hk => (hkey.2 hne k hk).1), fun hne k hk => ⟨?_, (hkey.2 hne k hk).2⟩⟩
            have hlk := hkey.1.own_lt hne k hk
            rcases hn6 with e | e
            · rw [e]; exact (hkey.2 hne k hk).1
            · rw [e]; intro e2
              have e3 : w5.heap.size + 1 = k := by simpa using e2
              omega
          have hB6 : Below w.heap.size w w6 := (HB5.out.trans (HHA.out.mono HB5.out.size)).trans (Below.of_grown hg6 hbs (fun k hk => hrA.own_ge k hk))
          have hEb : (q : Int) + ((r.length : Int) + 8) ≤ 1000000 := by have := HQ.out; omega
          have hB0 : (0 : Int) ≤ (q : Int) + ((r.length : Int) + 8) := by omega
          have HF := Lib.hid (And.intro hr6 (And.intro hyb6 hB6))
          clear hyb6 hB6 hr6 hg6 hn6 hon6 hrA hsrcA HY5 HRB5 HB5 HHA HUE HNR hlm2 hbs HR5
          go_wp2_with fail
          go_roundw
          case rel =>
            obtain ⟨hrec, hfu, hyq, hl, hE, hEl⟩ := HQ.out
            rw [if_pos (by simp)] at hrec
            refine ⟨E, n, ys ++ [⟨.slice ro r.length rc, r⟩], hEl, by rw [hE]; go_num, ?_, HF.out.2.1, HF.out.2.2, ?_, by omega, by rw [List.length_append]; show ys.length + 1 ≤ E; omega⟩
            · have h5 := HF.out.1
              rw [List.map_append]
              exact h5
            · rw [hrec, hE, List.map_append, List.append_assoc]
              simp [Nat.add_assoc]
          case measure =>
            obtain ⟨hrec, hfu, hyq, hl, hE, hEl⟩ := HQ.out
            simp [intOf]; omega
      · have hgd : decide (IntKind.i64.wrap ((l.length : Int) - (q : Int)) < (r.length : Int) + 8) = true := decide_eq_true (by rw [IntKind.wrap_i64]; omega)
        have hok0 : okq = false := by rw [hokq, decide_eq_false hfit, Bool.false_and]
        subst hok0
        have HQ := Lib.hid hrec
        have HB := Lib.hid hBw
        have HR := Lib.hid hrv3
        clear hv hstep hrec hokq hfu hyq hrb hvr hlv hvd hdl hdne hq4 hl hB3 hBx hBw hs23 hge hrl hrv3 hfit
        go_upto_region 6 with (fail)
        refine wp_region_any (by kernel_rfl) ?_
        change wpAny _ _ _ _ _ _ _ (World.drew _)
        refine wpAny_take (i := 0) (v := ?v_b0) rfl (by kernel_rfl) (by kernel_rfl) (by kernel_rfl) (fun _ _ _ h => h) (Or.inl ⟨by kernel_rfl, ?y_b0⟩) ?r_b0
        case y_b0 => intro w; go_simp; try with_reducible rfl
        case' r_b0 => skip
        refine wpAny_take (i := 1) (v := ?v_b1) rfl (by kernel_rfl) (by kernel_rfl) (by kernel_rfl) (fun _ _ _ h => h) (Or.inl ⟨by kernel_rfl, ?y_b1⟩) ?r_b1
        case y_b1 => intro w; go_simp; try with_reducible rfl
        case' r_b1 => skip
        refine wpAny_take (i := 2) (v := ?v_b2) rfl (by kernel_rfl) (by kernel_rfl) (by kernel_rfl) (fun _ _ _ h => h) (Or.inl ⟨by kernel_rfl, ?y_b2⟩) ?r_b2
        case y_b2 => intro w; go_simp; try with_reducible rfl
        case' r_b2 => skip
        refine wpAny_take (i := 3) (v := ?v_b3) rfl (by kernel_rfl) (by kernel_rfl) (by kernel_rfl) (fun _ _ _ h => h) (Or.inl ⟨by kernel_rfl, ?y_b3⟩) ?r_b3
        case y_b3 => intro w; go_simp; try with_reducible rfl
        case' r_b3 => skip
        refine wpAny_take (i := 4) (v := ?v_b4) rfl (by kernel_rfl) (by kernel_rfl) (by kernel_rfl) (fun _ _ _ h => h) (Or.inl ⟨by kernel_rfl, ?y_b4⟩) ?r_b4
        case y_b4 => intro w; go_simp; try with_reducible rfl
        case' r_b4 => skip
        refine wpAny_take (i := 5) (v := ?v_b5) rfl (by kernel_rfl) (by kernel_rfl) (by kernel_rfl) (fun _ _ _ h => h) (Or.inl ⟨by kernel_rfl, ?y_b5⟩) ?r_b5
        case y_b5 => intro w; go_simp; try with_reducible rfl
        case' r_b5 => skip
        refine wpAny_take (i := 6) (v := ?v_b6) rfl (by kernel_rfl) (by kernel_rfl) (by kernel_rfl) (fun _ _ _ h => h) (Or.inl ⟨by kernel_rfl, ?y_b6⟩) ?r_b6
        case y_b6 => intro w; go_simp; try with_reducible rfl
        case' r_b6 => skip
        refine wpAny_take (i := 7) (v := undef) rfl (by kernel_rfl) (by kernel_rfl) (by kernel_rfl) (fun _ _ _ h => h) (Or.inr ⟨by kernel_rfl, rfl⟩) ?_
        refine wpAny_take (i := 9) (v := undef) rfl (by kernel_rfl) (by kernel_rfl) (by kernel_rfl) (fun _ _ _ h => h) (Or.inr ⟨by kernel_rfl, rfl⟩) ?_
        refine wpAny_take (i := 10) (v := undef) rfl (by kernel_rfl) (by kernel_rfl) (by kernel_rfl) (fun _ _ _ h => h) (Or.inr ⟨by kernel_rfl, rfl⟩) ?_
        refine wpAny_take (i := 11) (v := undef) rfl (by kernel_rfl) (by kernel_rfl) (by kernel_rfl) (fun _ _ _ h => h) (Or.inr ⟨by kernel_rfl, rfl⟩) ?_
        refine wpAny_take (i := 12) (v := undef) rfl (by kernel_rfl) (by kernel_rfl) (by kernel_rfl) (fun _ _ _ h => h) (Or.inr ⟨by kernel_rfl, rfl⟩) ?_
        refine wpAny_take (i := 13) (v := undef) rfl (by kernel_rfl) (by kernel_rfl) (by kernel_rfl) (fun _ _ _ h => h) (Or.inr ⟨by kernel_rfl, rfl⟩) ?_
        refine wpAny_take (i := 14) (v := undef) rfl (by kernel_rfl) (by kernel_rfl) (by kernel_rfl) (fun _ _ _ h => h) (Or.inr ⟨by kernel_rfl, rfl⟩) ?_
        refine wpAny_ready (rs := [8]) (by kernel_rfl) (by simp) ?_
        refine AllReady.cons rfl (fun KA hKA => ?_) AllReady.nil
        rw [if_neg (Bool.eq_false_iff.1 (by kernel_rfl))]
        try go_simp
        refine hKA _ _ ?_
        clear hKA KA
        refine wpAny_ready (rs := [15]) (by kernel_rfl) (by simp) ?_
        refine AllReady.cons rfl (fun KB hKB => ?_) AllReady.nil
        rw [if_neg (Bool.eq_false_iff.1 (by kernel_rfl))]
        try go_simp
        refine hKB _ _ ?_
        clear hKB KB
        refine wpAny_take (i := 16) (v := undef) rfl (by kernel_rfl) (by kernel_rfl) (by kernel_rfl) (fun _ _ _ h => h) (Or.inr ⟨by kernel_rfl, rfl⟩) ?_
        refine wpAny_take (i := 17) (v := ?v_b17) rfl (by kernel_rfl) (by kernel_rfl) (by kernel_rfl) (fun _ _ _ h => h) (Or.inl ⟨by kernel_rfl, ?y_b17⟩) ?r_b17
        case y_b17 => intro w; go_simp; try with_reducible rfl
        case' r_b17 => skip
        refine wpAny_done (by kernel_rfl) ?_ _
        clear hgd
        go_wp2_with fail
        go_ret2
        have hrec := HQ.out
        rw [if_neg (by simp)] at hrec
        rw [hrec]
        exact ⟨u4, ys, by simp, HR.out, by simp, fun y hy => ⟨(HYB.out y hy).1, fun hne k hk => ((HYB.out y hy).2 hne k hk).2⟩, HB.out⟩
    · have hng : ¬ (q : Int) < l.length := by omega
      have hqe : q = l.length := by omega
      have hdn : l.drop q = [] := by rw [hqe]; exact List.drop_length
      rw [hdn, recsL_nil] at hrec
      have HQ := Lib.hid (And.intro hrec hqe)
      have HR := Lib.hid hrv
      have HB := Lib.hid hB
      have HYB := Lib.hid hyb
      clear hrec hqe hdn hrv hB hyb hv hfu hyq hlt hl hq4
      go_wp2_with fail
      go_ret2
      obtain ⟨hrec, hqe⟩ := HQ.out
      rw [hrec]
      exact ⟨u4, by simp, ys, HR.out, by simp, fun y hy => ⟨(HYB.out y hy).1, fun hne k hk => ((HYB.out y hy).2 hne k hk).2⟩, HB.out⟩
end Go.Proofs.Ytbmdcblcefebiaa
/- log.Log: load. -/
namespace Go.Proofs.Ytbmdcblcefebiaa
open Go.RowKit
attribute [local go_sem ↓] alS_eq ldS_eq stS_eq cpB_eq
attribute [local go_sem] run_alS run_guard_sec
theorem flat64 : ∀ (l : List (List UInt8)), (∀ s ∈ l, s.length = 64) → l.flatten.length = l.length * 64
  | [], _ => rfl
  | x :: l, h => by
    rw [List.flatten_cons, List.length_append, h x (by simp), flat64 l (fun s hs => h s (by simp [hs])), List.length_cons]; omega
theorem take_flat64 : ∀ (l : List (List UInt8)) (k : Nat), (∀ s ∈ l, s.length = 64) → k ≤ l.length → l.flatten.take (k * 64) = (l.take k).flatten
  | _, 0, _, _ => by simp
  | [], k + 1, _, hk => by simp at hk
  | x :: l, k + 1, h, hk => by
    have hx := h x (by simp)
    rw [List.flatten_cons, List.take_succ_cons, List.flatten_cons, List.take_append, hx, List.take_of_length_le (by omega), show (k + 1) * 64 - 64 = k * 64 by omega, take_flat64 l k (fun s hs => h s (by simp [hs])) (by simpa using hk)]
set_option maxRecDepth 100000 in
set_option maxHeartbeats 4000000 in
theorem lload_any (w : World) {lp p t a : Nat} {d : DK} {ds : Nat → Prop} (hD : DiskAt w p d ds) (hnd : ¬ ds lp) (hlp : lp < w.heap.size)
    (c0 : w.cell? ⟨lp, 0, none⟩ = some (.pointer (some ⟨p, 0, none⟩))) (c1 : w.cell? ⟨lp, 1, none⟩ = some (.int .i64 t)) (c2 : w.cell? ⟨lp, 2, none⟩ = some (.int .i64 a)) (c3 : w.cell? ⟨lp, 3, none⟩ = some (.slice none 0 0))
    (hf : ∀ j, j < 4 → w.frozen? ⟨lp, j, none⟩ = false) (hoff : d.off = false) (hsec : ∀ s ∈ d.now, s.length = 64) (hn : d.now.length ≤ 100) (ha : a ≤ 1) (count : Nat) (hc : count ≤ 10000) (hfit : 2 + a * areaN d.now.length + (count + 63) / 64 ≤ d.now.length) :
    Calls Try.prog 41 #[.pointer (some ⟨lp, 0, none⟩), .int .i64 count] w fun e w' => e = .returned (.int .i64 0) ∧ ∃ v, w'.cell? ⟨lp, 3, none⟩ = some v ∧ Bsl w' v ((d.now.drop (2 + a * areaN d.now.length)).flatten.take count) ∧
      (∀ k, v.ownBlock = some k → w.heap.size ≤ k) ∧ Only (· = lp) w w' ∧ (w'.cell? ⟨lp, 0, none⟩ = some (.pointer (some ⟨p, 0, none⟩)) ∧ w'.cell? ⟨lp, 1, none⟩ = some (.int .i64 t) ∧ w'.cell? ⟨lp, 2, none⟩ = some (.int .i64 a)) ∧ (∀ j, j < 4 → w'.frozen? ⟨lp, j, none⟩ = false) := by
  have har : areaN d.now.length ≤ 100 := by unfold areaN; split <;> omega
  have hac := fun w => larea_any d.now.length w (by omega)
  obtain ⟨A, hA, hA2, hAi⟩ : ∃ A : Nat, A = 2 + a * areaN d.now.length ∧ A ≤ 1000 ∧ IntKind.i64.wrap (2 + IntKind.i64.wrap ((a : Int) * (areaN d.now.length : Int))) = (A : Int) := by
    have h2 : a * areaN d.now.length ≤ 1 * 100 := Nat.mul_le_mul ha har
    refine ⟨2 + a * areaN d.now.length, rfl, by omega, ?_⟩
    have h3 : ((a * areaN d.now.length : Nat) : Int) = (a : Int) * (areaN d.now.length : Int) := Int.natCast_mul _ _
    rw [← h3]
    simp only [IntKind.wrap_i64]
    omega
  rw [← hA] at hfit ⊢
  have hS := fun w (h : DiskAt w p d ds) => dsize_any w h
  have hrd : ∀ k, k < (count + 63) / 64 → d.readE ((A + k : Nat) : Int) = 0 ∧ d.readV ((A + k : Nat) : Int) = (d.now.drop A).getD k [] := fun k hk => by
    have hm : d.may ((A + k : Nat) : Int) = 0 := by unfold DK.may; rw [hoff, if_neg (by simp), if_neg (by omega)]
    refine ⟨hm, ?_⟩
    unfold DK.readV
    rw [if_pos hm, Int.toNat_natCast]
    simp [List.getD]
  have hll : ∀ s ∈ d.now.drop A, s.length = 64 := fun s hs => hsec s (List.mem_of_mem_drop hs)
  have hkl : (count + 63) / 64 ≤ (d.now.drop A).length := by rw [List.length_drop]; omega
  generalize hN : d.now.drop A = N at *
  have HN := Lib.hid hN
  have HA := Lib.hid hA
  clear hN hA har hfit hn hsec hoff
  have c0d : w.drew.cell? ⟨lp, 0, none⟩ = some (.pointer (some ⟨p, 0, none⟩)) := c0
  have c2d : w.drew.cell? ⟨lp, 2, none⟩ = some (.int .i64 a) := c2
  have hDd := DiskAt.keep (w' := w.drew) hD ((Below.refl _ _).drew)
  have HF := Lib.hid hf
  clear hf
  go_enter Try.func41, Try.ntmps41
  go_upto_region 1 with (fail)
  go_region_held_law (fun w' => w'.cell? ⟨lp, 0, none⟩ = some (.pointer (some ⟨p, 0, none⟩)) ∧ w'.cell? ⟨lp, 2, none⟩ = some (.int .i64 a)) (first | exact ⟨c0d, c2d⟩ | go_keep) (first
    | (go_at_call 35; refine (hS _ hDd).mono ?_; rintro e wB ⟨rfl, rfl⟩)
    | (go_at_call 50; refine (hac _).mono ?_; rintro e wB ⟨rfl, rfl⟩))
  all_goals
    clear hS hac c2d c0d hDd hAi
    have hf3 := HF.out 3 (by omega)
    go_wp2_with fail
    go_loopw [5] (fun j wr => ∃ (k : Nat) (v : Value), j = .int .i64 ((A + k : Nat) : Int) ∧ k ≤ (count + 63) / 64 ∧ OB wr w.heap.size v (N.take k).flatten ∧ Only (· = lp) w wr ∧
      (wr.cell? ⟨lp, 0, none⟩ = some (.pointer (some ⟨p, 0, none⟩)) ∧ wr.cell? ⟨lp, 1, none⟩ = some (.int .i64 t) ∧ wr.cell? ⟨lp, 2, none⟩ = some (.int .i64 a) ∧ wr.cell? ⟨lp, 3, none⟩ = some v) ∧ (∀ j, j < 4 → wr.frozen? ⟨lp, j, none⟩ = false))
      (fun j _ => A + (count + 63) / 64 - (intOf j).toNat)
    case atStart => exact ⟨0, _, rfl, Nat.zero_le _, OB.nil _ _, (Only.refl _ _).drew, ⟨c0, c1, c2, c3⟩, HF.out⟩
    case round =>
      obtain ⟨k, v, rfl, hk, hv, hon, ⟨k0, k1, k2, k3⟩, hfr⟩ := hrel
      have hfl : (N.take k).flatten.length = k * 64 := by rw [flat64 _ (fun s hs => hll s (List.mem_of_mem_take hs)), List.length_take, Nat.min_eq_left (by omega)]
      obtain ⟨vo, vc, rfl, hz1, hz2, hz3, hz4⟩ := id hv.bsl
      clear hz3 hz4
      have hDr := hD.only hon (fun q hq e => hnd (e ▸ hq))
      by_cases hlt : k * 64 < count
      · have hlt2 : (((N.take k).flatten.length : Nat) : Int) < count := by omega
        have hkK : k < (count + 63) / 64 := by omega
        obtain ⟨hr1, hr2⟩ := hrd k hkK
        have hread := dread_any ((A + k : Nat) : Int) wr hDr
        rw [hr1, hr2] at hread
        have hkN : k < N.length := by omega
        have hgd : N.getD k [] = N[k] := by simp [List.getD, hkN]
        have hsl : (N.getD k []).length = 64 := by rw [hgd]; exact hll _ (List.getElem_mem hkN)
        have hnext : (N.take (k + 1)).flatten = (N.take k).flatten ++ N.getD k [] := by rw [List.take_succ_eq_append_getElem hkN, List.flatten_append, hgd]; simp
        generalize N.getD k [] = ss at *
        have HNX := Lib.hid hnext
        clear hnext hr1 hr2 hgd
        generalize (N.take k).flatten = fl at *
        have hi0 : (0 : Int) ≤ ((A + k : Nat) : Int) := Int.natCast_nonneg _
        have HFR := Lib.hid hfr
        have HFL := Lib.hid (And.intro hfl (And.intro hk (And.intro hkK hlt)))
        clear hfl hk hkK hlt hfr
        go_wp2_with fail
        refine hread.mono ?_
        rintro e w4 ⟨rfl, hB4⟩
        have hst := run_stS (w4.alloc (.cells (zC 1).toArray 39)) w4.heap.size 0 ss (there_alS w4) hsl
        obtain ⟨hv1, hv2, hv3⟩ := secV_var w4 ss hsl
        have hlpr : lp < wr.heap.size := Nat.lt_of_lt_of_le hlp hon.size
        have hB45 := hB4.trans (hv2.mono hB4.size)
        have hv5 := hv.keep hB45
        have e0 := (hB45.cell (p := ⟨lp, 0, none⟩) hlpr).trans k0
        have e1 := (hB45.cell (p := ⟨lp, 1, none⟩) hlpr).trans k1
        have e2 := (hB45.cell (p := ⟨lp, 2, none⟩) hlpr).trans k2
        have e3 := (hB45.cell (p := ⟨lp, 3, none⟩) hlpr).trans k3
        have hfr5 : ∀ j, j < 4 → ((w4.alloc (.cells (zC 1).toArray 39)).setCells w4.heap.size 0 (secC ss)).frozen? ⟨lp, j, none⟩ = false := fun j hj => (hB45.frozen (p := ⟨lp, j, none⟩) hlpr).trans (HFR.out j hj)
        have hon5 : Only (· = lp) w ((w4.alloc (.cells (zC 1).toArray 39)).setCells w4.heap.size 0 (secC ss)) := hon.trans (Only.of_below (S := (· = lp)) hB45) (fun _ _ h => h)
        have hsz5 := hB45.size
        clear hread hB4 hv2 hv3 hB45 hDr hv k0 k1 k2 k3
        go_upto_region 6 with (fail)
        clear hst
        generalize (w4.alloc (.cells (zC 1).toArray 39)).setCells w4.heap.size 0 (secC ss) = w5 at *
        generalize w4.heap.size = sb at *
        have hvd : OB w5.drew w.heap.size (.slice vo fl.length vc) fl := hv5.drew
        have hbsd : Bsl w5.drew (.slice (some ⟨sb, 0, none⟩) 64 64) ss := (Bsl.of_sec hv1 hsl).keep ((Below.refl _ _).drew)
        have d3 : w5.drew.cell? ⟨lp, 3, none⟩ = some (.slice vo fl.length vc) := e3
        have hlen : fl.length + ss.length ≤ 140737488355328 := by have := HFL.out; omega
        have hge : w.heap.size ≤ w5.drew.heap.size := hon5.size
        have hown := hvd.own_ge
        have hlp5 : lp < w5.drew.heap.size := Nat.lt_of_lt_of_le hlp hge
        have hfd : w5.drew.frozen? ⟨lp, 3, none⟩ = false := hfr5 3 (by omega)
        have hneq : (Value.slice vo fl.length vc).ownBlock ≠ some lp := fun e => by have := hown lp e; omega
        clear hv5 hv1 e3
        go_region_law (refine step_app rfl _ _ rfl w.heap.size _ _ _ _ (by rfl) (by rfl) hvd hbsd hlen hge ?_; intro v6 w6 ho6 hg6 hn6; obtain ⟨ao6, cap6, rfl, hsp⟩ := ho6.val; have hc6 := hg6.cell d3 hneq.symm; have hf6 : w6.frozen? ⟨lp, 3, none⟩ = false := (World.frozen?_of_block (hg6.block lp hlp5 hneq.symm)).trans hfd)
        all_goals
          have hl6 : (fl ++ ss).length = fl.length + 64 := by rw [List.length_append, hsl]
          rw [hl6] at ho6
          have g0 := hg6.cell e0 hneq.symm
          have g1 := hg6.cell e1 hneq.symm
          have g2 := hg6.cell e2 hneq.symm
          have gf : ∀ j, j < 4 → w6.frozen? ⟨lp, j, none⟩ = false := fun j hj => (World.frozen?_of_block (hg6.block lp hlp5 hneq.symm)).trans (hfr5 j hj)
          have hon7 : Only (· = lp) w6 (w6.setCell ⟨lp, 3, none⟩ (.slice ao6 (fl.length + 64) cap6)) := Only.setCell (S := (· = lp)) (Only.refl _ _) (p := ⟨lp, 3, none⟩) (fun _ => rfl) _
          have hbel : Below w.heap.size w5.drew w6 := Below.of_grown hg6 hge hown
          have hon56 : Only (· = lp) w (w6.setCell ⟨lp, 3, none⟩ (.slice ao6 (fl.length + 64) cap6)) :=
            ⟨hon7.os.trans (hbel.os.trans hon5.os), hon7.tape.trans (hbel.tape.trans hon5.tape), hon7.output.trans (hbel.output.trans hon5.output), Nat.le_trans hon5.size (Nat.le_trans hbel.size hon7.size), fun k hk hne => (hon7.block k (Nat.lt_of_lt_of_le hk (Nat.le_trans hon5.size hbel.size)) hne).trans ((hbel.block k hk).trans (hon5.block k hk hne))⟩
          have ho7 : OB (w6.setCell ⟨lp, 3, none⟩ (.slice ao6 (fl.length + 64) cap6)) w.heap.size (.slice ao6 (fl.length + 64) cap6) (fl ++ ss) := ho6.only hon7 (fun q hq e => by have := ho6.own_ge q hq; omega)
          have m0 : (w6.setCell ⟨lp, 3, none⟩ (.slice ao6 (fl.length + 64) cap6)).cell? ⟨lp, 0, none⟩ = some (.pointer (some ⟨p, 0, none⟩)) := (World.cell?_setCell_other _ _ _ _ (by simp)).trans g0
          have m1 : (w6.setCell ⟨lp, 3, none⟩ (.slice ao6 (fl.length + 64) cap6)).cell? ⟨lp, 1, none⟩ = some (.int .i64 t) := (World.cell?_setCell_other _ _ _ _ (by simp)).trans g1
          have m2 : (w6.setCell ⟨lp, 3, none⟩ (.slice ao6 (fl.length + 64) cap6)).cell? ⟨lp, 2, none⟩ = some (.int .i64 a) := (World.cell?_setCell_other _ _ _ _ (by simp)).trans g2
          have m3 : (w6.setCell ⟨lp, 3, none⟩ (.slice ao6 (fl.length + 64) cap6)).cell? ⟨lp, 3, none⟩ = some (.slice ao6 (fl.length + 64) cap6) := World.cell?_setCell_same _ _ _ hc6
          have mf : ∀ j, j < 4 → (w6.setCell ⟨lp, 3, none⟩ (.slice ao6 (fl.length + 64) cap6)).frozen? ⟨lp, j, none⟩ = false := fun j hj => by rw [World.frozen?_setCell]; exact gf j hj
          have HG := Lib.hid (And.intro ho7 (And.intro hon56 (And.intro (And.intro m0 (And.intro m1 (And.intro m2 m3))) mf)))
          clear ho7 hon56 m0 m1 m2 m3 mf g0 g1 g2 gf hon7 hbel ho6 hg6 hn6 hsp hc6 hf6 e0 e1 e2 hfr5 hvd hbsd d3 hlen hge hown hlp5 hfd hneq hl6
          have hK2 : (count + 63) / 64 ≤ 200 := by omega
          have hkb : (k : Int) ≤ 200 := by have := HFL.out.2.2.1; omega
          clear hK2
          go_wp2_with fail
          go_roundw
          case rel =>
            obtain ⟨hfl, hk, hkK, hlt⟩ := HFL.out
            refine ⟨k + 1, _, by rw [show ((A + (k + 1) : Nat) : Int) = (A : Int) + (k : Int) + 1 by omega], hkK, by rw [HNX.out]; exact HG.out.1, HG.out.2.1, HG.out.2.2.1, HG.out.2.2.2⟩
          case measure =>
            obtain ⟨hfl, hk, hkK, hlt⟩ := HFL.out
            simp [intOf]; omega
      · have hng : ¬ (((N.take k).flatten.length : Nat) : Int) < count := by omega
        have hkK : k = (count + 63) / 64 := by omega
        have hcv : (count : Int) ≤ vc := by omega
        have hc0 : (0 : Int) ≤ count := Int.natCast_nonneg _
        have hbl : Bsl wr (.slice vo count vc) (N.flatten.take count) := by
          have h1 := hv.bsl.take (m := count) (by omega)
          have h2 : (N.take k).flatten.take count = N.flatten.take count := by
            rw [← take_flat64 N k hll (by omega), List.take_take, Nat.min_eq_left (by omega)]
          rw [h2] at h1
          exact h1
        have hlpr : lp < wr.heap.size := Nat.lt_of_lt_of_le hlp hon.size
        have hon7 : Only (· = lp) wr (wr.setCell ⟨lp, 3, none⟩ (.slice vo count vc)) := Only.setCell (S := (· = lp)) (Only.refl _ _) (p := ⟨lp, 3, none⟩) (fun _ => rfl) _
        have hown : ∀ q, (Value.slice vo count vc).ownBlock = some q → w.heap.size ≤ q := fun q hq => hv.own_ge q (by cases vo with | none => cases hq | some a => exact hq)
        have m0 : (wr.setCell ⟨lp, 3, none⟩ (.slice vo count vc)).cell? ⟨lp, 0, none⟩ = some (.pointer (some ⟨p, 0, none⟩)) := (World.cell?_setCell_other _ _ _ _ (by simp)).trans k0
        have m1 : (wr.setCell ⟨lp, 3, none⟩ (.slice vo count vc)).cell? ⟨lp, 1, none⟩ = some (.int .i64 t) := (World.cell?_setCell_other _ _ _ _ (by simp)).trans k1
        have m2 : (wr.setCell ⟨lp, 3, none⟩ (.slice vo count vc)).cell? ⟨lp, 2, none⟩ = some (.int .i64 a) := (World.cell?_setCell_other _ _ _ _ (by simp)).trans k2
        have m3 : (wr.setCell ⟨lp, 3, none⟩ (.slice vo count vc)).cell? ⟨lp, 3, none⟩ = some (.slice vo count vc) := World.cell?_setCell_same _ _ _ k3
        have mf : ∀ j, j < 4 → (wr.setCell ⟨lp, 3, none⟩ (.slice vo count vc)).frozen? ⟨lp, j, none⟩ = false := fun j hj => by rw [World.frozen?_setCell]; exact hfr j hj
        have hbl7 := hbl.only' hon7 (fun _ q hq e => by have := hown q hq; omega)
        have HG := Lib.hid (And.intro hbl7 (And.intro (hon.trans hon7 (fun _ _ h => h)) (And.intro (And.intro m0 (And.intro m1 m2)) (And.intro mf (And.intro m3 hown)))))
        have kf3 := hfr 3 (by omega)
        clear hbl7 hbl hon7 hown m0 m1 m2 m3 mf hon hfl hk hlt hkK hkl hfr hDr hv
        generalize hfn : (N.take k).flatten.length = fn at *
        clear hfn
        go_wp2_with fail
        go_ret
        exact ⟨rfl, _, HG.out.2.2.2.2.1, HG.out.1, fun q hq => HG.out.2.2.2.2.2 q hq, HG.out.2.1, HG.out.2.2.1, HG.out.2.2.2.1⟩
end Go.Proofs.Ytbmdcblcefebiaa
/- log.Open. -/
namespace Go.Proofs.Ytbmdcblcefebiaa
open Go.RowKit
/-- The bytes of an area, up to a count. -/
def areaL (now : List (List UInt8)) (a c : Nat) : List UInt8 := (now.drop (2 + a * areaN now.length)).flatten.take c
theorem recsL_le : ∀ (n : Nat) (b : List UInt8), (recsL n b).2 ≤ b.length
  | 0, _ => Nat.zero_le _
  | n + 1, b => by
    rw [recsL]
    split
    · rename_i h
      have h1 := h.2
      unfold recOk at h1
      rw [Bool.and_eq_true, decide_eq_true_eq] at h1
      have := recsL_le n (b.drop ((recR b).length + 8))
      rw [List.length_drop] at this
      dsimp only
      omega
    · exact Nat.zero_le _
set_option maxRecDepth 100000 in
set_option maxHeartbeats 4000000 in
theorem lopen_any (w : World) {p : Nat} {d : DK} {ds : Nat → Prop} (h : DiskAt w p d ds) (hoff : d.off = false) {h0 h1 : HdD} (hn : 4 ≤ d.now.length) (hn2 : d.now.length ≤ 100) (hsec : ∀ s ∈ d.now, s.length = 64)
    (hh0 : HeadOk (d.now.getD 0 []) h0 0 (roomN d.now.length)) (hh1 : HeadOk (d.now.getD 1 []) h1 1 (roomN d.now.length)) {t a c : Nat} (hbest : bestTo h0 h1 2 = (t, a, c)) (ht : t ≠ 0) (ha : a ≤ 1) (hc : c ≤ roomN d.now.length) :
    Calls Try.prog 17 #[.pointer (some ⟨p, 0, none⟩)] w fun e w' => ∃ (lp : Nat) (u : Value) (ys : List MsgD), e = .returned (.tuple #[.pointer (some ⟨lp, 0, none⟩), u, .int .i64 0]) ∧ (RW w' w.heap.size 37 1 u (ys.map msgC) ∧ ys.map (·.l) = (recsA (areaL d.now a c)).1 ∧ (∀ y ∈ ys, Bsl w' y.v y.l)) ∧ Below w.heap.size w w' ∧
      ∃ bs, LogAt w' lp p d ⟨t, a, (areaL d.now a c).take (recsA (areaL d.now a c)).2⟩ bs ∧ ∀ k, bs k → ds k ∨ w.heap.size ≤ k := by
  have hmy := lmay_ok w h hn
  have hla := llatest_any w h hoff hn hn2 hh0 hh1
  rw [hbest] at hla
  unfold plV at hla
  dsimp only at hla
  have hrm : roomN d.now.length ≤ 6400 ∧ 2 + a * areaN d.now.length + (c + 63) / 64 ≤ d.now.length := by
    unfold roomN areaN at *
    rw [if_neg (by omega)] at *
    have h3 : a * ((d.now.length - 2) / 2) ≤ 1 * ((d.now.length - 2) / 2) := Nat.mul_le_mul ha (Nat.le_refl _)
    omega
  have ht1 : ¬ (t : Int) = 0 := by omega
  have HT := Lib.hid ht
  clear hh0 hh1 hbest ht
  go_enter Try.func17, Try.ntmps17
  go_wp2_with fail
  refine hmy.mono ?_
  rintro e w1 ⟨rfl, rfl⟩
  go_wp2_with fail
  refine hla.mono ?_
  rintro e w2 ⟨rfl, hB2⟩
  go_upto_region 9 with (fail)
  have hB3 : Below w2.heap.size w2 (w2.alloc (.cells #[.int .i64 t, .int .i64 a, .int .i64 c] 70)) := (Below.refl _ _).alloc (Nat.le_refl _) _
  have hz3 : (w2.alloc (.cells #[.int .i64 t, .int .i64 a, .int .i64 c] 70)).heap.size = w2.heap.size + 1 := by simp
  have q0 : (w2.alloc (.cells #[.int .i64 t, .int .i64 a, .int .i64 c] 70)).cell? ⟨w2.heap.size, 0, none⟩ = some (.int .i64 t) := World.cell?_alloc_new w2 _ _ 0
  have q1 : (w2.alloc (.cells #[.int .i64 t, .int .i64 a, .int .i64 c] 70)).cell? ⟨w2.heap.size, 1, none⟩ = some (.int .i64 a) := World.cell?_alloc_new w2 _ _ 1
  have q2 : (w2.alloc (.cells #[.int .i64 t, .int .i64 a, .int .i64 c] 70)).cell? ⟨w2.heap.size, 2, none⟩ = some (.int .i64 c) := World.cell?_alloc_new w2 _ _ 2
  have hD3 := (h.keep hB2).keep hB3
  have hB03 := hB2.trans (hB3.mono hB2.size)
  clear hB3
  generalize w2.alloc (.cells #[.int .i64 t, .int .i64 a, .int .i64 c] 70) = w3 at *
  have hlp3 : w2.heap.size < w3.heap.size := by omega
  have hw2 := hB2.size
  generalize w2.heap.size = pb at *
  have hB4 : Below w3.heap.size w3 (w3.alloc (.cells #[.pointer (some ⟨p, 0, none⟩), .int .i64 t, .int .i64 a, .slice none 0 0] 74)) := (Below.refl _ _).alloc (Nat.le_refl _) _
  have c0 : (w3.alloc (.cells #[.pointer (some ⟨p, 0, none⟩), .int .i64 t, .int .i64 a, .slice none 0 0] 74)).cell? ⟨w3.heap.size, 0, none⟩ = some (.pointer (some ⟨p, 0, none⟩)) := World.cell?_alloc_new w3 _ _ 0
  have c1 : (w3.alloc (.cells #[.pointer (some ⟨p, 0, none⟩), .int .i64 t, .int .i64 a, .slice none 0 0] 74)).cell? ⟨w3.heap.size, 1, none⟩ = some (.int .i64 t) := World.cell?_alloc_new w3 _ _ 1
  have c2 : (w3.alloc (.cells #[.pointer (some ⟨p, 0, none⟩), .int .i64 t, .int .i64 a, .slice none 0 0] 74)).cell? ⟨w3.heap.size, 2, none⟩ = some (.int .i64 a) := World.cell?_alloc_new w3 _ _ 2
  have c3 : (w3.alloc (.cells #[.pointer (some ⟨p, 0, none⟩), .int .i64 t, .int .i64 a, .slice none 0 0] 74)).cell? ⟨w3.heap.size, 3, none⟩ = some (.slice none 0 0) := World.cell?_alloc_new w3 _ _ 3
  have cf : ∀ j, j < 4 → (w3.alloc (.cells #[.pointer (some ⟨p, 0, none⟩), .int .i64 t, .int .i64 a, .slice none 0 0] 74)).frozen? ⟨w3.heap.size, j, none⟩ = false := fun j hj => by simp
  have hz4 : w3.heap.size < (w3.alloc (.cells #[.pointer (some ⟨p, 0, none⟩), .int .i64 t, .int .i64 a, .slice none 0 0] 74)).heap.size := by simp
  have r2 := (hB4.cell (p := ⟨pb, 2, none⟩) hlp3).trans q2
  have hD4 := hD3.keep hB4
  have hnd : ¬ ds w3.heap.size := fun e => by have := hD3.lt _ e; omega
  have hLo := lload_any _ hD4 hnd hz4 c0 c1 c2 c3 cf hoff hsec hn2 ha c (by omega) hrm.2
  have hB04 := hB03.trans (hB4.mono hB03.size)
  have hw3 := hB03.size
  have HDS := Lib.hid (fun k (hk : ds k) => hD3.lt k hk)
  have HB04 := Lib.hid (And.intro hB04 (And.intro hD4 (And.intro hnd hw3)))
  have hBl : (areaL d.now a c).length ≤ 1000000 := by unfold areaL; rw [List.length_take]; omega
  clear hB04 hB4 hB03 hB2 hD3 hD4 hnd hz3 c0 c1 c2 c3 cf hw3 hw2 hla hmy h hrm
  go_wp2_with fail
  refine hLo.mono ?_
  rintro e w5 ⟨rfl, v5, k3, hb5, hown5, hon5, ⟨k0, k1, k2⟩, kf⟩
  rw [show (d.now.drop (2 + a * areaN d.now.length)).flatten.take c = areaL d.now a c from rfl] at hb5
  have hle : (recsA (areaL d.now a c)).2 ≤ (areaL d.now a c).length := recsL_le _ _
  obtain ⟨hB04, hD4, hnd, hw3⟩ := HB04.out
  have hr := lrecords_any v5 (areaL d.now a c) w5 hb5 hBl
  generalize hBe : areaL d.now a c = B at *
  have HBE := Lib.hid hBe
  clear hBe
  have hlp5 : w3.heap.size < w5.heap.size := Nat.lt_of_lt_of_le hz4 hon5.size
  have hD5 := hD4.only hon5 (fun k hk e => hnd (e ▸ hk))
  have hB05 : Below w.heap.size w w5 := hB04.trans (hon5.to_below hB04.size (fun k e => by rw [e]; exact hw3))
  obtain ⟨vo, vc, rfl, hz1, hz2, hz3, hz5⟩ := id hb5
  clear hz3 hz5
  generalize hrb : recsA B = rb at *
  obtain ⟨rl, rn⟩ := rb
  have HRE := Lib.hid hrb
  dsimp only at hr hle ⊢
  have HB5 := Lib.hid (And.intro hb5 (And.intro hD5 (And.intro hB05 (And.intro hnd (And.intro hw3 (And.intro kf hown5))))))
  clear hb5 hD5 hB05 hnd hw3 kf hown5 hB04 hD4 HB04 hon5 hLo hz4 hrb
  go_wp2_with fail
  refine hr.mono ?_
  rintro e w6 ⟨u, ys, rfl, hru, hys, hyb, hB6⟩
  have m0 := (hB6.cell (p := ⟨w3.heap.size, 0, none⟩) hlp5).trans k0
  have m1 := (hB6.cell (p := ⟨w3.heap.size, 1, none⟩) hlp5).trans k1
  have m2 := (hB6.cell (p := ⟨w3.heap.size, 2, none⟩) hlp5).trans k2
  have m3 := (hB6.cell (p := ⟨w3.heap.size, 3, none⟩) hlp5).trans k3
  have hlp6 : w3.heap.size < w6.heap.size := Nat.lt_of_lt_of_le hlp5 hB6.size
  have m4 : w6.frozen? ⟨w3.heap.size, 3, none⟩ = false := (hB6.frozen (p := ⟨w3.heap.size, 3, none⟩) hlp5).trans (HB5.out.2.2.2.2.2.1 3 (by omega))
  have hn0 : (0 : Int) ≤ (rn : Int) := Int.natCast_nonneg _
  have hn1 : (rn : Int) ≤ vc := by omega
  have hlog : ∃ bs, LogAt (w6.setCell ⟨w3.heap.size, 3, none⟩ (.slice vo rn vc)) w3.heap.size p d ⟨t, a, B.take rn⟩ bs ∧ ∀ k, bs k → ds k ∨ w.heap.size ≤ k := by
    obtain ⟨hb5, hD5, hB05, hnd, hw3, kf, hown5⟩ := HB5.out
    have hon : Only (· = w3.heap.size) w6 (w6.setCell ⟨w3.heap.size, 3, none⟩ (.slice vo rn vc)) := Only.setCell (S := (· = w3.heap.size)) (Only.refl _ _) (p := ⟨w3.heap.size, 3, none⟩) (fun _ => rfl) _
    have hown : ∀ k, (Value.slice vo rn vc).ownBlock = some k → w3.heap.size < k := fun k hk => Nat.lt_of_lt_of_le (by simp) (hown5 k (by cases vo with | none => cases hk | some a => exact hk))
    have hbt : Bsl w6 (.slice vo rn vc) (B.take rn) := (hb5.take hle).keep hB6
    refine ⟨fun k => k = w3.heap.size ∨ ds k ∨ (B.take rn ≠ [] ∧ (Value.slice vo rn vc).ownBlock = some k), ⟨.slice vo rn vc, ds, ⟨?_, ?_, ?_, ?_⟩, fun j hj => ?_, hbt.only' hon (fun _ k hk e => by have := hown k hk; omega), (hD5.keep hB6).only hon (fun k hk e => hnd (e ▸ hk)), ⟨hnd, fun _ k hk => ⟨fun e => by have := hown k hk; omega, fun e => by have := hown k hk; have := HDS.out k e; omega⟩⟩, fun k => Iff.rfl⟩, fun k hk => ?_⟩
    · exact (World.cell?_setCell_other _ _ _ _ (by simp)).trans m0
    · exact (World.cell?_setCell_other _ _ _ _ (by simp)).trans m1
    · exact (World.cell?_setCell_other _ _ _ _ (by simp)).trans m2
    · exact World.cell?_setCell_same _ _ _ m3
    · rw [World.frozen?_setCell]
      exact (hB6.frozen (p := ⟨w3.heap.size, j, none⟩) hlp5).trans (kf j hj)
    · rcases hk with rfl | hk | ⟨_, hk⟩
      · exact .inr hw3
      · exact .inl hk
      · exact .inr (Nat.le_of_lt (Nat.lt_of_le_of_lt hw3 (hown k hk)))
  have hon6 : Only (· = w3.heap.size) w6 (w6.setCell ⟨w3.heap.size, 3, none⟩ (.slice vo rn vc)) := Only.setCell (S := (· = w3.heap.size)) (Only.refl _ _) (p := ⟨w3.heap.size, 3, none⟩) (fun _ => rfl) _
  have hrest : (RW (w6.setCell ⟨w3.heap.size, 3, none⟩ (.slice vo rn vc)) w.heap.size 37 1 u (ys.map msgC) ∧ ys.map (·.l) = rl ∧ (∀ y ∈ ys, Bsl (w6.setCell ⟨w3.heap.size, 3, none⟩ (.slice vo rn vc)) y.v y.l)) ∧ Below w.heap.size w (w6.setCell ⟨w3.heap.size, 3, none⟩ (.slice vo rn vc)) := by
    obtain ⟨hb5, hD5, hB05, hnd, hw3, kf, hown5⟩ := HB5.out
    refine ⟨⟨(hru.mono hB05.size).only hon6 (fun k hk e => by have := hru.own_ge k hk; omega), hys, fun y hy => (hyb y hy).1.only' hon6 (fun hne k hk e => by have := (hyb y hy).2 hne k hk; omega)⟩, (hB05.trans (hB6.mono hB05.size)).trans (hon6.to_below (Nat.le_trans hB05.size hB6.size) (fun k e => by rw [e]; exact hw3))⟩
  obtain ⟨uo, uc, hue, hz6, hz7, hz8⟩ := id hru.val
  rw [List.length_map] at hue
  subst hue
  clear hz6 hz7 hz8 hon6
  have HG := Lib.hid (And.intro hlog hrest)
  clear hlog hrest hru hys hyb HB5 hB6 hr hle hlp5 hlp6 hlp3
  go_wp2_with fail
  go_ret3
  obtain rfl := HBE.out
  rw [HRE.out]
  exact ⟨_, _, ys, rfl, HG.out.2.1, HG.out.2.2, HG.out.1⟩
end Go.Proofs.Ytbmdcblcefebiaa
