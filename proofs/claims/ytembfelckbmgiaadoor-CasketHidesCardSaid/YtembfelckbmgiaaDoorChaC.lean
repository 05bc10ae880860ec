/- chacha: the walks of the beginning and the block. -/
import Derived.Test.YtembfelckbmgiaaDoorChaB
import Derived.Laws.Cover3
namespace Go.Proofs.YtembfelckbmgiaaDoor
open Go.RowKit Big
set_option linter.unusedVariables false
theorem bigS : BigT 113 (nvs .u32 (zN 16)) := BigT.of (by kernel_rfl) ⟨_, Tryd.underlying113, rfl⟩
theorem alT_S : Instr.alloc 113 true (.tuple #[]) = alT 113 := rfl
theorem ldT_S (v : Value) : Instr.loadAt 113 v = ldT 113 v := rfl
theorem stT_S (v u : Value) : Instr.storeAt 113 v u = stT 113 v u := rfl
/-- Four bytes from number 4 k on. -/
def four (l : List UInt8) (k : Nat) : List UInt8 := (l.drop (4 * k)).take 4
theorem four_len (l : List UInt8) (k : Nat) (h : 4 * k + 4 ≤ l.length) : (four l k).length = 4 := by unfold four; rw [List.length_take, List.length_drop]; omega
def c4 : List Nat := [1634760805, 857760878, 2036477234, 1797285236] ++ zN 12
def beg1 (key : List UInt8) : Nat → List Nat
  | 0 => c4
  | k + 1 => (beg1 key k).set (4 + k) (leW (four key k))
def beg2 (key nonce : List UInt8) (counter : Nat) : Nat → List Nat
  | 0 => (beg1 key 8).set 12 counter
  | k + 1 => (beg2 key nonce counter k).set (13 + k) (leW (four nonce k))
def beginN (key nonce : List UInt8) (counter : Nat) : List Nat := beg2 key nonce counter 3
theorem leW4_lt (l : List UInt8) (k : Nat) : leW (four l k) < 4294967296 := by
  have h := leW_lt (four l k)
  have h2 : (four l k).length ≤ 4 := by unfold four; simp; omega
  exact Nat.lt_of_lt_of_le h (Nat.pow_le_pow_right (n := 256) (by omega) h2)
theorem beg1_ws (key : List UInt8) (k : Nat) : Ws (beg1 key k) := by
  induction k with
  | zero => exact ⟨rfl, getD_lt (show ∀ x ∈ c4, x < 4294967296 by decide)⟩
  | succ k ih => exact ⟨by rw [beg1, List.length_set, ih.1], set_getD_lt ih.2 _ _ (leW4_lt _ _)⟩
theorem beg2_ws (key nonce : List UInt8) (counter : Nat) (hc : counter < 4294967296) (k : Nat) : Ws (beg2 key nonce counter k) := by
  induction k with
  | zero => exact ⟨by rw [beg2, List.length_set, (beg1_ws key 8).1], set_getD_lt (beg1_ws key 8).2 _ _ hc⟩
  | succ k ih => exact ⟨by rw [beg2, List.length_set, ih.1], set_getD_lt ih.2 _ _ (leW4_lt _ _)⟩
theorem box_bytes (w : World) (l : List UInt8) (t : TypeId) : AN .u8 (w.alloc (.cells (l.map bv).toArray t)) w.heap.size (l.map UInt8.toNat) := by
  have := AN.new .u8 w (l.map UInt8.toNat) t
  rwa [nvs_bytes] at this
theorem AN_four {w : World} {b : Nat} {l : List UInt8} (h : AN .u8 w b (l.map UInt8.toNat)) {n : Nat} (hn : n = l.length) (hm : n ≤ 1000) {k : Nat} (hk : 4 * k + 4 ≤ n) : Bsl w (.slice (some ⟨b, 4 * k, none⟩) 4 (n - 4 * k)) (four l k) := by
  have h1 := Bsl_sub (h.bsl hn (Nat.le_refl _) (by omega)) (i := 4 * k) (m := 4) (by omega)
  rwa [Nat.zero_add] at h1
def slA (t : TypeId) (x : Value) (lo hi mx : Option Value) : Sem Value := Instr.sliceAt t x lo hi mx
theorem slA_32 (x : Value) (lo hi mx : Option Value) : Instr.sliceAt 25 x lo hi mx = slA 25 x lo hi mx := rfl
theorem slA_12 (x : Value) (lo hi mx : Option Value) : Instr.sliceAt 84 x lo hi mx = slA 84 x lo hi mx := rfl
theorem run_slA {t : TypeId} {n : Nat} (hu : Tryd.prog.underlying t = some (.array n 5)) (w : World) (b l h : Nat) (li hi : Int) (hl : li = (l : Int)) (hh : hi = (h : Int)) (h1 : l < h) (h2 : h ≤ n) :
    (slA t (.pointer (some ⟨b, 0, none⟩)) (some (.int .i64 li)) (some (.int .i64 hi)) none).run Tryd.prog w = .ok (.slice (some ⟨b, l, none⟩) (h - l) (n - l)) w := by
  subst hl hh
  have he : Tryd.prog.elem t = 5 := by unfold Program.elem; rw [hu]
  have hn : Tryd.prog.arrayLen t = n := by unfold Program.arrayLen; rw [hu]
  have hs : (Go.sizeOf 5).run Tryd.prog w = .ok 1 w := by
    obtain ⟨i0, hi0, hz0, hz1, hz2⟩ := info_parts Tryd.info_u8
    simp [Go.sizeOf, typeInfo, hi0, hz1]
  have := run_sliceAt_array_lh (P := Tryd.prog) w t ⟨b, 0, none⟩ (by rw [hn, he]; exact hu) .i64 .i64 l h (by omega) (by omega) (by rw [hn]; omega)
  rw [hn, he, hs] at this
  unfold slA
  rw [this]
  simp only [Result.andThen_ok, slicedAt, Int.toNat_natCast, Nat.mul_one]
  rw [if_neg (by omega), Addr.add_lit, Nat.zero_add]
/-- The memory while the state is begun. -/
def BegAt (key nonce : List UInt8) (w0 w : World) (S : List Nat) : Prop :=
  AN .u8 w w0.heap.size (key.map UInt8.toNat) ∧ AN .u8 w (w0.heap.size + 1) (nonce.map UInt8.toNat) ∧ AN .u32 w (w0.heap.size + 2) (zN 16) ∧ AN .u32 w (w0.heap.size + 2 + 1) S ∧ Below w0.heap.size w0 w
theorem BegAt.set {key nonce : List UInt8} {w0 w : World} {S : List Nat} (h : BegAt key nonce w0 w S) {j : Nat} (hj : j < S.length) (x : Nat) :
    BegAt key nonce w0 (w.setCell ⟨w0.heap.size + 2 + 1, j, none⟩ (.int .u32 (x : Int))) (S.set j x) := by
  obtain ⟨h1, h2, h3, h4, h5⟩ := h
  exact ⟨h1.set_other (p := ⟨w0.heap.size + 2 + 1, j, none⟩) (by show w0.heap.size + 2 + 1 ≠ _; omega) _, h2.set_other (p := ⟨w0.heap.size + 2 + 1, j, none⟩) (by show w0.heap.size + 2 + 1 ≠ _; omega) _,
    h3.set_other (p := ⟨w0.heap.size + 2 + 1, j, none⟩) (by show w0.heap.size + 2 + 1 ≠ _; omega) _, h4.set hj x, h5.setCell (p := ⟨w0.heap.size + 2 + 1, j, none⟩) (by show w0.heap.size ≤ w0.heap.size + 2 + 1; omega) _⟩
theorem c4_arr : (nvs .u32 c4).toArray = #[.int .u32 1634760805, .int .u32 857760878, .int .u32 2036477234, .int .u32 1797285236, .int .u32 0, .int .u32 0, .int .u32 0, .int .u32 0, .int .u32 0, .int .u32 0, .int .u32 0, .int .u32 0, .int .u32 0, .int .u32 0, .int .u32 0, .int .u32 0] := rfl
attribute [local go_sem ↓] alT_S ldT_S stT_S slA_32 slA_12
set_option maxRecDepth 100000 in
set_option maxHeartbeats 1000000 in
theorem begin_any (key nonce : List UInt8) (counter : Nat) (w : World) (hk : key.length = 32) (hn : nonce.length = 12) (hc : counter < 4294967296) :
    Calls Tryd.prog 57 #[.agg (key.map bv).toArray, .int .u32 counter, .agg (nonce.map bv).toArray] w fun e w' => e = .returned (.agg (nvs .u32 (beginN key nonce counter)).toArray) ∧ Below w.heap.size w w' := by
  obtain ⟨B, hB⟩ : ∃ B, B = beginN key nonce counter := ⟨_, rfl⟩
  rw [← hB]
  have HBE := Lib.hid hB; clear hB
  have hA0 := box_bytes w key 25
  have hB0 : Below w.heap.size w (w.alloc (.cells (key.map bv).toArray 25)) := (Below.refl _ _).alloc (Nat.le_refl _) _
  have hs0 : (w.alloc (.cells (key.map bv).toArray 25)).heap.size = w.heap.size + 1 := by simp
  have hA1 := box_bytes (w.alloc (.cells (key.map bv).toArray 25)) nonce 84
  have hB1 : Below (w.alloc (.cells (key.map bv).toArray 25)).heap.size (w.alloc (.cells (key.map bv).toArray 25)) ((w.alloc (.cells (key.map bv).toArray 25)).alloc (.cells (nonce.map bv).toArray 84)) := (Below.refl _ _).alloc (Nat.le_refl _) _
  have hs1 : ((w.alloc (.cells (key.map bv).toArray 25)).alloc (.cells (nonce.map bv).toArray 84)).heap.size = w.heap.size + 2 := by simp
  have hA0 := hA0.keep hB1
  have hB1 := hB0.trans (hB1.mono (by simp))
  rw [hs0] at hA1
  obtain ⟨w2, hal2, hA2, hB2, hs2⟩ := bigS.made0 ((w.alloc (.cells (key.map bv).toArray 25)).alloc (.cells (nonce.map bv).toArray 84))
  have hA0 := hA0.keep hB2
  have hA1 := hA1.keep hB2
  have hB2 := hB1.trans (hB2.mono (by omega))
  rw [hs1] at hal2 hA2 hs2
  clear hB1 hB0 hs0 hs1
  obtain ⟨wa, w3, hal3, hst3, hA3, hB3, hs3⟩ := bigS.made w2 c4 rfl
  have hA0 := hA0.keep hB3
  have hA1 := hA1.keep hB3
  have hA2 := hA2.keep hB3
  have hB3 := hB2.trans (hB3.mono (by omega))
  rw [hs2] at hal3 hst3 hA3 hs3
  clear hB2 hs2
  rw [c4_arr] at hst3
  have HK := Lib.hid (And.intro hk hn)
  clear hk hn hs3
  go_enter Tryd.func57, Tryd.ntmps57
  go_wp2_with fail
  clear hal2 hal3 hst3
  have hBA : BegAt key nonce w w3 c4 := ⟨hA0, hA1, hA2, hA3, hB3⟩
  clear hA0 hA1 hA2 hA3 hB3
  go_loopw [11] (fun i wr => ∃ k : Nat, k ≤ 8 ∧ i = .int .i64 k ∧ BegAt key nonce w wr (beg1 key k)) (fun i _ => 8 - (intOf i).toNat)
  case atStart => exact ⟨0, Nat.zero_le _, rfl, hBA⟩
  case round =>
    obtain ⟨k, hk8, rfl, hS⟩ := hrel
    clear hBA
    have hws := beg1_ws key k
    by_cases hlt : k < 8
    · have hb4 := AN_four hS.1 HK.out.1.symm (by omega) (k := k) (by omega)
      have hl4 := low32_any _ _ wr hb4 (four_len key k (by rw [HK.out.1]; omega))
      have hcl := hS.2.2.2.1.cell (j := 4 + k) (by rw [hws.1]; omega)
      have hfr := hS.2.2.2.1.free (j := 4 + k) (by rw [hws.1]; omega)
      have HN := Lib.hid (show BegAt key nonce w _ (beg1 key (k + 1)) from hS.set (j := 4 + k) (by rw [hws.1]; omega) (leW (four key k)))
      clear hS hws hb4
      generalize leW (four key k) = x at *
      have hki : (k : Int) < 8 := by omega
      have hsl := run_slA Tryd.underlying25 wr w.heap.size (4 * k) (4 * k + 4) (4 * (k : Int)) (4 * (k : Int) + 4) (by omega) (by omega) (by omega) (by omega)
      rw [show 4 * k + 4 - 4 * k = 4 by omega] at hsl
      go_wp2_with fail
      refine hl4.mono ?_
      rintro e w9 ⟨rfl, rfl⟩
      clear hl4
      go_wp2_with fail
      go_roundw
      case rel => exact ⟨k + 1, by omega, by go_num, HN.out⟩
      case measure => simp [intOf]; omega
    · have hk8' : k = 8 := by omega
      rw [hk8'] at hS hws
      have hcl := hS.2.2.2.1.cell (j := 12) (by rw [hws.1]; omega)
      have hfr := hS.2.2.2.1.free (j := 12) (by rw [hws.1]; omega)
      have HN := Lib.hid (show BegAt key nonce w _ (beg2 key nonce counter 0) from hS.set (j := 12) (by rw [hws.1]; omega) counter)
      have HC := Lib.hid hc
      clear hS hws hk8' hc
      go_wp2_with fail
      generalize hwx : wr.setCell ⟨w.heap.size + 2 + 1, 12, none⟩ (.int .u32 (counter : Int)) = wx at *
      clear hwx hcl hfr
      go_loopw [30] (fun i wr => ∃ k : Nat, k ≤ 3 ∧ i = .int .i64 k ∧ BegAt key nonce w wr (beg2 key nonce counter k)) (fun i _ => 3 - (intOf i).toNat)
      case atStart => exact ⟨0, Nat.zero_le _, rfl, HN.out⟩
      case round =>
        obtain ⟨k, hk3, rfl, hS⟩ := hrel
        have hws := beg2_ws key nonce counter HC.out k
        by_cases hlt : k < 3
        · have hb4 := AN_four hS.2.1 HK.out.2.symm (by omega) (k := k) (by omega)
          have hl4 := low32_any _ _ wr hb4 (four_len nonce k (by rw [HK.out.2]; omega))
          have hcl := hS.2.2.2.1.cell (j := 13 + k) (by rw [hws.1]; omega)
          have hfr := hS.2.2.2.1.free (j := 13 + k) (by rw [hws.1]; omega)
          have HM := Lib.hid (show BegAt key nonce w _ (beg2 key nonce counter (k + 1)) from hS.set (j := 13 + k) (by rw [hws.1]; omega) (leW (four nonce k)))
          clear hS hws hb4
          generalize leW (four nonce k) = x at *
          have hki : (k : Int) < 3 := by omega
          have hsl := run_slA Tryd.underlying84 wr (w.heap.size + 1) (4 * k) (4 * k + 4) (4 * (k : Int)) (4 * (k : Int) + 4) (by omega) (by omega) (by omega) (by omega)
          rw [show 4 * k + 4 - 4 * k = 4 by omega] at hsl
          go_wp2_with fail
          refine hl4.mono ?_
          rintro e w9 ⟨rfl, rfl⟩
          clear hl4
          go_wp2_with fail
          go_roundw
          case rel => exact ⟨k + 1, by omega, by go_num, HM.out⟩
          case measure => simp [intOf]; omega
        · have hk3' : k = 3 := by omega
          rw [hk3', show beg2 key nonce counter 3 = beginN key nonce counter from rfl, ← HBE.out] at hS
          rw [hk3', show beg2 key nonce counter 3 = beginN key nonce counter from rfl, ← HBE.out] at hws
          have hld := bigS.ld hS.2.2.2.1 (by rw [hws.1, zN_len])
          obtain ⟨w9, hst9, hA9, hO9, hs9⟩ := bigS.put hS.2.2.1 rfl B (by rw [hws.1, zN_len])
          have hlv := bigS.lv hA9 (by rw [hws.1, zN_len])
          have HB := Lib.hid (hS.2.2.2.2.trans (hO9.to_below hS.2.2.2.2.size (fun k e => by omega)))
          clear hS hws hA9 hO9 hs9 hk3'
          go_wp2_with fail
          exact bodyPost_ret (results_cell Tryd.results57 rfl hlv) rfl ⟨rfl, HB.out⟩
def iterN (s : List Nat) : Nat → List Nat
  | 0 => s
  | k + 1 => roundsN (iterN s k)
theorem Ws.iter {s : List Nat} (h : Ws s) (k : Nat) : Ws (iterN s k) := by
  induction k with
  | zero => exact h
  | succ k ih => exact ih.rounds
def wordsN (key nonce : List UInt8) (counter : Nat) : List Nat := List.zipWith (fun x y => (x + y) % 4294967296) (iterN (beginN key nonce counter) 10) (beginN key nonce counter)
/-- A block of the stream. -/
def blockN (key nonce : List UInt8) (counter : Nat) : List UInt8 := ((wordsN key nonce counter).map (putLowL 4)).flatten
theorem beginN_ws (key nonce : List UInt8) (counter : Nat) (hc : counter < 4294967296) : Ws (beginN key nonce counter) := beg2_ws key nonce counter hc 3
theorem wordsN_len (key nonce : List UInt8) (counter : Nat) (hc : counter < 4294967296) : (wordsN key nonce counter).length = 16 := by
  have h := beginN_ws key nonce counter hc
  unfold wordsN
  rw [List.length_zipWith, (h.iter 10).1, h.1]; rfl
theorem flat4_len (l : List Nat) : ((l.map (putLowL 4)).flatten).length = l.length * 4 := by
  induction l with
  | nil => rfl
  | cons x l ih => rw [List.map_cons, List.flatten_cons, List.length_append, putLowL_length, ih, List.length_cons]; omega
theorem blockN_len (key nonce : List UInt8) (counter : Nat) (hc : counter < 4294967296) : (blockN key nonce counter).length = 64 := by
  unfold blockN
  rw [flat4_len, wordsN_len _ _ _ hc]
theorem lflat_take (l : List Nat) (k : Nat) (h : k < l.length) : ((l.take (k + 1)).map (putLowL 4)).flatten = ((l.take k).map (putLowL 4)).flatten ++ putLowL 4 (l.getD k 0) := by
  rw [List.take_succ_eq_append_getElem h, List.map_append, List.flatten_append]
  simp only [List.map_cons, List.map_nil, List.flatten_cons, List.flatten_nil, List.append_nil, List.getD, List.getElem?_eq_getElem h, Option.getD_some]
theorem zip_getD (f : Nat → Nat → Nat) (a b : List Nat) (k : Nat) (ha : k < a.length) (hb : k < b.length) : (List.zipWith f a b).getD k 0 = f (a.getD k 0) (b.getD k 0) := by
  simp [List.getD, List.getElem?_zipWith, ha, hb]
def ixS (v i : Value) : Sem Value := Instr.index 113 v i
theorem ixS_eq (v i : Value) : Instr.index 113 v i = ixS v i := rfl
theorem run_ixS (w : World) (H : List Nat) (k : Nat) (hH : H.length = 16) (hk : k < 16) : (ixS (.agg (nvs .u32 H).toArray) (.int .i64 (k : Int))).run Tryd.prog w = .ok (.int .u32 ((H.getD k 0 : Nat) : Int)) w := by
  obtain ⟨i, hi, hs, ha⟩ : ∃ i, Tryd.prog.info? 67 = some i ∧ i.size = 1 ∧ True := by
    have h : (Tryd.prog.info? 67).map (·.size) = some 1 := by kernel_rfl
    cases hi : Tryd.prog.info? 67 with
    | none => rw [hi] at h; cases h
    | some i => rw [hi] at h; exact ⟨i, rfl, by simpa using h, trivial⟩
  have hg : (nvs .u32 H)[k]? = some (.int .u32 ((H[k]?.getD 0 : Nat) : Int)) := by
    simp [nvs, nv, hH, hk]
  have hk1 : (k : Int) < 16 := by omega
  simp [ixS, Instr.index, run_underlying Tryd.underlying113, asIntOf, part, isAgg, run_underlying Tryd.underlying67, Go.sizeOf, typeInfo, hi, hs, hk, hg]
attribute [local go_sem ↓] ixS_eq alT_64b ldT_64b stT_64b ldT_32 ldT_12 apB_eq
set_option maxRecDepth 100000 in
set_option maxHeartbeats 1000000 in
theorem block_any (key nonce : List UInt8) (counter : Nat) (w : World) (hk : key.length = 32) (hn : nonce.length = 12) (hc : counter < 4294967296) :
    Calls Tryd.prog 51 #[.agg (key.map bv).toArray, .int .u32 counter, .agg (nonce.map bv).toArray] w fun e w' => e = .returned (.agg ((blockN key nonce counter).map bv).toArray) ∧ Below w.heap.size w w' := by
  have hA0 := box_bytes w key 25
  have hB0 : Below w.heap.size w (w.alloc (.cells (key.map bv).toArray 25)) := (Below.refl _ _).alloc (Nat.le_refl _) _
  have hs0 : (w.alloc (.cells (key.map bv).toArray 25)).heap.size = w.heap.size + 1 := by simp
  have hA1 := box_bytes (w.alloc (.cells (key.map bv).toArray 25)) nonce 84
  have hB1 : Below (w.alloc (.cells (key.map bv).toArray 25)).heap.size (w.alloc (.cells (key.map bv).toArray 25)) ((w.alloc (.cells (key.map bv).toArray 25)).alloc (.cells (nonce.map bv).toArray 84)) := (Below.refl _ _).alloc (Nat.le_refl _) _
  have hs1 : ((w.alloc (.cells (key.map bv).toArray 25)).alloc (.cells (nonce.map bv).toArray 84)).heap.size = w.heap.size + 2 := by simp
  have hA0 := hA0.keep hB1
  have hB1 := hB0.trans (hB1.mono (by simp))
  rw [hs0] at hA1
  obtain ⟨w2, hal2, hA2, hB2, hs2⟩ := big64b.made0 ((w.alloc (.cells (key.map bv).toArray 25)).alloc (.cells (nonce.map bv).toArray 84))
  have hA0 := hA0.keep hB2
  have hA1 := hA1.keep hB2
  have hB2 := hB1.trans (hB2.mono (by omega))
  rw [hs1] at hal2 hA2 hs2
  clear hB1 hB0 hs0 hs1
  have hld0 := big32.ld hA0 (by rw [List.length_map, hk, zN_len])
  have hld1 := big12.ld hA1 (by rw [List.length_map, hn, zN_len])
  rw [nvs_bytes] at hld0 hld1
  have hbg := begin_any key nonce counter w2 hk hn hc
  have hF := beginN_ws key nonce counter hc
  have HL := Lib.hid (And.intro (wordsN_len key nonce counter hc) (blockN_len key nonce counter hc))
  have HBK := Lib.hid (show blockN key nonce counter = ((wordsN key nonce counter).map (putLowL 4)).flatten from rfl)
  have HWD := Lib.hid (show wordsN key nonce counter = List.zipWith (fun x y => (x + y) % 4294967296) (iterN (beginN key nonce counter) 10) (beginN key nonce counter) from rfl)
  generalize blockN key nonce counter = R at *
  generalize wordsN key nonce counter = D at *
  generalize beginN key nonce counter = F at *
  go_enter Tryd.func51, Tryd.ntmps51
  go_wp2_with fail
  refine hbg.mono ?_
  rintro e w3 ⟨rfl, hB3⟩
  have hsz3 := hB3.size
  have hA2 := hA2.keep hB3
  have hB3 := hB2.trans (hB3.mono (by omega))
  obtain ⟨wa, w4, hal4, hst4, hA4, hB4, hs4⟩ := bigS.made w3 F (by rw [hF.1, zN_len])
  have hA2 := hA2.keep hB4
  have hB4 := hB3.trans (hB4.mono (by omega))
  have hld4 := bigS.ld hA4 (by rw [hF.1, zN_len])
  obtain ⟨wb, w5, hal5, hst5, hA5, hB5, hs5⟩ := bigS.made w4 F (by rw [hF.1, zN_len])
  have hA2 := hA2.keep hB5
  have hA4 := hA4.keep hB5
  have hB5 := hB4.trans (hB5.mono (by omega))
  rw [hs4] at hal5 hst5 hA5 hs5
  have hpn : w.heap.size + 2 < w3.heap.size := by omega
  generalize hp : w3.heap.size = p at *
  have HF := Lib.hid hF
  clear hF hbg hld0 hld1 hal2 hs2 hs4 hs5 hp hsz3 hB4 hB3 hB2 hA0 hA1
  go_wp2_with fail
  clear hal4 hst4 hld4 hal5 hst5 hk hn hc
  go_loopw [17] (fun i wr => ∃ k : Nat, k ≤ 10 ∧ i = .int .i64 k ∧ AN .u8 wr (w.heap.size + 2) (zN 64) ∧ AN .u32 wr p F ∧ AN .u32 wr (p + 1) (iterN F k) ∧ Below w.heap.size w wr) (fun i _ => 10 - (intOf i).toNat)
  case atStart => exact ⟨0, Nat.zero_le _, rfl, hA2, hA4, hA5, hB5⟩
  case round =>
    obtain ⟨k, hk10, rfl, hZ, hFF, hI, hBk⟩ := hrel
    clear hA2 hA4 hA5 hB5
    by_cases hlt : k < 10
    · have hq := rounds_any wr (p + 1) (iterN F k) (HF.out.iter k) hI
      rw [show roundsN (iterN F k) = iterN F (k + 1) from rfl] at hq
      go_wp2_with fail
      refine hq.mono ?_
      rintro e w6 ⟨rfl, hI6, hO6⟩
      have HO := Lib.hid (And.intro (hZ.only hO6 (by omega)) (And.intro (hFF.only hO6 (by omega)) (And.intro hI6 (hBk.trans (hO6.to_below hBk.size (fun k e => by omega))))))
      clear hI6 hO6 hZ hFF hI hBk hq
      go_wp2_with fail
      go_roundw
      case rel => exact ⟨k + 1, by omega, by go_num, HO.out⟩
      case measure => simp [intOf]; omega
    · have hk10' : k = 10 := by omega
      rw [hk10'] at hI
      have hIw := HF.out.iter 10
      have hgd := fun k hk => (zip_getD (fun x y => (x + y) % 4294967296) (iterN F 10) F k (by rw [hIw.1]; exact hk) (by rw [HF.out.1]; exact hk))
      rw [← HWD.out] at hgd
      have HG := Lib.hid hgd
      clear hk10' hgd
      generalize iterN F 10 = I at *
      have hldI := bigS.ld hI (by rw [hIw.1, zN_len])
      have HI := Lib.hid (And.intro hIw hI)
      clear hIw hI
      go_wp2_with fail
      go_loopw [9, 22] (fun o i w2 => ∃ k : Nat, k ≤ 16 ∧ i = .int .i64 k ∧ OB w2 (p + 2) o ((D.take k).map (putLowL 4)).flatten ∧ AN .u8 w2 (w.heap.size + 2) (zN 64) ∧ AN .u32 w2 p F ∧ Below w.heap.size w w2 ∧ p + 2 ≤ w2.heap.size) (fun _ i _ => 16 - (intOf i).toNat)
      case atStart => exact ⟨0, Nat.zero_le _, rfl, OB.nil _ _, hZ, hFF, hBk, HI.out.2.lt⟩
      case round =>
        obtain ⟨k2, hk16, rfl, hoo, hZo, hFo, hBo, hgo⟩ := hrel
        clear hZ hFF hBk
        by_cases hkl : k2 < 16
        · have hix := run_ixS wr I k2 HI.out.1.1 hkl
          have hcf := hFo.cell (j := k2) (by rw [HF.out.1]; exact hkl)
          have hgd := HG.out k2 hkl
          have hfl := lflat_take D k2 (by rw [HL.out.1]; exact hkl)
          rw [hgd] at hfl
          have hol := flat4_len (D.take k2)
          rw [List.length_take, HL.out.1, Nat.min_eq_left hk16] at hol
          have hph := putLow_any ((I.getD k2 0 + F.getD k2 0) % 4294967296) 4 wr (by omega) (by omega) (by omega)
          rw [show (4 : Int).toNat = 4 from rfl] at hph
          have hxb : (I.getD k2 0 + F.getD k2 0) % 4294967296 < 4294967296 := Nat.mod_lt _ (by decide)
          have HV := Lib.hid (add_int (x := I.getD k2 0) (y := F.getD k2 0))
          have HP := Lib.hid (And.intro hfl hol)
          clear hgd hfl hol
          generalize I.getD k2 0 = x at *
          generalize F.getD k2 0 = y at *
          have hki : (k2 : Int) < 16 := by omega
          rw [← HV.out] at hph
          clear hxb
          go_wp2_with fail
          refine hph.mono ?_
          rintro e w7 ⟨v7, rfl, ho7, hB7⟩
          have hsz7 := hB7.size
          obtain ⟨v8, w8, hap8, ho8, hB8, _, hsz8⟩ := apB_made w7 (p + 2) 27 _ v7 _ _ (hoo.keep hB7) ho7.bsl (by rw [HP.out.2, putLowL_length]; omega) (by omega)
          rw [← HP.out.1] at ho8
          have HO := Lib.hid (And.intro ho8 (And.intro ((hZo.keep hB7).under hB8 (by omega)) (And.intro ((hFo.keep hB7).under hB8 (by omega)) (And.intro ((hBo.trans (hB7.mono hBo.size)).trans (hB8.mono (by omega))) (show p + 2 ≤ w8.heap.size by omega)))))
          clear ho8 hB8 hsz8 ho7 hB7 hsz7 hoo hZo hFo hBo hgo hph
          go_wp2_with fail
          go_roundw
          case rel => exact ⟨k2 + 1, by omega, by go_num, HO.out⟩
          case measure => simp [intOf]; omega
        · rw [List.take_of_length_le (by rw [HL.out.1]; omega), ← HBK.out] at hoo
          obtain ⟨g, cap, hvv, hgb, hgs, hgc, hgm⟩ := hoo.shape (by intro e; have := HL.out.2; rw [e] at this; simp at this)
          subst hvv
          rw [HL.out.2] at hoo hgc ⊢
          have harr := fun w => run_arrayAt (P := Tryd.prog) (w := w) 107 5 64 (some ⟨g, 0, none⟩) 64 cap Tryd.underlying107 (Nat.le_refl _)
          have hgr : wr.rangeAt g 0 (nvs .u8 (R.map UInt8.toNat)) := by
            rw [nvs_bytes]
            intro j u hu
            have hj : j < R.length := by have := (List.getElem?_eq_some_iff.1 hu).1; simpa using this
            rw [Nat.zero_add, hoo.cell HL.out.2.symm hj, ← hu]
            simp [bv, hj, List.getD]
          have hld9 := run_ldT big64b wr g 0 _ hgr (by rw [nvs_len, List.length_map, HL.out.2, nvs_len, zN_len])
          obtain ⟨w14, hst14, hA14, hO14, _⟩ := big64b.put hZo rfl (R.map UInt8.toNat) (by rw [List.length_map, HL.out.2, zN_len])
          have hlv := big64b.lv hA14 (by rw [List.length_map, HL.out.2, zN_len])
          have hB14 := hBo.trans (hO14.to_below hBo.size (fun k e => by omega))
          rw [nvs_bytes] at hld9 hst14 hlv
          have HB := Lib.hid hB14
          clear hgr hB14 hO14 hA14 hoo hZo hFo hBo
          go_wp2_with fail
          exact bodyPost_ret (results_cell Tryd.results51 rfl hlv) rfl ⟨rfl, HB.out⟩
end Go.Proofs.YtembfelckbmgiaaDoor
