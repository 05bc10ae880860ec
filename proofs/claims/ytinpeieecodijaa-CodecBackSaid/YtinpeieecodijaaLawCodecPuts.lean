/- casketlaw08.CodecPuts: the walk. -/
import Derived.Test.YtinpeieecodijaaPart
import Derived.LaidEqlPtr
namespace Go.Proofs.Ytinpeieecodijaa
open Go.RowKit
/-- A Part as data: its kind, number, text (and the value of its text). -/
structure PartD where
  kind : Int
  num : Int
  tv : Value
  text : List UInt8
/-- v is a slice of the parts ps. -/
def PartsAt (w : World) (v : Value) (ps : List PartD) : Prop :=
  ∃ ao cap, v = .slice ao ps.length cap ∧ ps.length ≤ cap ∧ cap ≤ 9223372036854775807 ∧ (ao = none → cap = 0) ∧
    (ps ≠ [] → ∃ b off, ao = some ⟨b, off, none⟩ ∧ ∀ i (h : i < ps.length), w.cell? ⟨b, off + i * 3, none⟩ = some (.int .i64 ps[i].kind) ∧ w.cell? ⟨b, off + i * 3 + 1, none⟩ = some (.int .i64 ps[i].num) ∧ w.cell? ⟨b, off + i * 3 + 2, none⟩ = some ps[i].tv) ∧
    ∀ x ∈ ps, (-9223372036854775808 ≤ x.num ∧ x.num ≤ 9223372036854775807) ∧ Bsl w x.tv x.text
def catL (ps : List PartD) : List UInt8 := (ps.map fun x => partL x.kind x.num (x.text.take 200)).flatten
def allOk (ps : List PartD) : Bool := ps.all fun x => partOk x.kind x.num
theorem partL_length (k n : Int) (t : List UInt8) (h : t.length ≤ 200) : (partL k n t).length ≤ 204 := by
  unfold partL numL smallL bytesL
  repeat' split
  all_goals first | (simp; done) | (simp [putLowL_length]; done) | omega | (simp [putLowL_length]; omega)
theorem catL_length (ps : List PartD) : (catL ps).length ≤ 204 * ps.length := by
  induction ps with
  | nil => simp [catL]
  | cons x ps ih =>
    have := partL_length x.kind x.num (x.text.take 200) (by simp; omega)
    simp only [catL, List.map_cons, List.flatten_cons, List.length_append, List.length_cons] at ih ⊢
    omega
theorem catL_snoc (ps : List PartD) (k : Nat) (h : k < ps.length) : catL (ps.take (k + 1)) = catL (ps.take k) ++ partL ps[k].kind ps[k].num (ps[k].text.take 200) := by
  unfold catL
  rw [List.take_succ_eq_append_getElem h, List.map_append, List.flatten_append]
  simp only [List.map_cons, List.map_nil, List.flatten_cons, List.flatten_nil, List.append_nil]
theorem allOk_snoc (ps : List PartD) (k : Nat) (h : k < ps.length) : allOk (ps.take (k + 1)) = (allOk (ps.take k) && partOk ps[k].kind ps[k].num) := by
  unfold allOk
  rw [List.take_succ_eq_append_getElem h, List.all_append]
  simp only [List.all_cons, List.all_nil, Bool.and_true]
theorem Try.info_out : (Try.prog.info? 32).isSome = true := by kernel_rfl
set_option maxRecDepth 100000 in
set_option maxHeartbeats 1000000 in
theorem codecPuts_walk (v : Value) (ps : List PartD) (w : World) (h : PartsAt w v ps) :
    Calls Try.prog 3 #[v] w fun e w' => e = .returned (.bool true) ∧ Below w.heap.size w w' := by
  obtain ⟨ao, cap, rfl, hlc, hcm, hnil, hcells, hall⟩ := h
  clear hnil
  go_enter Try.func3, Try.ntmps3
  go_wp2_with fail
  refine (odone_nil _).mono ?_
  rintro e w1 ⟨rfl, rfl⟩
  go_wp2_with fail
  refine (codes_any _).mono ?_
  rintro e w1 ⟨rfl, hb1⟩
  go_wp2_with fail
  refine (onum_nil _ _).mono ?_
  rintro e w2 ⟨rfl, rfl⟩
  go_wp2_with fail
  refine (osmall_nil _ _ (by omega) (by omega)).mono ?_
  rintro e w2 ⟨rfl, rfl⟩
  go_wp2_with fail
  refine (ofixed_nil _ _).mono ?_
  rintro e w2 ⟨rfl, rfl⟩
  go_wp2_with fail
  refine (obytes_nil _ [] _ (OB.nil _ 0).bsl).mono ?_
  rintro e w2 ⟨rfl, rfl⟩
  have hO := OutAt.fresh w1 w.heap.size 32 hb1.size
  have hB0 : Below w.heap.size w (w1.alloc (.cells #[.slice none 0 0, .bool false] 32)) := hb1.alloc hb1.size _
  go_wp2_with fail
  obtain ⟨p, hp⟩ : ∃ p, p = w1.heap.size := ⟨_, rfl⟩
  rw [← hp] at hO ⊢
  generalize w1.alloc (.cells #[.slice none 0 0, .bool false] 32) = w2 at *
  clear hp
  go_loopw [7, 8, 9] (fun want ok i wr => ∃ (k : Nat) (g : Option Nat), k ≤ ps.length ∧ k ≤ 20 ∧ i = .int .i64 k ∧ want = .string ⟨(catL (ps.take k)).toArray⟩ ∧ ok = .bool (allOk (ps.take k)) ∧ OutAt wr w.heap.size p 0 (catL (ps.take k)) (!allOk (ps.take k)) g ∧ Below w.heap.size w wr) (fun _ _ i _ => ps.length - (intOf i).toNat)
  case atStart => exact ⟨0, none, by omega, by omega, rfl, rfl, rfl, hO, hB0⟩
  case round =>
    obtain ⟨k, g, hk, hk20, rfl, rfl, rfl, hOw, hbw⟩ := hrel
    by_cases hlt : k < ps.length ∧ k < 20
    · obtain ⟨hlt, hlt2⟩ := hlt
      obtain ⟨b, off, rfl, hc⟩ := hcells (by intro h; simp [h] at hlt)
      obtain ⟨c0, c1, c2⟩ := hc k hlt
      have hx := hall ps[k] (List.getElem_mem hlt)
      clear hc hcells hall
      have c0 := (hbw.cell (World.block_lt_of_cell? w _ c0)).trans c0
      have c1 := (hbw.cell (World.block_lt_of_cell? w _ c1)).trans c1
      have c2 := (hbw.cell (World.block_lt_of_cell? w _ c2)).trans c2
      have hk1 : (k : Int) < (ps.length : Int) := by omega
      have hk2 : (k : Int) < 20 := by omega
      have HC := Lib.hid (catL_snoc ps k hlt)
      have HA := Lib.hid (allOk_snoc ps k hlt)
      have hcl := catL_length (ps.take k)
      rw [List.length_take, Nat.min_eq_left (by omega)] at hcl
      rcases hx0 : ps[k] with ⟨kd, nm, tv, tx⟩
      simp only [hx0] at c0 c1 c2 hx HC HA
      clear hx0
      have hpl := partL_length kd nm (tx.take 200) (by simp; omega)
      have hcat := run_cat (catL (ps.take k)) (partL kd nm (tx.take 200)) (by omega)
      have hcl2 : (catL (ps.take k)).length ≤ 5000 := by omega
      clear hcl
      go_wp2_with fail
      refine (put_any kd nm tv tx _ (hx.2.keep hbw) hOw hx.1.1 hx.1.2 (by omega)).mono ?_
      rintro e w3 ⟨rfl, g2, hO2, hE2⟩
      have hb2 := hE2.below hbw.size hOw.1 (fun kb hkb => (hOw.gB kb hkb).1)
      unfold strV
      generalize catL (ps.take k) = cl at *
      generalize partL kd nm (tx.take 200) = pl at *
      generalize partOk kd nm = pk at *
      generalize allOk (ps.take k) = ak at *
      cases ak with
      | true =>
        go_wp2_with fail
        go_roundw
        case rel => exact ⟨k + 1, g2, by omega, by omega, by go_num, by rw [HC.out], by rw [HA.out]; rfl, by rw [HC.out, HA.out]; simpa using hO2, hbw.trans hb2⟩
        case measure => simp [intOf]; omega
      | false =>
        go_wp2_with fail
        go_roundw
        case rel => exact ⟨k + 1, g2, by omega, by omega, by go_num, by rw [HC.out], by rw [HA.out]; rfl, by rw [HC.out, HA.out]; simpa using hO2, hbw.trans hb2⟩
        case measure => simp [intOf]; omega
    · have hcl := catL_length (ps.take k)
      rw [List.length_take] at hcl
      have hcl2 : (catL (ps.take k)).length ≤ 5000 := by omega
      clear hcl hcells hall
      generalize catL (ps.take k) = cl at *
      generalize allOk (ps.take k) = ak at *
      by_cases hk1 : k < ps.length
      · have hk20' : 20 ≤ (k : Int) := by omega
        have hk1' : (k : Int) < (ps.length : Int) := by omega
        cases ak with
        | true =>
          go_wp2_with fail
          refine (odone_any _ hOw (by omega)).mono ?_
          rintro e w3 ⟨v3, rfl, ho3, hb3⟩
          have hs := run_str w3 ho3.bsl
          rw [show (if (!true) = true then (1 : Int) else 0) = 0 from rfl]
          go_wp2_with fail
          refine (onum_any 1 _ (hOw.keep hb3) (by omega) (by omega) (by omega)).mono ?_
          rintro e w4 ⟨rfl, g4, hO4, hE4⟩
          obtain ⟨ji, hji⟩ := Option.isSome_iff_exists.1 Try.info_out
          have hpe := run_eql_ptr_same (P := Try.prog) w4 ⟨p, 0, none⟩ Try.underlying23 hji
          go_wp2_with fail
          go_ret
          exact ⟨rfl, (hbw.trans (hb3.mono hbw.size)).trans (hE4.below (Nat.le_trans hbw.size hb3.size) hOw.1 (fun kb hkb => (hOw.gB kb hkb).1))⟩
        | false =>
          go_wp2_with fail
          refine (odone_any _ hOw (by omega)).mono ?_
          rintro e w3 ⟨v3, rfl, ho3, hb3⟩
          have hs := run_str w3 ho3.bsl
          rw [show (if (!false) = true then (1 : Int) else 0) = 1 from rfl]
          go_wp2_with fail
          refine (onum_any 1 _ (hOw.keep hb3) (by omega) (by omega) (by omega)).mono ?_
          rintro e w4 ⟨rfl, g4, hO4, hE4⟩
          obtain ⟨ji, hji⟩ := Option.isSome_iff_exists.1 Try.info_out
          have hpe := run_eql_ptr_same (P := Try.prog) w4 ⟨p, 0, none⟩ Try.underlying23 hji
          go_wp2_with fail
          go_ret
          exact ⟨rfl, (hbw.trans (hb3.mono hbw.size)).trans (hE4.below (Nat.le_trans hbw.size hb3.size) hOw.1 (fun kb hkb => (hOw.gB kb hkb).1))⟩
      · have hk1' : (ps.length : Int) ≤ (k : Int) := by omega
        cases ak with
        | true =>
          go_wp2_with fail
          refine (odone_any _ hOw (by omega)).mono ?_
          rintro e w3 ⟨v3, rfl, ho3, hb3⟩
          have hs := run_str w3 ho3.bsl
          rw [show (if (!true) = true then (1 : Int) else 0) = 0 from rfl]
          go_wp2_with fail
          refine (onum_any 1 _ (hOw.keep hb3) (by omega) (by omega) (by omega)).mono ?_
          rintro e w4 ⟨rfl, g4, hO4, hE4⟩
          obtain ⟨ji, hji⟩ := Option.isSome_iff_exists.1 Try.info_out
          have hpe := run_eql_ptr_same (P := Try.prog) w4 ⟨p, 0, none⟩ Try.underlying23 hji
          go_wp2_with fail
          go_ret
          exact ⟨rfl, (hbw.trans (hb3.mono hbw.size)).trans (hE4.below (Nat.le_trans hbw.size hb3.size) hOw.1 (fun kb hkb => (hOw.gB kb hkb).1))⟩
        | false =>
          go_wp2_with fail
          refine (odone_any _ hOw (by omega)).mono ?_
          rintro e w3 ⟨v3, rfl, ho3, hb3⟩
          have hs := run_str w3 ho3.bsl
          rw [show (if (!false) = true then (1 : Int) else 0) = 1 from rfl]
          go_wp2_with fail
          refine (onum_any 1 _ (hOw.keep hb3) (by omega) (by omega) (by omega)).mono ?_
          rintro e w4 ⟨rfl, g4, hO4, hE4⟩
          obtain ⟨ji, hji⟩ := Option.isSome_iff_exists.1 Try.info_out
          have hpe := run_eql_ptr_same (P := Try.prog) w4 ⟨p, 0, none⟩ Try.underlying23 hji
          go_wp2_with fail
          go_ret
          exact ⟨rfl, (hbw.trans (hb3.mono hbw.size)).trans (hE4.below (Nat.le_trans hbw.size hb3.size) hOw.1 (fun kb hkb => (hOw.gB kb hkb).1))⟩
end Go.Proofs.Ytinpeieecodijaa
