/- chacha: the walks of the rounds, the beginning and the block. -/
import Derived.Test.YtembfelckbmgiaaDoorChaA
import Derived.Test.YtembfelckbmgiaaDoorOps
namespace Go.Proofs.YtembfelckbmgiaaDoor
open Go.RowKit Big
set_option linter.unusedVariables false
def colsN (s : List Nat) : Nat → List Nat
  | 0 => s
  | k + 1 => quarterN (colsN s k) k (4 + k) (8 + k) (12 + k)
def diagN (s : List Nat) : Nat → List Nat
  | 0 => s
  | k + 1 => quarterN (diagN s k) k (4 + (k + 1) % 4) (8 + (k + 2) % 4) (12 + (k + 3) % 4)
def roundsN (s : List Nat) : List Nat := diagN (colsN s 4) 4
theorem Ws.cols {s : List Nat} (h : Ws s) (k : Nat) : Ws (colsN s k) := by
  induction k with
  | zero => exact h
  | succ k ih => exact ih.quarter _ _ _ _
theorem Ws.diag {s : List Nat} (h : Ws s) (k : Nat) : Ws (diagN s k) := by
  induction k with
  | zero => exact h
  | succ k ih => exact ih.quarter _ _ _ _
theorem Ws.rounds {s : List Nat} (h : Ws s) : Ws (roundsN s) := (h.cols 4).diag 4
set_option maxRecDepth 100000 in
set_option maxHeartbeats 1000000 in
theorem rounds_any (w : World) (p : Nat) (s : List Nat) (hs : Ws s) (hA : AN .u32 w p s) :
    Calls Tryd.prog 58 #[.pointer (some ⟨p, 0, none⟩)] w fun e w' => e = .returned (.tuple #[]) ∧ AN .u32 w' p (roundsN s) ∧ Only (· = p) w w' := by
  have HR := Lib.hid (show roundsN s = diagN (colsN s 4) 4 from rfl)
  generalize roundsN s = sR at *
  have HS := Lib.hid hs
  go_enter Tryd.func58, Tryd.ntmps58
  go_wp2_with fail
  go_loopw [4] (fun i wr => ∃ k : Nat, k ≤ 4 ∧ i = .int .i64 k ∧ AN .u32 wr p (colsN s k) ∧ Only (· = p) w wr) (fun i _ => 4 - (intOf i).toNat)
  case atStart => exact ⟨0, Nat.zero_le _, rfl, hA, Only.refl _ _⟩
  case round =>
    obtain ⟨k, hk, rfl, hAk, hOk⟩ := hrel
    clear hA
    by_cases hlt : k < 4
    · have hq := quarter_any wr p (colsN s k) k (4 + k) (8 + k) (12 + k) (HS.out.cols k) hAk (by omega) (by omega) (by omega) (by omega)
      rw [show quarterN (colsN s k) k (4 + k) (8 + k) (12 + k) = colsN s (k + 1) from rfl] at hq
      simp only [Int.natCast_add, Int.cast_ofNat_Int] at hq
      go_wp2_with fail
      refine hq.mono ?_
      rintro e w1 ⟨rfl, hA1, hO1⟩
      have HO := Lib.hid (And.intro hA1 (hOk.trans hO1 (fun _ _ e => e)))
      clear hA1 hO1 hAk hOk hq
      go_wp2_with fail
      go_roundw
      case rel => exact ⟨k + 1, by omega, by go_num, HO.out⟩
      case measure => simp [intOf]; omega
    · have hk4 : k = 4 := by omega
      rw [hk4] at hAk
      clear hk4
      generalize hc4 : colsN s 4 = s4 at *
      have hs4 : Ws s4 := by rw [← hc4]; exact HS.out.cols 4
      have HS4 := Lib.hid hs4
      clear hs4 hc4
      go_wp2_with fail
      go_loopw [17] (fun i wr => ∃ k : Nat, k ≤ 4 ∧ i = .int .i64 k ∧ AN .u32 wr p (diagN s4 k) ∧ Only (· = p) w wr) (fun i _ => 4 - (intOf i).toNat)
      case atStart => exact ⟨0, Nat.zero_le _, rfl, hAk, hOk⟩
      case round =>
        obtain ⟨k, hk, rfl, hAj, hOj⟩ := hrel
        clear hAk hOk
        by_cases hlt : k < 4
        · have hq := quarter_any wr p (diagN s4 k) k (4 + (k + 1) % 4) (8 + (k + 2) % 4) (12 + (k + 3) % 4) (HS4.out.diag k) hAj (by omega) (by omega) (by omega) (by omega)
          rw [show quarterN (diagN s4 k) k (4 + (k + 1) % 4) (8 + (k + 2) % 4) (12 + (k + 3) % 4) = diagN s4 (k + 1) from rfl] at hq
          simp only [Int.natCast_add, Int.cast_ofNat_Int, Int.natCast_emod] at hq
          go_wp2_with fail
          refine hq.mono ?_
          rintro e w1 ⟨rfl, hA1, hO1⟩
          have HO := Lib.hid (And.intro hA1 (hOj.trans hO1 (fun _ _ e => e)))
          clear hA1 hO1 hAj hOj hq
          go_wp2_with fail
          go_roundw
          case rel => exact ⟨k + 1, by omega, by go_num, HO.out⟩
          case measure => simp [intOf]; omega
        · have hk4 : k = 4 := by omega
          rw [hk4, ← HR.out] at hAj
          go_wp2_with fail
          go_end0
          exact ⟨rfl, hAj, hOj⟩
/-- A word of bytes, the lowest first. -/
def leW : List UInt8 → Nat
  | [] => 0
  | c :: l => c.toNat + 256 * leW l
theorem leW_lt (l : List UInt8) : leW l < 256 ^ l.length := by
  induction l with
  | nil => simp [leW]
  | cons c l ih =>
    rw [leW, List.length_cons, Nat.pow_succ]
    have := c.toNat_lt
    omega
theorem leW_snoc (l : List UInt8) (c : UInt8) : leW (l ++ [c]) = leW l + c.toNat * 256 ^ l.length := by
  induction l with
  | nil => simp [leW]
  | cons d l ih =>
    rw [List.cons_append, leW, ih, leW, List.length_cons, Nat.pow_succ, Nat.mul_add, ← Nat.mul_assoc, Nat.mul_comm 256 (c.toNat), Nat.mul_comm (256 ^ l.length) 256, ← Nat.mul_assoc]
    omega
theorem le_step (x k : Nat) (c : UInt8) (hx : x < 256 ^ k) (hk : k ≤ 7) : bits BinOp.or IntKind.u64 (x : Int) (IntKind.u64.wrap ((c.toNat : Int) * 2 ^ (8 * k))) = ((x + c.toNat * 256 ^ k : Nat) : Int) := by
  have hc := c.toNat_lt
  have hp : (2 : Nat) ^ (8 * k) = 256 ^ k := by rw [Nat.pow_mul]
  have hp7 : 256 ^ k ≤ 72057594037927936 := Nat.pow_le_pow_right (n := 256) (by omega) hk
  have hcm : c.toNat * 256 ^ k < 18446744073709551616 := by
    have := Nat.mul_le_mul (Nat.le_of_lt_succ hc) hp7
    omega
  have e : (c.toNat : Int) * 2 ^ (8 * k) = ((c.toNat * 256 ^ k : Nat) : Int) := by
    rw [← hp]; simp
  have ew : IntKind.u64.wrap ((c.toNat * 256 ^ k : Nat) : Int) = ((c.toNat * 256 ^ k : Nat) : Int) := by
    generalize c.toNat * 256 ^ k = y at *
    simp [IntKind.wrap, IntKind.signed, IntKind.bits]; omega
  rw [e, ew, u64_or_nat _ _ (by omega) hcm]
  congr 1
  have := Nat.shiftLeft_add_eq_or_of_lt (i := 8 * k) (b := x) (by rw [hp]; exact hx) c.toNat
  rw [Nat.shiftLeft_eq, hp] at this
  rw [Nat.or_comm, ← this, Nat.add_comm]
set_option maxRecDepth 100000 in
set_option maxHeartbeats 400000 in
theorem low_any (v : Value) (l : List UInt8) (w : World) (hb : Bsl w v l) (hl : l.length ≤ 8) :
    Calls Tryd.prog 70 #[v] w fun e w' => e = .returned (.int .u64 (leW l)) ∧ w = w' := by
  obtain ⟨ao, cap, rfl, hlc, hcm, hnil, hcells⟩ := hb
  clear hnil
  go_enter Tryd.func70, Tryd.ntmps70
  go_wp2
  go_loop [3, 8] (fun n i => ∃ k : Nat, k ≤ l.length ∧ i = .int .i64 k ∧ n = .int .u64 (leW (l.take k))) (fun _ i => l.length - (intOf i).toNat)
  case atStart => exact ⟨0, Nat.zero_le _, rfl, rfl⟩
  case round =>
    obtain ⟨k, hk, rfl, rfl⟩ := hrel
    have hw := leW_lt (l.take k)
    rw [List.length_take, Nat.min_eq_left hk] at hw
    by_cases hlt : k < l.length
    · obtain ⟨b, off, rfl, hc⟩ := hcells (by intro h; simp [h] at hlt)
      have hck := hc k hlt
      have hsn := leW_snoc (l.take k) (l.getD k 0)
      rw [← take_succ_getD hlt, List.length_take, Nat.min_eq_left hk] at hsn
      have HX := Lib.hid hw
      clear hc hcells hw
      generalize l.getD k 0 = c at *
      generalize leW (l.take k) = x at *
      have hc256 : (c.toNat : Int) < 256 := by have := c.toNat_lt; omega
      have HS := Lib.hid hsn; clear hsn
      go_wp2
      go_round
      case rel =>
        refine ⟨k + 1, by omega, by go_num, ?_⟩
        rw [HS.out, ← le_step x k c HX.out (by omega)]
      case measure => simp [intOf]; omega
    · go_wp2
      go_ret
      refine ⟨ret_int' ?_, rfl⟩
      rw [List.take_of_length_le (by omega)]
set_option maxRecDepth 100000 in
set_option maxHeartbeats 400000 in
theorem low32_any (v : Value) (l : List UInt8) (w : World) (hb : Bsl w v l) (hl : l.length = 4) :
    Calls Tryd.prog 68 #[v] w fun e w' => e = .returned (.tuple #[.int .u32 (leW l), .bool true]) ∧ w = w' := by
  have hh := low_any v l w hb (by omega)
  have hlt := leW_lt l
  rw [hl] at hlt
  obtain ⟨ao, cap, rfl, hlc, hcm, hnil, hcells⟩ := hb
  clear hnil hcells
  rw [hl] at hlc hh ⊢
  generalize leW l = x at *
  have hx : (x : Int) < 4294967296 := by omega
  go_enter Tryd.func68, Tryd.ntmps68
  go_wp2_with fail
  refine hh.mono ?_
  rintro e w1 ⟨rfl, rfl⟩
  go_wp2_with fail
  go_ret2
  exact ⟨rfl, rfl⟩
set_option maxRecDepth 100000 in
set_option maxHeartbeats 400000 in
theorem low64_any (v : Value) (l : List UInt8) (w : World) (hb : Bsl w v l) (hl : l.length = 8) :
    Calls Tryd.prog 59 #[v] w fun e w' => e = .returned (.tuple #[.int .u64 (leW l), .bool true]) ∧ w = w' := by
  have hh := low_any v l w hb (by omega)
  obtain ⟨ao, cap, rfl, hlc, hcm, hnil, hcells⟩ := hb
  clear hnil hcells
  rw [hl] at hlc hh ⊢
  generalize leW l = x at *
  go_enter Tryd.func59, Tryd.ntmps59
  go_wp2_with fail
  refine hh.mono ?_
  rintro e w1 ⟨rfl, rfl⟩
  go_wp2_with fail
  go_ret2
  exact ⟨rfl, rfl⟩
end Go.Proofs.YtembfelckbmgiaaDoor
