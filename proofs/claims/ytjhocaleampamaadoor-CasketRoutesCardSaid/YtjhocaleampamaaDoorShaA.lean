/- sha2: the walks of its small functions. -/
import Derived.Test.YtjhocaleampamaaDoorShaLaw
import Derived.Test.YtjhocaleampamaaDoorRev
import Derived.Test.YtjhocaleampamaaDoorSame
import Derived.IntWalk
namespace Go.Proofs.YtjhocaleampamaaDoor
open Go.RowKit
set_option linter.unusedVariables false
theorem getD_lt {h : List Nat} (hlt : ∀ x ∈ h, x < 4294967296) (j : Nat) : h.getD j 0 < 4294967296 := by
  by_cases hj : j < h.length
  · simp only [List.getD, List.getElem?_eq_getElem hj, Option.getD_some]; exact hlt _ (List.getElem_mem hj)
  · simp [List.getD, List.getElem?_eq_none (Nat.le_of_not_lt hj)]
theorem shr_lt {x k n : Nat} (hx : x < n) : x >>> k < n := by rw [Nat.shiftRight_eq_div_pow]; exact Nat.lt_of_le_of_lt (Nat.div_le_self _ _) hx
theorem rotL_lt (x k : Nat) (hx : x < 4294967296) : rotL x k < 4294967296 :=
  Nat.or_lt_two_pow (n := 32) (Nat.mod_lt _ (by decide)) (shr_lt hx)
theorem shaTurned_lt (x a b c : Nat) (hx : x < 4294967296) : shaTurned x a b c < 4294967296 :=
  Nat.xor_lt_two_pow (n := 32) (Nat.xor_lt_two_pow (n := 32) (rotL_lt _ _ hx) (rotL_lt _ _ hx)) (rotL_lt _ _ hx)
theorem shaMoved_lt (x a b c : Nat) (hx : x < 4294967296) : shaMoved x a b c < 4294967296 :=
  Nat.xor_lt_two_pow (n := 32) (Nat.xor_lt_two_pow (n := 32) (rotL_lt _ _ hx) (rotL_lt _ _ hx)) (shr_lt hx)
theorem rot_int (x k : Nat) (hx : x < 4294967296) : bits BinOp.or IntKind.u32 ((x : Int) * 2 ^ k % 4294967296) ((x : Int) / 2 ^ (32 - k)) = ((rotL x k : Nat) : Int) := by
  unfold rotL
  rw [← u32_or_nat _ _ (Nat.mod_lt _ (by decide)) (shr_lt hx)]
  congr 1
  · rw [Nat.shiftLeft_eq]; simp
  · rw [Nat.shiftRight_eq_div_pow]; simp
theorem ret_int' {k : IntKind} {a b : Int} (h : a = b) : Ending.returned (.int k a) = .returned (.int k b) := by rw [h]
theorem quiet_eq {P : Program} {f : FuncId} {args : Array Value} {w : World} {n : Nat} {v : Value} (h : Calls P f args (w.drewN n) fun e w' => e = .returned v ∧ w.drewN n = w') :
    Calls P f args (w.drewN n) fun e w'' => e = .returned v ∧ ∃ m, w'' = w.drewN m := h.mono fun _ _ ⟨he, hm⟩ => ⟨he, n, hm.symm⟩
theorem quiet_drew {P : Program} {f : FuncId} {args : Array Value} {w : World} {n : Nat} {v : Value} (h : Calls P f args (w.drewN n) fun e w' => ∃ m, e = .returned v ∧ w' = (w.drewN n).drewN m) :
    Calls P f args (w.drewN n) fun e w'' => e = .returned v ∧ ∃ m, w'' = w.drewN m := h.mono fun _ _ ⟨m, he, hm⟩ => ⟨he, n + m, by rw [hm]; simp [World.drewN, Nat.add_assoc]⟩
set_option maxRecDepth 100000 in
set_option maxHeartbeats 400000 in
theorem left_any (x k : Nat) (n : Int) (w : World) (hx : x < 4294967296) (hk : (IntKind.u64.wrap n).tmod 32 = (k : Int)) (hk2 : k < 32) :
    Calls Tryd.prog 87 #[.int .u32 x, .int .i64 n] w fun e w' => e = .returned (.int .u32 (rotL x k)) ∧ w = w' := by
  go_enter Tryd.func87, Tryd.ntmps87
  go_wp2
  go_ret
  exact ⟨ret_int' (rot_int x k hx), rfl⟩
theorem wrap_neg (a : Nat) (h1 : 1 ≤ a) (h2 : a < 32) : IntKind.u64.wrap (-(a : Int)) = 18446744073709551616 - (a : Int) := by
  simp [IntKind.wrap, IntKind.signed, IntKind.bits]
  omega
/-- Turned right by a. -/
theorem right_any (x a : Nat) (w : World) (hx : x < 4294967296) (h1 : 1 ≤ a) (h2 : a < 32) :
    Calls Tryd.prog 87 #[.int .u32 x, .int .i64 (-(a : Int))] w fun e w' => e = .returned (.int .u32 (rotL x (32 - a))) ∧ w = w' :=
  left_any x (32 - a) _ w hx (by rw [wrap_neg a h1 h2, Int.tmod_eq_emod_of_nonneg (by omega)]; omega) (by omega)
set_option maxRecDepth 100000 in
set_option maxHeartbeats 400000 in
theorem turned_any (x a b c : Nat) (w : World) (hx : x < 4294967296) (ha : 1 ≤ a ∧ a < 32) (hb : 1 ≤ b ∧ b < 32) (hc : 1 ≤ c ∧ c < 32) :
    Calls Tryd.prog 65 #[.int .u32 x, .int .i64 a, .int .i64 b, .int .i64 c] w fun e w' => e = .returned (.int .u32 (shaTurned x a b c)) ∧ w = w' := by
  obtain ⟨ha1, ha2⟩ := ha
  obtain ⟨hb1, hb2⟩ := hb
  obtain ⟨hc1, hc2⟩ := hc
  have h1 := rotL_lt x (32 - a) hx
  have h2 := rotL_lt x (32 - b) hx
  have h3 := rotL_lt x (32 - c) hx
  have hR : shaTurned x a b c = rotL x (32 - a) ^^^ rotL x (32 - b) ^^^ rotL x (32 - c) := rfl
  have HR := Lib.hid hR; clear hR
  go_enter Tryd.func65, Tryd.ntmps65
  go_wp2_with fail
  refine (right_any x a _ hx ha1 ha2).mono ?_
  rintro e w1 ⟨rfl, rfl⟩
  go_wp2_with fail
  refine (right_any x b _ hx hb1 hb2).mono ?_
  rintro e w1 ⟨rfl, rfl⟩
  go_wp2_with fail
  refine (right_any x c _ hx hc1 hc2).mono ?_
  rintro e w1 ⟨rfl, rfl⟩
  go_wp2_with fail
  go_ret
  refine ⟨ret_int' ?_, rfl⟩
  rw [HR.out, u32_xor_nat _ _ h1 h2, u32_xor_nat _ _ (Nat.xor_lt_two_pow (n := 32) h1 h2) h3]
set_option maxRecDepth 100000 in
set_option maxHeartbeats 400000 in
theorem moved_any (x a b c : Nat) (w : World) (hx : x < 4294967296) (ha : 1 ≤ a ∧ a < 32) (hb : 1 ≤ b ∧ b < 32) (hc : 1 ≤ c ∧ c < 32) :
    Calls Tryd.prog 86 #[.int .u32 x, .int .i64 a, .int .i64 b, .int .i64 c] w fun e w' => ∃ n, e = .returned (.int .u32 (shaMoved x a b c)) ∧ w' = w.drewN n := by
  obtain ⟨ha1, ha2⟩ := ha
  obtain ⟨hb1, hb2⟩ := hb
  obtain ⟨hc1, hc2⟩ := hc
  have h1 := rotL_lt x (32 - a) hx
  have h2 := rotL_lt x (32 - b) hx
  have hR : shaMoved x a b c = rotL x (32 - a) ^^^ rotL x (32 - b) ^^^ x >>> c := rfl
  have HR := Lib.hid hR; clear hR
  go_enter Tryd.func86, Tryd.ntmps86
  go_wp2
  have hwa : IntKind.i64.wrap (-(a : Int)) = -(a : Int) := IntWalk.i64_in _ (by omega)
  have hwb : IntKind.i64.wrap (-(b : Int)) = -(b : Int) := IntWalk.i64_in _ (by omega)
  have cA := fun n => quiet_eq (right_any x a (w.drewN n) hx ha1 ha2)
  have cB := fun n => quiet_eq (right_any x b (w.drewN n) hx hb1 hb2)
  go_quiet ((go_at_call 87; first | with_reducible exact cA _ | with_reducible exact cB _))
  go_wp2
  go_ret
  refine ⟨nq, ret_int' ?_, rfl⟩
  rw [HR.out, u32_xor_nat _ _ h1 h2, ← u32_xor_nat _ _ (Nat.xor_lt_two_pow (n := 32) h1 h2) (shr_lt hx)]
  congr 1
  rw [Nat.shiftRight_eq_div_pow]; simp
theorem moved_1 (x : Nat) (w : World) (hx : x < 4294967296) : Calls Tryd.prog 86 #[.int .u32 x, .int .i64 17, .int .i64 19, .int .i64 10] w fun e w' => ∃ n, e = .returned (.int .u32 (shaMoved x 17 19 10)) ∧ w' = w.drewN n :=
  moved_any x 17 19 10 w hx (by omega) (by omega) (by omega)
theorem moved_2 (x : Nat) (w : World) (hx : x < 4294967296) : Calls Tryd.prog 86 #[.int .u32 x, .int .i64 7, .int .i64 18, .int .i64 3] w fun e w' => ∃ n, e = .returned (.int .u32 (shaMoved x 7 18 3)) ∧ w' = w.drewN n :=
  moved_any x 7 18 3 w hx (by omega) (by omega) (by omega)
theorem turned_1 (x : Nat) (w : World) (hx : x < 4294967296) : Calls Tryd.prog 65 #[.int .u32 x, .int .i64 6, .int .i64 11, .int .i64 25] w fun e w' => e = .returned (.int .u32 (shaTurned x 6 11 25)) ∧ w = w' :=
  turned_any x 6 11 25 w hx (by omega) (by omega) (by omega)
theorem turned_2 (x : Nat) (w : World) (hx : x < 4294967296) : Calls Tryd.prog 65 #[.int .u32 x, .int .i64 2, .int .i64 13, .int .i64 22] w fun e w' => e = .returned (.int .u32 (shaTurned x 2 13 22)) ∧ w = w' :=
  turned_any x 2 13 22 w hx (by omega) (by omega) (by omega)
/-- A word of bytes, the highest first. -/
theorem beW_snoc (l : List UInt8) (c : UInt8) : beW (l ++ [c]) = beW l * 256 + c.toNat := by simp [beW]
theorem beF_lt (l : List UInt8) : ∀ x, l.foldl (fun x c => x * 256 + c.toNat) x < (x + 1) * 256 ^ l.length := by
  induction l with
  | nil => intro x; simp
  | cons c l ih =>
    intro x
    have := ih (x * 256 + c.toNat)
    have hc := c.toNat_lt
    rw [List.foldl_cons, List.length_cons, Nat.pow_succ]
    refine Nat.lt_of_lt_of_le this ?_
    rw [Nat.mul_comm (256 ^ l.length), ← Nat.mul_assoc]
    exact Nat.mul_le_mul_right _ (by omega)
theorem beW_lt (l : List UInt8) : beW l < 256 ^ l.length := by
  have := beF_lt l 0
  simpa [beW] using this
theorem beW_step (x : Nat) (c : UInt8) (hx : x < 72057594037927936) : bits BinOp.or IntKind.u64 ((x : Int) * 256) (c.toNat : Int) = ((x * 256 + c.toNat : Nat) : Int) := by
  have hc := c.toNat_lt
  have e : (x : Int) * 256 = ((x * 256 : Nat) : Int) := by omega
  rw [e, u64_or_nat _ _ (by omega) (by omega)]
  congr 1
  have := Nat.shiftLeft_add_eq_or_of_lt (i := 8) (b := c.toNat) (by omega) x
  rw [Nat.shiftLeft_eq] at this
  exact this.symm
set_option maxRecDepth 100000 in
set_option maxHeartbeats 400000 in
theorem high_any (v : Value) (l : List UInt8) (w : World) (hb : Bsl w v l) (hl : l.length ≤ 8) :
    Calls Tryd.prog 66 #[v] w fun e w' => e = .returned (.int .u64 (beW l)) ∧ w = w' := by
  obtain ⟨ao, cap, rfl, hlc, hcm, hnil, hcells⟩ := hb
  clear hnil
  go_enter Tryd.func66, Tryd.ntmps66
  go_wp2
  go_loop [3, 8] (fun n i => ∃ k : Nat, k ≤ l.length ∧ i = .int .i64 k ∧ n = .int .u64 (beW (l.take k))) (fun _ i => l.length - (intOf i).toNat)
  case atStart => exact ⟨0, Nat.zero_le _, rfl, rfl⟩
  case round =>
    obtain ⟨k, hk, rfl, rfl⟩ := hrel
    have hw := beW_lt (l.take k)
    rw [List.length_take, Nat.min_eq_left hk] at hw
    by_cases hlt : k < l.length
    · obtain ⟨b, off, rfl, hc⟩ := hcells (by intro h; simp [h] at hlt)
      have hck := hc k hlt
      have hx : beW (l.take k) < 72057594037927936 := Nat.lt_of_lt_of_le hw (Nat.pow_le_pow_right (n := 256) (by omega) (show k ≤ 7 by omega))
      have hsn := beW_snoc (l.take k) (l.getD k 0)
      rw [← take_succ_getD hlt] at hsn
      clear hc hcells hw
      generalize l.getD k 0 = c at *
      generalize beW (l.take k) = x at *
      have hc256 : (c.toNat : Int) < 256 := by have := c.toNat_lt; omega
      have HS := Lib.hid hsn; clear hsn
      go_wp2
      go_round
      case rel =>
        refine ⟨k + 1, by omega, by go_num, ?_⟩
        rw [HS.out, ← beW_step x c hx]
      case measure => simp [intOf]; omega
    · go_wp2
      go_ret
      refine ⟨ret_int' ?_, rfl⟩
      rw [List.take_of_length_le (by omega)]
set_option maxRecDepth 100000 in
set_option maxHeartbeats 400000 in
theorem high32_any (v : Value) (l : List UInt8) (w : World) (hb : Bsl w v l) (hl : l.length = 4) :
    Calls Tryd.prog 85 #[v] w fun e w' => e = .returned (.tuple #[.int .u32 (beW l), .bool true]) ∧ w = w' := by
  have hh := high_any v l w hb (by omega)
  have hlt := beW_lt l
  rw [hl] at hlt
  obtain ⟨ao, cap, rfl, hlc, hcm, hnil, hcells⟩ := hb
  clear hnil hcells
  rw [hl] at hlc hh ⊢
  generalize beW l = x at *
  have hx : (x : Int) < 4294967296 := by omega
  go_enter Tryd.func85, Tryd.ntmps85
  go_wp2_with fail
  refine hh.mono ?_
  rintro e w1 ⟨rfl, rfl⟩
  go_wp2_with fail
  go_ret2
  exact ⟨rfl, rfl⟩
end Go.Proofs.YtjhocaleampamaaDoor
