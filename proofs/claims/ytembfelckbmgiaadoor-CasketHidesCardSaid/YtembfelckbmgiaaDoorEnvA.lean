/- envelope: within, right, name: the walks. -/
import Derived.Test.YtembfelckbmgiaaDoorVaultD
import Derived.Test.YtembfelckbmgiaaDoorOutObj
import Derived.Test.YtembfelckbmgiaaDoorPad
namespace Go.Proofs.YtembfelckbmgiaaDoor
open Go.RowKit Big
set_option linter.unusedVariables false
/-- A head's cells, and an envelope's. -/
def headC (c : Nat) : List Value := [.int .i64 1, .int .i64 (c : Int), .int .i64 1, .int .i64 (c : Int), .slice none 0 0]
def envC (key : List UInt8) (c : Nat) (sv : Value) : List Value := key.map bv ++ (headC c ++ [sv])
theorem envC_len (key : List UInt8) (c : Nat) (sv : Value) (h : key.length = 32) : (envC key c sv).length = 38 := by unfold envC headC; simp [h]
set_option maxRecDepth 100000 in
theorem within_any (n lo hi : Int) (w : World) : Calls Tryd.prog 25 #[.int .i64 n, .int .i64 lo, .int .i64 hi] w fun e w' => e = .returned (.bool (decide (lo ≤ n) && decide (n ≤ hi))) ∧ w = w' := by
  by_cases h1 : lo ≤ n
  · rw [decide_eq_true h1]
    go_enter Tryd.func25, Tryd.ntmps25
    go_wp2_with fail
    go_ret
    exact ⟨by simp, rfl⟩
  · rw [decide_eq_false h1]
    go_enter Tryd.func25, Tryd.ntmps25
    go_wp2_with fail
    go_ret
    exact ⟨by simp, rfl⟩
theorem name_any (v : Value) (x : List UInt8) (w : World) (hb : Bsl w v x) : Calls Tryd.prog 12 #[v] w fun e w' => e = .returned (.bool (decide (1 ≤ x.length ∧ x.length ≤ 64))) ∧ w = w' := by
  obtain ⟨ao, cap, rfl⟩ := hb.val'
  go_enter Tryd.func12, Tryd.ntmps12
  go_wp2_with fail
  refine (within_any _ _ _ w).mono ?_
  rintro e w1 ⟨rfl, rfl⟩
  go_wp2_with fail
  go_ret
  refine ⟨?_, rfl⟩
  rw [show (decide ((1 : Int) ≤ (x.length : Int)) && decide ((x.length : Int) ≤ 64)) = decide (1 ≤ x.length ∧ x.length ≤ 64) by
    rw [Bool.eq_iff_iff]; simp; omega]
  rfl
set_option maxRecDepth 100000 in
set_option maxHeartbeats 1000000 in
theorem hright_any (c : Nat) (w : World) (hc : 1 ≤ c ∧ c ≤ 1000) : Calls Tryd.prog 13 #[.agg (headC c).toArray] w fun e w' => e = .returned (.bool true) ∧ Below w.heap.size w w' := by
  have hw1 := fun w => within_any 1 1 1048576 w
  have hw2 := fun w => within_any c 1 4611686018427387904 w
  have hw3 := fun w => within_any 1 1 16 w
  have hw4 := fun w => within_any c 1 1099511627776 w
  rw [show (decide ((1 : Int) ≤ 1) && decide ((1 : Int) ≤ 1048576)) = true by decide] at hw1
  rw [show (decide ((1 : Int) ≤ (c : Int)) && decide ((c : Int) ≤ 4611686018427387904)) = true by simp; omega] at hw2
  rw [show (decide ((1 : Int) ≤ 1) && decide ((1 : Int) ≤ 16)) = true by decide] at hw3
  rw [show (decide ((1 : Int) ≤ (c : Int)) && decide ((c : Int) ≤ 1099511627776)) = true by simp; omega] at hw4
  unfold headC
  go_enter Tryd.func13, Tryd.ntmps13
  go_wp2_with fail
  refine (hw1 _).mono ?_
  rintro e w1 ⟨rfl, rfl⟩
  clear hw1
  go_wp2_with fail
  refine (hw2 _).mono ?_
  rintro e w1 ⟨rfl, rfl⟩
  clear hw2
  go_wp2_with fail
  refine (hw3 _).mono ?_
  rintro e w1 ⟨rfl, rfl⟩
  clear hw3
  go_wp2_with fail
  refine (hw4 _).mono ?_
  rintro e w1 ⟨rfl, rfl⟩
  clear hw4
  go_wp2_with fail
  go_ret
  exact ⟨rfl, (Below.refl _ _).alloc (Nat.le_refl _) _⟩
/-- An envelope in a variable. -/
structure EnvAt (w : World) (p : Nat) (key : List UInt8) (c : Nat) (sv : Value) : Prop where
  len : key.length = 32
  range : w.rangeAt p 0 (envC key c sv)
  lt : p < w.heap.size
theorem envC_at {key : List UInt8} {c : Nat} {sv : Value} (hk : key.length = 32) (j : Nat) (v : Value) (hv : (headC c ++ [sv])[j]? = some v) : (envC key c sv)[32 + j]? = some v := by
  unfold envC
  rw [List.getElem?_append_right (by simp [hk]), List.length_map, hk, show 32 + j - 32 = j by omega]
  exact hv
theorem envC_cs {key : List UInt8} {c : Nat} {sv : Value} (hk : key.length = 32) :
    (envC key c sv)[32]? = some (.int .i64 1) ∧ (envC key c sv)[33]? = some (.int .i64 (c : Int)) ∧ (envC key c sv)[34]? = some (.int .i64 1) ∧ (envC key c sv)[35]? = some (.int .i64 (c : Int)) ∧ (envC key c sv)[36]? = some (.slice none 0 0) ∧ (envC key c sv)[37]? = some sv :=
  ⟨envC_at hk 0 _ rfl, envC_at hk 1 _ rfl, envC_at hk 2 _ rfl, envC_at hk 3 _ rfl, envC_at hk 4 _ rfl, envC_at hk 5 _ rfl⟩
theorem EnvAt.at {w : World} {p c : Nat} {key : List UInt8} {sv : Value} (h : EnvAt w p key c sv) (j : Nat) (v : Value) (hv : (headC c ++ [sv])[j]? = some v) : w.cell? ⟨p, 32 + j, none⟩ = some v := by
  have := h.range (32 + j) v (by
    unfold envC
    rw [List.getElem?_append_right (by simp [h.len]), List.length_map, h.len, show 32 + j - 32 = j by omega]
    exact hv)
  rwa [Nat.zero_add] at this
theorem EnvAt.cs {w : World} {p c : Nat} {key : List UInt8} {sv : Value} (h : EnvAt w p key c sv) :
    w.cell? ⟨p, 32, none⟩ = some (.int .i64 1) ∧ w.cell? ⟨p, 33, none⟩ = some (.int .i64 (c : Int)) ∧ w.cell? ⟨p, 34, none⟩ = some (.int .i64 1) ∧ w.cell? ⟨p, 35, none⟩ = some (.int .i64 (c : Int)) ∧ w.cell? ⟨p, 36, none⟩ = some (.slice none 0 0) ∧ w.cell? ⟨p, 37, none⟩ = some sv :=
  ⟨h.at 0 _ rfl, h.at 1 _ rfl, h.at 2 _ rfl, h.at 3 _ rfl, h.at 4 _ rfl, h.at 5 _ rfl⟩
theorem EnvAt.key {w : World} {p c : Nat} {key : List UInt8} {sv : Value} (h : EnvAt w p key c sv) : w.rangeAt p 0 (key.map bv) := fun j v hv => by
  have hj : j < (key.map bv).length := (List.getElem?_eq_some_iff.1 hv).1
  exact h.range j v (by unfold envC; rw [List.getElem?_append_left hj]; exact hv)
theorem EnvAt.only {S : Nat → Prop} {w w' : World} {p c : Nat} {key : List UInt8} {sv : Value} (h : EnvAt w p key c sv) (ho : Only S w w') (hS : ¬ S p) : EnvAt w' p key c sv := ⟨h.len, rangeAt_only h.range ho hS, Nat.lt_of_lt_of_le h.lt ho.size⟩
theorem EnvAt.keep {w w' : World} {p c : Nat} {key : List UInt8} {sv : Value} (h : EnvAt w p key c sv) (hb : Below w.heap.size w w') : EnvAt w' p key c sv := h.only (Only.of_below (S := fun _ => False) hb) (fun h => h)
theorem EnvAt.box (w : World) (key : List UInt8) (c : Nat) (sv : Value) (hk : key.length = 32) (T : TypeId) : EnvAt (w.alloc (.cells (envC key c sv).toArray T)) w.heap.size key c sv := ⟨hk, rangeAt_new _ _ _, by simp⟩
def zE : List Value := nvs .u8 (zN 32) ++ [.int .i64 0, .int .i64 0, .int .i64 0, .int .i64 0, .slice none 0 0, .slice none 0 0]
theorem zE_len : zE.length = 38 := by kernel_rfl
theorem bigE : BigT 38 zE := BigT.of (by kernel_rfl) ⟨_, Tryd.underlying38, rfl⟩
theorem alT_E : Instr.alloc 38 true (.tuple #[]) = alT 38 := rfl
theorem ldT_E (v : Value) : Instr.loadAt 38 v = ldT 38 v := rfl
theorem stT_E (v u : Value) : Instr.storeAt 38 v u = stT 38 v u := rfl
theorem EnvAt.ld {w : World} {p c : Nat} {key : List UInt8} {sv : Value} (h : EnvAt w p key c sv) : (ldT 38 (.pointer (some ⟨p, 0, none⟩))).run Tryd.prog w = .ok (.agg (envC key c sv).toArray) w :=
  run_ldT bigE w p 0 _ h.range (by rw [envC_len _ _ _ h.len, zE_len])
attribute [local go_sem ↓] ldT_E
set_option maxRecDepth 100000 in
set_option maxHeartbeats 1000000 in
theorem eright_any (key : List UInt8) (c : Nat) (sv : Value) (s : List UInt8) (w : World) (hk : key.length = 32) (hc : 1 ≤ c ∧ c ≤ 1000) (hb : Bsl w sv s) (hs : 16 ≤ s.length ∧ s.length ≤ 8192) :
    Calls Tryd.prog 20 #[.agg (envC key c sv).toArray] w fun e w' => e = .returned (.bool true) ∧ Below w.heap.size w w' := by
  obtain ⟨w0, hw0, hE0, hB0⟩ : ∃ w0, w0 = w.alloc (.cells (envC key c sv).toArray 38) ∧ EnvAt w0 w.heap.size key c sv ∧ Below w.heap.size w w0 :=
    ⟨_, rfl, EnvAt.box w key c sv hk _, (Below.refl _ _).alloc (Nat.le_refl _) _⟩
  obtain ⟨ao, cap, rfl⟩ := hb.val'
  obtain ⟨c0, c1, c2, c3, c4, c5⟩ := envC_cs (key := key) (c := c) (sv := .slice ao s.length cap) hk
  obtain ⟨d0, d1, d2, d3, d4, d5⟩ := hE0.cs
  have hr := hright_any c w0 hc
  unfold headC at hr
  have hw2 := fun w => within_any s.length 16 8192 w
  rw [show (decide ((16 : Int) ≤ (s.length : Int)) && decide ((s.length : Int) ≤ 8192)) = true by simp; omega] at hw2
  go_enter Tryd.func20, Tryd.ntmps20
  go_wp2_with fail
  rw [← hw0]
  refine hr.mono ?_
  rintro e w1 ⟨rfl, hB1⟩
  have hE1 := hE0.keep hB1
  have hB1 := hB0.trans (hB1.mono hB0.size)
  obtain ⟨d0, d1, d2, d3, d4, d5⟩ := hE1.cs
  clear hr c0 c1 c2 c3 c4 c5
  go_wp2_with fail
  refine (hw2 _).mono ?_
  rintro e w2 ⟨rfl, rfl⟩
  clear hw2
  go_wp2_with fail
  go_ret
  exact ⟨rfl, hB1⟩
end Go.Proofs.YtembfelckbmgiaaDoor
