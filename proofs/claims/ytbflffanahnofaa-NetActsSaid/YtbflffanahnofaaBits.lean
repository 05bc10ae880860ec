/- bits: the walks. -/
import Derived.Test.YtbflffanahnofaaBase

namespace Go.Proofs.Ytbflffanahnofaa
open Go.RowKit
/-- k bytes of x, the lowest first. -/
def putLowL : Nat → Nat → List UInt8
  | 0, _ => []
  | k + 1, x => UInt8.ofNat x :: putLowL k (x / 256)
theorem putLowL_length (k : Nat) : ∀ x, (putLowL k x).length = k := by
  induction k with
  | zero => intro x; rfl
  | succ k ih => intro x; simp [putLowL, ih]
theorem putLowL_snoc (k : Nat) : ∀ x, putLowL (k + 1) x = putLowL k x ++ [UInt8.ofNat (x / 256 ^ k)] := by
  induction k with
  | zero => intro x; simp [putLowL]
  | succ k ih =>
    intro x
    rw [putLowL, ih, putLowL]
    simp [Nat.div_div_eq_div_mul, Nat.pow_succ, Nat.mul_comm]

set_option maxRecDepth 100000 in
set_option maxHeartbeats 400000 in
theorem bclone_any (v : Value) (l : List UInt8) (w : World) (hb : Bsl w v l) (hl : l.length ≤ 140737488355328) :
    Calls Try.prog 20 #[v] w fun e w' => ∃ v', e = .returned v' ∧ OB w' w.heap.size v' l ∧ Below w.heap.size w w' := by
  have hb' := hb
  obtain ⟨ao, cap, rfl, hlc, hcm, hnil, hcells⟩ := hb'
  have heq := fun w => Lib.run_eql_slice_nil (P := Try.prog) w 29 5 ao l.length cap 0 0 Try.underlying29
  cases ao with
  | none =>
    have hcap := hnil rfl
    have hm : l = [] := List.eq_nil_of_length_eq_zero (by omega)
    subst hm; subst hcap
    clear hb hcells hnil
    simp only [List.length_nil, Option.isNone_none] at heq
    go_enter Try.func20, Try.ntmps20
    go_wp2_with fail
    go_ret
    exact ⟨_, rfl, OB.nil _ _, Below.refl _ _⟩
  | some ad =>
    clear hcells hnil
    have hbel : Below w.heap.size w (w.alloc (.cells #[] 5)) := (Below.refl _ _).alloc (Nat.le_refl _) _
    have hown : OB (w.alloc (.cells #[] 5)) w.heap.size (.slice (some ⟨w.heap.size, 0, none⟩) 0 0) [] := World.ownsRow_made w #[] 0 (Nat.le_refl _) (by decide) rfl
    go_enter Try.func20, Try.ntmps20
    go_wp2_with (at_builtin; refine wp_app rfl _ _ rfl w.heap.size _ _ _ _ rfl rfl hown (hb.keep hbel) ?_ ?_ ?_)
    · simpa using hl
    · simp
    · intro v' w1 hown' hgrow _
      have hb1 : Below w.heap.size w w1 := hbel.grown hgrow (by simp) hown.own_ge
      clear hgrow hbel hown
      go_wp2_with fail
      go_ret
      exact ⟨_, rfl, hown', hb1⟩

end Go.Proofs.Ytbflffanahnofaa
