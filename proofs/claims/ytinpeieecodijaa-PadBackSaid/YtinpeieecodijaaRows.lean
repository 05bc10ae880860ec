/-
  No cell of these rows narrows 'for every input' (looked for: loops, veiled, ifaces, maps, wideKeys, modest, calm, conditions, laid).
  DERIVED. THE GIVEN ROWS OF THIS SEAT. 8 by the template 'for every input the law returns true; each argument reads behind the call as it read before'; 0 by the template 'total and deterministic' (their statements: YtinpeieecodijaaTotals.lean).
  GIVEN WITH THE SEED: the statements are not yours to turn. If you find one false, say at which input.
  Laid BY PROGRAM, IN A SANDBOX (cutbox-rows.mjs): the forced cells as the released guide's own fill.sh prints them over the translation 91c2130e2f2f6e24… (all of the seat's roots in one cut). By AI agents, Wed Nov 11 2026. No macro, syntax, notation, axiom, sorry.
-/
import Derived.Test.YtinpeieecodijaaChecked
import GoSem.Claim
import GoSem.ClaimJoined
import GoSem.ClaimMapViews
import Derived.JoinedTies
import Derived.KernelRfl
namespace Go.Proofs.Ytinpeieecodijaa
/- THE CELL 'sum', in the pinned program and in every row, IS THE sha256 OF THE DUMP (.gsa) THAT YtinpeieecodijaaProg.lean LOADS. Nothing in Lean hashes anything: it is a label: what it is worth is what the hold of that sum in a sandbox is worth. -/
noncomputable def Try.pinned : Pinned := { name := "ytinpeieecodijaa", sum := "91c2130e2f2f6e24f01f89e2f2a90e0f0cb60fdd4032ed3fc76b300fa9257ee6", checked := Try.checked }
namespace Rows
def none {H : Type} : Left H := { results := [], args := [] }

/-- 'casketlaw08.CodecPuts': WHATEVER THE INPUT: true; the input reads as it did. -/
def codecPutsSpec : ChangeSpec := { name := "codecPuts", fn := fun _ => fun
  | [d] => { results := [.lit (.bool true)], args := [d] }
  | _ => none }
def codecPutsRow : OpenClaim := { program := "ytinpeieecodijaa", sum := "91c2130e2f2f6e24f01f89e2f2a90e0f0cb60fdd4032ed3fc76b300fa9257ee6", func := "casket/casketlaw08.CodecPuts", spec := "codecPuts", apart := false }
def CodecPutsSaid : Prop := codecPutsRow.holds Try.pinned (OpenSpec.ofChange codecPutsSpec)

/-- ITS FALSE NEIGHBOUR: 'it returns false'. Refute it at one input. -/
def codecPutsWrong : ChangeSpec := { name := "codecPuts", fn := fun _ => fun
  | [d] => { results := [.lit (.bool false)], args := [d] }
  | _ => none }
def CodecPutsWrongFalsely : Prop := codecPutsRow.holds Try.pinned (OpenSpec.ofChange codecPutsWrong)

/-- 'casketlaw10.PadClasses': WHATEVER THE INPUT: true; the input reads as it did. -/
def padClassesSpec : ChangeSpec := { name := "padClasses", fn := fun _ => fun
  | [d] => { results := [.lit (.bool true)], args := [d] }
  | _ => none }
def padClassesRow : OpenClaim := { program := "ytinpeieecodijaa", sum := "91c2130e2f2f6e24f01f89e2f2a90e0f0cb60fdd4032ed3fc76b300fa9257ee6", func := "casket/casketlaw10.PadClasses", spec := "padClasses", apart := false }
def PadClassesSaid : Prop := padClassesRow.holds Try.pinned (OpenSpec.ofChange padClassesSpec)

/-- ITS FALSE NEIGHBOUR: 'it returns false'. Refute it at one input. -/
def padClassesWrong : ChangeSpec := { name := "padClasses", fn := fun _ => fun
  | [d] => { results := [.lit (.bool false)], args := [d] }
  | _ => none }
def PadClassesWrongFalsely : Prop := padClassesRow.holds Try.pinned (OpenSpec.ofChange padClassesWrong)

/-- 'casketlaw10.PadSizes': WHATEVER THE INPUT: true; the input reads as it did. -/
def padSizesSpec : ChangeSpec := { name := "padSizes", fn := fun _ => fun
  | [d1, d2] => { results := [.lit (.bool true)], args := [d1, d2] }
  | _ => none }
def padSizesRow : OpenClaim := { program := "ytinpeieecodijaa", sum := "91c2130e2f2f6e24f01f89e2f2a90e0f0cb60fdd4032ed3fc76b300fa9257ee6", func := "casket/casketlaw10.PadSizes", spec := "padSizes", apart := false }
def PadSizesSaid : Prop := padSizesRow.holds Try.pinned (OpenSpec.ofChange padSizesSpec)

/-- ITS FALSE NEIGHBOUR: 'it returns false'. Refute it at one input. -/
def padSizesWrong : ChangeSpec := { name := "padSizes", fn := fun _ => fun
  | [d1, d2] => { results := [.lit (.bool false)], args := [d1, d2] }
  | _ => none }
def PadSizesWrongFalsely : Prop := padSizesRow.holds Try.pinned (OpenSpec.ofChange padSizesWrong)

/-- 'casketlaw08.CodecLimits': WHATEVER THE INPUT: true; the input reads as it did. -/
def codecLimitsSpec : ChangeSpec := { name := "codecLimits", fn := fun _ => fun
  | [d1, d2, d3] => { results := [.lit (.bool true)], args := [d1, d2, d3] }
  | _ => none }
def codecLimitsRow : OpenClaim := { program := "ytinpeieecodijaa", sum := "91c2130e2f2f6e24f01f89e2f2a90e0f0cb60fdd4032ed3fc76b300fa9257ee6", func := "casket/casketlaw08.CodecLimits", spec := "codecLimits", apart := false }
def CodecLimitsSaid : Prop := codecLimitsRow.holds Try.pinned (OpenSpec.ofChange codecLimitsSpec)

/-- ITS FALSE NEIGHBOUR: 'it returns false'. Refute it at one input. -/
def codecLimitsWrong : ChangeSpec := { name := "codecLimits", fn := fun _ => fun
  | [d1, d2, d3] => { results := [.lit (.bool false)], args := [d1, d2, d3] }
  | _ => none }
def CodecLimitsWrongFalsely : Prop := codecLimitsRow.holds Try.pinned (OpenSpec.ofChange codecLimitsWrong)

/-- 'casketlaw08.CodecTakes': WHATEVER THE INPUT: true; the input reads as it did. -/
def codecTakesSpec : ChangeSpec := { name := "codecTakes", fn := fun _ => fun
  | [d1, d2, d3] => { results := [.lit (.bool true)], args := [d1, d2, d3] }
  | _ => none }
def codecTakesRow : OpenClaim := { program := "ytinpeieecodijaa", sum := "91c2130e2f2f6e24f01f89e2f2a90e0f0cb60fdd4032ed3fc76b300fa9257ee6", func := "casket/casketlaw08.CodecTakes", spec := "codecTakes", apart := false }
def CodecTakesSaid : Prop := codecTakesRow.holds Try.pinned (OpenSpec.ofChange codecTakesSpec)

/-- ITS FALSE NEIGHBOUR: 'it returns false'. Refute it at one input. -/
def codecTakesWrong : ChangeSpec := { name := "codecTakes", fn := fun _ => fun
  | [d1, d2, d3] => { results := [.lit (.bool false)], args := [d1, d2, d3] }
  | _ => none }
def CodecTakesWrongFalsely : Prop := codecTakesRow.holds Try.pinned (OpenSpec.ofChange codecTakesWrong)

/-- 'casketlaw08.CodecBack': WHATEVER THE INPUT: true; the input reads as it did. -/
def codecBackSpec : ChangeSpec := { name := "codecBack", fn := fun _ => fun
  | [d] => { results := [.lit (.bool true)], args := [d] }
  | _ => none }
def codecBackRow : OpenClaim := { program := "ytinpeieecodijaa", sum := "91c2130e2f2f6e24f01f89e2f2a90e0f0cb60fdd4032ed3fc76b300fa9257ee6", func := "casket/casketlaw08.CodecBack", spec := "codecBack", apart := false }
def CodecBackSaid : Prop := codecBackRow.holds Try.pinned (OpenSpec.ofChange codecBackSpec)

/-- ITS FALSE NEIGHBOUR: 'it returns false'. Refute it at one input. -/
def codecBackWrong : ChangeSpec := { name := "codecBack", fn := fun _ => fun
  | [d] => { results := [.lit (.bool false)], args := [d] }
  | _ => none }
def CodecBackWrongFalsely : Prop := codecBackRow.holds Try.pinned (OpenSpec.ofChange codecBackWrong)

/-- 'casketlaw10.PadBack': WHATEVER THE INPUT: true; the input reads as it did. -/
def padBackSpec : ChangeSpec := { name := "padBack", fn := fun _ => fun
  | [d1, d2] => { results := [.lit (.bool true)], args := [d1, d2] }
  | _ => none }
def padBackRow : OpenClaim := { program := "ytinpeieecodijaa", sum := "91c2130e2f2f6e24f01f89e2f2a90e0f0cb60fdd4032ed3fc76b300fa9257ee6", func := "casket/casketlaw10.PadBack", spec := "padBack", apart := false }
def PadBackSaid : Prop := padBackRow.holds Try.pinned (OpenSpec.ofChange padBackSpec)

/-- ITS FALSE NEIGHBOUR: 'it returns false'. Refute it at one input. -/
def padBackWrong : ChangeSpec := { name := "padBack", fn := fun _ => fun
  | [d1, d2] => { results := [.lit (.bool false)], args := [d1, d2] }
  | _ => none }
def PadBackWrongFalsely : Prop := padBackRow.holds Try.pinned (OpenSpec.ofChange padBackWrong)

/-- 'casketlaw10.PadCuts': WHATEVER THE INPUT: true; the input reads as it did. -/
def padCutsSpec : ChangeSpec := { name := "padCuts", fn := fun _ => fun
  | [d] => { results := [.lit (.bool true)], args := [d] }
  | _ => none }
def padCutsRow : OpenClaim := { program := "ytinpeieecodijaa", sum := "91c2130e2f2f6e24f01f89e2f2a90e0f0cb60fdd4032ed3fc76b300fa9257ee6", func := "casket/casketlaw10.PadCuts", spec := "padCuts", apart := false }
def PadCutsSaid : Prop := padCutsRow.holds Try.pinned (OpenSpec.ofChange padCutsSpec)

/-- ITS FALSE NEIGHBOUR: 'it returns false'. Refute it at one input. -/
def padCutsWrong : ChangeSpec := { name := "padCuts", fn := fun _ => fun
  | [d] => { results := [.lit (.bool false)], args := [d] }
  | _ => none }
def PadCutsWrongFalsely : Prop := padCutsRow.holds Try.pinned (OpenSpec.ofChange padCutsWrong)

/- THE SECOND FORM. 'bulk': how many values and letters a reading holds, each counted each time it is reached (what is shared counts as often as it is met; a slice's spare places count too). A statement '..UptoSaid' is the law's where the arguments, and the package variables that the reading takes, are together of bulk at most 1048576: NARROWER than '..Said'. Prove '..Said' where nothing that the law and all that it calls make is longer than what came in: it says more and counts as full. Else prove '..UptoSaid'. A law counts once. -/
mutual
def uptoBulk {H : Type} : DataW H → Nat
  | .lit (.string bytes) => bytes.length + 1
  | .lit _ => 1
  | .nil => 1
  | .ptr d => uptoBulk d + 1
  | .slice elems spare => uptoBulkAll elems + uptoBulkAll spare + 1
  | .agg parts => uptoBulkAll parts + 1
  | .iface _ d => uptoBulk d + 1
  | .map entries => uptoBulkEntries entries + 1
  | .held _ => 1
def uptoBulkAll {H : Type} : List (DataW H) → Nat
  | [] => 0
  | d :: r => uptoBulk d + uptoBulkAll r
def uptoBulkEntries {H : Type} : List (Lit × DataW H) → Nat
  | [] => 0
  | x :: r => uptoBulkEntry x + uptoBulkEntries r
def uptoBulkEntry {H : Type} : Lit × DataW H → Nat
  | (.string bytes, d) => bytes.length + uptoBulk d + 1
  | (_, d) => uptoBulk d + 1
 end
def uptoSmall : (H : Type) → List (DataW H) → Bool := fun _ ds => decide (uptoBulkAll ds ≤ 1048576)
def OpenSpec.upto (s : _root_.Go.ChangeSpec) : _root_.Go.OpenSpec := { _root_.Go.OpenSpec.ofChange s with cond := some uptoSmall }

/-- 'casketlaw08.CodecPuts', WHERE WHAT IT READS IS OF BULK AT MOST 1048576: true; the input reads as it did. -/
def codecPutsUptoRow : OpenClaim := { program := "ytinpeieecodijaa", sum := "91c2130e2f2f6e24f01f89e2f2a90e0f0cb60fdd4032ed3fc76b300fa9257ee6", func := "casket/casketlaw08.CodecPuts", spec := "codecPuts", apart := false, narrowed := true }
def CodecPutsUptoSaid : Prop := codecPutsUptoRow.holds Try.pinned (OpenSpec.upto codecPutsSpec)

/-- 'casketlaw10.PadClasses', WHERE WHAT IT READS IS OF BULK AT MOST 1048576: true; the input reads as it did. -/
def padClassesUptoRow : OpenClaim := { program := "ytinpeieecodijaa", sum := "91c2130e2f2f6e24f01f89e2f2a90e0f0cb60fdd4032ed3fc76b300fa9257ee6", func := "casket/casketlaw10.PadClasses", spec := "padClasses", apart := false, narrowed := true }
def PadClassesUptoSaid : Prop := padClassesUptoRow.holds Try.pinned (OpenSpec.upto padClassesSpec)

/-- 'casketlaw10.PadSizes', WHERE WHAT IT READS IS OF BULK AT MOST 1048576: true; the input reads as it did. -/
def padSizesUptoRow : OpenClaim := { program := "ytinpeieecodijaa", sum := "91c2130e2f2f6e24f01f89e2f2a90e0f0cb60fdd4032ed3fc76b300fa9257ee6", func := "casket/casketlaw10.PadSizes", spec := "padSizes", apart := false, narrowed := true }
def PadSizesUptoSaid : Prop := padSizesUptoRow.holds Try.pinned (OpenSpec.upto padSizesSpec)

/-- 'casketlaw08.CodecLimits', WHERE WHAT IT READS IS OF BULK AT MOST 1048576: true; the input reads as it did. -/
def codecLimitsUptoRow : OpenClaim := { program := "ytinpeieecodijaa", sum := "91c2130e2f2f6e24f01f89e2f2a90e0f0cb60fdd4032ed3fc76b300fa9257ee6", func := "casket/casketlaw08.CodecLimits", spec := "codecLimits", apart := false, narrowed := true }
def CodecLimitsUptoSaid : Prop := codecLimitsUptoRow.holds Try.pinned (OpenSpec.upto codecLimitsSpec)

/-- 'casketlaw08.CodecTakes', WHERE WHAT IT READS IS OF BULK AT MOST 1048576: true; the input reads as it did. -/
def codecTakesUptoRow : OpenClaim := { program := "ytinpeieecodijaa", sum := "91c2130e2f2f6e24f01f89e2f2a90e0f0cb60fdd4032ed3fc76b300fa9257ee6", func := "casket/casketlaw08.CodecTakes", spec := "codecTakes", apart := false, narrowed := true }
def CodecTakesUptoSaid : Prop := codecTakesUptoRow.holds Try.pinned (OpenSpec.upto codecTakesSpec)

/-- 'casketlaw08.CodecBack', WHERE WHAT IT READS IS OF BULK AT MOST 1048576: true; the input reads as it did. -/
def codecBackUptoRow : OpenClaim := { program := "ytinpeieecodijaa", sum := "91c2130e2f2f6e24f01f89e2f2a90e0f0cb60fdd4032ed3fc76b300fa9257ee6", func := "casket/casketlaw08.CodecBack", spec := "codecBack", apart := false, narrowed := true }
def CodecBackUptoSaid : Prop := codecBackUptoRow.holds Try.pinned (OpenSpec.upto codecBackSpec)

/-- 'casketlaw10.PadBack', WHERE WHAT IT READS IS OF BULK AT MOST 1048576: true; the input reads as it did. -/
def padBackUptoRow : OpenClaim := { program := "ytinpeieecodijaa", sum := "91c2130e2f2f6e24f01f89e2f2a90e0f0cb60fdd4032ed3fc76b300fa9257ee6", func := "casket/casketlaw10.PadBack", spec := "padBack", apart := false, narrowed := true }
def PadBackUptoSaid : Prop := padBackUptoRow.holds Try.pinned (OpenSpec.upto padBackSpec)

/-- 'casketlaw10.PadCuts', WHERE WHAT IT READS IS OF BULK AT MOST 1048576: true; the input reads as it did. -/
def padCutsUptoRow : OpenClaim := { program := "ytinpeieecodijaa", sum := "91c2130e2f2f6e24f01f89e2f2a90e0f0cb60fdd4032ed3fc76b300fa9257ee6", func := "casket/casketlaw10.PadCuts", spec := "padCuts", apart := false, narrowed := true }
def PadCutsUptoSaid : Prop := padCutsUptoRow.holds Try.pinned (OpenSpec.upto padCutsSpec)

end Rows
end Go.Proofs.Ytinpeieecodijaa
