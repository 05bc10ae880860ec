/-
  No cell of these rows narrows 'for every input' (looked for: loops, veiled, ifaces, maps, wideKeys, modest, calm, conditions, laid).
  DERIVED. THE GIVEN ROWS OF THIS SEAT. 4 by the template 'for every input the law returns true; each argument reads behind the call as it read before'; 0 by the template 'total and deterministic' (their statements: YtbmdcblcefebiaaTotals.lean).
  GIVEN WITH THE SEED: the statements are not yours to turn. If you find one false, say at which input.
  Laid BY PROGRAM, IN A SANDBOX (cutbox-rows.mjs): the forced cells as the released guide's own fill.sh prints them over the translation ecdbc3db76da567a… (all of the seat's roots in one cut). By AI agents, Wed Nov 11 2026. No macro, syntax, notation, axiom, sorry.
-/
import Derived.Test.YtbmdcblcefebiaaChecked
import GoSem.Claim
import GoSem.ClaimJoined
import GoSem.ClaimMapViews
import Derived.JoinedTies
import Derived.KernelRfl
namespace Go.Proofs.Ytbmdcblcefebiaa
/- THE CELL 'sum', in the pinned program and in every row, IS THE sha256 OF THE DUMP (.gsa) THAT YtbmdcblcefebiaaProg.lean LOADS. Nothing in Lean hashes anything: it is a label: what it is worth is what the hold of that sum in a sandbox is worth. -/
noncomputable def Try.pinned : Pinned := { name := "ytbmdcblcefebiaa", sum := "ecdbc3db76da567ae3ac48d6ce41027c39d042c347e4bbbe758312cd37f540e1", checked := Try.checked }
namespace Rows
def none {H : Type} : Left H := { results := [], args := [] }

/-- 'casketlaw17.LogEnds': WHATEVER THE INPUT: true; the input reads as it did. -/
def logEndsSpec : ChangeSpec := { name := "logEnds", fn := fun _ => fun
  | [d1, d2, d3] => { results := [.lit (.bool true)], args := [d1, d2, d3] }
  | _ => none }
def logEndsRow : OpenClaim := { program := "ytbmdcblcefebiaa", sum := "ecdbc3db76da567ae3ac48d6ce41027c39d042c347e4bbbe758312cd37f540e1", func := "casket/casketlaw17.LogEnds", spec := "logEnds", apart := false }
def LogEndsSaid : Prop := logEndsRow.holds Try.pinned (OpenSpec.ofChange logEndsSpec)

/-- ITS FALSE NEIGHBOUR: 'it returns false'. Refute it at one input. -/
def logEndsWrong : ChangeSpec := { name := "logEnds", fn := fun _ => fun
  | [d1, d2, d3] => { results := [.lit (.bool false)], args := [d1, d2, d3] }
  | _ => none }
def LogEndsWrongFalsely : Prop := logEndsRow.holds Try.pinned (OpenSpec.ofChange logEndsWrong)

/-- 'casketlaw17.LogFalls': WHATEVER THE INPUT: true; the input reads as it did. -/
def logFallsSpec : ChangeSpec := { name := "logFalls", fn := fun _ => fun
  | [d] => { results := [.lit (.bool true)], args := [d] }
  | _ => none }
def logFallsRow : OpenClaim := { program := "ytbmdcblcefebiaa", sum := "ecdbc3db76da567ae3ac48d6ce41027c39d042c347e4bbbe758312cd37f540e1", func := "casket/casketlaw17.LogFalls", spec := "logFalls", apart := false }
def LogFallsSaid : Prop := logFallsRow.holds Try.pinned (OpenSpec.ofChange logFallsSpec)

/-- ITS FALSE NEIGHBOUR: 'it returns false'. Refute it at one input. -/
def logFallsWrong : ChangeSpec := { name := "logFalls", fn := fun _ => fun
  | [d] => { results := [.lit (.bool false)], args := [d] }
  | _ => none }
def LogFallsWrongFalsely : Prop := logFallsRow.holds Try.pinned (OpenSpec.ofChange logFallsWrong)

/-- 'casketlaw17.LogFills': WHATEVER THE INPUT: true; the input reads as it did. -/
def logFillsSpec : ChangeSpec := { name := "logFills", fn := fun _ => fun
  | [d1, d2] => { results := [.lit (.bool true)], args := [d1, d2] }
  | _ => none }
def logFillsRow : OpenClaim := { program := "ytbmdcblcefebiaa", sum := "ecdbc3db76da567ae3ac48d6ce41027c39d042c347e4bbbe758312cd37f540e1", func := "casket/casketlaw17.LogFills", spec := "logFills", apart := false }
def LogFillsSaid : Prop := logFillsRow.holds Try.pinned (OpenSpec.ofChange logFillsSpec)

/-- ITS FALSE NEIGHBOUR: 'it returns false'. Refute it at one input. -/
def logFillsWrong : ChangeSpec := { name := "logFills", fn := fun _ => fun
  | [d1, d2] => { results := [.lit (.bool false)], args := [d1, d2] }
  | _ => none }
def LogFillsWrongFalsely : Prop := logFillsRow.holds Try.pinned (OpenSpec.ofChange logFillsWrong)

/-- 'casketlaw17.LogWrites': WHATEVER THE INPUT: true; the input reads as it did. -/
def logWritesSpec : ChangeSpec := { name := "logWrites", fn := fun _ => fun
  | [d1, d2] => { results := [.lit (.bool true)], args := [d1, d2] }
  | _ => none }
def logWritesRow : OpenClaim := { program := "ytbmdcblcefebiaa", sum := "ecdbc3db76da567ae3ac48d6ce41027c39d042c347e4bbbe758312cd37f540e1", func := "casket/casketlaw17.LogWrites", spec := "logWrites", apart := false }
def LogWritesSaid : Prop := logWritesRow.holds Try.pinned (OpenSpec.ofChange logWritesSpec)

/-- ITS FALSE NEIGHBOUR: 'it returns false'. Refute it at one input. -/
def logWritesWrong : ChangeSpec := { name := "logWrites", fn := fun _ => fun
  | [d1, d2] => { results := [.lit (.bool false)], args := [d1, d2] }
  | _ => none }
def LogWritesWrongFalsely : Prop := logWritesRow.holds Try.pinned (OpenSpec.ofChange logWritesWrong)

/- THE SECOND FORM. 'bulk': how many values and letters a reading holds, each counted each time it is reached (what is shared counts as often as it is met; a slice's spare places count too). A statement '..UptoSaid' is the law's where the arguments, and the package variables that the reading takes, are together of bulk at most 1048576: NARROWER than '..Said'. Prove '..Said' where nothing that the law and all that it calls make is longer than what came in: it says more and counts as full. Else prove '..UptoSaid'. A law counts once. -/
mutual
def uptoBulk {H : Type} : DataW H → Nat
  | .lit (.string bytes) => bytes.length + 1
  | .lit _ => 1
  | .nil => 1
  | .ptr d => uptoBulk d + 1
  | .slice elems spare => uptoBulkAll elems + uptoBulkAll spare + 1
  | .agg parts => uptoBulkAll parts + 1
  | .iface _ d => uptoBulk d + 1
  | .map entries => uptoBulkEntries entries + 1
  | .held _ => 1
def uptoBulkAll {H : Type} : List (DataW H) → Nat
  | [] => 0
  | d :: r => uptoBulk d + uptoBulkAll r
def uptoBulkEntries {H : Type} : List (Lit × DataW H) → Nat
  | [] => 0
  | x :: r => uptoBulkEntry x + uptoBulkEntries r
def uptoBulkEntry {H : Type} : Lit × DataW H → Nat
  | (.string bytes, d) => bytes.length + uptoBulk d + 1
  | (_, d) => uptoBulk d + 1
 end
def uptoSmall : (H : Type) → List (DataW H) → Bool := fun _ ds => decide (uptoBulkAll ds ≤ 1048576)
def OpenSpec.upto (s : _root_.Go.ChangeSpec) : _root_.Go.OpenSpec := { _root_.Go.OpenSpec.ofChange s with cond := some uptoSmall }

/-- 'casketlaw17.LogEnds', WHERE WHAT IT READS IS OF BULK AT MOST 1048576: true; the input reads as it did. -/
def logEndsUptoRow : OpenClaim := { program := "ytbmdcblcefebiaa", sum := "ecdbc3db76da567ae3ac48d6ce41027c39d042c347e4bbbe758312cd37f540e1", func := "casket/casketlaw17.LogEnds", spec := "logEnds", apart := false, narrowed := true }
def LogEndsUptoSaid : Prop := logEndsUptoRow.holds Try.pinned (OpenSpec.upto logEndsSpec)

/-- 'casketlaw17.LogFalls', WHERE WHAT IT READS IS OF BULK AT MOST 1048576: true; the input reads as it did. -/
def logFallsUptoRow : OpenClaim := { program := "ytbmdcblcefebiaa", sum := "ecdbc3db76da567ae3ac48d6ce41027c39d042c347e4bbbe758312cd37f540e1", func := "casket/casketlaw17.LogFalls", spec := "logFalls", apart := false, narrowed := true }
def LogFallsUptoSaid : Prop := logFallsUptoRow.holds Try.pinned (OpenSpec.upto logFallsSpec)

/-- 'casketlaw17.LogFills', WHERE WHAT IT READS IS OF BULK AT MOST 1048576: true; the input reads as it did. -/
def logFillsUptoRow : OpenClaim := { program := "ytbmdcblcefebiaa", sum := "ecdbc3db76da567ae3ac48d6ce41027c39d042c347e4bbbe758312cd37f540e1", func := "casket/casketlaw17.LogFills", spec := "logFills", apart := false, narrowed := true }
def LogFillsUptoSaid : Prop := logFillsUptoRow.holds Try.pinned (OpenSpec.upto logFillsSpec)

/-- 'casketlaw17.LogWrites', WHERE WHAT IT READS IS OF BULK AT MOST 1048576: true; the input reads as it did. -/
def logWritesUptoRow : OpenClaim := { program := "ytbmdcblcefebiaa", sum := "ecdbc3db76da567ae3ac48d6ce41027c39d042c347e4bbbe758312cd37f540e1", func := "casket/casketlaw17.LogWrites", spec := "logWrites", apart := false, narrowed := true }
def LogWritesUptoSaid : Prop := logWritesUptoRow.holds Try.pinned (OpenSpec.upto logWritesSpec)

end Rows
end Go.Proofs.Ytbmdcblcefebiaa
