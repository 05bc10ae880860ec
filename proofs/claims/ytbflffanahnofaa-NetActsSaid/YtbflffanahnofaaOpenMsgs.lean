/- A slice of slices of bytes that came in. -/
import Derived.Test.YtbflffanahnofaaOpenRows
import Derived.Test.YtbflffanahnofaaNetObj
namespace Go.Proofs.Ytbflffanahnofaa
open Go.ChangeShapes Go.WideShapes Go.ChangeAt Go.RowKit Go.Deep
instance : Inhabited MsgD := ⟨⟨undef, []⟩⟩
def MsgsAt (w : World) (v : Value) (ys : List MsgD) : Prop := RowsAt w v 1 msgC ys ∧ ∀ y ∈ ys, Bsl w y.v y.l
theorem open_msgs {H : Type} {enc : TypeId × Value → H} {W : World} {a : Option Addr} {len cap : Nat} {d : DataW H} {p : List MemPlace}
    (h : DataW.Trod enc Try.prog W 0 (fun _ => true) true 35 (.slice a len cap) d p) : ∃ ys, MsgsAt W (.slice a len cap) ys := by
  refine open_rows Try.underlying35 (n := 1) (by kernel_rfl) (by omega) msgC (fun y => Bsl W y.v y.l) ?_ h
  intro fuel cs x hlen ht
  obtain ⟨ao, l, c, t, hcs, hb⟩ := bytes_of_trod ht
  exact ⟨⟨.slice ao l c, t⟩, hcs, hb⟩
end Go.Proofs.Ytbflffanahnofaa
