/- A slice of casketlaw23's Acts that came in. -/
import Derived.Test.YtbflffanahnofaaOpenMsgs
import Derived.Deep.Grids
namespace Go.Proofs.Ytbflffanahnofaa
open Go.ChangeShapes Go.WideShapes Go.ChangeAt Go.RowKit Go.Deep
structure NAct where
  what : Int
  bx : Int
  k : Int
  bv : Value
  b : List UInt8
instance : Inhabited NAct := ⟨⟨0, 0, 0, undef, []⟩⟩
def nactC (y : NAct) : List Value := [.int .i64 y.what, .int .i64 y.bx, .int .i64 y.k, y.bv]
def NActsAt (w : World) (v : Value) (ys : List NAct) : Prop := RowsAt w v 4 nactC ys ∧ ∀ y ∈ ys, Bsl w y.bv y.b
theorem trod_struct4 {H : Type} {enc : TypeId × Value → H} {P : Program} {w : World} {base : Nat} {spare : Nat → Bool} {held : Bool} {t : TypeId} {f0 f1 f2 f3 : Field} {fuel : Nat} {cs : List Value} {x : DataW H × List MemPlace} (ht : P.underlying t = some (.struct #[f0, f1, f2, f3])) (h : DataW.trod enc P w base spare held fuel t cs = some x) :
    ∃ y0 y1 y2 y3 n, DataW.trod enc P w base spare held n f0.type ((cs.drop f0.offset).take (P.cellsOf f0.type)) = some y0 ∧
      DataW.trod enc P w base spare held n f1.type ((cs.drop f1.offset).take (P.cellsOf f1.type)) = some y1 ∧ DataW.trod enc P w base spare held n f2.type ((cs.drop f2.offset).take (P.cellsOf f2.type)) = some y2 ∧
      DataW.trod enc P w base spare held n f3.type ((cs.drop f3.offset).take (P.cellsOf f3.type)) = some y3 := by
  obtain ⟨xs, n, _, rfl, hl, hlen, hf⟩ := DataW.trod_struct ht h
  match xs, hlen with
  | [y0, y1, y2, y3], _ => exact ⟨y0, y1, y2, y3, n, by simpa using hf 0 f0 rfl, by simpa using hf 1 f1 rfl, by simpa using hf 2 f2 rfl, by simpa using hf 3 f3 rfl⟩
theorem list4 {α : Type} {cs : List α} (h : cs.length = 4) : ∃ c0 c1 c2 c3, cs = [c0, c1, c2, c3] := by
  match cs, h with
  | [c0, c1, c2, c3], _ => exact ⟨c0, c1, c2, c3, rfl⟩
theorem open_nacts {H : Type} {enc : TypeId × Value → H} {W : World} {a : Option Addr} {len cap : Nat} {d : DataW H} {p : List MemPlace}
    (h : DataW.Trod enc Try.prog W 0 (fun _ => true) true 37 (.slice a len cap) d p) : ∃ ys, NActsAt W (.slice a len cap) ys := by
  refine open_rows Try.underlying37 (n := 4) (by kernel_rfl) (by omega) nactC (fun y => Bsl W y.bv y.b) ?_ h
  intro fuel cs x hlen ht
  have hc3 : Try.prog.cellsOf 3 = 1 := by kernel_rfl
  have hcb : Try.prog.cellsOf 29 = 1 := by kernel_rfl
  obtain ⟨y0, y1, y2, y3, n', t0, t1, t2, t3⟩ := trod_struct4 Try.underlying44 ht
  obtain ⟨u0, u1, u2, u3, rfl⟩ := list4 hlen
  simp only [hc3, hcb] at t0 t1 t2 t3
  obtain ⟨k0, h0, _, w0⟩ := DataW.trod_int Try.underlying3 t0
  obtain ⟨k1, h1, _, w1⟩ := DataW.trod_int Try.underlying3 t1
  obtain ⟨k2, h2, _, w2⟩ := DataW.trod_int Try.underlying3 t2
  obtain ⟨ao, l, c, tx, h3, b3⟩ := bytes_of_trod t3
  simp at h0 h1 h2 h3
  subst h0 h1 h2 h3
  exact ⟨⟨k0, k1, k2, .slice ao l c, tx⟩, rfl, b3⟩
end Go.Proofs.Ytbflffanahnofaa
