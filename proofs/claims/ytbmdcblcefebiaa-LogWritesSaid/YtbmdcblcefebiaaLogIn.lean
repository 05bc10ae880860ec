/- casketlaw17's inputs, opened: records, Acts, Falls. -/
import Derived.Test.YtbmdcblcefebiaaOpenRows
import Derived.Test.YtbmdcblcefebiaaLogD
import Derived.Test.YtbmdcblcefebiaaDiskCrash
import Derived.Deep.Grids
namespace Go.Proofs.Ytbmdcblcefebiaa
open Go.ChangeShapes Go.WideShapes Go.ChangeAt Go.RowKit Go.Deep
instance : Inhabited MsgD := ⟨⟨undef, []⟩⟩
/-- A slice that stands within something that came in. -/
theorem rows_of_trod {H : Type} {enc : TypeId × Value → H} {W : World} {fuel : Nat} {cs : List Value} {x : DataW H × List MemPlace} {t e : TypeId} {n : Nat} (ht : Try.prog.underlying t = some (.slice e)) (hn : Try.prog.cellsOf e = n) (hpos : 0 < n)
    {Y : Type} [Inhabited Y] (rec : Y → List Value) (Q : Y → Prop)
    (elt : ∀ (fuel : Nat) (cs : List Value) (x : DataW H × List MemPlace), cs.length = n → DataW.trod enc Try.prog W 0 (fun _ => true) true fuel e cs = some x → ∃ y, cs = rec y ∧ Q y)
    (h : DataW.trod enc Try.prog W 0 (fun _ => true) true fuel t cs = some x) : ∃ (v : Value) (ys : List Y), cs = [v] ∧ RowsAt W v n rec ys ∧ ∀ y ∈ ys, Q y := by
  rcases open_slice ht h with ⟨rfl, _⟩ | ⟨a, len, cap, m, n', D, Pl, rfl, _⟩
  · obtain ⟨ys, h1, h2⟩ := open_rows (d := x.1) (p := x.2) ht hn hpos rec Q elt ⟨fuel, h⟩
    exact ⟨_, ys, rfl, h1, h2⟩
  · obtain ⟨ys, h1, h2⟩ := open_rows (d := x.1) (p := x.2) ht hn hpos rec Q elt ⟨fuel, h⟩
    exact ⟨_, ys, rfl, h1, h2⟩
theorem MsgsAt.of_rows {w : World} {v : Value} {ys : List MsgD} (h : RowsAt w v 1 msgC ys) (hb : ∀ y ∈ ys, Bsl w y.v y.l) : MsgsAt w v ys := by
  obtain ⟨ao, cap, rfl, h1, h2, h3, h4⟩ := h
  refine ⟨ao, cap, rfl, h1, h2, fun hne => ?_, hb⟩
  obtain ⟨b, off, rfl, hc⟩ := h4 hne
  refine ⟨b, off, rfl, fun j hj => ?_⟩
  have := hc j hj 0 (by omega)
  rw [Nat.mul_one, Nat.add_zero] at this
  exact this
theorem msg_of_trod {H : Type} {enc : TypeId × Value → H} {W : World} (fuel : Nat) (cs : List Value) (x : DataW H × List MemPlace) (_ : cs.length = 1)
    (ht : DataW.trod enc Try.prog W 0 (fun _ => true) true fuel 37 cs = some x) : ∃ y : MsgD, cs = msgC y ∧ Bsl W y.v y.l := by
  obtain ⟨ao, l, c, t, hcs, hb⟩ := bytes_of_trod ht
  exact ⟨⟨.slice ao l c, t⟩, hcs, hb⟩
theorem open_recs {H : Type} {enc : TypeId × Value → H} {W : World} {a : Option Addr} {len cap : Nat} {d : DataW H} {p : List MemPlace}
    (h : DataW.Trod enc Try.prog W 0 (fun _ => true) true 22 (.slice a len cap) d p) : ∃ ys, MsgsAt W (.slice a len cap) ys := by
  obtain ⟨ys, h1, h2⟩ := open_rows Try.underlying22 (n := 1) (by kernel_rfl) (by omega) msgC (fun y => Bsl W y.v y.l) msg_of_trod h
  exact ⟨ys, MsgsAt.of_rows h1 h2⟩
structure LAct where
  rep : Bool
  rv : Value
  recs : List MsgD
instance : Inhabited LAct := ⟨⟨false, undef, []⟩⟩
def lactC (y : LAct) : List Value := [.bool y.rep, y.rv]
def LActsAt (w : World) (v : Value) (ys : List LAct) : Prop := RowsAt w v 2 lactC ys ∧ ∀ y ∈ ys, MsgsAt w y.rv y.recs
theorem trod_struct2 {H : Type} {enc : TypeId × Value → H} {P : Program} {w : World} {base : Nat} {spare : Nat → Bool} {held : Bool} {t : TypeId} {f0 f1 : Field} {fuel : Nat} {cs : List Value} {x : DataW H × List MemPlace} (ht : P.underlying t = some (.struct #[f0, f1])) (h : DataW.trod enc P w base spare held fuel t cs = some x) :
    ∃ y0 y1 n, DataW.trod enc P w base spare held n f0.type ((cs.drop f0.offset).take (P.cellsOf f0.type)) = some y0 ∧ DataW.trod enc P w base spare held n f1.type ((cs.drop f1.offset).take (P.cellsOf f1.type)) = some y1 := by
  obtain ⟨xs, n, _, rfl, hl, hlen, hf⟩ := DataW.trod_struct ht h
  match xs, hlen with
  | [y0, y1], _ => exact ⟨y0, y1, n, by simpa using hf 0 f0 rfl, by simpa using hf 1 f1 rfl⟩
theorem list2 {α : Type} {cs : List α} (h : cs.length = 2) : ∃ c0 c1, cs = [c0, c1] := by
  match cs, h with
  | [c0, c1], _ => exact ⟨c0, c1, rfl⟩
theorem lact_of_trod {H : Type} {enc : TypeId × Value → H} {W : World} (fuel : Nat) (cs : List Value) (x : DataW H × List MemPlace) (hlen : cs.length = 2)
    (ht : DataW.trod enc Try.prog W 0 (fun _ => true) true fuel 55 cs = some x) : ∃ y : LAct, cs = lactC y ∧ MsgsAt W y.rv y.recs := by
  have hcb : Try.prog.cellsOf 4 = 1 := by kernel_rfl
  have hcr : Try.prog.cellsOf 22 = 1 := by kernel_rfl
  obtain ⟨y0, y1, n', t0, t1⟩ := trod_struct2 Try.underlying55 ht
  obtain ⟨u0, u1, rfl⟩ := list2 hlen
  simp only [hcb, hcr] at t0 t1
  obtain ⟨k0, h0, _⟩ := DataW.trod_bool Try.underlying4 t0
  obtain ⟨v, ys, h1, r1, r2⟩ := rows_of_trod Try.underlying22 (n := 1) (by kernel_rfl) (by omega) msgC (fun y => Bsl W y.v y.l) msg_of_trod t1
  simp at h0 h1
  subst h0 h1
  exact ⟨⟨k0, _, ys⟩, rfl, MsgsAt.of_rows r1 r2⟩
theorem open_lacts {H : Type} {enc : TypeId × Value → H} {W : World} {a : Option Addr} {len cap : Nat} {d : DataW H} {p : List MemPlace}
    (h : DataW.Trod enc Try.prog W 0 (fun _ => true) true 49 (.slice a len cap) d p) : ∃ ys, LActsAt W (.slice a len cap) ys :=
  open_rows Try.underlying49 (n := 2) (by kernel_rfl) (by omega) lactC (fun y => MsgsAt W y.rv y.recs) lact_of_trod h
end Go.Proofs.Ytbmdcblcefebiaa
