/- A slice of casketlaw16's Acts that came in. -/
import Derived.Test.YtdhgilpdghohoaaOpenRows
import Derived.Test.YtdhgilpdghohoaaDiskCrash
import Derived.Deep.Grids
namespace Go.Proofs.Ytdhgilpdghohoaa
open Go.ChangeShapes Go.WideShapes Go.ChangeAt Go.RowKit Go.Deep
structure ActD where
  what : Int
  at_ : Int
  by_ : UInt8
  n : Int
  sv : Value
  stay : List Bool
instance : Inhabited ActD := ⟨⟨0, 0, 0, 0, undef, []⟩⟩
def actC (y : ActD) : List Value := [.int .i64 y.what, .int .i64 y.at_, .int .u8 y.by_.toNat, .int .i64 y.n, y.sv]
def actOk (W : World) (y : ActD) : Prop := (-9223372036854775808 ≤ y.what ∧ y.what ≤ 9223372036854775807) ∧ (-9223372036854775808 ≤ y.at_ ∧ y.at_ ≤ 9223372036854775807) ∧ (-9223372036854775808 ≤ y.n ∧ y.n ≤ 9223372036854775807) ∧ BoolSl W y.sv y.stay
def ActsAt (w : World) (v : Value) (ys : List ActD) : Prop := RowsAt w v 5 actC ys ∧ ∀ y ∈ ys, actOk w y
theorem bools_of_trod {H : Type} {enc : TypeId × Value → H} {W : World} {fuel : Nat} {cs : List Value} {x : DataW H × List MemPlace}
    (h : DataW.trod enc Try.prog W 0 (fun _ => true) true fuel 30 cs = some x) : ∃ v l, cs = [v] ∧ BoolSl W v l := by
  rcases open_bools Try.underlying30 Try.underlying4 (by kernel_rfl) h with ⟨rfl, hx⟩ | ⟨a, len, cap, B, rfl, _, hl, hm, _, hc⟩
  · exact ⟨_, [], rfl, BoolSl.nil _⟩
  · refine ⟨_, (List.range len).map B, rfl, some a, cap, by simp, by simpa using hl, by unfold maxLen at hm; omega, fun hne => ?_⟩
    have hp : 0 < len := by
      rcases Nat.eq_zero_or_pos len with h0 | h0
      · subst h0; simp at hne
      · exact h0
    obtain ⟨b, off, spot⟩ := a
    have hspot : spot = none := by have := World.cell?_spot (hc 0 (by omega)); simpa [Addr.add] using this
    subst hspot
    refine ⟨b, off, rfl, fun j hj => ?_⟩
    have hj' : j < len := by simpa using hj
    have := hc j (by omega)
    rw [Addr.add_lit] at this
    rw [this]; simp
theorem open_bool_slice {H : Type} {enc : TypeId × Value → H} {W : World} {a : Option Addr} {len cap : Nat} {d : DataW H} {p : List MemPlace}
    (h : DataW.Trod enc Try.prog W 0 (fun _ => true) true 30 (.slice a len cap) d p) : ∃ l, BoolSl W (.slice a len cap) l := by
  obtain ⟨fuel, hf⟩ := h
  obtain ⟨v, l, hv, hl⟩ := bools_of_trod (x := (d, p)) hf
  simp [Value.cells] at hv
  subst hv
  exact ⟨l, hl⟩
theorem open_acts {H : Type} {enc : TypeId × Value → H} {W : World} {a : Option Addr} {len cap : Nat} {d : DataW H} {p : List MemPlace}
    (h : DataW.Trod enc Try.prog W 0 (fun _ => true) true 22 (.slice a len cap) d p) : ∃ ys, ActsAt W (.slice a len cap) ys := by
  refine open_rows Try.underlying22 (n := 5) (by kernel_rfl) (by omega) actC (actOk W) ?_ h
  intro fuel cs x hlen ht
  have hc3 : Try.prog.cellsOf 3 = 1 := by kernel_rfl
  have hc5 : Try.prog.cellsOf 5 = 1 := by kernel_rfl
  have hcb : Try.prog.cellsOf 30 = 1 := by kernel_rfl
  obtain ⟨y0, y1, y2, y3, y4, n', t0, t1, t2, t3, t4⟩ := trod_struct5 Try.underlying32 ht
  obtain ⟨u0, u1, u2, u3, u4, rfl⟩ := list5 hlen
  simp only [hc3, hc5, hcb] at t0 t1 t2 t3 t4
  obtain ⟨k0, h0, _, w0⟩ := DataW.trod_int Try.underlying3 t0
  obtain ⟨k1, h1, _, w1⟩ := DataW.trod_int Try.underlying3 t1
  obtain ⟨k2, h2, _, w2⟩ := DataW.trod_int Try.underlying5 t2
  obtain ⟨k3, h3, _, w3⟩ := DataW.trod_int Try.underlying3 t3
  obtain ⟨v4, l4, h4, b4⟩ := bools_of_trod t4
  simp at h0 h1 h2 h3 h4
  subst h0 h1 h2 h3 h4
  have hb : 0 ≤ k2 ∧ k2 ≤ 255 := by
    simp only [Lit.wf, IntKind.min, IntKind.max, IntKind.signed, IntKind.bits, Bool.and_eq_true] at w2
    simp at w2; omega
  refine ⟨⟨k0, k1, UInt8.ofNat k2.toNat, k3, _, l4⟩, ?_, int_of_wf w0, int_of_wf w1, int_of_wf w3, b4⟩
  simp [actC]
  omega
end Go.Proofs.Ytdhgilpdghohoaa
