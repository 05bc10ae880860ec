/- A slice that came in, of whatever elements, opened; structs of five fields. -/
import Derived.Test.YtjhocaleampamaaDoorOpen
import Derived.Deep.Slices
import Derived.Deep.Strs
import Derived.Lib.SmallJoins
namespace Go.Proofs.YtjhocaleampamaaDoor
open Go.ChangeShapes Go.WideShapes Go.ChangeAt Go.RowKit Go.Deep
/-- v is a slice of the elements ys, each laid out as rec tells, n cells each. -/
def RowsAt {Y : Type} (w : World) (v : Value) (n : Nat) (rec : Y → List Value) (ys : List Y) : Prop :=
  ∃ ao cap, v = .slice ao ys.length cap ∧ ys.length ≤ cap ∧ cap ≤ 9223372036854775807 ∧ (ao = none → cap = 0) ∧
    (ys ≠ [] → ∃ b off, ao = some ⟨b, off, none⟩ ∧ ∀ i (h : i < ys.length) j, j < n → w.cell? ⟨b, off + i * n + j, none⟩ = (rec ys[i])[j]?)
theorem open_rows {H : Type} {enc : TypeId × Value → H} {W : World} {a : Option Addr} {len cap : Nat} {d : DataW H} {p : List MemPlace} {t e : TypeId} {n : Nat} (ht : Tryd.prog.underlying t = some (.slice e)) (hn : Tryd.prog.cellsOf e = n) (hpos : 0 < n)
    {Y : Type} [Inhabited Y] (rec : Y → List Value) (Q : Y → Prop)
    (elt : ∀ (fuel : Nat) (cs : List Value) (x : DataW H × List MemPlace), cs.length = n → DataW.trod enc Tryd.prog W 0 (fun _ => true) true fuel e cs = some x → ∃ y, cs = rec y ∧ Q y)
    (h : DataW.Trod enc Tryd.prog W 0 (fun _ => true) true t (.slice a len cap) d p) : ∃ ys : List Y, RowsAt W (.slice a len cap) n rec ys ∧ ∀ y ∈ ys, Q y := by
  obtain ⟨fuel, hf⟩ := h
  rcases open_slice ht hf with ⟨hcs, _⟩ | ⟨x, len', cap', m, n', D, Pl, hcs, _, hl, hm, hmm, _, hel⟩
  · simp [Value.cells] at hcs
    obtain ⟨rfl, rfl, rfl⟩ := hcs
    exact ⟨[], ⟨none, 0, rfl, by simp, by omega, fun _ => rfl, by simp⟩, by simp⟩
  · simp [Value.cells] at hcs
    obtain ⟨rfl, rfl, rfl⟩ := hcs
    simp only [if_true] at hmm
    have key : ∀ i, i < len → ∃ y : Y, (∀ j, j < n → W.cell? ((x.add (i * n)).add j) = (rec y)[j]? ∧ j < (rec y).length) ∧ Q y := by
      intro i hi
      obtain ⟨cs', hcs', ht⟩ := hel i (by omega)
      rw [hn] at hcs'
      obtain ⟨_, hlen, hget⟩ := World.cells?_some hcs'
      obtain ⟨y, rfl, hq⟩ := elt _ _ _ hlen ht
      exact ⟨y, fun j hj => ⟨hget j hj, by rw [hlen]; exact hj⟩, hq⟩
    obtain ⟨f, hfn⟩ := choose_lt key
    refine ⟨(List.range len).map f, ⟨some x, cap, by simp, by simpa using hl, by unfold maxLen at hm; omega, by simp, fun hne => ?_⟩, ?_⟩
    · have hp0 : 0 < len := by
        rcases Nat.eq_zero_or_pos len with h0 | h0
        · subst h0; simp at hne
        · exact h0
      obtain ⟨b, off, spot⟩ := x
      have h00 := (hfn 0 hp0).1 0 hpos
      rw [List.getElem?_eq_getElem h00.2] at h00
      have hspot : spot = none := by have := World.cell?_spot h00.1; simpa [Addr.add] using this
      subst hspot
      refine ⟨b, off, rfl, fun i hi j hj => ?_⟩
      have hi' : i < len := by simpa using hi
      have := ((hfn i hi').1 j hj).1
      simp only [Addr.add_lit] at this
      simpa using this
    · intro y hy
      obtain ⟨i, hi, rfl⟩ := List.mem_map.1 hy
      exact (hfn i (by simpa using hi)).2
theorem trod_struct5 {H : Type} {enc : TypeId × Value → H} {P : Program} {w : World} {base : Nat} {spare : Nat → Bool} {held : Bool} {t : TypeId} {f0 f1 f2 f3 f4 : Field} {fuel : Nat} {cs : List Value} {x : DataW H × List MemPlace} (ht : P.underlying t = some (.struct #[f0, f1, f2, f3, f4])) (h : DataW.trod enc P w base spare held fuel t cs = some x) :
    ∃ y0 y1 y2 y3 y4 n, DataW.trod enc P w base spare held n f0.type ((cs.drop f0.offset).take (P.cellsOf f0.type)) = some y0 ∧
      DataW.trod enc P w base spare held n f1.type ((cs.drop f1.offset).take (P.cellsOf f1.type)) = some y1 ∧ DataW.trod enc P w base spare held n f2.type ((cs.drop f2.offset).take (P.cellsOf f2.type)) = some y2 ∧
      DataW.trod enc P w base spare held n f3.type ((cs.drop f3.offset).take (P.cellsOf f3.type)) = some y3 ∧ DataW.trod enc P w base spare held n f4.type ((cs.drop f4.offset).take (P.cellsOf f4.type)) = some y4 := by
  obtain ⟨xs, n, _, rfl, hl, hlen, hf⟩ := DataW.trod_struct ht h
  match xs, hlen with
  | [y0, y1, y2, y3, y4], _ => exact ⟨y0, y1, y2, y3, y4, n, by simpa using hf 0 f0 rfl, by simpa using hf 1 f1 rfl, by simpa using hf 2 f2 rfl, by simpa using hf 3 f3 rfl, by simpa using hf 4 f4 rfl⟩
theorem list5 {α : Type} {cs : List α} (h : cs.length = 5) : ∃ c0 c1 c2 c3 c4, cs = [c0, c1, c2, c3, c4] := by
  match cs, h with
  | [c0, c1, c2, c3, c4], _ => exact ⟨c0, c1, c2, c3, c4, rfl⟩
end Go.Proofs.YtjhocaleampamaaDoor
