/- A slice of casketlaw08's Parts that came in. -/
import Derived.Test.YtinpeieecodijaaLawCodecPuts
import Derived.Test.YtinpeieecodijaaOpen
import Derived.Deep.Slices
import Derived.Deep.Strs
namespace Go.Proofs.Ytinpeieecodijaa
open Go.ChangeShapes Go.WideShapes Go.ChangeAt Go.RowKit Go.Deep
open Go.ChangeMaps (open_string shut_string)
theorem open_parts {H : Type} {enc : TypeId × Value → H} {W : World} {a : Option Addr} {len cap : Nat} {d : DataW H} {p : List MemPlace}
    (h : DataW.Trod enc Try.prog W 0 (fun _ => true) true 22 (.slice a len cap) d p) : ∃ ps, PartsAt W (.slice a len cap) ps := by
  obtain ⟨fuel, hf⟩ := h
  rcases open_slice Try.underlying22 hf with ⟨hcs, _⟩ | ⟨x, len', cap', m, n, D, Pl, hcs, _, hl, hm, hmm, _, hel⟩
  · simp [Value.cells] at hcs
    obtain ⟨rfl, rfl, rfl⟩ := hcs
    exact ⟨[], none, 0, rfl, by simp, by omega, fun _ => rfl, by simp, by simp⟩
  · simp [Value.cells] at hcs
    obtain ⟨rfl, rfl, rfl⟩ := hcs
    simp only [if_true] at hmm
    have hco : Try.prog.cellsOf 35 = 3 := by kernel_rfl
    have hc3 : Try.prog.cellsOf 3 = 1 := by kernel_rfl
    have hcb : Try.prog.cellsOf 24 = 1 := by kernel_rfl
    have key : ∀ i, i < len → ∃ y : PartD, (W.cell? ((x.add (i * 3)).add 0) = some (.int .i64 y.kind) ∧ W.cell? ((x.add (i * 3)).add 1) = some (.int .i64 y.num) ∧ W.cell? ((x.add (i * 3)).add 2) = some y.tv) ∧ ((-9223372036854775808 ≤ y.num ∧ y.num ≤ 9223372036854775807) ∧ Bsl W y.tv y.text) := by
      intro i hi
      obtain ⟨cs', hcs', ht⟩ := hel i (by omega)
      rw [hco] at hcs'
      obtain ⟨_, hlen, hget⟩ := World.cells?_some hcs'
      obtain ⟨y0, y1, y2, n', _, _, t0, t1, t2⟩ := trod_struct3 Try.underlying35 ht
      match cs', hlen with
      | [u0, u1, u2], _ =>
        simp only [hc3, hcb] at t0 t1 t2
        obtain ⟨k, hk, _, _⟩ := DataW.trod_int Try.underlying3 t0
        obtain ⟨nn, hn, _, hnw⟩ := DataW.trod_int Try.underlying3 t1
        obtain ⟨ao, l', c', tx, hb, hB⟩ := bytes_of_trod t2
        simp at hk hn hb
        subst hk hn hb
        have e0 := hget 0 (by omega)
        have e1 := hget 1 (by omega)
        have e2 := hget 2 (by omega)
        refine ⟨⟨k, nn, .slice ao l' c', tx⟩, ⟨?_, ?_, ?_⟩, int_of_wf hnw, hB⟩
        · simpa using e0
        · simpa using e1
        · simpa using e2
    have hin : Inhabited PartD := ⟨⟨0, 0, undef, []⟩⟩
    obtain ⟨f, hfn⟩ := choose_lt key
    refine ⟨(List.range len).map f, some x, cap, by simp, by simpa using hl, by unfold maxLen at hm; omega, by simp, fun hne => ?_, ?_⟩
    · have hpos : 0 < len := by
        rcases Nat.eq_zero_or_pos len with h0 | h0
        · subst h0; simp at hne
        · exact h0
      obtain ⟨b, off, spot⟩ := x
      have hspot : spot = none := by have := World.cell?_spot (hfn 0 hpos).1.1; simpa [Addr.add] using this
      subst hspot
      refine ⟨b, off, rfl, fun i hi => ?_⟩
      have hi' : i < len := by simpa using hi
      have := (hfn i hi').1
      simp only [Addr.add_lit] at this
      simpa using this
    · intro y hy
      obtain ⟨i, hi, rfl⟩ := List.mem_map.1 hy
      exact (hfn i (by simpa using hi)).2
end Go.Proofs.Ytinpeieecodijaa
