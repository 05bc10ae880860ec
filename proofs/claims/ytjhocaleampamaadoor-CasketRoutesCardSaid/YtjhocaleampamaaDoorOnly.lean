/- What a call may turn: the blocks of a set S, and new ones. -/
import Derived.Test.YtjhocaleampamaaDoorBase
namespace Go.Proofs.YtjhocaleampamaaDoor
open Go.RowKit
/-- Of the blocks that were there, those of S alone may have turned. -/
structure Only (S : Nat → Prop) (w w' : World) : Prop where
  os : w'.os = w.os
  tape : w'.tape = w.tape
  output : w'.output = w.output
  size : w.heap.size ≤ w'.heap.size
  block : ∀ k, k < w.heap.size → ¬ S k → w'.heap[k]? = w.heap[k]?
theorem Only.refl (S : Nat → Prop) (w : World) : Only S w w := ⟨rfl, rfl, rfl, Nat.le_refl _, fun _ _ _ => rfl⟩
theorem Only.of_below {S : Nat → Prop} {w w' : World} (h : Below w.heap.size w w') : Only S w w' := ⟨h.os, h.tape, h.output, h.size, fun k hk _ => h.block k hk⟩
theorem Only.to_below {S : Nat → Prop} {w w' : World} {B : Nat} (h : Only S w w') (hB : B ≤ w.heap.size) (hS : ∀ k, S k → B ≤ k) : Below B w w' :=
  ⟨h.os, h.tape, h.output, h.size, fun k hk => h.block k (by omega) (fun hs => by have := hS k hs; omega)⟩
theorem Only.trans {S T : Nat → Prop} {a b c : World} (h : Only S a b) (k : Only T b c) (hT : ∀ i, i < a.heap.size → T i → S i) : Only S a c :=
  ⟨k.os.trans h.os, k.tape.trans h.tape, k.output.trans h.output, Nat.le_trans h.size k.size, fun i hi hn =>
    (k.block i (Nat.lt_of_lt_of_le hi h.size) (fun ht => hn (hT i hi ht))).trans (h.block i hi hn)⟩
theorem Only.mono {S T : Nat → Prop} {a b : World} (h : Only S a b) (hT : ∀ i, i < a.heap.size → S i → T i) : Only T a b :=
  ⟨h.os, h.tape, h.output, h.size, fun i hi hn => h.block i hi (fun hs => hn (hT i hi hs))⟩
theorem Only.of_grown {S : Nat → Prop} {w w' : World} {row : Option Nat} (h : w.grownBy w' row) (hr : ∀ k, row = some k → S k) : Only S w w' :=
  ⟨h.os, h.tape, h.output, h.size, fun k hk hn => h.block k hk (fun he => hn (hr k he.symm))⟩
theorem Only.setCell {S : Nat → Prop} {a w : World} (h : Only S a w) {p : Addr} (hp : p.block < a.heap.size → S p.block) (u : Value) : Only S a (w.setCell p u) :=
  ⟨h.os, h.tape, h.output, by simpa [World.setCell] using h.size, fun k hk hn => by
    rw [Below.heap_setCell _ _ _ _ (by rintro rfl; exact hn (hp hk))]; exact h.block k hk hn⟩
theorem Only.drew {S : Nat → Prop} {a w : World} (h : Only S a w) : Only S a w.drew := ⟨h.os, h.tape, h.output, h.size, h.block⟩
theorem Only.cell {S : Nat → Prop} {w w' : World} (h : Only S w w') {p : Addr} (hp : p.block < w.heap.size) (hn : ¬ S p.block) : w'.cell? p = w.cell? p := World.cell?_of_block (w := w) (h.block p.block hp hn)
theorem Only.frozen {S : Nat → Prop} {w w' : World} (h : Only S w w') {p : Addr} (hp : p.block < w.heap.size) (hn : ¬ S p.block) : w'.frozen? p = w.frozen? p := World.frozen?_of_block (w := w) (h.block p.block hp hn)
theorem OB.only {S : Nat → Prop} {w w' : World} {base : Nat} {v : Value} {l : List UInt8} (h : OB w base v l) (ho : Only S w w') (hn : ∀ k, v.ownBlock = some k → ¬ S k) : OB w' base v l := by
  have hlt := h.own_lt
  obtain ⟨h1, h2⟩ := h
  refine ⟨h1, ?_⟩
  rcases h2 with h2 | ⟨g, cap, cur, rfl, hg, hh, r⟩
  · exact .inl h2
  · refine .inr ⟨g, cap, cur, rfl, hg, ?_, r⟩
    rw [ho.block g (hlt g rfl) (hn g rfl)]; exact hh
theorem Bsl.only {S : Nat → Prop} {w w' : World} {v : Value} {l : List UInt8} (h : Bsl w v l) (ho : Only S w w') (hn : ∀ k, v.ownBlock = some k → ¬ S k) : Bsl w' v l := by
  obtain ⟨ao, cap, rfl, h1, h2, h3, h4⟩ := h
  refine ⟨ao, cap, rfl, h1, h2, h3, fun hne => ?_⟩
  obtain ⟨b, off, rfl, hc⟩ := h4 hne
  refine ⟨b, off, rfl, fun j hj => ?_⟩
  have := hc j hj
  rw [ho.cell (World.block_lt_of_cell? w _ this) (hn b rfl)]; exact this
theorem Bsl.only' {S : Nat → Prop} {w w' : World} {v : Value} {l : List UInt8} (h : Bsl w v l) (ho : Only S w w') (hn : l ≠ [] → ∀ k, v.ownBlock = some k → ¬ S k) : Bsl w' v l := by
  obtain ⟨ao, cap, rfl, h1, h2, h3, h4⟩ := h
  refine ⟨ao, cap, rfl, h1, h2, h3, fun hne => ?_⟩
  obtain ⟨b, off, rfl, hc⟩ := h4 hne
  refine ⟨b, off, rfl, fun j hj => ?_⟩
  have := hc j hj
  rw [ho.cell (World.block_lt_of_cell? w _ this) (hn hne b rfl)]; exact this
/-- A slice with bytes lies in a block that is there. -/
theorem Bsl.own_lt {w : World} {v : Value} {l : List UInt8} (h : Bsl w v l) (hne : l ≠ []) : ∀ k, v.ownBlock = some k → k < w.heap.size := by
  obtain ⟨ao, cap, rfl, h1, h2, h3, h4⟩ := h
  obtain ⟨b, off, rfl, hc⟩ := h4 hne
  intro k hk
  simp [Value.ownBlock] at hk; subst hk
  have hp : 0 < l.length := List.length_pos_iff.2 hne
  exact World.block_lt_of_cell? w _ (hc 0 hp)
/-- An owned row of bytes lies in a block of bytes. -/
theorem OB.elem {w : World} {base : Nat} {v : Value} {l : List UInt8} (h : OB w base v l) {k : Nat} (hk : v.ownBlock = some k) : ∃ cur, w.heap[k]? = some (.cells cur 5 (0, 0)) := by
  obtain ⟨_, h2⟩ := h
  rcases h2 with ⟨rfl, _⟩ | ⟨g, cap, cur, rfl, hg, hh, r⟩
  · simp [Value.ownBlock] at hk
  · simp [Value.ownBlock] at hk; subst hk; exact ⟨cur, hh⟩
theorem Only.of_drew {S : Nat → Prop} {w w' : World} (h : Only S w.drew w') : Only S w w' := ⟨h.os, h.tape, h.output, h.size, h.block⟩
theorem Below.of_drew {B : Nat} {w w' : World} (h : Below B w.drew w') : Below B w w' := ⟨h.os, h.tape, h.output, h.size, h.block⟩
end Go.Proofs.YtjhocaleampamaaDoor
