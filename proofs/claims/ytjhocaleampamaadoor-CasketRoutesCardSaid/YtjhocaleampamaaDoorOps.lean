/- Appends as opaque operations; slices of slices of bytes. -/
import Derived.Test.YtjhocaleampamaaDoorAppZ
import Derived.Test.YtjhocaleampamaaDoorBits
import Derived.Test.YtjhocaleampamaaDoorOnly
namespace Go.Proofs.YtjhocaleampamaaDoor
open Go.RowKit
set_option linter.unusedVariables false
def apB (ty : TypeId) (vs : Array Value) : Sem Value := Builtin.append_ #[39, 39] ty vs
theorem apB_eq (ty : TypeId) (vs : Array Value) : Builtin.append_ #[39, 39] ty vs = apB ty vs := rfl
theorem apB_made (w : World) (base : Nat) (ty : TypeId) (v v2 : Value) (l m : List UInt8) (h : OB w base v l) (h2 : Bsl w v2 m) (hlen : l.length + m.length ≤ 140737488355328) (hb : base ≤ w.heap.size) :
    ∃ v' w', (apB ty #[v, v2]).run Tryd.prog w = .ok v' w' ∧ OB w' base v' (l ++ m) ∧ Below base w w' ∧ w.grownBy w' v.ownBlock ∧ w.heap.size ≤ w'.heap.size := by
  obtain ⟨v', w', h1, h2, h3, h4⟩ := run_app w base ty v v2 l m h h2 hlen hb
  exact ⟨v', w', h1, h2, Below.of_grown h3 hb h.own_ge, h3, h3.size⟩
def apZ (ty : TypeId) (vs : Array Value) : Sem Value := Builtin.append_ #[39, 3] ty vs
theorem apZ_eq (ty : TypeId) (vs : Array Value) : Builtin.append_ #[39, 3] ty vs = apZ ty vs := rfl
theorem apZ_made (w : World) (base : Nat) (ty : TypeId) (v : Value) (l : List UInt8) (k : Nat) (h : OB w base v l) (hlen : l.length + k ≤ 1000000000) (hb : base ≤ w.heap.size) :
    ∃ v' w', (apZ ty #[v, .int .i64 k]).run Tryd.prog w = .ok v' w' ∧ OB w' base v' (l ++ List.replicate k 0) ∧ Below base w w' ∧ w.grownBy w' v.ownBlock ∧ w.heap.size ≤ w'.heap.size := by
  obtain ⟨v', w', h1, h2, h3, h4⟩ := run_appz w base ty v l k h hlen hb
  exact ⟨v', w', h1, h2, Below.of_grown h3 hb h.own_ge, h3, h3.size⟩
theorem OB.val' {w : World} {base : Nat} {v : Value} {l : List UInt8} (h : OB w base v l) : ∃ ao cap, v = .slice ao l.length cap := by
  obtain ⟨ao, cap, h1, _⟩ := h.bsl
  exact ⟨ao, cap, h1⟩
theorem Bsl.val' {w : World} {v : Value} {l : List UInt8} (h : Bsl w v l) : ∃ ao cap, v = .slice ao l.length cap := by
  obtain ⟨ao, cap, h1, _⟩ := h
  exact ⟨ao, cap, h1⟩
theorem OB.cleared {w : World} {base g cap n : Nat} {l : List UInt8} (h : OB w base (.slice (some ⟨g, 0, none⟩) n cap) l) : OB w base (.slice (some ⟨g, 0, none⟩) 0 cap) [] := by
  obtain ⟨_, h2⟩ := h
  rcases h2 with ⟨e, _⟩ | ⟨g', cap', cur, e, hb, hg, hn, hc, hs, ht⟩
  · cases e
  · cases e
    exact ⟨rfl, .inr ⟨g, cap, cur, rfl, hb, hg, Nat.zero_le _, hc, hs, by simp⟩⟩
/-- A slice of the bytes' first part, the whole owned. -/
theorem OB.part {w : World} {base g cap n : Nat} {l : List UInt8} (h : OB w base (.slice (some ⟨g, 0, none⟩) n cap) l) {m c2 : Nat} (hm : m ≤ l.length) (hc : m ≤ c2) (hc2 : c2 ≤ cap) : Bsl w (.slice (some ⟨g, 0, none⟩) m c2) (l.take m) := by
  obtain ⟨ao, cap', e, h1, h2, h3, h4⟩ := h.bsl
  cases e
  have hlen : (l.take m).length = m := by rw [List.length_take]; omega
  refine ⟨_, c2, by rw [hlen], by omega, by omega, by simp, fun hne => ⟨g, 0, rfl, fun j hj => ?_⟩⟩
  rw [hlen] at hj
  obtain ⟨b, off, e, hcell⟩ := h4 (by rintro rfl; simp at hm; omega)
  cases e
  rw [hcell j (by omega)]
  simp [List.getD, hj]
/-- v is a slice of slices of the bytes ls. -/
def PartsAt (w : World) (v : Value) (ls : List (List UInt8)) : Prop := ∃ ao cap, v = .slice ao ls.length cap ∧ ls.length ≤ cap ∧ cap ≤ 9223372036854775807 ∧
  (ls ≠ [] → ∃ b off, ao = some ⟨b, off, none⟩ ∧ ∀ j, j < ls.length → ∃ u, w.cell? ⟨b, off + j, none⟩ = some u ∧ Bsl w u (ls.getD j []))
theorem PartsAt.keep {w w' : World} {v : Value} {ls : List (List UInt8)} (h : PartsAt w v ls) (hb : Below w.heap.size w w') : PartsAt w' v ls := by
  obtain ⟨ao, cap, rfl, h1, h2, h3⟩ := h
  refine ⟨ao, cap, rfl, h1, h2, fun hne => ?_⟩
  obtain ⟨b, off, rfl, hc⟩ := h3 hne
  refine ⟨b, off, rfl, fun j hj => ?_⟩
  obtain ⟨u, hu, hbu⟩ := hc j hj
  exact ⟨u, (hb.cell (World.block_lt_of_cell? w _ hu)).trans hu, hbu.keep hb⟩
/-- A slice that is written out. -/
theorem PartsAt.made {w : World} {us : List Value} {ls : List (List UInt8)} (t : TypeId) (h : us.length = ls.length) (hb : ∀ j, j < ls.length → Bsl w (us.getD j undef) (ls.getD j [])) {n : Nat} (hn : n = ls.length) (hm : n ≤ 1000) :
    PartsAt (w.alloc (.cells us.toArray t)) (.slice (some ⟨w.heap.size, 0, none⟩) n n) ls := by
  subst hn
  refine ⟨_, _, rfl, Nat.le_refl _, by omega, fun _ => ⟨w.heap.size, 0, rfl, fun j hj => ⟨us.getD j undef, ?_, (hb j hj).keep ((Below.refl _ _).alloc (Nat.le_refl _) _)⟩⟩⟩
  rw [World.cell?_alloc_new, Nat.zero_add]
  simp [h, hj, List.getD]
end Go.Proofs.YtjhocaleampamaaDoor
