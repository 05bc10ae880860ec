/- Large variables of any one-cell values. -/
import Derived.Test.YtembfelckbmgiaaDoorBld
namespace Go.Proofs.YtembfelckbmgiaaDoor
open Go.RowKit Big
set_option linter.unusedVariables false
/-- Block b is a variable that holds the cells l, and may be written. -/
def LV (w : World) (b : Nat) (l : List Value) : Prop := b < w.heap.size ∧ w.rangeAt b 0 l ∧ w.there b 0 l.length
theorem LV.lt {w : World} {b : Nat} {l : List Value} (h : LV w b l) : b < w.heap.size := h.1
theorem LV.cell {w : World} {b : Nat} {l : List Value} (h : LV w b l) {j : Nat} {v : Value} (hv : l[j]? = some v) : w.cell? ⟨b, j, none⟩ = some v := by have := h.2.1 j v hv; rwa [Nat.zero_add] at this
theorem LV.free {w : World} {b : Nat} {l : List Value} (h : LV w b l) {j : Nat} (hj : j < l.length) : w.frozen? ⟨b, j, none⟩ = false := by have := (h.2.2 j hj).2; rwa [Nat.zero_add] at this
theorem LV.only {S : Nat → Prop} {w w' : World} {b : Nat} {l : List Value} (h : LV w b l) (ho : Only S w w') (hS : ¬ S b) : LV w' b l :=
  ⟨Nat.lt_of_lt_of_le h.1 ho.size, rangeAt_only h.2.1 ho hS, fun j hj => by rw [ho.cell (p := ⟨b, 0 + j, none⟩) h.1 hS, ho.frozen (p := ⟨b, 0 + j, none⟩) h.1 hS]; exact h.2.2 j hj⟩
theorem LV.keep {w w' : World} {b : Nat} {l : List Value} (h : LV w b l) (hb : Below w.heap.size w w') : LV w' b l := h.only (Only.of_below (S := fun _ => False) hb) (fun h => h)
theorem LV.drewN {w : World} {b : Nat} {l : List Value} (h : LV w b l) (n : Nat) : LV (w.drewN n) b l := h
theorem LV.new (w : World) (l : List Value) (T : TypeId) : LV (w.alloc (.cells l.toArray T)) w.heap.size l := ⟨by simp, rangeAt_new _ _ _, there_new w l T⟩
theorem LV.set {w : World} {b : Nat} {l : List Value} (h : LV w b l) {j : Nat} (hj : j < l.length) (v : Value) : LV (w.setCell ⟨b, j, none⟩ v) b (l.set j v) := by
  have hc : ∃ u, w.cell? ⟨b, j, none⟩ = some u := ⟨l[j], h.cell (by simp [hj])⟩
  obtain ⟨u, hu⟩ := hc
  refine ⟨by simpa [World.setCell] using h.1, fun i x hx => ?_, fun i hi => ?_⟩
  · rw [Nat.zero_add]
    by_cases hij : i = j
    · subst hij
      rw [World.cell?_setCell_same w _ _ hu]
      rw [List.getElem?_set_self hj] at hx
      exact hx
    · rw [World.cell?_setCell_other w _ _ _ (by intro e; have := congrArg Addr.off e; simp at this; exact hij this.symm)]
      rw [List.getElem?_set_ne (fun e => hij e.symm)] at hx
      exact h.cell hx
  · rw [List.length_set] at hi
    rw [Nat.zero_add, World.frozen?_setCell]
    refine ⟨?_, h.free hi⟩
    by_cases hij : i = j
    · subst hij
      rw [World.cell?_setCell_same w _ _ hu]; rfl
    · rw [World.cell?_setCell_other w _ _ _ (by intro e; have := congrArg Addr.off e; simp at this; exact hij this.symm), h.cell (v := l[i]) (by simp [hi])]; rfl
theorem Big.BigT.madeV {t : TypeId} {zs : List Value} (h : BigT t zs) (w : World) (l : List Value) (hl : l.length = zs.length) (h1 : ∀ u ∈ l, u.oneCell' = true) :
    ∃ wa w', (alT t).run Tryd.prog w = .ok (.pointer (some ⟨w.heap.size, 0, none⟩)) wa ∧ (stT t (.pointer (some ⟨w.heap.size, 0, none⟩)) (.agg l.toArray)).run Tryd.prog wa = .ok () w' ∧ LV w' w.heap.size l ∧ Below w.heap.size w w' ∧ w'.heap.size = w.heap.size + 1 := by
  have ht := there_new w zs t
  have ht' : (w.alloc (.cells zs.toArray t)).there w.heap.size 0 l.length := by rw [hl]; exact ht
  refine ⟨_, _, run_alT h w, run_stT h _ _ 0 l ht' hl h1, ⟨by rw [size_setCells]; simp, World.rangeAt_setCells_same _ _ _ _ ht', World.there_setCells ht' _ _ _⟩, ((Below.refl _ _).alloc (Nat.le_refl _) _).trans (below_setCells (Nat.le_refl _) _ _), by rw [size_setCells]; simp⟩
theorem Big.BigT.madeV0 {t : TypeId} {zs : List Value} (h : BigT t zs) (w : World) :
    ∃ w', (alT t).run Tryd.prog w = .ok (.pointer (some ⟨w.heap.size, 0, none⟩)) w' ∧ LV w' w.heap.size zs ∧ Below w.heap.size w w' ∧ w'.heap.size = w.heap.size + 1 :=
  ⟨_, run_alT h w, LV.new w zs t, (Below.refl _ _).alloc (Nat.le_refl _) _, by simp⟩
theorem Big.BigT.putV {t : TypeId} {zs : List Value} (h : BigT t zs) {w : World} {b : Nat} {l : List Value} (ha : LV w b l) (hl : l.length = zs.length) (m : List Value) (hm : m.length = zs.length) (h1 : ∀ u ∈ m, u.oneCell' = true) :
    ∃ w', (stT t (.pointer (some ⟨b, 0, none⟩)) (.agg m.toArray)).run Tryd.prog w = .ok () w' ∧ LV w' b m ∧ Only (· = b) w w' ∧ w'.heap.size = w.heap.size := by
  have ht' : w.there b 0 m.length := by rw [hm, ← hl]; exact ha.2.2
  exact ⟨_, run_stT h _ _ 0 m ht' hm h1, ⟨by rw [size_setCells]; exact ha.1, World.rangeAt_setCells_same _ _ _ _ ht', World.there_setCells ht' _ _ _⟩, only_setCells _ _ _ _, size_setCells _ _ _ _⟩
theorem Big.BigT.ldV {t : TypeId} {zs : List Value} (h : BigT t zs) {w : World} {b : Nat} {l : List Value} (ha : LV w b l) (hl : l.length = zs.length) : (ldT t (.pointer (some ⟨b, 0, none⟩))).run Tryd.prog w = .ok (.agg l.toArray) w := run_ldT h w b 0 l ha.2.1 hl
theorem Big.BigT.lvV {t : TypeId} {zs : List Value} (h : BigT t zs) {w : World} {b : Nat} {l : List Value} (ha : LV w b l) (hl : l.length = zs.length) : (loadVar t ⟨b, 0, none⟩).run Tryd.prog w = .ok (.agg l.toArray) w := run_lvT h w b 0 l ha.2.1 hl
end Go.Proofs.YtembfelckbmgiaaDoor
