/- A block of one-cell elements that a call has made. -/
import Derived.Test.YtdhgilpdghohoaaOnly
import Derived.Test.YtdhgilpdghohoaaDisk
namespace Go.Proofs.Ytdhgilpdghohoaa
open Go.RowKit
def ArrAt (w : World) (b : Nat) (c : Nat → Value) (n : Nat) : Prop := ∀ j, j < n → w.cell? ⟨b, j, none⟩ = some (c j) ∧ w.frozen? ⟨b, j, none⟩ = false
theorem ArrAt.lt {w : World} {b : Nat} {c : Nat → Value} {n : Nat} (h : ArrAt w b c n) (hn : 0 < n) : b < w.heap.size := World.block_lt_of_cell? w _ (h 0 hn).1
theorem ArrAt.only {S : Nat → Prop} {w w' : World} {b : Nat} {c : Nat → Value} {n : Nat} (h : ArrAt w b c n) (ho : Only S w w') (hS : ¬ S b) : ArrAt w' b c n := by
  intro j hj
  have hlt := h.lt (by omega)
  exact ⟨(ho.cell (p := ⟨b, j, none⟩) hlt hS).trans (h j hj).1, (ho.frozen (p := ⟨b, j, none⟩) hlt hS).trans (h j hj).2⟩
theorem ArrAt.keep {w w' : World} {b : Nat} {c : Nat → Value} {n : Nat} (h : ArrAt w b c n) (hb : Below w.heap.size w w') : ArrAt w' b c n := h.only (Only.of_below (S := fun _ => False) hb) (fun h => h)
theorem ArrAt.set {w : World} {b : Nat} {c : Nat → Value} {n : Nat} (h : ArrAt w b c n) (k : Nat) (v : Value) : ArrAt (w.setCell ⟨b, k, none⟩ v) b (fun j => if j = k then v else c j) n := by
  intro j hj
  refine ⟨?_, by rw [World.frozen?_setCell]; exact (h j hj).2⟩
  by_cases he : j = k
  · subst he
    rw [World.cell?_setCell_same w _ _ (h j hj).1]; simp only [if_true]
  · rw [World.cell?_setCell_other w _ _ _ (by simp only [ne_eq, Addr.mk.injEq, true_and, and_true]; omega)]; simpa [he] using (h j hj).1
theorem ArrAt.congr {w : World} {b : Nat} {c c' : Nat → Value} {n : Nat} (h : ArrAt w b c n) (hc : ∀ j, j < n → c j = c' j) : ArrAt w b c' n := fun j hj => by rw [← hc j hj]; exact h j hj
theorem ArrAt.alloc (w : World) (cs : Array Value) (t : TypeId) (c : Nat → Value) (n : Nat) (hc : ∀ j, j < n → cs[j]? = some (c j)) : ArrAt (w.alloc (.cells cs t)) w.heap.size c n := by
  intro j hj
  rw [World.cell?_alloc_new]
  exact ⟨hc j hj, by simp⟩
theorem DEff.not {w w' : World} {bs bs' : Nat → Prop} (h : DEff w w' bs bs') {k : Nat} (hk : k < w.heap.size) (hn : ¬ bs k) : ¬ bs' k := fun e => (h.new k e).elim hn (fun e => by omega)
theorem only_cell (w : World) (p : Addr) (v : Value) : Only (· = p.block) w (w.setCell p v) := Only.setCell (S := (· = p.block)) (Only.refl _ _) (p := p) (fun _ => rfl) _
end Go.Proofs.Ytdhgilpdghohoaa
