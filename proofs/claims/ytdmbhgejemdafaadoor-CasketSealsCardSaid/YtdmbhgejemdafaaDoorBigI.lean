/- Arrays of numbers, told as integers. -/
import Derived.Test.YtdmbhgejemdafaaDoorBig
namespace Go.Proofs.YtdmbhgejemdafaaDoor.Big
open Go.RowKit Go.Proofs.YtdmbhgejemdafaaDoor
set_option linter.unusedVariables false
def iv (k : IntKind) (x : Int) : Value := .int k x
def ivs (k : IntKind) (l : List Int) : List Value := l.map (iv k)
theorem ivs_len (k : IntKind) (l : List Int) : (ivs k l).length = l.length := by simp [ivs]
theorem ivs_one (k : IntKind) (l : List Int) : ∀ u ∈ ivs k l, u.oneCell' = true := by
  intro u hu; obtain ⟨_, _, rfl⟩ := List.mem_map.1 hu; rfl
/-- Block b holds the numbers l of the kind k, and may be written. -/
def AI (k : IntKind) (w : World) (b : Nat) (l : List Int) : Prop := b < w.heap.size ∧ ∀ j, j < l.length → w.cell? ⟨b, j, none⟩ = some (.int k (l.getD j 0)) ∧ w.frozen? ⟨b, j, none⟩ = false
theorem AI.lt {k : IntKind} {w : World} {b : Nat} {l : List Int} (h : AI k w b l) : b < w.heap.size := h.1
theorem AI.cell {k : IntKind} {w : World} {b : Nat} {l : List Int} (h : AI k w b l) {j : Nat} (hj : j < l.length) : w.cell? ⟨b, j, none⟩ = some (.int k (l.getD j 0)) := (h.2 j hj).1
theorem AI.free {k : IntKind} {w : World} {b : Nat} {l : List Int} (h : AI k w b l) {j : Nat} (hj : j < l.length) : w.frozen? ⟨b, j, none⟩ = false := (h.2 j hj).2
theorem AI.range {k : IntKind} {w : World} {b : Nat} {l : List Int} (h : AI k w b l) : w.rangeAt b 0 (ivs k l) := fun j v hv => by
  have hj : j < l.length := by have := (List.getElem?_eq_some_iff.1 hv).1; simpa [ivs] using this
  rw [Nat.zero_add, h.cell hj, ← hv]
  simp [ivs, iv, hj, List.getD]
theorem AI.there {k : IntKind} {w : World} {b : Nat} {l : List Int} (h : AI k w b l) : w.there b 0 l.length := fun j hj => by
  rw [Nat.zero_add, h.cell hj, h.free hj]; exact ⟨rfl, rfl⟩
theorem AI.of {k : IntKind} {w : World} {b : Nat} {l : List Int} (hb : b < w.heap.size) (hr : w.rangeAt b 0 (ivs k l)) (ht : w.there b 0 l.length) : AI k w b l := ⟨hb, fun j hj => by
  have h1 := hr j (iv k (l.getD j 0)) (by simp [ivs, hj, List.getD])
  have h2 := (ht j hj).2
  rw [Nat.zero_add] at h1 h2
  exact ⟨h1, h2⟩⟩
theorem AI.only {k : IntKind} {S : Nat → Prop} {w w' : World} {b : Nat} {l : List Int} (h : AI k w b l) (ho : Only S w w') (hn : ¬ S b) : AI k w' b l :=
  ⟨Nat.lt_of_lt_of_le h.1 ho.size, fun j hj => ⟨(ho.cell (p := ⟨b, j, none⟩) h.1 hn).trans (h.2 j hj).1, (ho.frozen (p := ⟨b, j, none⟩) h.1 hn).trans (h.2 j hj).2⟩⟩
theorem AI.keep {k : IntKind} {w w' : World} {b : Nat} {l : List Int} (h : AI k w b l) (hb : Below w.heap.size w w') : AI k w' b l := h.only (Only.of_below (S := fun _ => False) hb) (fun h => h)
theorem AI.under {k : IntKind} {w w' : World} {b B : Nat} {l : List Int} (h : AI k w b l) (hb : Below B w w') (hlt : b < B) : AI k w' b l :=
  ⟨Nat.lt_of_lt_of_le h.1 hb.size, fun j hj => ⟨(hb.cell (p := ⟨b, j, none⟩) hlt).trans (h.2 j hj).1, (hb.frozen (p := ⟨b, j, none⟩) hlt).trans (h.2 j hj).2⟩⟩
theorem AI.drewN {k : IntKind} {w : World} {b : Nat} {l : List Int} (h : AI k w b l) (n : Nat) : AI k (w.drewN n) b l := h
theorem AI.set {k : IntKind} {w : World} {b : Nat} {l : List Int} (h : AI k w b l) {j : Nat} (hj : j < l.length) (x : Int) : AI k (w.setCell ⟨b, j, none⟩ (.int k x)) b (l.set j x) := by
  refine ⟨by simpa [World.setCell] using h.1, fun i hi => ?_⟩
  rw [List.length_set] at hi
  rw [World.frozen?_setCell]
  refine ⟨?_, h.free hi⟩
  by_cases hij : i = j
  · subst hij
    rw [World.cell?_setCell_same w _ _ (h.cell hi)]
    simp [hi]
  · rw [World.cell?_setCell_other w _ _ _ (by intro e; have := congrArg Addr.off e; simp at this; exact hij this.symm), h.cell hi]
    congr 2
    simp [List.getD, show ¬ j = i from fun e => hij e.symm]
theorem AI.set_other {k : IntKind} {w : World} {b : Nat} {l : List Int} (h : AI k w b l) {p : Addr} (hp : p.block ≠ b) (v : Value) : AI k (w.setCell p v) b l :=
  h.only (Only.setCell (S := (· = p.block)) (Only.refl _ _) (fun _ => rfl) v) (fun e => hp e.symm)
theorem AI.new (k : IntKind) (w : World) (l : List Int) (t : TypeId) : AI k (w.alloc (.cells (ivs k l).toArray t)) w.heap.size l :=
  AI.of (by simp) (rangeAt_new _ _ _) (by have := there_new w (ivs k l) t; rwa [ivs_len] at this)
/-- The whole is stored. -/
theorem AI.stored {k : IntKind} {w : World} {b : Nat} {l m : List Int} (h : AI k w b l) (hl : m.length = l.length) : AI k (w.setCells b 0 (ivs k m)) b m := by
  have ht : w.there b 0 (ivs k m).length := by rw [ivs_len, hl]; exact h.there
  refine AI.of (by rw [size_setCells]; exact h.1) (World.rangeAt_setCells_same _ _ _ _ ht) ?_
  have := World.there_setCells ht b 0 (ivs k m)
  rwa [ivs_len] at this
theorem BigT.ldI {t : TypeId} {k : IntKind} {z : List Int} (h : BigT t (ivs k z)) {w : World} {b : Nat} {l : List Int} (ha : AI k w b l) (hl : l.length = z.length) : (ldT t (.pointer (some ⟨b, 0, none⟩))).run Tryd.prog w = .ok (.agg (ivs k l).toArray) w :=
  run_ldT h w b 0 _ ha.range (by rw [ivs_len, ivs_len, hl])
theorem BigT.lvI {t : TypeId} {k : IntKind} {z : List Int} (h : BigT t (ivs k z)) {w : World} {b : Nat} {l : List Int} (ha : AI k w b l) (hl : l.length = z.length) : (loadVar t ⟨b, 0, none⟩).run Tryd.prog w = .ok (.agg (ivs k l).toArray) w :=
  run_lvT h w b 0 _ ha.range (by rw [ivs_len, ivs_len, hl])
theorem BigT.stI {t : TypeId} {k : IntKind} {z : List Int} (h : BigT t (ivs k z)) {w : World} {b : Nat} {l m : List Int} (ha : AI k w b l) (hl : l.length = z.length) (hm : m.length = z.length) : (stT t (.pointer (some ⟨b, 0, none⟩)) (.agg (ivs k m).toArray)).run Tryd.prog w = .ok () (w.setCells b 0 (ivs k m)) :=
  run_stT h w b 0 _ (by rw [ivs_len, hm, ← hl]; exact ha.there) (by rw [ivs_len, ivs_len, hm]) (ivs_one _ _)
theorem BigT.madeI {t : TypeId} {k : IntKind} {z : List Int} (h : BigT t (ivs k z)) (w : World) (l : List Int) (hl : l.length = z.length) :
    ∃ wa w', (alT t).run Tryd.prog w = .ok (.pointer (some ⟨w.heap.size, 0, none⟩)) wa ∧ (stT t (.pointer (some ⟨w.heap.size, 0, none⟩)) (.agg (ivs k l).toArray)).run Tryd.prog wa = .ok () w' ∧ AI k w' w.heap.size l ∧ Below w.heap.size w w' ∧ w'.heap.size = w.heap.size + 1 := by
  have h0 := AI.new k w z t
  exact ⟨_, _, run_alT h w, h.stI h0 rfl hl, h0.stored hl, ((Below.refl _ _).alloc (Nat.le_refl _) _).trans (below_setCells (Nat.le_refl _) _ _), by rw [size_setCells]; simp⟩
theorem BigT.made0I {t : TypeId} {k : IntKind} {z : List Int} (h : BigT t (ivs k z)) (w : World) :
    ∃ w', (alT t).run Tryd.prog w = .ok (.pointer (some ⟨w.heap.size, 0, none⟩)) w' ∧ AI k w' w.heap.size z ∧ Below w.heap.size w w' ∧ w'.heap.size = w.heap.size + 1 :=
  ⟨_, run_alT h w, AI.new k w z t, (Below.refl _ _).alloc (Nat.le_refl _) _, by simp⟩
theorem BigT.putI {t : TypeId} {k : IntKind} {z : List Int} (h : BigT t (ivs k z)) {w : World} {b : Nat} {l : List Int} (ha : AI k w b l) (hl : l.length = z.length) (m : List Int) (hm : m.length = z.length) :
    ∃ w', (stT t (.pointer (some ⟨b, 0, none⟩)) (.agg (ivs k m).toArray)).run Tryd.prog w = .ok () w' ∧ AI k w' b m ∧ Only (· = b) w w' ∧ w'.heap.size = w.heap.size :=
  ⟨_, h.stI ha hl hm, ha.stored (by rw [hm, hl]), only_setCells _ _ _ _, size_setCells _ _ _ _⟩
/-- A new variable that an argument was put into. -/
theorem boxI (k : IntKind) (w : World) (l : List Int) (t : TypeId) : ∃ w', w' = w.alloc (.cells (ivs k l).toArray t) ∧ AI k w' w.heap.size l ∧ Below w.heap.size w w' ∧ w'.heap.size = w.heap.size + 1 :=
  ⟨_, rfl, AI.new k w l t, (Below.refl _ _).alloc (Nat.le_refl _) _, by simp⟩
end Go.Proofs.YtdmbhgejemdafaaDoor.Big
