/- casketref23.Net: the object. -/
import Derived.Test.YtbflffanahnofaaNetOps
import Derived.Test.YtbflffanahnofaaRowSrc
namespace Go.Proofs.Ytbflffanahnofaa
open Go.RowKit
def strN (l : List UInt8) : Value := .string ⟨l.toArray⟩
def strC (l : List UInt8) : List Value := [strN l]
def rowOf (st : NSt) (b : Bool) (i : Nat) : List (List UInt8) := if b then seenN st i else innN st i
def setRow (st : NSt) (b : Bool) (i : Nat) (l : List (List UInt8)) : NSt := st.set i (if b then (innN st i, l) else (l, seenN st i))
theorem setRow_len (st : NSt) (b : Bool) (i : Nat) (l : List (List UInt8)) : (setRow st b i l).length = st.length := by simp [setRow]
theorem rowOf_setRow {st : NSt} {i : Nat} (hi : i < st.length) (b b' : Bool) (j : Nat) (l : List (List UInt8)) : rowOf (setRow st b i l) b' j = if j = i ∧ b' = b then l else rowOf st b' j := by
  unfold rowOf setRow innN seenN
  by_cases h : j = i
  · subst h
    cases b <;> cases b' <;> simp [List.getD, hi]
  · have h2 : ¬ i = j := fun e => h e.symm
    cases b <;> cases b' <;> simp [List.getD, h, h2, List.getElem?_set_ne]
/-- A document's net at p: two tables of rows of strings. -/
def RNet (w : World) (p : Nat) (st : NSt) (bs : Nat → Prop) : Prop := ∃ (g h cg ch : Nat) (col : Nat → Nat) (rv : Bool → Nat → Value),
  ((w.cell? ⟨p, 0, none⟩ = some (.slice (some ⟨g, 0, none⟩) st.length cg) ∧ w.cell? ⟨p, 1, none⟩ = some (.slice (some ⟨h, 0, none⟩) st.length ch)) ∧ (st.length ≤ cg ∧ cg ≤ 9223372036854775807) ∧ st.length ≤ ch ∧ ch ≤ 9223372036854775807) ∧
  (col p = 1 ∧ col g = 2 ∧ col h = 3) ∧
  (∀ b i, i < st.length → w.cell? ⟨if b then h else g, i, none⟩ = some (rv b i) ∧ w.frozen? ⟨if b then h else g, i, none⟩ = false) ∧
  (∀ b i, i < st.length → RW w 0 9 1 (rv b i) ((rowOf st b i).map strC)) ∧
  (∀ b i, i < st.length → ∀ k, (rv b i).ownBlock = some k → col k = 4 + 2 * i + (if b then 1 else 0) ∧ bs k) ∧
  (bs p ∧ bs g ∧ bs h) ∧ (∀ k, bs k → k < w.heap.size)
theorem RNet.lt {w : World} {p : Nat} {st : NSt} {bs : Nat → Prop} (h : RNet w p st bs) : ∀ k, bs k → k < w.heap.size := by
  obtain ⟨_, _, _, _, _, _, _, _, _, _, _, _, h⟩ := h
  exact h
theorem RNet.only {S : Nat → Prop} {w w' : World} {p : Nat} {st : NSt} {bs : Nat → Prop} (hN : RNet w p st bs) (ho : Only S w w') (hS : ∀ k, bs k → ¬ S k) : RNet w' p st bs := by
  have hlt := hN.lt
  obtain ⟨g, h, cg, ch, col, rv, ⟨⟨c0, c1⟩, hl⟩, hcol, hcell, hrow, hown, ⟨hp, hg, hh⟩, hb⟩ := hN
  have hgh : ∀ b : Bool, bs (if b then h else g) := fun b => by cases b <;> simp [hg, hh]
  refine ⟨g, h, cg, ch, col, rv, ⟨⟨(ho.cell (p := ⟨p, 0, none⟩) (hlt p hp) (hS p hp)).trans c0, (ho.cell (p := ⟨p, 1, none⟩) (hlt p hp) (hS p hp)).trans c1⟩, hl⟩, hcol, fun b i hi => ?_, fun b i hi => ?_, hown, ⟨hp, hg, hh⟩, fun k hk => Nat.lt_of_lt_of_le (hb k hk) ho.size⟩
  · obtain ⟨a, c⟩ := hcell b i hi
    exact ⟨(ho.cell (p := ⟨if b then h else g, i, none⟩) (hlt _ (hgh b)) (hS _ (hgh b))).trans a, (ho.frozen (p := ⟨if b then h else g, i, none⟩) (hlt _ (hgh b)) (hS _ (hgh b))).trans c⟩
  · exact (hrow b i hi).only ho (fun k hk => hS k (hown b i hi k hk).2)
theorem RNet.keep {w w' : World} {p : Nat} {st : NSt} {bs : Nat → Prop} (h : RNet w p st bs) (hb : Below w.heap.size w w') : RNet w' p st bs := h.only (Only.of_below (S := fun _ => False) hb) (fun _ _ h => h)
/-- One row, replaced. -/
theorem RNet.setRow {w : World} {p : Nat} {st : NSt} {bs : Nat → Prop} (hN : RNet w p st bs) (b : Bool) {i : Nat} (hi : i < st.length) : ∃ g h cg ch v,
    (w.cell? ⟨p, 0, none⟩ = some (.slice (some ⟨g, 0, none⟩) st.length cg) ∧ w.cell? ⟨p, 1, none⟩ = some (.slice (some ⟨h, 0, none⟩) st.length ch)) ∧
    (w.cell? ⟨if b then h else g, i, none⟩ = some v ∧ w.frozen? ⟨if b then h else g, i, none⟩ = false) ∧ (p < w.heap.size ∧ g < w.heap.size ∧ h < w.heap.size) ∧
    RW w 0 9 1 v ((rowOf st b i).map strC) ∧ (v.ownBlock ≠ some p ∧ v.ownBlock ≠ some g ∧ v.ownBlock ≠ some h) ∧ (p ≠ g ∧ p ≠ h ∧ g ≠ h) ∧ (bs p ∧ bs g ∧ bs h ∧ ∀ k, v.ownBlock = some k → bs k) ∧
    (∀ (w2 : World) (v' : Value) (l' : List (List UInt8)), Only (fun k => v.ownBlock = some k) w w2 → RW w2 0 9 1 v' (l'.map strC) → (v'.ownBlock = v.ownBlock ∨ v'.ownBlock = none ∨ ∃ k, v'.ownBlock = some k ∧ w.heap.size ≤ k) →
      ∃ bs', RNet (w2.setCell ⟨if b then h else g, i, none⟩ v') p (Go.Proofs.Ytbflffanahnofaa.setRow st b i l') bs' ∧ NEff w (w2.setCell ⟨if b then h else g, i, none⟩ v') bs bs') := by
  have hlt := hN.lt
  obtain ⟨g, h, cg, ch, col, rv, ⟨⟨c0, c1⟩, hl⟩, hcol, hcell, hrow, hown, ⟨hp, hg, hh⟩, hb⟩ := hN
  have hv3 : ∀ b i, i < st.length → (rv b i).ownBlock ≠ some p ∧ (rv b i).ownBlock ≠ some g ∧ (rv b i).ownBlock ≠ some h := fun b i hi =>
    ⟨fun e => by have := (hown b i hi p e).1; omega, fun e => by have := (hown b i hi g e).1; omega, fun e => by have := (hown b i hi h e).1; omega⟩
  refine ⟨g, h, cg, ch, rv b i, ⟨c0, c1⟩, hcell b i hi, ⟨hlt p hp, hlt g hg, hlt h hh⟩, hrow b i hi, hv3 b i hi, ⟨fun e => by rw [e] at hcol; omega, fun e => by rw [e] at hcol; omega, fun e => by rw [e] at hcol; omega⟩, ⟨hp, hg, hh, fun k hk => (hown b i hi k hk).2⟩, ?_⟩
  intro w2 v' l' hon hr hnew
  have hsz2 := hon.size
  have hgh : ∀ b : Bool, bs (if b then h else g) := fun b => by cases b <;> simp [hg, hh]
  have hne3 : p ≠ g ∧ p ≠ h ∧ g ≠ h := ⟨fun e => by rw [e] at hcol; omega, fun e => by rw [e] at hcol; omega, fun e => by rw [e] at hcol; omega⟩
  have hghi : ∀ b' j, j < st.length → (rv b' j).ownBlock ≠ some (if b then h else g) := fun b' j hj => by
    cases b
    · exact (hv3 b' j hj).2.1
    · exact (hv3 b' j hj).2.2
  have hghi' : ∀ b' : Bool, (rv b i).ownBlock ≠ some (if b' then h else g) := fun b' => by
    cases b'
    · exact (hv3 b i hi).2.1
    · exact (hv3 b i hi).2.2
  have hpgh : p ≠ (if b then h else g) := by cases b <;> simp [hne3]
  generalize hG : (if b then h else g) = G at *
  have hGl : G < w.heap.size := by rw [← hG]; exact hlt _ (hgh b)
  have hv'G : v'.ownBlock ≠ some G := fun e => by
    rcases hnew with e2 | e2 | ⟨m, e2, hm⟩
    · exact hghi b i hi (e2 ▸ e)
    · rw [e2] at e; cases e
    · rw [e2] at e; cases e; omega
  have hon1 : Only (· = G) w2 (w2.setCell ⟨G, i, none⟩ v') := Only.setCell (S := (· = G)) (Only.refl _ _) (p := ⟨G, i, none⟩) (fun _ => rfl) _
  have hcG := hcell b i hi
  rw [hG] at hcG
  have hcell0 := (hon.cell (p := ⟨G, i, none⟩) hGl (hghi b i hi)).trans hcG.1
  have hfr : ∀ q : Addr, (w2.setCell ⟨G, i, none⟩ v').frozen? q = w2.frozen? q := fun q => World.frozen?_setCell ..
  have hcp : ∀ o, (w2.setCell ⟨G, i, none⟩ v').cell? ⟨p, o, none⟩ = w.cell? ⟨p, o, none⟩ := fun o =>
    (hon1.cell (p := ⟨p, o, none⟩) (Nat.lt_of_lt_of_le (hlt p hp) hsz2) hpgh).trans (hon.cell (p := ⟨p, o, none⟩) (hlt p hp) (hv3 b i hi).1)
  have rkeep : ∀ b' j, j < st.length → ¬ (j = i ∧ b' = b) → RW (w2.setCell ⟨G, i, none⟩ v') 0 9 1 (rv b' j) ((rowOf st b' j).map strC) := fun b' j hj hne =>
    ((hrow b' j hj).only hon (fun k hk e => by
      have h1 := (hown b' j hj k hk).1
      have h2 := (hown b i hi k e).1
      cases b <;> cases b' <;> simp at h1 h2 hne <;> omega)).only hon1 (fun k hk e => hghi b' j hj (e ▸ hk))
  have hlen := setRow_len st b i l'
  refine ⟨fun k => bs k ∨ (w.heap.size ≤ k ∧ k < w2.heap.size), ⟨g, h, cg, ch, fun k => if k < w.heap.size then col k else 4 + 2 * i + (if b then 1 else 0), fun b' j => if j = i ∧ b' = b then v' else rv b' j, ⟨⟨?_, ?_⟩, ?_⟩, ⟨?_, ?_, ?_⟩, ?_, ?_, ?_, ⟨.inl hp, .inl hg, .inl hh⟩, ?_⟩, ⟨?_, fun k hk => hk.imp id (fun h => h.1)⟩⟩
  · rw [hlen, hcp 0]; exact c0
  · rw [hlen, hcp 1]; exact c1
  · rw [hlen]; exact hl
  · simp only [hlt p hp, if_true]; exact hcol.1
  · simp only [hlt g hg, if_true]; exact hcol.2.1
  · simp only [hlt h hh, if_true]; exact hcol.2.2
  · intro b' j hj
    rw [hlen] at hj
    obtain ⟨a, c⟩ := hcell b' j hj
    have hgl' := hlt _ (hgh b')
    refine ⟨?_, (hfr _).trans ((hon.frozen (p := ⟨if b' then h else g, j, none⟩) hgl' (hghi' b')).trans c)⟩
    show (w2.setCell ⟨G, i, none⟩ v').cell? ⟨if b' then h else g, j, none⟩ = some (if j = i ∧ b' = b then v' else rv b' j)
    by_cases he : j = i ∧ b' = b
    · rw [if_pos he, he.1, he.2, hG]
      exact World.cell?_setCell_same w2 _ _ hcell0
    · rw [if_neg he, World.cell?_setCell_other w2 _ _ _ (by
        intro e
        simp only [Addr.mk.injEq, and_true] at e
        obtain ⟨e1, e2⟩ := e
        refine he ⟨by first | exact e2 | exact e2.symm, ?_⟩
        rw [← hG] at e1
        cases b <;> cases b' <;> simp at e1 ⊢
        · first | exact hne3.2.2 e1 | exact hne3.2.2 e1.symm
        · first | exact hne3.2.2 e1 | exact hne3.2.2 e1.symm)]
      exact (hon.cell (p := ⟨if b' then h else g, j, none⟩) hgl' (hghi' b')).trans a
  · intro b' j hj
    rw [hlen] at hj
    show RW _ 0 _ 1 (if j = i ∧ b' = b then v' else rv b' j) _
    rw [rowOf_setRow hi]
    by_cases he : j = i ∧ b' = b
    · rw [if_pos he, if_pos he]
      exact hr.only hon1 (fun k hk e => hv'G (e ▸ hk))
    · rw [if_neg he, if_neg he]
      exact rkeep b' j hj he
  · intro b' j hj k hk
    rw [hlen] at hj
    replace hk : (if j = i ∧ b' = b then v' else rv b' j).ownBlock = some k := hk
    show (if k < w.heap.size then col k else 4 + 2 * i + (if b then 1 else 0)) = 4 + 2 * j + (if b' then 1 else 0) ∧ (bs k ∨ (w.heap.size ≤ k ∧ k < w2.heap.size))
    by_cases he : j = i ∧ b' = b
    · rw [if_pos he] at hk
      obtain ⟨rfl, rfl⟩ := he
      have hkl := hr.own_lt k hk
      rcases hnew with e2 | e2 | ⟨m, e2, hm⟩
      · rw [e2] at hk
        have h1 := hown b' j hj k hk
        have hkw := (hrow b' j hj).own_lt k hk
        simp only [hkw, if_true]
        exact ⟨h1.1, .inl h1.2⟩
      · rw [e2] at hk; cases hk
      · have hmk : m = k := by rw [e2] at hk; exact Option.some.inj hk
        subst hmk
        have : ¬ m < w.heap.size := by omega
        simp only [this, if_false]
        exact ⟨trivial, .inr ⟨hm, hkl⟩⟩
    · rw [if_neg he] at hk
      have h1 := hown b' j hj k hk
      have hkw := (hrow b' j hj).own_lt k hk
      simp only [hkw, if_true]
      exact ⟨h1.1, .inl h1.2⟩
  · intro k hk
    rcases hk with hk | ⟨_, hk⟩
    · exact Nat.lt_of_lt_of_le (hlt k hk) (Nat.le_trans hsz2 hon1.size)
    · exact Nat.lt_of_lt_of_le hk hon1.size
  · exact (hon.mono (T := bs) (fun k _ hk => (hown b i hi k hk).2)).trans hon1 (fun k _ e => by rw [e, ← hG]; exact hgh b)
end Go.Proofs.Ytbflffanahnofaa
