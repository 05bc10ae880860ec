/- Owned rows of records of one size. -/
import Derived.Test.YtjhocaleampamaaDoorOnly
import Derived.Deep.MidRow
namespace Go.Proofs.YtjhocaleampamaaDoor
open Go.RowKit
theorem Only.setCells {S : Nat → Prop} {b : Nat} (hS : S b) : ∀ (vs : List Value) (o : Nat) {a w : World}, Only S a w → Only S a (w.setCells b o vs)
  | [], _, _, _, h => h
  | v :: r, o, _, _, h => by rw [World.setCells]; exact Only.setCells hS r (o + 1) (h.setCell (p := ⟨b, o, none⟩) (fun _ => hS) v)
theorem Below.setCells {B b : Nat} (hB : B ≤ b) : ∀ (vs : List Value) (o : Nat) {a w : World}, Below B a w → Below B a (w.setCells b o vs)
  | [], _, _, _, h => h
  | v :: r, o, _, _, h => by rw [World.setCells]; exact Below.setCells hB r (o + 1) (h.setCell (p := ⟨b, o, none⟩) hB v)
theorem size_setCells (b : Nat) : ∀ (vs : List Value) (o : Nat) (w : World), (w.setCells b o vs).heap.size = w.heap.size
  | [], _, _ => rfl
  | v :: r, o, w => by rw [World.setCells, size_setCells b r (o + 1)]; simp [World.setCell]
/-- The list with vs from o on. -/
def setAll (xs : List Value) : Nat → List Value → List Value
  | _, [] => xs
  | o, v :: r => setAll (xs.set o v) (o + 1) r
theorem setAll_eq (xs : List Value) : ∀ (vs : List Value) (o : Nat), o + vs.length ≤ xs.length → setAll xs o vs = xs.take o ++ vs ++ xs.drop (o + vs.length) := by
  intro vs
  induction vs generalizing xs with
  | nil => intro o ho; simp [setAll]
  | cons v r ih =>
    intro o ho
    simp only [List.length_cons] at ho
    rw [setAll, ih (xs.set o v) (o + 1) (by rw [List.length_set]; omega)]
    have h1 : (xs.set o v).take (o + 1) = xs.take o ++ [v] := by
      rw [List.take_set, List.take_succ_eq_append_getElem (by omega), List.set_append_right _ _ (by simp; omega)]
      simp [List.length_take, Nat.min_eq_left (show o ≤ xs.length by omega)]
    have h2 : (xs.set o v).drop (o + 1 + r.length) = xs.drop (o + (v :: r).length) := by
      rw [List.drop_set_of_lt (by omega), List.length_cons]; congr 1; omega
    rw [h1, h2]; simp
/-- All of one length. -/
def Even (sz : Nat) (rs : List (List Value)) : Prop := ∀ r ∈ rs, r.length = sz
theorem Even.flat {sz : Nat} : ∀ {rs : List (List Value)}, Even sz rs → rs.flatten.length = rs.length * sz
  | [], _ => by simp
  | r :: rs, h => by
    have h1 := h r (by simp)
    have h2 := Even.flat (rs := rs) (fun q hq => h q (by simp [hq]))
    simp only [List.flatten_cons, List.length_append, h1, h2, List.length_cons, Nat.succ_mul]; omega
theorem Even.split {sz : Nat} {rs : List (List Value)} (h : Even sz rs) {i : Nat} (hi : i < rs.length) :
    rs.flatten = (rs.take i).flatten ++ rs[i] ++ (rs.drop (i + 1)).flatten ∧ (rs.take i).flatten.length = i * sz ∧ (rs[i]).length = sz := by
  refine ⟨?_, ?_, h _ (List.getElem_mem hi)⟩
  · have h1 : rs = rs.take i ++ rs[i] :: rs.drop (i + 1) := by simp
    have h2 := congrArg List.flatten h1
    rw [List.flatten_append, List.flatten_cons] at h2
    rw [h2, List.append_assoc]
  · have := Even.flat (rs := rs.take i) (fun r hr => h r (List.mem_of_mem_take hr))
    rw [this, List.length_take, Nat.min_eq_left (Nat.le_of_lt hi)]
theorem Even.set {sz : Nat} {rs : List (List Value)} (h : Even sz rs) (i : Nat) {r : List Value} (hr : r.length = sz) : Even sz (rs.set i r) := by
  intro q hq
  rcases List.mem_or_eq_of_mem_set hq with h1 | rfl
  · exact h _ h1
  · exact hr
theorem Even.setAll {sz : Nat} {rs : List (List Value)} (h : Even sz rs) {i : Nat} (hi : i < rs.length) {r : List Value} (hr : r.length = sz) : setAll rs.flatten (i * sz) r = (rs.set i r).flatten := by
  obtain ⟨h1, h2, h3⟩ := h.split hi
  have hfit : i * sz + r.length ≤ rs.flatten.length := by
    rw [h1]; simp only [List.length_append, h2, h3, hr]; omega
  rw [setAll_eq _ _ _ hfit]
  have hset : rs.set i r = rs.take i ++ r :: rs.drop (i + 1) := by rw [List.set_eq_take_append_cons_drop, if_pos hi]
  rw [hset, List.flatten_append, List.flatten_cons]
  have e1 : rs.flatten.take (i * sz) = (rs.take i).flatten := by rw [h1, List.append_assoc, List.take_left' h2]
  have e2 : rs.flatten.drop (i * sz + r.length) = (rs.drop (i + 1)).flatten := by rw [h1, List.drop_left' (by simp only [List.length_append, h2, h3, hr])]
  rw [e1, e2]; simp
/-- v is an owned row of the records rs. -/
def RW (w : World) (base : Nat) (e : TypeId) (sz : Nat) (v : Value) (rs : List (List Value)) : Prop := w.ownsRow base e sz v rs.length rs.flatten ∧ Even sz rs
section
variable {w : World} {base : Nat} {e : TypeId} {sz : Nat} {v : Value} {rs : List (List Value)}
theorem RW.nil (w : World) (base : Nat) (e : TypeId) (sz : Nat) : RW w base e sz (.slice none 0 0) [] := ⟨World.ownsRow_nil _ _ _ _, by intro r hr; cases hr⟩
theorem RW.mono (h : RW w base e sz v rs) {b' : Nat} (hb : b' ≤ base) : RW w b' e sz v rs := by
  refine ⟨?_, h.2⟩
  obtain ⟨h1, h2⟩ := h.1
  refine ⟨h1, ?_⟩
  rcases h2 with h2 | ⟨g, cap, cur, rfl, hg, r⟩
  · exact .inl h2
  · exact .inr ⟨g, cap, cur, rfl, Nat.le_trans hb hg, r⟩
theorem RW.drew (h : RW w base e sz v rs) : RW w.drew base e sz v rs := h
theorem RW.own_ge (h : RW w base e sz v rs) : ∀ k, v.ownBlock = some k → base ≤ k := fun k hk => (World.ownsRow.lt h.1 k hk).1
theorem RW.own_lt (h : RW w base e sz v rs) : ∀ k, v.ownBlock = some k → k < w.heap.size := fun k hk => (World.ownsRow.lt h.1 k hk).2
theorem RW.only {S : Nat → Prop} {w' : World} (h : RW w base e sz v rs) (ho : Only S w w') (hn : ∀ k, v.ownBlock = some k → ¬ S k) : RW w' base e sz v rs := by
  have hlt := h.own_lt
  refine ⟨?_, h.2⟩
  obtain ⟨h1, h2⟩ := h.1
  refine ⟨h1, ?_⟩
  rcases h2 with h2 | ⟨g, cap, cur, rfl, hg, hh, r⟩
  · exact .inl h2
  · refine .inr ⟨g, cap, cur, rfl, hg, ?_, r⟩
    rw [ho.block g (hlt g rfl) (hn g rfl)]; exact hh
theorem RW.keep {w' : World} (h : RW w base e sz v rs) (hb : Below w.heap.size w w') : RW w' base e sz v rs := h.only (Only.of_below (S := fun _ => False) hb) (fun _ _ h => h)
theorem RW.val (h : RW w base e sz v rs) : ∃ ao cap, v = .slice ao rs.length cap ∧ rs.length ≤ cap ∧ cap ≤ 9223372036854775807 ∧ (∀ a, ao = some a → a = ⟨a.block, 0, none⟩) := by
  obtain ⟨_, h2⟩ := h.1
  rcases h2 with ⟨rfl, h0⟩ | ⟨g, cap, cur, rfl, _, _, hn, hc, _⟩
  · exact ⟨none, 0, by rw [h0], by omega, by omega, by simp⟩
  · exact ⟨_, cap, rfl, hn, by unfold maxLen at hc; omega, by simp⟩
theorem RW.shape (h : RW w base e sz v rs) (hne : rs ≠ []) :
    ∃ g cap, v = .slice (some ⟨g, 0, none⟩) rs.length cap ∧ base ≤ g ∧ g < w.heap.size ∧ rs.length ≤ cap ∧ cap ≤ 9223372036854775807 := by
  obtain ⟨_, h2⟩ := h.1
  rcases h2 with ⟨rfl, h0⟩ | ⟨g, cap, cur, rfl, hb, hg, hn, hc, hs, ht⟩
  · exact absurd (List.eq_nil_of_length_eq_zero h0) hne
  · exact ⟨g, cap, rfl, hb, (Array.getElem?_eq_some_iff.1 hg).1, hn, by unfold maxLen at hc; omega⟩
theorem RW.range {g n cap : Nat} (h : RW w base e sz (.slice (some ⟨g, 0, none⟩) n cap) rs) (hn : n = rs.length) {i : Nat} (hi : i < rs.length) : w.rangeAt g (i * sz) rs[i] := by
  subst hn
  obtain ⟨h1, h2, h3⟩ := h.2.split hi
  intro j u hj
  have hjl : j < rs[i].length := (List.getElem?_eq_some_iff.1 hj).1
  have hlt : i * sz + j < rs.length * sz := by
    have : (i + 1) * sz ≤ rs.length * sz := Nat.mul_le_mul_right _ hi
    rw [Nat.succ_mul] at this; omega
  rw [World.ownsRow.cellAt h.1 _ hlt, h1, List.append_assoc, List.getElem?_append_right (by omega), h2, Nat.add_sub_cancel_left, List.getElem?_append_left hjl, hj]
theorem RW.there {g n cap : Nat} (h : RW w base e sz (.slice (some ⟨g, 0, none⟩) n cap) rs) (hn : n = rs.length) {i : Nat} (hi : i < rs.length) : w.there g (i * sz) sz := by
  intro j hj
  refine ⟨(h.range hn hi).isSome j (by rw [h.2 _ (List.getElem_mem hi)]; exact hj), ?_⟩
  subst hn
  exact World.ownsRow.frozenAt h.1 _
theorem ownsRow_setCells {g cap n : Nat} : ∀ (vs : List Value) (o : Nat) {w : World} {xs : List Value}, w.ownsRow base e sz (.slice (some ⟨g, 0, none⟩) n cap) n xs → (w.setCells g o vs).ownsRow base e sz (.slice (some ⟨g, 0, none⟩) n cap) n (setAll xs o vs)
  | [], _, _, _, h => h
  | u :: r, o, w, xs, h => by rw [World.setCells, setAll]; exact ownsRow_setCells r (o + 1) (h.stored o u).1
theorem RW.set {g n cap : Nat} (h : RW w base e sz (.slice (some ⟨g, 0, none⟩) n cap) rs) (hn : n = rs.length) {i : Nat} (hi : i < rs.length) {r : List Value} (hr : r.length = sz) :
    RW (w.setCells g (i * sz) r) base e sz (.slice (some ⟨g, 0, none⟩) n cap) (rs.set i r) := by
  subst hn
  have := ownsRow_setCells (base := base) (e := e) (sz := sz) r (i * sz) h.1
  rw [h.2.setAll hi hr] at this
  exact ⟨by rw [List.length_set]; exact this, h.2.set i hr⟩
end
end Go.Proofs.YtjhocaleampamaaDoor
