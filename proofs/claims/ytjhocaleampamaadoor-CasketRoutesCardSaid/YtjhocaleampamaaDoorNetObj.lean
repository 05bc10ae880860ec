/- net.Net: the object, and its small methods. -/
import Derived.Test.YtjhocaleampamaaDoorBits
import Derived.Test.YtjhocaleampamaaDoorRowApps
namespace Go.Proofs.YtjhocaleampamaaDoor
open Go.RowKit
/-- A message, as a slice and as its bytes. -/
structure MsgD where
  v : Value
  l : List UInt8
structure BoxD where
  inn : List MsgD
  seen : List MsgD
  held : List MsgD
/-- A message of the box's: in it, seen, or held (taken out and not yet seen). -/
def BoxD.has (b : BoxD) (x : MsgD) : Prop := x ∈ b.inn ∨ x ∈ b.seen ∨ x ∈ b.held
def msgC (x : MsgD) : List Value := [x.v]
/-- A net at p of the boxes xs; its blocks are bs. Each block has a colour: 1 the boxes, 2 + 2i and 3 + 2i the rows of box i, 0 what is never written. -/
def NetIn (w : World) (p : Nat) (xs : List BoxD) (bs : Nat → Prop) : Prop := ∃ (g cap : Nat) (col : Nat → Nat) (iv sv : Nat → Value),
  (w.cell? ⟨p, 0, none⟩ = some (.slice (some ⟨g, 0, none⟩) xs.length cap) ∧ xs.length ≤ cap ∧ cap ≤ 9223372036854775807) ∧
  (col p = 0 ∧ col g = 1) ∧
  (∀ i, i < xs.length → (w.cell? ⟨g, i * 2, none⟩ = some (iv i) ∧ w.cell? ⟨g, i * 2 + 1, none⟩ = some (sv i)) ∧ (w.frozen? ⟨g, i * 2, none⟩ = false ∧ w.frozen? ⟨g, i * 2 + 1, none⟩ = false)) ∧
  (∀ i (hi : i < xs.length), RW w 0 39 1 (iv i) (xs[i].inn.map msgC) ∧ RW w 0 39 1 (sv i) (xs[i].seen.map msgC)) ∧
  (∀ i, i < xs.length → (∀ k, (iv i).ownBlock = some k → col k = 2 + 2 * i ∧ bs k) ∧ (∀ k, (sv i).ownBlock = some k → col k = 3 + 2 * i ∧ bs k)) ∧
  (∀ i (hi : i < xs.length), ∀ x, xs[i].has x → Bsl w x.v x.l ∧ x.l.length ≤ 1000000 ∧ (x.l ≠ [] → ∀ k, x.v.ownBlock = some k → col k = 0 ∧ bs k)) ∧
  (bs p ∧ bs g) ∧ (∀ k, bs k → k < w.heap.size)
structure NEff (w w' : World) (bs bs' : Nat → Prop) : Prop where
  only : Only bs w w'
  new : ∀ k, bs' k → bs k ∨ w.heap.size ≤ k
theorem NEff.refl (w : World) (bs : Nat → Prop) : NEff w w bs bs := ⟨Only.refl _ _, fun _ h => .inl h⟩
theorem NEff.trans {a b c : World} {x y z : Nat → Prop} (h : NEff a b x y) (k : NEff b c y z) : NEff a c x z :=
  ⟨h.only.trans k.only (fun i hi hy => (h.new i hy).elim id (fun e => absurd hi (by omega))), fun i hz => (k.new i hz).elim (h.new i) (fun e => .inr (Nat.le_trans h.only.size e))⟩
theorem NetIn.lt {w : World} {p : Nat} {xs : List BoxD} {bs : Nat → Prop} (h : NetIn w p xs bs) : ∀ k, bs k → k < w.heap.size := by
  obtain ⟨_, _, _, _, _, _, _, _, _, _, _, _, h⟩ := h
  exact h
theorem NetIn.hp {w : World} {p : Nat} {xs : List BoxD} {bs : Nat → Prop} (h : NetIn w p xs bs) : bs p := by
  obtain ⟨_, _, _, _, _, _, _, _, _, _, _, h, _⟩ := h
  exact h.1
theorem NetIn.only {S : Nat → Prop} {w w' : World} {p : Nat} {xs : List BoxD} {bs : Nat → Prop} (h : NetIn w p xs bs) (ho : Only S w w') (hS : ∀ k, bs k → ¬ S k) : NetIn w' p xs bs := by
  have hlt := h.lt
  obtain ⟨g, cap, col, iv, sv, ⟨c0, hc1, hc2⟩, hcol, hcell, hrow, hown, hmsg, ⟨hp, hg⟩, hb⟩ := h
  refine ⟨g, cap, col, iv, sv, ⟨(ho.cell (p := ⟨p, 0, none⟩) (hlt p hp) (hS p hp)).trans c0, hc1, hc2⟩, hcol, fun i hi => ?_, fun i hi => ?_, hown, fun i hi x hx => ?_, ⟨hp, hg⟩, fun k hk => Nat.lt_of_lt_of_le (hb k hk) ho.size⟩
  · obtain ⟨⟨a, b⟩, c, d⟩ := hcell i hi
    exact ⟨⟨(ho.cell (p := ⟨g, i * 2, none⟩) (hlt g hg) (hS g hg)).trans a, (ho.cell (p := ⟨g, i * 2 + 1, none⟩) (hlt g hg) (hS g hg)).trans b⟩, (ho.frozen (p := ⟨g, i * 2, none⟩) (hlt g hg) (hS g hg)).trans c, (ho.frozen (p := ⟨g, i * 2 + 1, none⟩) (hlt g hg) (hS g hg)).trans d⟩
  · exact ⟨(hrow i hi).1.only ho (fun k hk => hS k ((hown i hi).1 k hk).2), (hrow i hi).2.only ho (fun k hk => hS k ((hown i hi).2 k hk).2)⟩
  · obtain ⟨a, b, c⟩ := hmsg i hi x hx
    exact ⟨a.only' ho (fun hne k hk => hS k (c hne k hk).2), b, c⟩
theorem NetIn.keep {w w' : World} {p : Nat} {xs : List BoxD} {bs : Nat → Prop} (h : NetIn w p xs bs) (hb : Below w.heap.size w w') : NetIn w' p xs bs := h.only (Only.of_below (S := fun _ => False) hb) (fun _ _ h => h)
instance : Inhabited BoxD := ⟨⟨[], [], []⟩⟩
/-- The texts alone. -/
def BoxD.txt (b : BoxD) : List (List UInt8) × List (List UInt8) := (b.inn.map (·.l), b.seen.map (·.l))
def NetAt (w : World) (p : Nat) (st : List (List (List UInt8) × List (List UInt8))) (bs : Nat → Prop) : Prop := ∃ xs, st = xs.map BoxD.txt ∧ NetIn w p xs bs
theorem NetAt.only {S : Nat → Prop} {w w' : World} {p : Nat} {st : List (List (List UInt8) × List (List UInt8))} {bs : Nat → Prop} (h : NetAt w p st bs) (ho : Only S w w') (hS : ∀ k, bs k → ¬ S k) : NetAt w' p st bs := by
  obtain ⟨xs, rfl, h⟩ := h
  exact ⟨xs, rfl, h.only ho hS⟩
theorem NetAt.keep {w w' : World} {p : Nat} {st : List (List (List UInt8) × List (List UInt8))} {bs : Nat → Prop} (h : NetAt w p st bs) (hb : Below w.heap.size w w') : NetAt w' p st bs := h.only (Only.of_below (S := fun _ => False) hb) (fun _ _ h => h)
theorem NetAt.lt {w : World} {p : Nat} {st : List (List (List UInt8) × List (List UInt8))} {bs : Nat → Prop} (h : NetAt w p st bs) : ∀ k, bs k → k < w.heap.size := by
  obtain ⟨xs, rfl, h⟩ := h
  exact h.lt
/-- What 'box' answers. -/
def boxE (xs : List BoxD) (k : Int) : Int := if 0 ≤ k ∧ k < xs.length then 0 else 1
set_option maxRecDepth 100000 in
set_option maxHeartbeats 400000 in
theorem nbox_bad (k : Int) (w : World) {p : Nat} {xs : List BoxD} {bs : Nat → Prop} (h : NetIn w p xs bs) (hk : ¬ (0 ≤ k ∧ k < xs.length)) :
    Calls Tryd.prog 28 #[.pointer (some ⟨p, 0, none⟩), .int .i64 k] w fun e w' => e = .returned (.tuple #[.pointer none, .int .i64 1]) ∧ w = w' := by
  obtain ⟨g, cap, col, iv, sv, ⟨c0, hc1, hc2⟩, hz⟩ := h
  clear hz
  by_cases h0 : k < 0
  · clear hk
    go_enter Tryd.func28, Tryd.ntmps28
    go_wp2_with fail
    go_ret2
    exact ⟨rfl, rfl⟩
  · have h1 : (xs.length : Int) ≤ k := by omega
    clear hk
    go_enter Tryd.func28, Tryd.ntmps28
    go_wp2_with fail
    go_ret2
    exact ⟨rfl, rfl⟩
set_option maxRecDepth 100000 in
set_option maxHeartbeats 400000 in
theorem nbox_nil (k : Int) (w : World) :
    Calls Tryd.prog 28 #[.pointer none, .int .i64 k] w fun e w' => e = .returned (.tuple #[.pointer none, .int .i64 1]) ∧ w = w' := by
  go_enter Tryd.func28, Tryd.ntmps28
  go_wp2_with fail
  go_ret2
  exact ⟨rfl, rfl⟩
set_option maxRecDepth 100000 in
set_option maxHeartbeats 400000 in
theorem nbox_ok (k : Nat) (w : World) {p g cap n : Nat} (c0 : w.cell? ⟨p, 0, none⟩ = some (.slice (some ⟨g, 0, none⟩) n cap)) (hk : k < n) :
    Calls Tryd.prog 28 #[.pointer (some ⟨p, 0, none⟩), .int .i64 k] w fun e w' => e = .returned (.tuple #[.pointer (some ⟨g, k * 2, none⟩), .int .i64 0]) ∧ w = w' := by
  have h0 : (0 : Int) ≤ (k : Int) := Int.natCast_nonneg _
  have h1 : (k : Int) < n := by omega
  go_enter Tryd.func28, Tryd.ntmps28
  go_wp2_with fail
  go_ret2
  exact ⟨rfl, rfl⟩
/-- The row of what is in a box, replaced. -/
theorem NetIn.setIn {w : World} {p : Nat} {xs : List BoxD} {bs : Nat → Prop} (h : NetIn w p xs bs) {i : Nat} (hi : i < xs.length) : ∃ g cap iv,
    (w.cell? ⟨p, 0, none⟩ = some (.slice (some ⟨g, 0, none⟩) xs.length cap) ∧ w.cell? ⟨g, i * 2, none⟩ = some iv ∧ w.frozen? ⟨g, i * 2, none⟩ = false ∧ g < w.heap.size) ∧
    RW w 0 39 1 iv (xs[i].inn.map msgC) ∧ iv.ownBlock ≠ some g ∧ (∀ x ∈ xs[i].inn, Bsl w x.v x.l ∧ x.l.length ≤ 1000000) ∧ bs g ∧ (∀ k, iv.ownBlock = some k → bs k) ∧
    (∀ (w2 : World) (iv' : Value) (l' h' : List MsgD), Only (fun k => iv.ownBlock = some k) w w2 → RW w2 0 39 1 iv' (l'.map msgC) → (iv'.ownBlock = iv.ownBlock ∨ iv'.ownBlock = none ∨ ∃ k, iv'.ownBlock = some k ∧ w.heap.size ≤ k) →
      (∀ x ∈ h', xs[i].has x) → (∀ x ∈ l', xs[i].has x ∨ (Bsl w2 x.v x.l ∧ x.l.length ≤ 1000000 ∧ (∀ k, x.v.ownBlock = some k → w.heap.size ≤ k ∧ k < w2.heap.size ∧ iv'.ownBlock ≠ some k))) →
      ∃ bs', NetIn (w2.setCell ⟨g, i * 2, none⟩ iv') p (xs.set i { xs[i] with inn := l', held := h' }) bs' ∧ NEff w (w2.setCell ⟨g, i * 2, none⟩ iv') bs bs' ∧ (w2.setCell ⟨g, i * 2, none⟩ iv').cell? ⟨p, 0, none⟩ = w.cell? ⟨p, 0, none⟩) := by
  have hlt := h.lt
  obtain ⟨g, cap, col, iv, sv, ⟨c0, hc1, hc2⟩, hcol, hcell, hrow, hown, hmsg, ⟨hp, hg⟩, hb⟩ := h
  have hivg : (iv i).ownBlock ≠ some g := fun e => by have := ((hown i hi).1 g e).1; omega
  refine ⟨g, cap, iv i, ⟨c0, (hcell i hi).1.1, (hcell i hi).2.1, hlt g hg⟩, (hrow i hi).1, hivg, fun x hx => ⟨(hmsg i hi x (.inl hx)).1, (hmsg i hi x (.inl hx)).2.1⟩, hg, fun k hk => ((hown i hi).1 k hk).2, ?_⟩
  intro w2 iv' l' h' hon hr hnew hh' hl'
  have hsz2 := hon.size
  have hpl := hlt p hp
  have hgl := hlt g hg
  have hpg : p ≠ g := fun e => by rw [e] at hcol; omega
  have hivp : (iv i).ownBlock ≠ some p := fun e => by have := ((hown i hi).1 p e).1; omega
  have hiv'g : iv'.ownBlock ≠ some g := fun e => by
    rcases hnew with e2 | e2 | ⟨m, e2, hm⟩
    · exact hivg (e2 ▸ e)
    · rw [e2] at e; cases e
    · rw [e2] at e; cases e; omega
  have hon1 : Only (· = g) w2 (w2.setCell ⟨g, i * 2, none⟩ iv') := Only.setCell (S := (· = g)) (Only.refl _ _) (p := ⟨g, i * 2, none⟩) (fun _ => rfl) _
  have hb2 : ∀ k, k < w.heap.size → (iv i).ownBlock ≠ some k → k ≠ g → ∀ o, (w2.setCell ⟨g, i * 2, none⟩ iv').cell? ⟨k, o, none⟩ = w.cell? ⟨k, o, none⟩ := fun k hk h1 h2 o =>
    (hon1.cell (p := ⟨k, o, none⟩) (Nat.lt_of_lt_of_le hk hsz2) h2).trans (hon.cell (p := ⟨k, o, none⟩) hk h1)
  have cg : ∀ o, o ≠ i * 2 → (w2.setCell ⟨g, i * 2, none⟩ iv').cell? ⟨g, o, none⟩ = w.cell? ⟨g, o, none⟩ := fun o ho => by
    rw [World.cell?_setCell_other w2 _ _ _ (by simp only [ne_eq, Addr.mk.injEq, true_and, and_true]; omega)]
    exact hon.cell (p := ⟨g, o, none⟩) hgl hivg
  have fg : ∀ o, (w2.setCell ⟨g, i * 2, none⟩ iv').frozen? ⟨g, o, none⟩ = w.frozen? ⟨g, o, none⟩ := fun o => by
    rw [World.frozen?_setCell]; exact hon.frozen (p := ⟨g, o, none⟩) hgl hivg
  have rkeep : ∀ v rs, RW w 0 39 1 v rs → (∀ k, v.ownBlock = some k → (iv i).ownBlock ≠ some k ∧ k ≠ g) → RW (w2.setCell ⟨g, i * 2, none⟩ iv') 0 39 1 v rs := fun v rs hv hk =>
    (hv.only hon (fun k e => (hk k e).1)).only hon1 (fun k e => (hk k e).2)
  have hcell0 := (hon.cell (p := ⟨g, i * 2, none⟩) hgl hivg).trans (hcell i hi).1.1
  have hlen : (xs.set i { xs[i] with inn := l', held := h' }).length = xs.length := List.length_set
  have hget : ∀ j (hj : j < (xs.set i { xs[i] with inn := l', held := h' }).length), j ≠ i → (xs.set i { xs[i] with inn := l', held := h' })[j] = xs[j]'(by rw [← hlen]; exact hj) := fun j hj hne => List.getElem_set_ne (fun e => hne e.symm) _
  have hgeti : ∀ (hj : i < (xs.set i { xs[i] with inn := l', held := h' }).length), (xs.set i { xs[i] with inn := l', held := h' })[i] = { xs[i] with inn := l', held := h' } := fun hj => List.getElem_set_self hj
  refine ⟨fun k => bs k ∨ (w.heap.size ≤ k ∧ k < w2.heap.size), ⟨g, cap, fun k => if k < w.heap.size then col k else if iv'.ownBlock = some k then 2 + 2 * i else 0, fun j => if j = i then iv' else iv j, sv, ⟨?_, ?_, hc2⟩, ⟨?_, ?_⟩, ?_, ?_, ?_, ?_, ⟨.inl hp, .inl hg⟩, ?_⟩, ⟨?_, fun k hk => hk.imp id (fun h => h.1)⟩, hb2 p hpl hivp hpg 0⟩
  · rw [hlen, hb2 p hpl hivp hpg 0]; exact c0
  · rw [hlen]; exact hc1
  · simp only [hpl, if_true]; exact hcol.1
  · simp only [hgl, if_true]; exact hcol.2
  · intro j hj
    rw [hlen] at hj
    obtain ⟨⟨a, b⟩, c, d⟩ := hcell j hj
    refine ⟨⟨?_, (cg _ (by omega)).trans b⟩, (fg _).trans c, (fg _).trans d⟩
    by_cases he : j = i
    · subst he; simp only [if_true]; exact World.cell?_setCell_same w2 _ _ hcell0
    · simp only [he, if_false]; exact (cg _ (by omega)).trans a
  · intro j hj
    have hj' : j < xs.length := by rw [← hlen]; exact hj
    have hs2 : ∀ k, (sv j).ownBlock = some k → (iv i).ownBlock ≠ some k ∧ k ≠ g := fun k hk => by
      have h1 := ((hown j hj').2 k hk).1
      exact ⟨fun e => by have := ((hown i hi).1 k e).1; omega, fun e => by rw [e] at h1; omega⟩
    by_cases he : j = i
    · subst he
      rw [hgeti hj]
      simp only [if_true]
      exact ⟨hr.only hon1 (fun k hk e => hiv'g (e ▸ hk)), rkeep _ _ (hrow j hj').2 hs2⟩
    · rw [hget j hj he]
      simp only [he, if_false]
      refine ⟨rkeep _ _ (hrow j hj').1 (fun k hk => ?_), rkeep _ _ (hrow j hj').2 hs2⟩
      have h1 := ((hown j hj').1 k hk).1
      exact ⟨fun e => by have := ((hown i hi).1 k e).1; omega, fun e => by rw [e] at h1; omega⟩
  · intro j hj
    have hj' : j < xs.length := by rw [← hlen]; exact hj
    refine ⟨fun k hk => ?_, fun k hk => ?_⟩
    · by_cases he : j = i
      · subst he
        simp only [if_true] at hk
        have hkl := hr.own_lt k hk
        rcases hnew with e2 | e2 | ⟨m, e2, hm⟩
        · rw [e2] at hk
          have h1 := (hown j hj').1 k hk
          have hkw := (hrow j hj').1.own_lt k hk
          simp only [hkw, if_true]
          exact ⟨h1.1, .inl h1.2⟩
        · rw [e2] at hk; cases hk
        · have hmk : m = k := by rw [e2] at hk; exact Option.some.inj hk
          subst hmk
          have : ¬ m < w.heap.size := by omega
          simp only [this, if_false, hk, if_true]
          exact ⟨trivial, .inr ⟨hm, hkl⟩⟩
      · simp only [he, if_false] at hk
        have h1 := (hown j hj').1 k hk
        have hkw := (hrow j hj').1.own_lt k hk
        simp only [hkw, if_true]
        exact ⟨h1.1, .inl h1.2⟩
    · have h1 := (hown j hj').2 k hk
      have hkw := (hrow j hj').2.own_lt k hk
      simp only [hkw, if_true]
      exact ⟨h1.1, .inl h1.2⟩
  · intro j hj x hx
    have hj' : j < xs.length := by rw [← hlen]; exact hj
    have old : ∀ m (hm : m < xs.length), xs[m].has x → Bsl (w2.setCell ⟨g, i * 2, none⟩ iv') x.v x.l ∧ x.l.length ≤ 1000000 ∧ (x.l ≠ [] → ∀ k, x.v.ownBlock = some k → (if k < w.heap.size then col k else if iv'.ownBlock = some k then 2 + 2 * i else 0) = 0 ∧ (bs k ∨ (w.heap.size ≤ k ∧ k < w2.heap.size))) := by
      intro m hm hxm
      obtain ⟨a, b, c⟩ := hmsg m hm x hxm
      refine ⟨(a.only' hon (fun hne k hk e => ?_)).only' hon1 (fun hne k hk e => ?_), b, fun hne k hk => ?_⟩
      · have h1 := (c hne k hk).1
        have := ((hown i hi).1 k e).1
        omega
      · have h1 := (c hne k hk).1
        rw [e] at h1; omega
      · have h1 := c hne k hk
        have hkw := hlt k h1.2
        simp only [hkw, if_true]
        exact ⟨h1.1, .inl h1.2⟩
    by_cases he : j = i
    · subst he
      rw [hgeti hj] at hx
      rcases hx with hx | hx | hx
      · rcases hl' x hx with hxo | ⟨a, b, c⟩
        · exact old j hj' hxo
        · refine ⟨a.only' hon1 (fun hne k hk e => ?_), b, fun hne k hk => ?_⟩
          · have := (c k hk).1; omega
          · obtain ⟨k1, k2, k3⟩ := c k hk
            have : ¬ k < w.heap.size := by omega
            simp only [this, if_false, k3]
            exact ⟨trivial, .inr ⟨k1, k2⟩⟩
      · exact old j hj' (.inr (.inl hx))
      · exact old j hj' (hh' x hx)
    · rw [hget j hj he] at hx
      exact old j hj' hx
  · intro k hk
    rcases hk with hk | ⟨_, hk⟩
    · exact Nat.lt_of_lt_of_le (hlt k hk) (Nat.le_trans hsz2 hon1.size)
    · exact Nat.lt_of_lt_of_le hk hon1.size
  · exact (hon.mono (T := bs) (fun k _ hk => ((hown i hi).1 k hk).2)).trans hon1 (fun k _ e => by rw [e]; exact hg)
/-- The row of what was seen of a box, replaced. -/
theorem NetIn.setSeen {w : World} {p : Nat} {xs : List BoxD} {bs : Nat → Prop} (h : NetIn w p xs bs) {i : Nat} (hi : i < xs.length) : ∃ g cap iv,
    (w.cell? ⟨p, 0, none⟩ = some (.slice (some ⟨g, 0, none⟩) xs.length cap) ∧ w.cell? ⟨g, i * 2 + 1, none⟩ = some iv ∧ w.frozen? ⟨g, i * 2 + 1, none⟩ = false ∧ g < w.heap.size) ∧
    RW w 0 39 1 iv (xs[i].seen.map msgC) ∧ iv.ownBlock ≠ some g ∧ (∀ x ∈ xs[i].seen, Bsl w x.v x.l ∧ x.l.length ≤ 1000000) ∧ bs g ∧ (∀ k, iv.ownBlock = some k → bs k) ∧
    (∀ (w2 : World) (iv' : Value) (l' h' : List MsgD), Only (fun k => iv.ownBlock = some k) w w2 → RW w2 0 39 1 iv' (l'.map msgC) → (iv'.ownBlock = iv.ownBlock ∨ iv'.ownBlock = none ∨ ∃ k, iv'.ownBlock = some k ∧ w.heap.size ≤ k) →
      (∀ x ∈ h', xs[i].has x) → (∀ x ∈ l', xs[i].has x ∨ (Bsl w2 x.v x.l ∧ x.l.length ≤ 1000000 ∧ (∀ k, x.v.ownBlock = some k → w.heap.size ≤ k ∧ k < w2.heap.size ∧ iv'.ownBlock ≠ some k))) →
      ∃ bs', NetIn (w2.setCell ⟨g, i * 2 + 1, none⟩ iv') p (xs.set i { xs[i] with seen := l', held := h' }) bs' ∧ NEff w (w2.setCell ⟨g, i * 2 + 1, none⟩ iv') bs bs' ∧ (w2.setCell ⟨g, i * 2 + 1, none⟩ iv').cell? ⟨p, 0, none⟩ = w.cell? ⟨p, 0, none⟩) := by
  have hlt := h.lt
  obtain ⟨g, cap, col, iv, sv, ⟨c0, hc1, hc2⟩, hcol, hcell, hrow, hown, hmsg, ⟨hp, hg⟩, hb⟩ := h
  have hivg : (sv i).ownBlock ≠ some g := fun e => by have := ((hown i hi).2 g e).1; omega
  refine ⟨g, cap, sv i, ⟨c0, (hcell i hi).1.2, (hcell i hi).2.2, hlt g hg⟩, (hrow i hi).2, hivg, fun x hx => ⟨(hmsg i hi x (.inr (.inl hx))).1, (hmsg i hi x (.inr (.inl hx))).2.1⟩, hg, fun k hk => ((hown i hi).2 k hk).2, ?_⟩
  intro w2 iv' l' h' hon hr hnew hh' hl'
  have hsz2 := hon.size
  have hpl := hlt p hp
  have hgl := hlt g hg
  have hpg : p ≠ g := fun e => by rw [e] at hcol; omega
  have hivp : (sv i).ownBlock ≠ some p := fun e => by have := ((hown i hi).2 p e).1; omega
  have hiv'g : iv'.ownBlock ≠ some g := fun e => by
    rcases hnew with e2 | e2 | ⟨m, e2, hm⟩
    · exact hivg (e2 ▸ e)
    · rw [e2] at e; cases e
    · rw [e2] at e; cases e; omega
  have hon1 : Only (· = g) w2 (w2.setCell ⟨g, i * 2 + 1, none⟩ iv') := Only.setCell (S := (· = g)) (Only.refl _ _) (p := ⟨g, i * 2 + 1, none⟩) (fun _ => rfl) _
  have hb2 : ∀ k, k < w.heap.size → (sv i).ownBlock ≠ some k → k ≠ g → ∀ o, (w2.setCell ⟨g, i * 2 + 1, none⟩ iv').cell? ⟨k, o, none⟩ = w.cell? ⟨k, o, none⟩ := fun k hk h1 h2 o =>
    (hon1.cell (p := ⟨k, o, none⟩) (Nat.lt_of_lt_of_le hk hsz2) h2).trans (hon.cell (p := ⟨k, o, none⟩) hk h1)
  have cg : ∀ o, o ≠ i * 2 + 1 → (w2.setCell ⟨g, i * 2 + 1, none⟩ iv').cell? ⟨g, o, none⟩ = w.cell? ⟨g, o, none⟩ := fun o ho => by
    rw [World.cell?_setCell_other w2 _ _ _ (by simp only [ne_eq, Addr.mk.injEq, true_and, and_true]; omega)]
    exact hon.cell (p := ⟨g, o, none⟩) hgl hivg
  have fg : ∀ o, (w2.setCell ⟨g, i * 2 + 1, none⟩ iv').frozen? ⟨g, o, none⟩ = w.frozen? ⟨g, o, none⟩ := fun o => by
    rw [World.frozen?_setCell]; exact hon.frozen (p := ⟨g, o, none⟩) hgl hivg
  have rkeep : ∀ v rs, RW w 0 39 1 v rs → (∀ k, v.ownBlock = some k → (sv i).ownBlock ≠ some k ∧ k ≠ g) → RW (w2.setCell ⟨g, i * 2 + 1, none⟩ iv') 0 39 1 v rs := fun v rs hv hk =>
    (hv.only hon (fun k e => (hk k e).1)).only hon1 (fun k e => (hk k e).2)
  have hcell0 := (hon.cell (p := ⟨g, i * 2 + 1, none⟩) hgl hivg).trans (hcell i hi).1.2
  have hlen : (xs.set i { xs[i] with seen := l', held := h' }).length = xs.length := List.length_set
  have hget : ∀ j (hj : j < (xs.set i { xs[i] with seen := l', held := h' }).length), j ≠ i → (xs.set i { xs[i] with seen := l', held := h' })[j] = xs[j]'(by rw [← hlen]; exact hj) := fun j hj hne => List.getElem_set_ne (fun e => hne e.symm) _
  have hgeti : ∀ (hj : i < (xs.set i { xs[i] with seen := l', held := h' }).length), (xs.set i { xs[i] with seen := l', held := h' })[i] = { xs[i] with seen := l', held := h' } := fun hj => List.getElem_set_self hj
  refine ⟨fun k => bs k ∨ (w.heap.size ≤ k ∧ k < w2.heap.size), ⟨g, cap, fun k => if k < w.heap.size then col k else if iv'.ownBlock = some k then 3 + 2 * i else 0, iv, fun j => if j = i then iv' else sv j, ⟨?_, ?_, hc2⟩, ⟨?_, ?_⟩, ?_, ?_, ?_, ?_, ⟨.inl hp, .inl hg⟩, ?_⟩, ⟨?_, fun k hk => hk.imp id (fun h => h.1)⟩, hb2 p hpl hivp hpg 0⟩
  · rw [hlen, hb2 p hpl hivp hpg 0]; exact c0
  · rw [hlen]; exact hc1
  · simp only [hpl, if_true]; exact hcol.1
  · simp only [hgl, if_true]; exact hcol.2
  · intro j hj
    rw [hlen] at hj
    obtain ⟨⟨a, b⟩, c, d⟩ := hcell j hj
    refine ⟨⟨(cg _ (by omega)).trans a, ?_⟩, (fg _).trans c, (fg _).trans d⟩
    by_cases he : j = i
    · subst he; simp only [if_true]; exact World.cell?_setCell_same w2 _ _ hcell0
    · simp only [he, if_false]; exact (cg _ (by omega)).trans b
  · intro j hj
    have hj' : j < xs.length := by rw [← hlen]; exact hj
    have hs2 : ∀ k, (iv j).ownBlock = some k → (sv i).ownBlock ≠ some k ∧ k ≠ g := fun k hk => by
      have h1 := ((hown j hj').1 k hk).1
      exact ⟨fun e => by have := ((hown i hi).2 k e).1; omega, fun e => by rw [e] at h1; omega⟩
    by_cases he : j = i
    · subst he
      rw [hgeti hj]
      simp only [if_true]
      exact ⟨rkeep _ _ (hrow j hj').1 hs2, hr.only hon1 (fun k hk e => hiv'g (e ▸ hk))⟩
    · rw [hget j hj he]
      simp only [he, if_false]
      refine ⟨rkeep _ _ (hrow j hj').1 hs2, rkeep _ _ (hrow j hj').2 (fun k hk => ?_)⟩
      have h1 := ((hown j hj').2 k hk).1
      exact ⟨fun e => by have := ((hown i hi).2 k e).1; omega, fun e => by rw [e] at h1; omega⟩
  · intro j hj
    have hj' : j < xs.length := by rw [← hlen]; exact hj
    refine ⟨fun k hk => ?_, fun k hk => ?_⟩
    · have h1 := (hown j hj').1 k hk
      have hkw := (hrow j hj').1.own_lt k hk
      simp only [hkw, if_true]
      exact ⟨h1.1, .inl h1.2⟩
    · by_cases he : j = i
      · subst he
        simp only [if_true] at hk
        have hkl := hr.own_lt k hk
        rcases hnew with e2 | e2 | ⟨m, e2, hm⟩
        · rw [e2] at hk
          have h1 := (hown j hj').2 k hk
          have hkw := (hrow j hj').2.own_lt k hk
          simp only [hkw, if_true]
          exact ⟨h1.1, .inl h1.2⟩
        · rw [e2] at hk; cases hk
        · have hmk : m = k := by rw [e2] at hk; exact Option.some.inj hk
          subst hmk
          have : ¬ m < w.heap.size := by omega
          simp only [this, if_false, hk, if_true]
          exact ⟨trivial, .inr ⟨hm, hkl⟩⟩
      · simp only [he, if_false] at hk
        have h1 := (hown j hj').2 k hk
        have hkw := (hrow j hj').2.own_lt k hk
        simp only [hkw, if_true]
        exact ⟨h1.1, .inl h1.2⟩
  · intro j hj x hx
    have hj' : j < xs.length := by rw [← hlen]; exact hj
    have old : ∀ m (hm : m < xs.length), xs[m].has x → Bsl (w2.setCell ⟨g, i * 2 + 1, none⟩ iv') x.v x.l ∧ x.l.length ≤ 1000000 ∧ (x.l ≠ [] → ∀ k, x.v.ownBlock = some k → (if k < w.heap.size then col k else if iv'.ownBlock = some k then 3 + 2 * i else 0) = 0 ∧ (bs k ∨ (w.heap.size ≤ k ∧ k < w2.heap.size))) := by
      intro m hm hxm
      obtain ⟨a, b, c⟩ := hmsg m hm x hxm
      refine ⟨(a.only' hon (fun hne k hk e => ?_)).only' hon1 (fun hne k hk e => ?_), b, fun hne k hk => ?_⟩
      · have h1 := (c hne k hk).1
        have := ((hown i hi).2 k e).1
        omega
      · have h1 := (c hne k hk).1
        rw [e] at h1; omega
      · have h1 := c hne k hk
        have hkw := hlt k h1.2
        simp only [hkw, if_true]
        exact ⟨h1.1, .inl h1.2⟩
    by_cases he : j = i
    · subst he
      rw [hgeti hj] at hx
      rcases hx with hx | hx | hx
      · exact old j hj' (.inl hx)
      · rcases hl' x hx with hxo | ⟨a, b, c⟩
        · exact old j hj' hxo
        · refine ⟨a.only' hon1 (fun hne k hk e => ?_), b, fun hne k hk => ?_⟩
          · have := (c k hk).1; omega
          · obtain ⟨k1, k2, k3⟩ := c k hk
            have : ¬ k < w.heap.size := by omega
            simp only [this, if_false, k3]
            exact ⟨trivial, .inr ⟨k1, k2⟩⟩
      · exact old j hj' (hh' x hx)
    · rw [hget j hj he] at hx
      exact old j hj' hx
  · intro k hk
    rcases hk with hk | ⟨_, hk⟩
    · exact Nat.lt_of_lt_of_le (hlt k hk) (Nat.le_trans hsz2 hon1.size)
    · exact Nat.lt_of_lt_of_le hk hon1.size
  · exact (hon.mono (T := bs) (fun k _ hk => ((hown i hi).2 k hk).2)).trans hon1 (fun k _ e => by rw [e]; exact hg)
end Go.Proofs.YtjhocaleampamaaDoor
