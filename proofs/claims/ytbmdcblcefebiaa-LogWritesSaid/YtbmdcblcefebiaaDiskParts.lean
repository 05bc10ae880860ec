/- disk.Disk: what its parts may be turned to. -/
import Derived.Test.YtbmdcblcefebiaaDisk
namespace Go.Proofs.Ytbmdcblcefebiaa
open Go.RowKit
theorem secC_length (s : List UInt8) : (secC s).length = s.length := by simp [secC]
theorem looC_length (x : Nat × List UInt8) : (looC x).length = x.2.length + 1 := by simp [looC]
theorem looC_one (x : Nat × List UInt8) : ∀ u ∈ looC x, u.oneCell' = true := by
  intro u hu
  rcases List.mem_cons.1 hu with rfl | hu
  · rfl
  · exact bv_one x.2 u hu
/-- The sectors that are read. -/
theorem DiskAt.nowV {w : World} {p : Nat} {d : DK} {bs : Nat → Prop} (h : DiskAt w p d bs) (hne : d.now ≠ []) : ∃ g cap,
    w.cell? ⟨p, 0, none⟩ = some (.slice (some ⟨g, 0, none⟩) d.now.length cap) ∧ d.now.length ≤ cap ∧ cap ≤ 9223372036854775807 ∧ g ≠ p ∧ bs g ∧
    (∀ k (hk : k < d.now.length), w.rangeAt g (k * 64) (secC d.now[k]) ∧ w.there g (k * 64) 64 ∧ d.now[k].length = 64) ∧
    (∀ k, k < d.now.length → ∀ s : List UInt8, s.length = 64 → DiskAt (w.setCells g (k * 64) (secC s)) p { d with now := d.now.set k s } bs ∧ DEff w (w.setCells g (k * 64) (secC s)) bs bs) := by
  have hlt := h.lt p h.hp
  obtain ⟨nv, fv, lv, ⟨c0, c1, c2, c3, c4⟩, hf, r1, r2, r3, n1, n2, n3, b, rfl⟩ := h
  obtain ⟨g, cap, rfl, _, _, h1, h2⟩ := r1.shape (by simpa using hne)
  rw [List.length_map] at c0 h1
  have hgp : g ≠ p := fun e => n1.1 (by simp [Value.ownBlock, e])
  refine ⟨g, cap, c0, h1, h2, hgp, .inr (.inl rfl), ?_, ?_⟩
  · intro k hk
    have hk' : k < (d.now.map secC).length := by simpa using hk
    have hr := r1.range rfl hk'
    have hl := r1.2 _ (List.getElem_mem hk')
    simp only [List.getElem_map] at hr hl
    exact ⟨hr, r1.there rfl hk', by rw [secC_length] at hl; exact hl⟩
  · intro k hk s hs
    have hset := r1.set rfl (i := k) (by simpa using hk) (r := secC s) (by rw [secC_length, hs])
    have hon : Only (· = g) w (w.setCells g (k * 64) (secC s)) := Only.setCells (S := (· = g)) rfl _ _ (Only.refl _ _)
    refine ⟨⟨_, fv, lv, ⟨?_, ?_, ?_, ?_, ?_⟩, fun j hj => (hon.frozen hlt (fun e => hgp e.symm)).trans (hf j hj), by rw [← List.map_set] at hset; exact hset, r2.only hon (fun q hq e => (n2 g rfl).1 (e ▸ hq)), r3.only hon (fun q hq e => (n2 g rfl).2 (e ▸ hq)), n1, n2, n3, ?_, rfl⟩, ?_⟩
    · rw [List.length_map]
      exact (hon.cell (p := ⟨p, 0, none⟩) hlt (fun e => hgp e.symm)).trans c0
    · exact (hon.cell (p := ⟨p, 1, none⟩) hlt (fun e => hgp e.symm)).trans c1
    · exact (hon.cell (p := ⟨p, 2, none⟩) hlt (fun e => hgp e.symm)).trans c2
    · exact (hon.cell (p := ⟨p, 3, none⟩) hlt (fun e => hgp e.symm)).trans c3
    · exact (hon.cell (p := ⟨p, 4, none⟩) hlt (fun e => hgp e.symm)).trans c4
    · simpa using b
    · exact ⟨hon.mono (fun i _ e => by subst e; exact .inr (.inl rfl)), fun _ h => .inl h⟩
/-- The loose writes. -/
theorem DiskAt.looseV {w : World} {p : Nat} {d : DK} {bs : Nat → Prop} (h : DiskAt w p d bs) : ∃ lv,
    w.cell? ⟨p, 2, none⟩ = some lv ∧ w.frozen? ⟨p, 2, none⟩ = false ∧ RW w 0 81 65 lv (d.loose.map looC) ∧ lv.ownBlock ≠ some p ∧ (∀ k, lv.ownBlock = some k → bs k) ∧
    (∀ (w2 : World) (lv' : Value) (l' : List (Nat × List UInt8)), Only (fun k => lv.ownBlock = some k) w w2 → RW w2 0 81 65 lv' (l'.map looC) → (lv'.ownBlock = lv.ownBlock ∨ lv'.ownBlock = none ∨ ∃ k, lv'.ownBlock = some k ∧ w.heap.size ≤ k) →
      ∃ bs', DiskAt (w2.setCell ⟨p, 2, none⟩ lv') p { d with loose := l' } bs' ∧ DEff w (w2.setCell ⟨p, 2, none⟩ lv') bs bs') := by
  have hlt := h.lt p h.hp
  have hltb := h.lt
  obtain ⟨nv, fv, lv, ⟨c0, c1, c2, c3, c4⟩, hf, r1, r2, r3, n1, n2, n3, b, rfl⟩ := h
  refine ⟨lv, c2, hf 2 (by omega), r3, n1.2.2, fun k hk => .inr (.inr (.inr hk)), ?_⟩
  intro w2 lv' l' hon hr hnew
  have hp : ¬ lv.ownBlock = some p := n1.2.2
  have hn' : ∀ k, k < w.heap.size → lv.ownBlock ≠ some k → lv'.ownBlock ≠ some k := by
    intro k hk hne e
    rcases hnew with e2 | e2 | ⟨m, e2, hm⟩
    · exact hne (e2 ▸ e)
    · rw [e2] at e; cases e
    · rw [e2] at e; cases e; omega
  have hon1 : Only (· = p) w2 (w2.setCell ⟨p, 2, none⟩ lv') := Only.setCell (S := (· = p)) (Only.refl _ _) (p := ⟨p, 2, none⟩) (fun _ => rfl) _
  have cc : ∀ j, j ≠ 2 → (w2.setCell ⟨p, 2, none⟩ lv').cell? ⟨p, j, none⟩ = w.cell? ⟨p, j, none⟩ := by
    intro j hj
    rw [World.cell?_setCell_other w2 _ _ _ (fun e => hj (by have := congrArg Addr.off e; simpa using this.symm))]
    exact hon.cell (p := ⟨p, j, none⟩) hlt hp
  have c2' := (hon.cell (p := ⟨p, 2, none⟩) hlt hp).trans c2
  refine ⟨_, ⟨nv, fv, lv', ⟨(cc 0 (by omega)).trans c0, (cc 1 (by omega)).trans c1, World.cell?_setCell_same w2 _ _ c2', (cc 3 (by omega)).trans c3, (cc 4 (by omega)).trans c4⟩, ?_, ?_, ?_, ?_, ?_, ?_, ?_, b, rfl⟩, ?_, ?_⟩
  · intro j hj; rw [World.frozen?_setCell]; exact (hon.frozen (p := ⟨p, j, none⟩) hlt hp).trans (hf j hj)
  · exact (r1.only hon (fun k hk e => (n2 k hk).2 e)).only hon1 (fun k hk e => n1.1 (e ▸ hk))
  · exact (r2.only hon (fun k hk e => n3 k hk e)).only hon1 (fun k hk e => n1.2.1 (e ▸ hk))
  · exact hr.only hon1 (fun k hk e => hn' p hlt hp (e ▸ hk))
  · exact ⟨n1.1, n1.2.1, hn' p hlt hp⟩
  · exact fun k hk => ⟨(n2 k hk).1, hn' k (r1.own_lt k hk) (n2 k hk).2⟩
  · exact fun k hk => hn' k (r2.own_lt k hk) (n3 k hk)
  · exact (hon.mono (T := fun k => k = p ∨ nv.ownBlock = some k ∨ fv.ownBlock = some k ∨ lv.ownBlock = some k) (fun _ _ h => .inr (.inr (.inr h)))).trans hon1 (fun i _ e => .inl e)
  · intro k hk
    rcases hk with hk | hk | hk | hk
    · exact .inl (.inl hk)
    · exact .inl (.inr (.inl hk))
    · exact .inl (.inr (.inr (.inl hk)))
    · rcases hnew with e2 | e2 | ⟨m, e2, hm⟩
      · exact .inl (.inr (.inr (.inr (e2 ▸ hk))))
      · rw [e2] at hk; cases hk
      · rw [e2] at hk; cases hk; exact .inr hm
end Go.Proofs.Ytbmdcblcefebiaa
