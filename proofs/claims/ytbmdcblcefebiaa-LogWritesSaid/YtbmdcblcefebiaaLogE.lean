/- The log: LogPure, LogPut, LogPut2, LogPut3, LogGood, LogTop. -/
import Derived.Test.YtbmdcblcefebiaaLogC
import Derived.Test.YtbmdcblcefebiaaLogD
import Derived.Test.YtbmdcblcefebiaaDiskTop
import Derived.Test.YtbmdcblcefebiaaDiskCrash
import Derived.Lib.SlBytesConst
/- The log, plain: what a disk holds behind writes, and behind a crash. -/
namespace Go.Proofs.Ytbmdcblcefebiaa
/-- A disk that is on, with nothing loose. -/
structure Hlt (d : DK) : Prop where
  on : d.off = false
  loose : d.loose = []
  fast : d.fast = d.now
  sec : ∀ s ∈ d.now, s.length = 64
  n4 : 4 ≤ d.now.length
  n100 : d.now.length ≤ 100
  fuse : 0 ≤ d.fuse ∧ d.fuse ≤ 9223372036854775807
/-- The sectors from A on begin with the bytes b. -/
def Has (s : List (List UInt8)) (A : Nat) (b : List UInt8) : Prop := ∀ k, k * 64 < b.length → ∃ x, s[A + k]? = some x ∧ x.take (b.length - k * 64) = (b.drop (k * 64)).take 64
theorem flat_take : ∀ (s : List (List UInt8)) (b : List UInt8), (∀ x ∈ s, x.length = 64) → (∀ k, k * 64 < b.length → ∃ x, s[k]? = some x ∧ x.take (b.length - k * 64) = (b.drop (k * 64)).take 64) → s.flatten.take b.length = b
  | [], b, _, h => by
    cases b with
    | nil => rfl
    | cons c b => obtain ⟨x, hx, _⟩ := h 0 (by simp); simp at hx
  | y :: s, b, h1, h => by
    by_cases hb : b = []
    · subst hb; simp
    · obtain ⟨x, hx, h0⟩ := h 0 (by rw [Nat.zero_mul]; exact List.length_pos_iff.2 hb)
      have hy := h1 y (by simp)
      obtain rfl : y = x := by simpa using hx
      rw [Nat.zero_mul, Nat.sub_zero, List.drop_zero] at h0
      have ih := flat_take s (b.drop 64) (fun x hx => h1 x (by simp [hx])) (fun k hk => by
        rw [List.length_drop] at hk
        obtain ⟨x, hx, h2⟩ := h (k + 1) (by omega)
        refine ⟨x, by simpa using hx, ?_⟩
        rw [List.length_drop, List.drop_drop, show b.length - 64 - k * 64 = b.length - (k + 1) * 64 by omega, show 64 + k * 64 = (k + 1) * 64 by omega]
        exact h2)
      rw [List.length_drop] at ih
      rw [List.flatten_cons, List.take_append, hy, h0, ih, List.take_append_drop]
theorem Has.area {s : List (List UInt8)} {a : Nat} {b : List UInt8} (h : Has s (2 + a * areaN s.length) b) (hs : ∀ x ∈ s, x.length = 64) : areaL s a b.length = b := by
  unfold areaL
  refine flat_take _ b (fun x hx => hs x (List.mem_of_mem_drop hx)) (fun k hk => ?_)
  obtain ⟨x, hx, h2⟩ := h k hk
  exact ⟨x, by rw [List.getElem?_drop]; exact hx, h2⟩
theorem secT_take (l : List UInt8) (m : Nat) (hm : m ≤ l.length) (h64 : m ≤ 64) : (secT l).take m = l.take m := by
  unfold secT
  rw [List.take_append_of_le_length (by rw [List.length_take]; omega), List.take_take, Nat.min_eq_left h64]
theorem secT_whole (l : List UInt8) : (secT l).take l.length = l.take 64 := by
  by_cases h : l.length ≤ 64
  · rw [secT_take l l.length (Nat.le_refl _) h, List.take_of_length_le (Nat.le_refl _), List.take_of_length_le h]
  · have := secT_take l 64 (by omega) (Nat.le_refl _)
    rw [← this, List.take_of_length_le (by rw [secT_len]; omega), List.take_of_length_le (by rw [secT_len]; omega)]
/-- An image that is a log: turn, area, bytes. -/
structure Img (s : List (List UInt8)) (t a : Nat) (b : List UInt8) : Prop where
  n4 : 4 ≤ s.length
  n100 : s.length ≤ 100
  sec : ∀ x ∈ s, x.length = 64
  head : s[t % 2]? = some (secT (headL t a b.length))
  other : ∃ h x, s[(t + 1) % 2]? = some x ∧ HeadOk x h ((t + 1) % 2) (roomN s.length) ∧ (plOf h).1 < t
  t1 : 1 ≤ t
  tB : t ≤ 1000000000
  a1 : a ≤ 1
  fit : b.length ≤ roomN s.length
  has : Has s (2 + a * areaN s.length) b
theorem plMax_lt {x y : Nat × Nat × Nat} (h : x.1 < y.1) : plMax x y = y := if_pos h
theorem plMax_ge {x y : Nat × Nat × Nat} (h : ¬ x.1 < y.1) : plMax x y = x := if_neg h
theorem Img.heads {s : List (List UInt8)} {t a : Nat} {b : List UInt8} (h : Img s t a b) :
    ∃ h0 h1, HeadOk (s.getD 0 []) h0 0 (roomN s.length) ∧ HeadOk (s.getD 1 []) h1 1 (roomN s.length) ∧ bestTo h0 h1 2 = (t, a, b.length) := by
  obtain ⟨ho, x, hx, hok, hlt⟩ := h.other
  have hhd := h.head
  have ht1 := h.t1
  have hme : HeadOk (secT (headL t a b.length)) (some (t, a, b.length)) (t % 2) (roomN s.length) := ⟨rfl, rfl, h.t1, h.tB, h.a1, h.fit⟩
  rcases (show t % 2 = 0 ∨ t % 2 = 1 by omega) with h2 | h2
  · have h3 : (t + 1) % 2 = 1 := by omega
    rw [h2] at hhd hme
    rw [h3] at hx hok
    refine ⟨some (t, a, b.length), ho, by rw [List.getD, hhd]; exact hme, by rw [List.getD, hx]; exact hok, ?_⟩
    have e : plMax (0, 0, 0) (plOf (some (t, a, b.length))) = (t, a, b.length) := plMax_lt ht1
    show plMax (plMax (0, 0, 0) (plOf (some (t, a, b.length)))) (plOf ho) = _
    rw [e]
    exact plMax_ge (by show ¬ t < (plOf ho).1; omega)
  · have h3 : (t + 1) % 2 = 0 := by omega
    rw [h2] at hhd hme
    rw [h3] at hx hok
    refine ⟨ho, some (t, a, b.length), by rw [List.getD, hx]; exact hok, by rw [List.getD, hhd]; exact hme, ?_⟩
    show plMax (plMax (0, 0, 0) (plOf ho)) (plOf (some (t, a, b.length))) = _
    by_cases hp : 0 < (plOf ho).1
    · rw [plMax_lt (x := (0, 0, 0)) hp]; exact plMax_lt hlt
    · rw [plMax_ge (x := (0, 0, 0)) hp]; exact plMax_lt ht1
end Go.Proofs.Ytbmdcblcefebiaa
/- The log, plain: a write of bytes and of a head. -/
namespace Go.Proofs.Ytbmdcblcefebiaa
theorem may_in {d : DK} {i : Nat} (ho : d.off = false) (hi : i < d.now.length) : d.may (i : Int) = 0 := by
  unfold DK.may
  rw [ho, if_neg (by simp), if_neg (by omega)]
theorem burn_spec (d : DK) (hf : 0 ≤ d.fuse) : d.burn.now = d.now ∧ d.burn.fast = d.fast ∧ d.burn.loose = d.loose ∧ (0 ≤ d.burn.fuse ∧ d.burn.fuse ≤ d.fuse) ∧ (d.fuse = 0 → d.burn.fuse = 0 ∧ d.burn.off = d.off) ∧ (d.off = false → d.burn.off = true → 0 < d.fuse) := by
  unfold DK.burn
  split
  · exact ⟨rfl, rfl, rfl, ⟨by show 0 ≤ d.fuse - 1; omega, by show d.fuse - 1 ≤ d.fuse; omega⟩, fun h => by omega, fun _ _ => by assumption⟩
  · exact ⟨rfl, rfl, rfl, ⟨hf, by show d.fuse ≤ d.fuse; omega⟩, fun h => ⟨h, rfl⟩, fun h1 h2 => by rw [h1] at h2; cases h2⟩
/-- What writes leave of a disk. -/
structure Mid (d d' : DK) (W : Nat → List UInt8 → Prop) : Prop where
  fast : d'.fast = d.fast
  len : d'.now.length = d.now.length
  loose : ∀ x ∈ d'.loose, x ∈ d.loose ∨ W x.1 x.2
  fuse : 0 ≤ d'.fuse ∧ d'.fuse ≤ d.fuse
  zero : d.fuse = 0 → d'.fuse = 0
theorem Mid.trans {a b c : DK} {V W U : Nat → List UInt8 → Prop} (h : Mid a b V) (k : Mid b c W) (hV : ∀ i x, V i x → U i x) (hW : ∀ i x, W i x → U i x) : Mid a c U :=
  ⟨k.fast.trans h.fast, k.len.trans h.len, fun x hx => (k.loose x hx).elim (fun e => (h.loose x e).imp id (hV _ _)) (fun e => .inr (hW _ _ e)), ⟨k.fuse.1, Int.le_trans k.fuse.2 h.fuse.2⟩, fun e => k.zero (h.zero e)⟩
theorem write_spec {d : DK} {i : Nat} (x : List UInt8) (ho : d.off = false) (hf : 0 ≤ d.fuse) (hi : i < d.now.length) :
    Mid d (d.wrS (i : Nat) x) (fun j y => j = i ∧ y = x) ∧ (d.wrS (i : Nat) x).now = d.now.set i x ∧ ((d.wrE (i : Nat) x = 0 ∧ (d.wrS (i : Nat) x).off = false) ∨ (d.wrE (i : Nat) x = 9 ∧ (d.wrS (i : Nat) x).off = true ∧ 0 < d.fuse)) := by
  have hm := may_in ho hi
  unfold DK.wrS DK.wrE
  rw [if_pos hm, if_pos hm, Int.toNat_natCast]
  unfold DK.write
  obtain ⟨h1, h2, h3, h4, h5, h6⟩ := burn_spec { d with now := d.now.set i x, loose := d.loose ++ [(i, x)] } hf
  refine ⟨⟨h2, by rw [h1]; simp, fun y hy => ?_, h4, fun e => (h5 e).1⟩, h1, ?_⟩
  · rw [h3] at hy
    rcases List.mem_append.1 hy with hy | hy
    · exact .inl hy
    · rw [List.mem_singleton.1 hy]; exact .inr ⟨rfl, rfl⟩
  · cases hoff : ({ d with now := d.now.set i x, loose := d.loose ++ [(i, x)] } : DK).burn.off with
    | false => exact .inl ⟨by simp, rfl⟩
    | true => exact .inr ⟨by simp, rfl, h6 ho hoff⟩
theorem sync_spec {d : DK} (ho : d.off = false) (hf : 0 ≤ d.fuse) (hn : 0 < d.now.length) :
    d.syS.now = d.now ∧ (0 ≤ d.syS.fuse ∧ d.syS.fuse ≤ d.fuse) ∧ (d.fuse = 0 → d.syS.fuse = 0) ∧
    ((d.syE = 0 ∧ d.syS.off = false ∧ d.syS.fast = d.now ∧ d.syS.loose = []) ∨ (d.syE = 9 ∧ d.syS.off = true ∧ d.syS.fast = d.fast ∧ d.syS.loose = d.loose ∧ 0 < d.fuse)) := by
  have hm : d.may 0 = 0 := may_in (i := 0) ho hn
  obtain ⟨h1, h2, h3, h4, h5, h6⟩ := burn_spec d hf
  unfold DK.syS DK.syE
  rw [if_pos hm, if_pos hm]
  cases hoff : d.burn.off with
  | false => exact ⟨h1, h4, fun e => (h5 e).1, .inl ⟨by simp, hoff, rfl, rfl⟩⟩
  | true =>
    rw [if_pos rfl, if_pos rfl]
    exact ⟨h1, h4, fun e => (h5 e).1, .inr ⟨rfl, hoff, h2, h3, h6 ho hoff⟩⟩
theorem wrL_spec (A : Nat) (b : List UInt8) : ∀ (n k : Nat) (d : DK), d.off = false → 0 ≤ d.fuse → (∀ k', k ≤ k' → k' * 64 < b.length → A + k' < d.now.length) → b.length ≤ (k + n) * 64 →
    Mid d (wrL A b n k d).2 (fun i x => ∃ k', k ≤ k' ∧ k' * 64 < b.length ∧ i = A + k' ∧ x = secT (b.drop (k' * 64))) ∧
    (((wrL A b n k d).1 = 0 ∧ (wrL A b n k d).2.off = false ∧ (∀ k', k ≤ k' → k' * 64 < b.length → (wrL A b n k d).2.now[A + k']? = some (secT (b.drop (k' * 64)))) ∧ (∀ i, (∀ k', k ≤ k' → k' * 64 < b.length → i ≠ A + k') → (wrL A b n k d).2.now[i]? = d.now[i]?)) ∨
      ((wrL A b n k d).1 = 9 ∧ (wrL A b n k d).2.off = true ∧ 0 < d.fuse))
  | 0, k, d, ho, hf, hb, hn => ⟨⟨rfl, rfl, fun x hx => .inl hx, ⟨hf, Int.le_refl _⟩, fun h => h⟩, .inl ⟨rfl, ho, fun k' h1 h2 => by omega, fun i _ => rfl⟩⟩
  | n + 1, k, d, ho, hf, hb, hn => by
    rw [wrL]
    by_cases hk : k * 64 < b.length
    · rw [if_pos hk]
      obtain ⟨hm, hnow, hc⟩ := write_spec (secT (b.drop (k * 64))) ho hf (hb k (Nat.le_refl _) hk)
      generalize hd1 : d.wrS (A + k : Nat) (secT (b.drop (k * 64))) = d1 at *
      generalize he1 : d.wrE (A + k : Nat) (secT (b.drop (k * 64))) = e1 at *
      have hm' : Mid d d1 (fun i x => ∃ k', k ≤ k' ∧ k' * 64 < b.length ∧ i = A + k' ∧ x = secT (b.drop (k' * 64))) := ⟨hm.fast, hm.len, fun x hx => (hm.loose x hx).imp id (fun e => ⟨k, Nat.le_refl _, hk, e.1, e.2⟩), hm.fuse, hm.zero⟩
      rcases hc with ⟨rfl, hoff⟩ | ⟨rfl, hoff, hp⟩
      · rw [if_pos rfl]
        obtain ⟨ih1, ih2⟩ := wrL_spec A b n (k + 1) d1 hoff hm.fuse.1 (fun k' h1 h2 => by rw [hm.len]; exact hb k' (by omega) h2) (by omega)
        refine ⟨hm'.trans ih1 (fun _ _ h => h) (fun i x ⟨k', h1, h2, h3, h4⟩ => ⟨k', by omega, h2, h3, h4⟩), ?_⟩
        rcases ih2 with ⟨e1, e2, e3, e4⟩ | ⟨e1, e2, e3⟩
        · refine .inl ⟨e1, e2, fun k' h1 h2 => ?_, fun i hi => ?_⟩
          · by_cases hkk : k' = k
            · subst hkk
              rw [e4 (A + k') (fun k'' h3 h4 => by omega), hnow, List.getElem?_set_self (hb k' (Nat.le_refl _) hk)]
            · exact e3 k' (by omega) h2
          · rw [e4 i (fun k' h1 h2 => hi k' (by omega) h2), hnow, List.getElem?_set_ne (fun e => hi k (Nat.le_refl _) hk e.symm)]
        · exact .inr ⟨e1, e2, by have := hm.fuse.2; omega⟩
      · rw [if_neg (by decide)]
        exact ⟨hm', .inr ⟨rfl, hoff, hp⟩⟩
    · rw [if_neg hk]
      exact ⟨⟨rfl, rfl, fun x hx => .inl hx, ⟨hf, Int.le_refl _⟩, fun h => h⟩, .inl ⟨rfl, ho, fun k' h1 h2 => by omega, fun i _ => rfl⟩⟩
end Go.Proofs.Ytbmdcblcefebiaa
/- The log, plain: a put: bytes and a head; crashes. -/
namespace Go.Proofs.Ytbmdcblcefebiaa
theorem hlt_of {D : DK} (ho : D.off = false) (hl : D.loose = []) (hf : D.fast = D.now) (hs : ∀ s ∈ D.now, s.length = 64) (h4 : 4 ≤ D.now.length) (h1 : D.now.length ≤ 100) (hfu : 0 ≤ D.fuse ∧ D.fuse ≤ 9223372036854775807) : Hlt D := ⟨ho, hl, hf, hs, h4, h1, hfu⟩
/-- Sectors that writes may have laid. -/
def Wr (A : Nat) (b : List UInt8) (k : Nat) : Nat → List UInt8 → Prop := fun i x => ∃ k', k ≤ k' ∧ k' * 64 < b.length ∧ i = A + k' ∧ x = secT (b.drop (k' * 64))
theorem write_all {d : DK} (hH : Hlt d) {A : Nat} {b : List UInt8} {k : Nat} (hb : ∀ k', k ≤ k' → k' * 64 < b.length → A + k' < d.now.length) :
    (writeE A b k d = 0 ∧ Hlt (writeD A b k d) ∧ (writeD A b k d).now.length = d.now.length ∧ (d.fuse = 0 → (writeD A b k d).fuse = 0) ∧ (∀ k', k ≤ k' → k' * 64 < b.length → (writeD A b k d).now[A + k']? = some (secT (b.drop (k' * 64)))) ∧
      (∀ i, (∀ k', k ≤ k' → k' * 64 < b.length → i ≠ A + k') → (writeD A b k d).now[i]? = d.now[i]?)) ∨
    (writeE A b k d = 9 ∧ (writeD A b k d).off = true ∧ 0 < d.fuse ∧ (writeD A b k d).fast = d.now ∧ (writeD A b k d).now.length = d.now.length ∧ ∀ x ∈ (writeD A b k d).loose, Wr A b k x.1 x.2) := by
  have hn4 := hH.n4
  obtain ⟨hm, hc⟩ := wrL_spec A b (b.length + 1) k d hH.on hH.fuse.1 hb (by omega)
  unfold writeE writeD wrA
  generalize wrL A b (b.length + 1) k d = r at *
  obtain ⟨e, D⟩ := r
  dsimp only at *
  rcases hc with ⟨rfl, hoff, h1, h2⟩ | ⟨rfl, hoff, hp⟩
  · rw [if_pos rfl, if_pos rfl]
    have hl := hm.len
    obtain ⟨s1, s2, s3, s4⟩ := sync_spec hoff hm.fuse.1 (by omega)
    have hlo : ∀ x ∈ D.loose, Wr A b k x.1 x.2 := fun x hx => (hm.loose x hx).elim (fun e => by rw [hH.loose] at e; cases e) id
    rcases s4 with ⟨e1, e2, e3, e4⟩ | ⟨e1, e2, e3, e4, e5⟩
    · have hsec : ∀ s ∈ D.syS.now, s.length = 64 := by
        intro s hs
        rw [s1] at hs
        obtain ⟨i, hi⟩ := List.getElem?_of_mem hs
        by_cases hw : ∀ k', k ≤ k' → k' * 64 < b.length → i ≠ A + k'
        · rw [h2 i hw] at hi
          exact hH.sec s (List.mem_of_getElem? hi)
        · have : ∃ k', k ≤ k' ∧ k' * 64 < b.length ∧ i = A + k' := by
            apply Classical.byContradiction
            intro hne
            exact hw (fun k' a1 a2 a3 => hne ⟨k', a1, a2, a3⟩)
          obtain ⟨k', a1, a2, rfl⟩ := this
          rw [h1 k' a1 a2] at hi
          injection hi with hi
          rw [← hi]; exact secT_len _
      refine .inl ⟨e1, hlt_of e2 e4 (by rw [e3, s1]) hsec (by rw [s1]; omega) (by rw [s1]; have := hH.n100; omega) ⟨s2.1, by have := hm.fuse.2; have := hH.fuse.2; omega⟩, by rw [s1]; exact hl, fun h0 => s3 (hm.zero h0), fun k' a1 a2 => by rw [s1]; exact h1 k' a1 a2, fun i hi => by rw [s1]; exact h2 i hi⟩
    · refine .inr ⟨e1, e2, ?_, by rw [e3, hm.fast, hH.fast], by rw [s1]; exact hl, fun x hx => hlo x (by rw [← e4]; exact hx)⟩
      have := hm.fuse.2; omega
  · rw [if_neg (by decide), if_neg (by decide)]
    exact .inr ⟨rfl, hoff, hp, by rw [hm.fast, hH.fast], hm.len, fun x hx => (hm.loose x hx).elim (fun e => by rw [hH.loose] at e; cases e) id⟩
theorem close_all {d : DK} (hH : Hlt d) (t a n : Nat) :
    (closeE d t a n = 0 ∧ Hlt (closeD d t a n) ∧ (closeD d t a n).now = d.now.set (t % 2) (hdS t a n) ∧ (d.fuse = 0 → (closeD d t a n).fuse = 0)) ∨
    (closeE d t a n = 9 ∧ (closeD d t a n).off = true ∧ 0 < d.fuse ∧ (closeD d t a n).fast = d.now ∧ (closeD d t a n).now.length = d.now.length ∧ ∀ x ∈ (closeD d t a n).loose, x.1 = t % 2 ∧ x.2 = hdS t a n) := by
  have hn4 := hH.n4
  have hhs : (hdS t a n).length = 64 := secT_len _
  obtain ⟨hm, hnow, hc⟩ := write_spec (i := t % 2) (hdS t a n) hH.on hH.fuse.1 (by omega)
  unfold closeE closeD
  generalize d.wrS (t % 2 : Nat) (hdS t a n) = D at *
  generalize d.wrE (t % 2 : Nat) (hdS t a n) = e at *
  have hlo : ∀ x ∈ D.loose, x.1 = t % 2 ∧ x.2 = hdS t a n := fun x hx => (hm.loose x hx).elim (fun e => by rw [hH.loose] at e; cases e) id
  have hl := hm.len
  rcases hc with ⟨rfl, hoff⟩ | ⟨rfl, hoff, hp⟩
  · rw [if_pos rfl, if_pos rfl]
    obtain ⟨s1, s2, s3, s4⟩ := sync_spec hoff hm.fuse.1 (by omega)
    rcases s4 with ⟨e1, e2, e3, e4⟩ | ⟨e1, e2, e3, e4, e5⟩
    · have hsec : ∀ s ∈ D.syS.now, s.length = 64 := by
        intro s hs
        rw [s1, hnow] at hs
        rcases List.mem_or_eq_of_mem_set hs with h | h
        · exact hH.sec s h
        · rw [h]; exact hhs
      exact .inl ⟨e1, hlt_of e2 e4 (by rw [e3, s1]) hsec (by rw [s1]; omega) (by rw [s1]; have := hH.n100; omega) ⟨s2.1, by have := hm.fuse.2; have := hH.fuse.2; omega⟩, by rw [s1]; exact hnow, fun h0 => s3 (hm.zero h0)⟩
    · exact .inr ⟨e1, e2, by have := hm.fuse.2; omega, by rw [e3, hm.fast, hH.fast], by rw [s1]; exact hl, fun x hx => hlo x (by rw [← e4]; exact hx)⟩
  · rw [if_neg (by decide), if_neg (by decide)]
    exact .inr ⟨rfl, hoff, hp, by rw [hm.fast, hH.fast], hl, hlo⟩
theorem lay_get (xs : List (Nat × List UInt8)) : ∀ (f : List (List UInt8)) (bs : List Bool) (i : Nat), (lay f xs bs)[i]? = f[i]? ∨ ∃ x ∈ xs, x.1 = i ∧ (lay f xs bs)[i]? = some x.2 := by
  induction xs with
  | nil => intro f bs i; left; cases bs <;> rfl
  | cons x xs ih =>
    intro f bs i
    cases bs with
    | nil => left; rfl
    | cons b bs =>
      rw [lay]
      rcases ih (if b then f.set x.1 x.2 else f) bs i with h | ⟨y, hy, h1, h2⟩
      · cases b with
        | false => left; simpa using h
        | true =>
          simp only [if_true] at h
          by_cases hi : x.1 = i
          · by_cases hl : i < f.length
            · right
              refine ⟨x, by simp, hi, ?_⟩
              simp only [if_true]
              rw [h, hi, List.getElem?_set_self hl]
            · left
              simp only [if_true]
              rw [h, List.getElem?_eq_none (by simp; omega), List.getElem?_eq_none (by omega)]
          · left
            simp only [if_true]
            rw [h, List.getElem?_set_ne hi]
      · exact .inr ⟨y, by simp [hy], h1, h2⟩
end Go.Proofs.Ytbmdcblcefebiaa
/- The log, plain: what a put leaves is a log again. -/
namespace Go.Proofs.Ytbmdcblcefebiaa
/-- Where bytes are put: behind those that are there, or in the other area. -/
def PutOk (a : Nat) (b0 : List UInt8) (a2 : Nat) (b2 : List UInt8) (k0 : Nat) : Prop := a2 ≤ 1 ∧ ((a2 = a ∧ b0 = b2.take b0.length ∧ b0.length ≤ b2.length ∧ k0 = b0.length / 64) ∨ (a2 ≠ a ∧ k0 = 0))
theorem area_ge (n : Nat) : 2 + 2 * areaN n ≤ n + 2 ∧ (4 ≤ n → 2 + 2 * areaN n ≤ n) := by unfold areaN; split <;> omega
theorem area_in {n a k : Nat} {b : List UInt8} (hn : 4 ≤ n) (ha : a ≤ 1) (hb : b.length ≤ roomN n) (hk : k * 64 < b.length) : k < areaN n ∧ 2 + a * areaN n + k < n := by
  have h1 := (area_ge n).2 hn
  unfold roomN at hb
  have h2 : k < areaN n := by omega
  refine ⟨h2, ?_⟩
  rcases (show a = 0 ∨ a = 1 by omega) with rfl | rfl <;> omega
theorem old_has {s s' : List (List UInt8)} {t a a2 k0 : Nat} {b0 b2 : List UInt8} (h : Img s t a b0) (hc : PutOk a b0 a2 b2 k0) (hfit : b2.length ≤ roomN s.length)
    (hs : ∀ i, s'[i]? = s[i]? ∨ ∃ k', k0 ≤ k' ∧ k' * 64 < b2.length ∧ i = 2 + a2 * areaN s.length + k' ∧ s'[i]? = some (secT (b2.drop (k' * 64)))) : Has s' (2 + a * areaN s.length) b0 := by
  intro k hk
  obtain ⟨hkin, _⟩ := area_in h.n4 h.a1 h.fit hk
  rcases hs (2 + a * areaN s.length + k) with e | ⟨k', h1, h2, h3, h4⟩
  · rw [e]; exact h.has k hk
  · obtain ⟨hk'in, _⟩ := area_in h.n4 hc.1 hfit h2
    rcases hc.2 with ⟨rfl, c1, c2, c3⟩ | ⟨c1, c2⟩
    · obtain rfl : k = k' := by omega
      refine ⟨_, h4, ?_⟩
      have hm : b0.length - k * 64 ≤ 63 := by omega
      have h5 : (b0.drop (k * 64)).take 64 = (b2.drop (k * 64)).take (b0.length - k * 64) := by
        rw [List.take_of_length_le (by rw [List.length_drop]; omega)]
        conv => lhs; rw [c1]
        rw [List.drop_take]
      rw [h5]
      exact secT_take _ _ (by rw [List.length_drop]; omega) (by omega)
    · exfalso
      have ha := h.a1
      have ha2 := hc.1
      rcases (show a = 0 ∧ a2 = 1 ∨ a = 1 ∧ a2 = 0 by omega) with ⟨rfl, rfl⟩ | ⟨rfl, rfl⟩ <;> omega
theorem new_has {s s' : List (List UInt8)} {t a a2 k0 : Nat} {b0 b2 : List UInt8} (h : Img s t a b0) (hc : PutOk a b0 a2 b2 k0)
    (h1 : ∀ k', k0 ≤ k' → k' * 64 < b2.length → s'[2 + a2 * areaN s.length + k']? = some (secT (b2.drop (k' * 64)))) (h2 : ∀ i, (∀ k', k0 ≤ k' → k' * 64 < b2.length → i ≠ 2 + a2 * areaN s.length + k') → s'[i]? = s[i]?) : Has s' (2 + a2 * areaN s.length) b2 := by
  intro k hk
  by_cases hkk : k0 ≤ k
  · refine ⟨_, h1 k hkk hk, ?_⟩
    have := secT_whole (b2.drop (k * 64))
    rw [List.length_drop] at this
    exact this
  · rcases hc.2 with ⟨rfl, c1, c2, c3⟩ | ⟨c1, c2⟩
    · have hk0 : k * 64 < b0.length := by omega
      obtain ⟨x, hx, h3⟩ := h.has k hk0
      have hxl : x.length = 64 := h.sec x (List.mem_of_getElem? hx)
      refine ⟨x, by rw [h2 _ (fun k' a1 a2 => by omega)]; exact hx, ?_⟩
      rw [List.take_of_length_le (by omega)] at h3 ⊢
      rw [h3]
      conv => lhs; rw [c1]
      rw [List.drop_take, List.take_take, Nat.min_eq_left (by omega)]
    · omega
theorem img_same {s s' : List (List UInt8)} {t a : Nat} {b : List UInt8} (h : Img s t a b) (hl : s'.length = s.length) (hs : ∀ x ∈ s', x.length = 64) (h0 : s'[0]? = s[0]?) (h1 : s'[1]? = s[1]?) (hh : Has s' (2 + a * areaN s.length) b) : Img s' t a b := by
  have e : ∀ i, i < 2 → s'[i]? = s[i]? := fun i hi => by rcases (show i = 0 ∨ i = 1 by omega) with rfl | rfl <;> assumption
  refine ⟨by rw [hl]; exact h.n4, by rw [hl]; exact h.n100, hs, by rw [e _ (by omega)]; exact h.head, ?_, h.t1, h.tB, h.a1, by rw [hl]; exact h.fit, by rw [hl]; exact hh⟩
  obtain ⟨ho, x, hx, h2⟩ := h.other
  exact ⟨ho, x, by rw [e _ (by omega)]; exact hx, by rw [hl]; exact h2⟩
theorem img_next {s s' : List (List UInt8)} {t a a2 : Nat} {b0 b2 : List UInt8} (h : Img s t a b0) (ht : t + 1 ≤ 1000000000) (ha2 : a2 ≤ 1) (hfit : b2.length ≤ roomN s.length) (hl : s'.length = s.length) (hs : ∀ x ∈ s', x.length = 64) (h0 : s'[0]? = s[0]?) (h1 : s'[1]? = s[1]?) (hh : Has s' (2 + a2 * areaN s.length) b2) :
    Img (s'.set ((t + 1) % 2) (hdS (t + 1) a2 b2.length)) (t + 1) a2 b2 := by
  have e : ∀ i, i < 2 → s'[i]? = s[i]? := fun i hi => by rcases (show i = 0 ∨ i = 1 by omega) with rfl | rfl <;> assumption
  have hn4 := h.n4
  refine ⟨by rw [List.length_set, hl]; exact h.n4, by rw [List.length_set, hl]; exact h.n100, fun x hx => ?_, by rw [List.getElem?_set_self (by omega)]; rfl, ?_, by omega, ht, ha2, by rw [List.length_set, hl]; exact hfit, ?_⟩
  · rcases List.mem_or_eq_of_mem_set hx with h | h
    · exact hs x h
    · rw [h]; exact secT_len _
  · refine ⟨some (t, a, b0.length), _, by rw [show (t + 1 + 1) % 2 = t % 2 by omega, List.getElem?_set_ne (by omega), e _ (by omega)]; exact h.head, ?_, by show t < t + 1; omega⟩
    exact ⟨rfl, by omega, h.t1, h.tB, h.a1, by rw [List.length_set, hl]; exact h.fit⟩
  · rw [List.length_set, hl]
    intro k hk
    obtain ⟨x, hx, h3⟩ := hh k hk
    exact ⟨x, by rw [List.getElem?_set_ne (by omega)]; exact hx, h3⟩
/-- What a put answers, and what it leaves. -/
def putE (d : DK) (t a : Nat) (b : List UInt8) (k0 : Nat) : Int := if writeE (2 + a * areaN d.now.length) b k0 d = 0 then closeE (writeD (2 + a * areaN d.now.length) b k0 d) t a b.length else writeE (2 + a * areaN d.now.length) b k0 d
def putD (d : DK) (t a : Nat) (b : List UInt8) (k0 : Nat) : DK := if writeE (2 + a * areaN d.now.length) b k0 d = 0 then closeD (writeD (2 + a * areaN d.now.length) b k0 d) t a b.length else writeD (2 + a * areaN d.now.length) b k0 d
theorem lay_sec {f : List (List UInt8)} {xs : List (Nat × List UInt8)} {bs : List Bool} (h1 : ∀ s ∈ f, s.length = 64) (h2 : ∀ x ∈ xs, x.2.length = 64) : ∀ s ∈ lay f xs bs, s.length = 64 := lay_sizes 64 xs f bs h1 h2
theorem put_spec {d : DK} (hH : Hlt d) {t a a2 k0 : Nat} {b0 b2 : List UInt8} (hI : Img d.now t a b0) (hc : PutOk a b0 a2 b2 k0) (hfit : b2.length ≤ roomN d.now.length) (ht : t + 1 ≤ 1000000000) :
    (putE d (t + 1) a2 b2 k0 = 0 ∧ Hlt (putD d (t + 1) a2 b2 k0) ∧ Img (putD d (t + 1) a2 b2 k0).now (t + 1) a2 b2 ∧ (putD d (t + 1) a2 b2 k0).now.length = d.now.length ∧ (d.fuse = 0 → (putD d (t + 1) a2 b2 k0).fuse = 0)) ∨
    (putE d (t + 1) a2 b2 k0 = 9 ∧ (putD d (t + 1) a2 b2 k0).off = true ∧ 0 < d.fuse ∧ (putD d (t + 1) a2 b2 k0).now.length = d.now.length ∧ (putD d (t + 1) a2 b2 k0).fast.length = d.now.length ∧ (∀ x ∈ (putD d (t + 1) a2 b2 k0).loose, x.1 < d.now.length) ∧
      ∀ stay, (Img ((putD d (t + 1) a2 b2 k0).crash stay).now t a b0 ∨ Img ((putD d (t + 1) a2 b2 k0).crash stay).now (t + 1) a2 b2) ∧ Hlt ((putD d (t + 1) a2 b2 k0).crash stay) ∧ ((putD d (t + 1) a2 b2 k0).crash stay).now.length = d.now.length) := by
  have hW := write_all hH (A := 2 + a2 * areaN d.now.length) (b := b2) (k := k0) (fun k' _ h2 => (area_in hI.n4 hc.1 hfit h2).2)
  unfold putE putD
  rcases hW with ⟨w1, w2, w3, w4, w5, w6⟩ | ⟨w1, w2, w3, w4, w5, w6⟩
  · rw [if_pos w1, if_pos w1]
    generalize writeD (2 + a2 * areaN d.now.length) b2 k0 d = D at *
    have q0 : D.now[0]? = d.now[0]? := w6 0 (fun k' _ _ => by omega)
    have q1 : D.now[1]? = d.now[1]? := w6 1 (fun k' _ _ => by omega)
    have hnew : Has D.now (2 + a2 * areaN d.now.length) b2 := new_has hI hc w5 w6
    have hold : Has D.now (2 + a * areaN d.now.length) b0 := old_has hI hc hfit (fun i => by
      by_cases hw : ∀ k', k0 ≤ k' → k' * 64 < b2.length → i ≠ 2 + a2 * areaN d.now.length + k'
      · exact .inl (w6 i hw)
      · have : ∃ k', k0 ≤ k' ∧ k' * 64 < b2.length ∧ i = 2 + a2 * areaN d.now.length + k' := by
          apply Classical.byContradiction
          intro hne
          exact hw (fun k' a1 a2 a3 => hne ⟨k', a1, a2, a3⟩)
        obtain ⟨k', a1, a2, rfl⟩ := this
        exact .inr ⟨k', a1, a2, rfl, w5 k' a1 a2⟩)
    have hIo : Img D.now t a b0 := img_same hI w3 w2.sec q0 q1 hold
    have hIn : Img (D.now.set ((t + 1) % 2) (hdS (t + 1) a2 b2.length)) (t + 1) a2 b2 := img_next hI ht hc.1 hfit w3 w2.sec q0 q1 hnew
    rcases close_all w2 (t + 1) a2 b2.length with ⟨c1, c2, c3, c4⟩ | ⟨c1, c2, c3, c4, c5, c6⟩
    · exact .inl ⟨c1, c2, by rw [c3]; exact hIn, by rw [c3, List.length_set]; exact w3, fun h0 => c4 (w4 h0)⟩
    · have hlen : ∀ stay, (lay D.now (closeD D (t + 1) a2 b2.length).loose stay).length = d.now.length := fun stay => by rw [lay_length]; exact w3
      have hn4 := hI.n4
      refine .inr ⟨c1, c2, ?_, by rw [c5, w3], by rw [c4]; exact w3, fun x hx => by rw [(c6 x hx).1]; omega, fun stay => ?_⟩
      · rcases Nat.lt_or_ge 0 d.fuse.toNat with h | h
        · omega
        · have := w4 (by have := hH.fuse.1; omega); omega
      · have hsx := lay_sec (bs := stay) w2.sec (fun x hx => by rw [(c6 x hx).2]; exact secT_len _)
        refine ⟨?_, hlt_of rfl rfl rfl (by show ∀ s ∈ lay (closeD D (t + 1) a2 b2.length).fast _ _, _; rw [c4]; exact hsx) (by show 4 ≤ (lay (closeD D (t + 1) a2 b2.length).fast _ _).length; rw [c4, hlen]; exact hn4) (by show (lay (closeD D (t + 1) a2 b2.length).fast _ _).length ≤ 100; rw [c4, hlen]; exact hI.n100) ⟨Int.le_refl _, by show (0 : Int) ≤ 9223372036854775807; decide⟩, by show (lay (closeD D (t + 1) a2 b2.length).fast _ _).length = _; rw [c4]; exact hlen stay⟩
        show Img (lay (closeD D (t + 1) a2 b2.length).fast _ stay) t a b0 ∨ Img (lay (closeD D (t + 1) a2 b2.length).fast _ stay) (t + 1) a2 b2
        rw [c4]
        have hg := lay_get (closeD D (t + 1) a2 b2.length).loose D.now stay
        generalize lay D.now (closeD D (t + 1) a2 b2.length).loose stay = S at *
        by_cases hx : S[(t + 1) % 2]? = D.now[(t + 1) % 2]?
        · have hS : S = D.now := List.ext_getElem? fun i => by
            rcases hg i with e | ⟨x, hxm, h1, h2⟩
            · exact e
            · rw [← h1, (c6 x hxm).1]; exact hx
          rw [hS]; exact .inl hIo
        · have hS : S = D.now.set ((t + 1) % 2) (hdS (t + 1) a2 b2.length) := List.ext_getElem? fun i => by
            by_cases hi : i = (t + 1) % 2
            · rw [hi, List.getElem?_set_self (by omega)]
              rcases hg ((t + 1) % 2) with e | ⟨x, hxm, h1, h2⟩
              · exact absurd e hx
              · rw [h2, (c6 x hxm).2]
            · rw [List.getElem?_set_ne (fun e => hi e.symm)]
              rcases hg i with e | ⟨x, hxm, h1, h2⟩
              · exact e
              · exact absurd (h1.symm.trans (c6 x hxm).1) hi
          rw [hS]; exact .inr hIn
  · rw [if_neg (by rw [w1]; decide), if_neg (by rw [w1]; decide)]
    generalize writeD (2 + a2 * areaN d.now.length) b2 k0 d = D at *
    have hlen : ∀ stay, (lay D.fast D.loose stay).length = d.now.length := fun stay => by rw [lay_length, w4]
    refine .inr ⟨w1, w2, w3, w5, by rw [w4], fun x hx => ?_, fun stay => ?_⟩
    · obtain ⟨k', h1, h2, h3, h4⟩ := w6 x hx
      rw [h3]; exact (area_in hI.n4 hc.1 hfit h2).2
    · have hsx : ∀ s ∈ lay D.fast D.loose stay, s.length = 64 := by
        rw [w4]
        exact lay_sec hI.sec (fun x hx => by obtain ⟨k', h1, h2, h3, h4⟩ := w6 x hx; rw [h4]; exact secT_len _)
      refine ⟨.inl ?_, hlt_of rfl rfl rfl hsx (by show 4 ≤ (lay D.fast D.loose stay).length; rw [hlen]; exact hI.n4) (by show (lay D.fast D.loose stay).length ≤ 100; rw [hlen]; exact hI.n100) ⟨Int.le_refl _, by show (0 : Int) ≤ 9223372036854775807; decide⟩, hlen stay⟩
      show Img (lay D.fast D.loose stay) t a b0
      have hg : ∀ i, (lay D.fast D.loose stay)[i]? = d.now[i]? ∨ ∃ k', k0 ≤ k' ∧ k' * 64 < b2.length ∧ i = 2 + a2 * areaN d.now.length + k' ∧ (lay D.fast D.loose stay)[i]? = some (secT (b2.drop (k' * 64))) := fun i => by
        rcases lay_get D.loose D.fast stay i with e | ⟨x, hxm, h1, h2⟩
        · rw [e, w4]; exact .inl rfl
        · obtain ⟨k', a1, a2, a3, a4⟩ := w6 x hxm
          exact .inr ⟨k', a1, a2, h1.symm.trans a3, by rw [h2, a4]⟩
      refine img_same hI (hlen stay) hsx ?_ ?_ (old_has hI hc hfit hg)
      · rcases hg 0 with e | ⟨k', _, _, h3, _⟩
        · exact e
        · omega
      · rcases hg 1 with e | ⟨k', _, _, h3, _⟩
        · exact e
        · omega
end Go.Proofs.Ytbmdcblcefebiaa
/- The log: what calls do on a good disk, walked and plain together. -/
namespace Go.Proofs.Ytbmdcblcefebiaa
open Go.RowKit
theorem roomN_le {n : Nat} (h : n ≤ 100) : roomN n ≤ 6400 := by unfold roomN areaN; split <;> omega
/-- What a put did: it is done, or the power is off. -/
def PutRes (w w' : World) (e : Ending) (lp p : Nat) (d : DK) (L : LD) (bs : Nat → Prop) (a2 : Nat) (b2 : List UInt8) : Prop := ∃ d2 bs2, DEff w w' bs bs2 ∧ d2.now.length = d.now.length ∧
  ((e = .returned (.int .i64 0) ∧ LogAt w' lp p d2 ⟨L.turn + 1, a2, b2⟩ bs2 ∧ Hlt d2 ∧ Img d2.now (L.turn + 1) a2 b2 ∧ (d.fuse = 0 → d2.fuse = 0)) ∨
    (e = .returned (.int .i64 9) ∧ LogAt w' lp p d2 L bs2 ∧ d2.off = true ∧ 0 < d.fuse ∧ d2.fast.length = d.now.length ∧ (∀ x ∈ d2.loose, x.1 < d.now.length) ∧
      ∀ stay, (Img (d2.crash stay).now L.turn L.area L.b ∨ Img (d2.crash stay).now (L.turn + 1) a2 b2) ∧ Hlt (d2.crash stay) ∧ (d2.crash stay).now.length = d.now.length))
theorem app_put {d : DK} {L : LD} {l : List UInt8} (h : ¬ leftN d L < (l.length : Int) + 8) : appE d L l = putE d (L.turn + 1) L.area (L.b ++ recL l) (L.b.length / 64) ∧ appD d L l = putD d (L.turn + 1) L.area (L.b ++ recL l) (L.b.length / 64) := by
  unfold appE appD putE putD
  dsimp only
  rw [if_neg h, if_neg h]
  exact ⟨rfl, rfl⟩
theorem rep_put {d : DK} {L : LD} {b : List UInt8} (h : ¬ roomN d.now.length < b.length) : repE d L b = putE d (L.turn + 1) ((L.area + 1) % 2) b 0 ∧ repD d L b = putD d (L.turn + 1) ((L.area + 1) % 2) b 0 := by
  unfold repE repD putE putD
  dsimp only
  rw [if_neg h, if_neg h]
  exact ⟨rfl, rfl⟩
theorem append_st (w : World) {lp p : Nat} {d : DK} {L : LD} {bs : Nat → Prop} (h : LogAt w lp p d L bs) (hH : Hlt d) (hI : Img d.now L.turn L.area L.b) (v : Value) (l : List UInt8) (hv : Bsl w v l) (hl : l.length ≤ 1000) (ht : L.turn + 1 ≤ 1000000000)
    (hroom : L.b.length + (l.length + 8) ≤ roomN d.now.length) :
    Calls Try.prog 23 #[.pointer (some ⟨lp, 0, none⟩), v] w fun e w' => PutRes w w' e lp p d L bs L.area (L.b ++ recL l) := by
  have hrm := roomN_le hH.n100
  have hnl : ¬ leftN d L < (l.length : Int) + 8 := by unfold leftN; omega
  have hfit : (L.b ++ recL l).length ≤ roomN d.now.length := by rw [List.length_append, recL_len]; omega
  refine (lappend_ok w h v l hv hl hH.n100 (by omega) hnl hI.a1 ht (by rw [hH.loose]; simp)).mono ?_
  rintro e w' ⟨rfl, bs2, hL2, hE2⟩
  obtain ⟨q1, q2⟩ := app_put hnl
  have hok : PutOk L.area L.b L.area (L.b ++ recL l) (L.b.length / 64) := ⟨hI.a1, .inl ⟨rfl, by rw [List.take_left' rfl], by rw [List.length_append]; omega, rfl⟩⟩
  unfold appL at hL2
  rcases put_spec hH hI hok hfit ht with ⟨e1, e2, e3, e4, e5⟩ | ⟨e1, e2, e3, e4, e5, e6, e7⟩
  · rw [q1, q2, if_pos e1] at hL2
    rw [q1, e1]
    exact ⟨_, bs2, hE2, e4, .inl ⟨rfl, hL2, e2, e3, e5⟩⟩
  · rw [q1, q2, if_neg (by rw [e1]; decide)] at hL2
    rw [q1, e1]
    exact ⟨_, bs2, hE2, e4, .inr ⟨rfl, hL2, e2, e3, e5, e6, e7⟩⟩
theorem append_full (w : World) {lp p : Nat} {d : DK} {L : LD} {bs : Nat → Prop} (h : LogAt w lp p d L bs) (hH : Hlt d) (hI : Img d.now L.turn L.area L.b) (v : Value) (l : List UInt8) (hv : Bsl w v l) (hl : l.length ≤ 1000)
    (hroom : roomN d.now.length < L.b.length + (l.length + 8)) :
    Calls Try.prog 23 #[.pointer (some ⟨lp, 0, none⟩), v] w fun e w' => e = .returned (.int .i64 8) ∧ Below w.heap.size w w' := by
  have hrm := roomN_le hH.n100
  have := hI.fit
  exact lappend_full w h v l hv hl hH.n100 (by omega) (by unfold leftN; omega)
theorem replace_st (w : World) {lp p : Nat} {d : DK} {L : LD} {bs : Nat → Prop} (h : LogAt w lp p d L bs) (hH : Hlt d) (hI : Img d.now L.turn L.area L.b) (v : Value) (ys : List MsgD) (hv : MsgsAt w v ys) (hys : ∀ y ∈ ys, y.l.length ≤ 1000) (hyn : ys.length ≤ 100) (ht : L.turn + 1 ≤ 1000000000)
    (hroom : (allL (ys.map (·.l))).length ≤ roomN d.now.length) :
    Calls Try.prog 11 #[.pointer (some ⟨lp, 0, none⟩), v] w fun e w' => PutRes w w' e lp p d L bs ((L.area + 1) % 2) (allL (ys.map (·.l))) := by
  have hrm := roomN_le hH.n100
  refine (lreplace_any w h v ys hv hys hyn (by omega) hH.n100 hI.a1 ht (by rw [hH.loose]; simp)).mono ?_
  rintro e w' ⟨rfl, bs2, hL2, hE2⟩
  obtain ⟨q1, q2⟩ := rep_put (d := d) (L := L) (b := allL (ys.map (·.l))) (by omega)
  have ha := hI.a1
  have hok : PutOk L.area L.b ((L.area + 1) % 2) (allL (ys.map (·.l))) 0 := ⟨by omega, .inr ⟨by omega, rfl⟩⟩
  unfold repL at hL2
  rcases put_spec hH hI hok hroom ht with ⟨e1, e2, e3, e4, e5⟩ | ⟨e1, e2, e3, e4, e5, e6, e7⟩
  · rw [q1, q2, if_pos e1] at hL2
    rw [q1, e1]
    exact ⟨_, bs2, hE2, e4, .inl ⟨rfl, hL2, e2, e3, e5⟩⟩
  · rw [q1, q2, if_neg (by rw [e1]; decide)] at hL2
    rw [q1, e1]
    exact ⟨_, bs2, hE2, e4, .inr ⟨rfl, hL2, e2, e3, e5, e6, e7⟩⟩
theorem replace_full (w : World) {lp p : Nat} {d : DK} {L : LD} {bs : Nat → Prop} (h : LogAt w lp p d L bs) (hH : Hlt d) (hI : Img d.now L.turn L.area L.b) (v : Value) (ys : List MsgD) (hv : MsgsAt w v ys) (hys : ∀ y ∈ ys, y.l.length ≤ 1000) (hyn : ys.length ≤ 100) (ht : L.turn + 1 ≤ 1000000000)
    (hall : (allL (ys.map (·.l))).length ≤ 8000) (hroom : roomN d.now.length < (allL (ys.map (·.l))).length) :
    Calls Try.prog 11 #[.pointer (some ⟨lp, 0, none⟩), v] w fun e w' => e = .returned (.int .i64 8) ∧ ∃ bs2, LogAt w' lp p d L bs2 ∧ DEff w w' bs bs2 := by
  refine (lreplace_any w h v ys hv hys hyn hall hH.n100 hI.a1 ht (by rw [hH.loose]; simp)).mono ?_
  rintro e w' ⟨rfl, bs2, hL2, hE2⟩
  have q1 : repE d L (allL (ys.map (·.l))) = 8 := by unfold repE; dsimp only; rw [if_pos hroom]
  have q2 : repD d L (allL (ys.map (·.l))) = d := by unfold repD; dsimp only; rw [if_pos hroom]
  unfold repL at hL2
  rw [q1, q2, if_neg (by decide)] at hL2
  rw [q1]
  exact ⟨rfl, bs2, hL2, hE2⟩
theorem open_st (w : World) {p : Nat} {d : DK} {ds : Nat → Prop} (h : DiskAt w p d ds) (hH : Hlt d) {t a : Nat} {b : List UInt8} (hI : Img d.now t a b) :
    Calls Try.prog 17 #[.pointer (some ⟨p, 0, none⟩)] w fun e w' => ∃ (lp : Nat) (u : Value) (ys : List MsgD), e = .returned (.tuple #[.pointer (some ⟨lp, 0, none⟩), u, .int .i64 0]) ∧ MsgsAt w' u ys ∧ ys.map (·.l) = (recsA b).1 ∧ Below w.heap.size w w' ∧
      ∃ bs, LogAt w' lp p d ⟨t, a, b.take (recsA b).2⟩ bs ∧ ∀ k, bs k → ds k ∨ w.heap.size ≤ k := by
  obtain ⟨h0, h1, g0, g1, hb⟩ := hI.heads
  have har := hI.has.area hI.sec
  have ht1 := hI.t1
  refine (lopen_any w h hH.on hI.n4 hI.n100 hI.sec g0 g1 hb (by omega) hI.a1 hI.fit).mono ?_
  rintro e w' ⟨lp, u, ys, rfl, ⟨hr, hm, hy⟩, hB, bs, hL, hbs⟩
  rw [har] at hm hL
  exact ⟨lp, u, ys, rfl, MsgsAt.of_rw hr hy, hm, hB, bs, hL, hbs⟩
theorem hlt_new {n : Nat} (h4 : 4 ≤ n) (h1 : n ≤ 100) : Hlt (DK.new n) := hlt_of rfl rfl rfl (fun s hs => by rw [List.eq_of_mem_replicate hs]; simp [secL]) (by simpa [DK.new] using h4) (by simpa [DK.new] using h1) ⟨Int.le_refl _, by show (0 : Int) ≤ 9223372036854775807; decide⟩
theorem format_new (w : World) {p n : Nat} {ds : Nat → Prop} (h : DiskAt w p (DK.new n) ds) (h4 : 4 ≤ n) (h1 : n ≤ 100) :
    Calls Try.prog 9 #[.pointer (some ⟨p, 0, none⟩)] w fun e w' => ∃ lp, e = .returned (.tuple #[.pointer (some ⟨lp, 0, none⟩), .int .i64 0]) ∧ ∃ d bs, LogAt w' lp p d ⟨1, 0, []⟩ bs ∧ DEff w w' ds bs ∧ Hlt d ∧ Img d.now 1 0 [] ∧ d.now.length = n ∧ d.fuse = 0 := by
  have hl : (DK.new n).now.length = n := by simp [DK.new]
  have hz : ∀ i, i < n → (DK.new n).now[i]? = some (secL 0) := fun i hi => by simp [DK.new, hi]
  have hk : ∀ i, i < n → HeadOk ((DK.new n).now.getD i []) none i (roomN (DK.new n).now.length) := fun i hi => by
    show (DK.new n).now.getD i [] = secL 0
    rw [List.getD, hz i hi]; rfl
  rcases close_all (hlt_new h4 h1) 1 0 0 with ⟨c1, c2, c3, c4⟩ | ⟨_, _, c3, _⟩
  · refine (lformat_any w h rfl (h0 := none) (h1 := none) (by rw [hl]; exact h4) (by rw [hl]; exact h1) (hk 0 (by omega)) (hk 1 (by omega)) (by decide) (by simp [DK.new]) c1).mono ?_
    rintro e w' ⟨lp, rfl, bs, hL, hE⟩
    refine ⟨lp, rfl, _, bs, hL, hE, c2, ?_, ?_, c4 rfl⟩
    · show Img (closeD (DK.new n) 1 0 0).now 1 0 []
      rw [c3]
      refine ⟨by rw [List.length_set, hl]; exact h4, by rw [List.length_set, hl]; exact h1, fun x hx => ?_, by rw [List.getElem?_set_self (by rw [hl]; omega)]; rfl, ⟨none, secL 0, by rw [List.getElem?_set_ne (by decide)]; exact hz _ (by omega), rfl, by decide⟩, by omega, by omega, by omega, by simp, fun k hk => by simp at hk⟩
      rcases List.mem_or_eq_of_mem_set hx with h | h
      · exact (hlt_new h4 h1).sec x h
      · rw [h]; exact secT_len _
    · show (closeD (DK.new n) 1 0 0).now.length = n
      rw [c3, List.length_set, hl]
  · exact absurd c3 (by simp [DK.new])
end Go.Proofs.Ytbmdcblcefebiaa
/- casketlaw17.logs: holds. -/
namespace Go.Proofs.Ytbmdcblcefebiaa
open Go.RowKit
set_option maxRecDepth 100000 in
set_option maxHeartbeats 4000000 in
theorem logs_any (w : World) : Calls Try.prog 10 #[] w fun e w' => e = .returned (.bool true) ∧ Below w.heap.size w w' := by
  have hr6 : roomN 6 = 128 := rfl
  have kc := fun (w : World) (C : Array Value) (n c : Nat) => Lib.run_convert_bytes_const (P := Try.prog) w 37 5 C n c Try.underlying37 Try.underlying5
  go_enter Try.func10, Try.ntmps10
  go_wp2_with fail
  refine (dnew_ok 6 w (by omega) (by omega)).mono ?_
  rintro e w1 ⟨p, rfl, ⟨ds, hD, hds⟩, hB1⟩
  go_wp2_with fail
  refine (format_new w1 hD (by omega) (by omega)).mono ?_
  rintro e w2 ⟨lp, rfl, d, bs, hL, hE, hH, hI, hn, hfu⟩
  obtain ⟨hbs2, hBB2⟩ := hE.own hds hB1 (Nat.le_refl _)
  have hA : Below w2.heap.size w2 (w2.alloc (.cells #[.int .u8 97, .int .u8 98] 5 (2, 3))) := (Below.refl _ _).alloc (Nat.le_refl _) _
  have hbsl : Bsl (w2.alloc (.cells #[.int .u8 97, .int .u8 98] 5 (2, 3))) (.slice (some ⟨w2.heap.size, 0, none⟩) 2 2) [97, 98] := Bsl.lit w2 [97, 98] _ _ 2 rfl (by simp) (by omega)
  have hap := append_st _ (hL.keep hA) hH hI _ [97, 98] hbsl (by simp) (by show 1 + 1 ≤ _; omega) (by rw [hn, hr6]; simp)
  have hBA := hBB2.trans (hA.mono hBB2.size)
  clear hE hA hL hbsl hB1 hds hD
  go_wp2_with fail

  refine hap.mono ?_
  rintro e w3 ⟨d2, bs3, hE3, hn3, hc⟩
  rcases hc with ⟨rfl, hL3, hH3, hI3, hf3⟩ | ⟨_, _, _, h0, _⟩
  · obtain ⟨hbs3, hBB3⟩ := hE3.own hbs2 hBA (Nat.le_refl _)
    obtain ⟨ds3, hD3, hds3, _⟩ := hL3.disk
    have hcr := dcrash_any [] (.slice none 0 0) w3 hD3 (by rw [hH3.fast]; intro e; have := hH3.n4; rw [e] at this; simp at this) (by rw [hH3.loose]; simp) (BoolSl.nil _) (by simp)
    have hcd : d2.crash [] = { d2 with fuse := 0 } := by
      unfold DK.crash
      rw [hH3.loose, lay_nil, hH3.fast, hH3.on]
    clear hap hL3 hE3
    go_wp2_with fail
    refine hcr.mono ?_
    rintro e w4 ⟨rfl, ds4, hD4, hE4⟩
    rw [hcd] at hD4
    obtain ⟨hbs4, hBB4⟩ := hE4.own (fun k hk => hbs3 k (hds3 k hk)) hBB3 (Nat.le_refl _)
    have hH4 : Hlt { d2 with fuse := 0 } := hlt_of hH3.on hH3.loose hH3.fast hH3.sec hH3.n4 hH3.n100 ⟨Int.le_refl _, by show (0 : Int) ≤ 9223372036854775807; decide⟩
    have hop := open_st w4 hD4 hH4 hI3
    rw [show ([] : List UInt8) ++ recL [97, 98] = allL [[97, 98]] by simp [allL], recsA_all _ (by simp)] at hop
    clear hcr hE4 hH4 hD4
    go_wp2_with fail
    refine hop.mono ?_
    rintro e w5 ⟨lp5, u, ys, rfl, hM, hys, hB5, bs5, hL5, hbs5⟩
    obtain ⟨y, rfl, hyl⟩ : ∃ y : MsgD, ys = [y] ∧ y.l = [97, 98] := by
      cases ys with
      | nil => simp at hys
      | cons y t => cases t with
        | nil => exact ⟨y, rfl, by simpa using hys⟩
        | cons z t => simp at hys
    obtain ⟨ao, cap, rfl, hz1, hz2, hcs, hbs⟩ := hM
    obtain ⟨g, o, rfl, hcc⟩ := hcs (by simp)
    have hcell : w5.cell? ⟨g, o, none⟩ = some y.v := hcc 0 (by simp)
    have hb := hbs y (by simp)
    rw [hyl] at hb
    have hBB5 := Lib.hid (hBB4.trans (hB5.mono hBB4.size))
    have hcv := run_str _ hb
    have hsz := fun w => lsize_any (.slice none 0 0) [] w (OB.nil _ 0).bsl (by simp)
    have hrm := fun w => lroom_any 6 w (by omega)
    clear hop hL5 hbs5 hbs hcs hcc hb hBB4 hB5
    go_wp2_with fail
    refine (hsz _).mono ?_
    rintro e w6 ⟨rfl, hB6⟩
    have HBB6 := Lib.hid (hBB5.out.trans (hB6.mono hBB5.out.size))
    clear hB6 hBB5
    rw [hr6] at hrm
    go_wp2_with fail
    refine (hrm _).mono ?_
    rintro e w7 ⟨rfl, rfl⟩
    go_wp2_with fail
    go_ret
    exact ⟨rfl, HBB6.out⟩
  · omega
end Go.Proofs.Ytbmdcblcefebiaa
