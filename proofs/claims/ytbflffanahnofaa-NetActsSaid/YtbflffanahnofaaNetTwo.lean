/- A net and the document's net side by side. -/
import Derived.Test.YtbflffanahnofaaNetCopy
import Derived.Test.YtbflffanahnofaaRefNetCopy
namespace Go.Proofs.Ytbflffanahnofaa
open Go.RowKit
def inB (st : NSt) (bx : Int) : Prop := 0 ≤ bx ∧ bx < st.length
instance (st : NSt) (bx : Int) : Decidable (inB st bx) := inferInstanceAs (Decidable (_ ∧ _))
def inK (st : NSt) (bx k : Int) : Prop := 0 ≤ k ∧ k < (innN st bx.toNat).length
instance (st : NSt) (bx k : Int) : Decidable (inK st bx k) := inferInstanceAs (Decidable (_ ∧ _))
def sendE (st : NSt) (bx : Int) : Int := if inB st bx then (if (innN st bx.toNat).length = 64 then 10 else 0) else 1
def sendT (st : NSt) (bx : Int) (l : List UInt8) : NSt := if inB st bx then (if (innN st bx.toNat).length = 64 then st else st.set bx.toNat (innN st bx.toNat ++ [l], seenN st bx.toNat)) else st
def takeE (st : NSt) (bx k : Int) : Int := if inB st bx then (if inK st bx k then 0 else 7) else 1
def takeL (st : NSt) (bx k : Int) : List UInt8 := if inB st bx then (if inK st bx k then (innN st bx.toNat).getD k.toNat [] else []) else []
def takeT (st : NSt) (bx k : Int) : NSt := if inB st bx then (if inK st bx k then st.set bx.toNat ((innN st bx.toNat).eraseIdx k.toNat, seenN st bx.toNat ++ [(innN st bx.toNat).getD k.toNat []]) else st) else st
def copyE (st : NSt) (bx k : Int) : Int := if inB st bx then (if inK st bx k then sendE st bx else 7) else 1
def copyT (st : NSt) (bx k : Int) : NSt := if inB st bx then (if inK st bx k then sendT st bx ((innN st bx.toNat).getD k.toNat []) else st) else st
def clearT (st : NSt) (bx : Int) : NSt := if inB st bx then st.set bx.toNat ([], seenN st bx.toNat) else st
/-- Sizes. -/
def Siz (st : NSt) (n i : Nat) : Prop := st.length = n ∧ ∀ j, (innN st j).length ≤ 64 ∧ (seenN st j).length ≤ i
theorem innN_set {st : NSt} {i : Nat} (hi : i < st.length) (a b : List (List UInt8)) (j : Nat) : innN (st.set i (a, b)) j = if j = i then a else innN st j := by
  unfold innN
  by_cases h : j = i
  · subst h; simp [List.getD, hi]
  · have : ¬ i = j := fun e => h e.symm
    simp [List.getD, h, this, List.getElem?_set_ne]
theorem seenN_set {st : NSt} {i : Nat} (hi : i < st.length) (a b : List (List UInt8)) (j : Nat) : seenN (st.set i (a, b)) j = if j = i then b else seenN st j := by
  unfold seenN
  by_cases h : j = i
  · subst h; simp [List.getD, hi]
  · have : ¬ i = j := fun e => h e.symm
    simp [List.getD, h, this, List.getElem?_set_ne]
theorem Siz.set {st : NSt} {n i : Nat} (h : Siz st n i) {j : Nat} (hj : j < st.length) {a b : List (List UInt8)} (ha : a.length ≤ 64) (hb : b.length ≤ i + 1) : Siz (st.set j (a, b)) n (i + 1) := by
  refine ⟨by rw [List.length_set]; exact h.1, fun k => ?_⟩
  rw [innN_set hj, seenN_set hj]
  have := h.2 k
  constructor
  · split
    · exact ha
    · exact this.1
  · split
    · exact hb
    · omega
theorem Siz.more {st : NSt} {n i : Nat} (h : Siz st n i) : Siz st n (i + 1) := ⟨h.1, fun j => ⟨(h.2 j).1, by have := (h.2 j).2; omega⟩⟩
theorem inB.nat {st : NSt} {bx : Int} (h : inB st bx) : ∃ j : Nat, bx = j ∧ j < st.length := ⟨bx.toNat, by have := h.1; omega, by have := h.1; have := h.2; omega⟩
theorem Siz.send {st : NSt} {n i : Nat} (h : Siz st n i) (bx : Int) (l : List UInt8) : Siz (sendT st bx l) n (i + 1) := by
  unfold sendT
  split
  · rename_i hb
    obtain ⟨j, rfl, hj⟩ := hb.nat
    rw [Int.toNat_natCast]
    have := h.2 j
    split
    · exact h.more
    · exact h.set hj (by rw [List.length_append]; simp; omega) (by omega)
  · exact h.more
theorem Siz.take {st : NSt} {n i : Nat} (h : Siz st n i) (bx k : Int) : Siz (takeT st bx k) n (i + 1) := by
  unfold takeT
  split
  · rename_i hb
    obtain ⟨j, rfl, hj⟩ := hb.nat
    rw [Int.toNat_natCast]
    have := h.2 j
    split
    · refine h.set hj ?_ (by rw [List.length_append]; simp; omega)
      have := List.length_eraseIdx_le (innN st j) k.toNat
      omega
    · exact h.more
  · exact h.more
theorem Siz.copy {st : NSt} {n i : Nat} (h : Siz st n i) (bx k : Int) : Siz (copyT st bx k) n (i + 1) := by
  unfold copyT
  split
  · split
    · exact h.send _ _
    · exact h.more
  · exact h.more
theorem Siz.clear {st : NSt} {n i : Nat} (h : Siz st n i) (bx : Int) : Siz (clearT st bx) n (i + 1) := by
  unfold clearT
  split
  · rename_i hb
    obtain ⟨j, rfl, hj⟩ := hb.nat
    rw [Int.toNat_natCast]
    have := h.2 j
    exact h.set hj (by simp) (by omega)
  · exact h.more
/-- Both nets in one world; the blocks E are neither's. -/
def Two (w0 w : World) (p q : Nat) (st st' : NSt) (E : Nat → Prop) : Prop := ∃ bs cs : Nat → Prop, NetAt w p st bs ∧ RNet w q st' cs ∧ (∀ k, bs k → ¬ cs k) ∧ ((∀ k, bs k → w0.heap.size ≤ k) ∧ (∀ k, cs k → w0.heap.size ≤ k)) ∧ Below w0.heap.size w0 w ∧ ((∀ k, E k → ¬ bs k ∧ ¬ cs k) ∧ (∀ k, E k → k < w.heap.size))
section
variable {w0 w : World} {p q : Nat} {st st' : NSt} {E : Nat → Prop}
theorem Two.below (h : Two w0 w p q st st' E) : Below w0.heap.size w0 w := by
  obtain ⟨_, _, _, _, _, _, h, _⟩ := h
  exact h
theorem Two.lt (h : Two w0 w p q st st' E) : ∀ k, E k → k < w.heap.size := by
  obtain ⟨_, _, _, _, _, _, _, _, h⟩ := h
  exact h
/-- New blocks of one's own. -/
theorem Two.fresh (h : Two w0 w p q st st' E) {w2 : World} {E' : Nat → Prop} (hB : Below w.heap.size w w2) (hE : ∀ k, E' k → w.heap.size ≤ k ∧ k < w2.heap.size) : Two w0 w2 p q st st' E' := by
  obtain ⟨bs, cs, hN, hR, hd, hg, hb, hE0, hl⟩ := h
  exact ⟨bs, cs, hN.keep hB, hR.keep hB, hd, hg, hb.trans (hB.mono hb.size), fun k hk => ⟨fun e => by have := hN.lt k e; have := (hE k hk).1; omega, fun e => by have := hR.lt k e; have := (hE k hk).1; omega⟩, fun k hk => (hE k hk).2⟩
theorem Two.keep (h : Two w0 w p q st st' E) {w2 : World} (hB : Below w.heap.size w w2) : Two w0 w2 p q st st' E := by
  obtain ⟨bs, cs, hN, hR, hd, hg, hb, hE0, hl⟩ := h
  exact ⟨bs, cs, hN.keep hB, hR.keep hB, hd, hg, hb.trans (hB.mono hb.size), hE0, fun k hk => Nat.lt_of_lt_of_le (hl k hk) hB.size⟩
theorem Two.sub (h : Two w0 w p q st st' E) {E' : Nat → Prop} (hE : ∀ k, E' k → E k) : Two w0 w p q st st' E' := by
  obtain ⟨bs, cs, hN, hR, hd, hg, hb, hE0, hl⟩ := h
  exact ⟨bs, cs, hN, hR, hd, hg, hb, fun k hk => hE0 k (hE k hk), fun k hk => hl k (hE k hk)⟩
/-- A write into one's own. -/
theorem Two.write (h : Two w0 w p q st st' E) {w2 : World} (hon : Only E w w2) (hE : ∀ k, E k → w0.heap.size ≤ k) : Two w0 w2 p q st st' E := by
  obtain ⟨bs, cs, hN, hR, hd, hg, hb, hE0, hl⟩ := h
  exact ⟨bs, cs, hN.only hon (fun k hk e => (hE0 k e).1 hk), hR.only hon (fun k hk e => (hE0 k e).2 hk), hd, hg, hb.trans (hon.to_below hb.size hE), hE0, fun k hk => Nat.lt_of_lt_of_le (hl k hk) hon.size⟩
theorem Two.net (h : Two w0 w p q st st' E) : ∃ bs, NetAt w p st bs ∧ (∀ (w2 : World) (st2 : NSt) (bs' F : Nat → Prop), NetAt w2 p st2 bs' → NEff w w2 bs bs' → (∀ k, F k → w.heap.size ≤ k ∧ k < w2.heap.size ∧ ¬ bs' k) → Two w0 w2 p q st2 st' (fun k => E k ∨ F k) ∧ Only (fun k => ¬ E k) w w2) := by
  obtain ⟨bs, cs, hN, hR, hd, hg, hb, hE0, hl⟩ := h
  refine ⟨bs, hN, fun w2 st2 bs' F hN2 hE hF => ⟨⟨bs', cs, hN2, hR.only hE.only (fun k hk e => hd k e hk), fun k hk e => ?_, ⟨fun k hk => ?_, hg.2⟩, hb.trans (hE.only.to_below hb.size hg.1), fun k hk => ?_, fun k hk => ?_⟩, hE.only.mono (fun k _ hk e => (hE0 k e).1 hk)⟩⟩
  · rcases hE.new k hk with h1 | h1
    · exact hd k h1 e
    · have := hR.lt k e; omega
  · rcases hE.new k hk with h1 | h1
    · exact hg.1 k h1
    · exact Nat.le_trans hb.size h1
  · rcases hk with hk | hk
    · refine ⟨fun e => ?_, (hE0 k hk).2⟩
      rcases hE.new k e with h1 | h1
      · exact (hE0 k hk).1 h1
      · have := hl k hk; omega
    · exact ⟨(hF k hk).2.2, fun e => by have := hR.lt k e; have := (hF k hk).1; omega⟩
  · rcases hk with hk | hk
    · exact Nat.lt_of_lt_of_le (hl k hk) hE.only.size
    · exact (hF k hk).2.1
theorem Two.net0 (h : Two w0 w p q st st' E) : ∃ bs, NetAt w p st bs ∧ (∀ (w2 : World) (st2 : NSt), (∃ bs', NetAt w2 p st2 bs' ∧ NEff w w2 bs bs') → Two w0 w2 p q st2 st' E ∧ Only (fun k => ¬ E k) w w2) := by
  obtain ⟨bs, hN, h2⟩ := h.net
  refine ⟨bs, hN, fun w2 st2 ⟨bs', hN2, hE⟩ => ?_⟩
  obtain ⟨h3, h4⟩ := h2 w2 st2 bs' (fun _ => False) hN2 hE (fun _ h => h.elim)
  exact ⟨h3.sub (fun k hk => .inl hk), h4⟩
theorem Two.ref (h : Two w0 w p q st st' E) : ∃ cs, RNet w q st' cs ∧ (∀ (w2 : World) (st2 : NSt), (∃ cs', RNet w2 q st2 cs' ∧ NEff w w2 cs cs') → Two w0 w2 p q st st2 E ∧ Only (fun k => ¬ E k) w w2) := by
  obtain ⟨bs, cs, hN, hR, hd, hg, hb, hE0, hl⟩ := h
  refine ⟨cs, hR, fun w2 st2 ⟨cs', hR2, hE⟩ => ⟨⟨bs, cs', hN.only hE.only (fun k hk e => hd k hk e), hR2, fun k hk e => ?_, ⟨hg.1, fun k hk => ?_⟩, hb.trans (hE.only.to_below hb.size hg.2), fun k hk => ?_, fun k hk => Nat.lt_of_lt_of_le (hl k hk) hE.only.size⟩, hE.only.mono (fun k _ hk e => (hE0 k e).2 hk)⟩⟩
  · rcases hE.new k e with h1 | h1
    · exact hd k hk h1
    · have := hN.lt k hk; omega
  · rcases hE.new k hk with h1 | h1
    · exact hg.2 k h1
    · exact Nat.le_trans hb.size h1
  · refine ⟨(hE0 k hk).1, fun e => ?_⟩
    rcases hE.new k e with h1 | h1
    · exact (hE0 k hk).2 h1
    · have := hl k hk; omega
theorem tsend_n (bx : Int) (v : Value) (l : List UInt8) (h : Two w0 w p q st st' E) (hb : Bsl w v l) (hl : l.length ≤ 1000000) (hs : ∀ j, (innN st j).length ≤ 64) :
    Calls Try.prog 8 #[.pointer (some ⟨p, 0, none⟩), .int .i64 bx, v] w fun e w' => e = .returned (.int .i64 (sendE st bx)) ∧ Two w0 w' p q (sendT st bx l) st' E ∧ Only (fun k => ¬ E k) w w' := by
  obtain ⟨bs, hN, h2⟩ := h.net0
  by_cases hi : inB st bx
  · unfold sendE sendT
    rw [if_pos hi, if_pos hi]
    obtain ⟨j, rfl, hj⟩ := hi.nat
    rw [Int.toNat_natCast]
    by_cases hf : (innN st j).length = 64
    · rw [if_pos hf, if_pos hf]
      refine (nsend_full j v w hN hj hf).mono ?_
      rintro e w' ⟨rfl, rfl⟩
      exact ⟨rfl, h, Only.refl _ _⟩
    · rw [if_neg hf, if_neg hf]
      refine (nsend_ok j v l w hN hj (by have := hs j; omega) hb hl).mono ?_
      rintro e w' ⟨rfl, h3⟩
      exact ⟨rfl, h2 w' _ h3⟩
  · unfold sendE sendT
    rw [if_neg hi, if_neg hi]
    refine (nsend_bad bx v w hN hi).mono ?_
    rintro e w' ⟨rfl, rfl⟩
    exact ⟨rfl, h, Only.refl _ _⟩
theorem tsend_r (bx : Int) (l : List UInt8) (h : Two w0 w p q st st' E) (hs : ∀ j, (innN st' j).length ≤ 64) :
    Calls Try.prog 16 #[.pointer (some ⟨q, 0, none⟩), .int .i64 bx, strN l] w fun e w' => e = .returned (.int .i64 (sendE st' bx)) ∧ Two w0 w' p q st (sendT st' bx l) E ∧ Only (fun k => ¬ E k) w w' := by
  obtain ⟨bs, hN, h2⟩ := h.ref
  by_cases hi : inB st' bx
  · unfold sendE sendT
    rw [if_pos hi, if_pos hi]
    obtain ⟨j, rfl, hj⟩ := hi.nat
    rw [Int.toNat_natCast]
    by_cases hf : (innN st' j).length = 64
    · rw [if_pos hf, if_pos hf]
      refine (rsend_full j l w hN hj hf).mono ?_
      rintro e w' ⟨rfl, rfl⟩
      exact ⟨rfl, h, Only.refl _ _⟩
    · rw [if_neg hf, if_neg hf]
      refine (rsend_ok j l w hN hj (by have := hs j; omega)).mono ?_
      rintro e w' ⟨rfl, h3⟩
      exact ⟨rfl, h2 w' _ h3⟩
  · unfold sendE sendT
    rw [if_neg hi, if_neg hi]
    refine (rsend_bad bx l w hN hi).mono ?_
    rintro e w' ⟨rfl, rfl⟩
    exact ⟨rfl, h, Only.refl _ _⟩
theorem ttake_n (bx k : Int) (h : Two w0 w p q st st' E) (hs : ∀ j, (seenN st j).length ≤ 1000) :
    Calls Try.prog 10 #[.pointer (some ⟨p, 0, none⟩), .int .i64 bx, .int .i64 k] w fun e w' => ∃ v, e = .returned (.tuple #[v, .int .i64 (takeE st bx k)]) ∧ Bsl w' v (takeL st bx k) ∧ Two w0 w' p q (takeT st bx k) st' (fun j => E j ∨ v.ownBlock = some j) ∧ Only (fun k => ¬ E k) w w' := by
  obtain ⟨bs, hN, h2⟩ := h.net
  by_cases hi : inB st bx
  · unfold takeE takeL takeT
    rw [if_pos hi, if_pos hi, if_pos hi]
    by_cases hk : inK st bx k
    · rw [if_pos hk, if_pos hk, if_pos hk]
      obtain ⟨j, rfl, hj⟩ := hi.nat
      obtain ⟨hk1, hk2⟩ := hk
      rw [Int.toNat_natCast] at hk2 ⊢
      obtain ⟨m, rfl⟩ := Int.eq_ofNat_of_zero_le hk1
      rw [Int.toNat_natCast]
      refine (ntake_ok j m w hN hj (by omega) (by have := hs j; omega)).mono ?_
      rintro e w' ⟨v, bs', rfl, ho, hN', hE, hd⟩
      exact ⟨v, rfl, ho.bsl, h2 w' _ bs' (fun j => v.ownBlock = some j) hN' hE (fun q hq => ⟨ho.own_ge q hq, ho.own_lt q hq, hd q hq⟩)⟩
    · rw [if_neg hk, if_neg hk, if_neg hk]
      obtain ⟨j, rfl, hj⟩ := hi.nat
      have hk' : ¬ (0 ≤ k ∧ k < (innN st j).length) := by simpa [inK] using hk
      refine (ntake_miss j k w hN hj hk').mono ?_
      rintro e w' ⟨rfl, rfl⟩
      exact ⟨_, rfl, (OB.nil _ 0).bsl, h.sub (fun k hk => hk.elim id (fun e => by simp [Value.ownBlock] at e)), Only.refl _ _⟩
  · unfold takeE takeL takeT
    rw [if_neg hi, if_neg hi, if_neg hi]
    refine (ntake_bad bx k w hN hi).mono ?_
    rintro e w' ⟨rfl, rfl⟩
    exact ⟨_, rfl, (OB.nil _ 0).bsl, h.sub (fun k hk => hk.elim id (fun e => by simp [Value.ownBlock] at e)), Only.refl _ _⟩
theorem ttake_r (bx k : Int) (h : Two w0 w p q st st' E) (hs : ∀ j, (innN st' j).length ≤ 1000 ∧ (seenN st' j).length ≤ 1000) :
    Calls Try.prog 17 #[.pointer (some ⟨q, 0, none⟩), .int .i64 bx, .int .i64 k] w fun e w' => e = .returned (.tuple #[strN (takeL st' bx k), .int .i64 (takeE st' bx k)]) ∧ Two w0 w' p q st (takeT st' bx k) E ∧ Only (fun k => ¬ E k) w w' := by
  obtain ⟨bs, hN, h2⟩ := h.ref
  by_cases hi : inB st' bx
  · unfold takeE takeL takeT
    rw [if_pos hi, if_pos hi, if_pos hi]
    by_cases hk : inK st' bx k
    · rw [if_pos hk, if_pos hk, if_pos hk]
      obtain ⟨j, rfl, hj⟩ := hi.nat
      obtain ⟨hk1, hk2⟩ := hk
      rw [Int.toNat_natCast] at hk2 ⊢
      obtain ⟨m, rfl⟩ := Int.eq_ofNat_of_zero_le hk1
      rw [Int.toNat_natCast]
      refine (rtake_ok j m w hN hj (by omega) (hs j).1 (hs j).2).mono ?_
      rintro e w' ⟨rfl, h3⟩
      exact ⟨rfl, h2 w' _ h3⟩
    · rw [if_neg hk, if_neg hk, if_neg hk]
      obtain ⟨j, rfl, hj⟩ := hi.nat
      have hk' : ¬ (0 ≤ k ∧ k < (innN st' j).length) := by simpa [inK] using hk
      refine (rtake_miss j k w hN hj hk').mono ?_
      rintro e w' ⟨rfl, rfl⟩
      exact ⟨rfl, h, Only.refl _ _⟩
  · unfold takeE takeL takeT
    rw [if_neg hi, if_neg hi, if_neg hi]
    refine (rtake_bad bx k w hN hi).mono ?_
    rintro e w' ⟨rfl, rfl⟩
    exact ⟨rfl, h, Only.refl _ _⟩
theorem tcopy_n (bx k : Int) (h : Two w0 w p q st st' E) (hs : ∀ j, (innN st j).length ≤ 64) :
    Calls Try.prog 9 #[.pointer (some ⟨p, 0, none⟩), .int .i64 bx, .int .i64 k] w fun e w' => e = .returned (.int .i64 (copyE st bx k)) ∧ Two w0 w' p q (copyT st bx k) st' E ∧ Only (fun k => ¬ E k) w w' := by
  obtain ⟨bs, hN, h2⟩ := h.net0
  by_cases hi : inB st bx
  · unfold copyE copyT
    rw [if_pos hi, if_pos hi]
    by_cases hk : inK st bx k
    · rw [if_pos hk, if_pos hk]
      unfold sendE sendT
      rw [if_pos hi, if_pos hi]
      obtain ⟨j, rfl, hj⟩ := hi.nat
      obtain ⟨hk1, hk2⟩ := hk
      rw [Int.toNat_natCast] at hk2 ⊢
      obtain ⟨m, rfl⟩ := Int.eq_ofNat_of_zero_le hk1
      rw [Int.toNat_natCast]
      by_cases hf : (innN st j).length = 64
      · rw [if_pos hf, if_pos hf]
        refine (ncopy_full j m w hN hj (by omega) hf).mono ?_
        rintro e w' ⟨rfl, rfl⟩
        exact ⟨rfl, h, Only.refl _ _⟩
      · rw [if_neg hf, if_neg hf]
        refine (ncopy_ok j m w hN hj (by omega) (by have := hs j; omega)).mono ?_
        rintro e w' ⟨rfl, h3⟩
        exact ⟨rfl, h2 w' _ h3⟩
    · rw [if_neg hk, if_neg hk]
      obtain ⟨j, rfl, hj⟩ := hi.nat
      have hk' : ¬ (0 ≤ k ∧ k < (innN st j).length) := by simpa [inK] using hk
      refine (ncopy_miss j k w hN hj hk').mono ?_
      rintro e w' ⟨rfl, rfl⟩
      exact ⟨rfl, h, Only.refl _ _⟩
  · unfold copyE copyT
    rw [if_neg hi, if_neg hi]
    refine (ncopy_bad bx k w hN hi).mono ?_
    rintro e w' ⟨rfl, rfl⟩
    exact ⟨rfl, h, Only.refl _ _⟩
theorem tcopy_r (bx k : Int) (h : Two w0 w p q st st' E) (hs : ∀ j, (innN st' j).length ≤ 64) :
    Calls Try.prog 18 #[.pointer (some ⟨q, 0, none⟩), .int .i64 bx, .int .i64 k] w fun e w' => e = .returned (.int .i64 (copyE st' bx k)) ∧ Two w0 w' p q st (copyT st' bx k) E ∧ Only (fun k => ¬ E k) w w' := by
  obtain ⟨bs, hN, h2⟩ := h.ref
  by_cases hi : inB st' bx
  · by_cases hk : inK st' bx k
    · have hsend := tsend_r bx ((innN st' bx.toNat).getD k.toNat []) h hs
      have e1 : copyE st' bx k = sendE st' bx := by unfold copyE; rw [if_pos hi, if_pos hk]
      have e2 : copyT st' bx k = sendT st' bx ((innN st' bx.toNat).getD k.toNat []) := by unfold copyT; rw [if_pos hi, if_pos hk]
      rw [e1, e2]
      obtain ⟨j, rfl, hj⟩ := hi.nat
      obtain ⟨hk1, hk2⟩ := hk
      rw [Int.toNat_natCast] at hk2 hsend ⊢
      obtain ⟨m, rfl⟩ := Int.eq_ofNat_of_zero_le hk1
      rw [Int.toNat_natCast] at hsend ⊢
      refine (rcopy_in j m w hN hj (by omega) (Q := fun n w' => n = sendE st' j ∧ Two w0 w' p q st (sendT st' j ((innN st' j).getD m [])) E ∧ Only (fun k => ¬ E k) w w') (hsend.mono ?_)).mono ?_
      · rintro e w' ⟨rfl, h3⟩
        exact ⟨_, rfl, rfl, h3⟩
      · rintro e w' ⟨n, rfl, rfl, h3⟩
        exact ⟨rfl, h3⟩
    · unfold copyE copyT
      rw [if_pos hi, if_pos hi, if_neg hk, if_neg hk]
      obtain ⟨j, rfl, hj⟩ := hi.nat
      have hk' : ¬ (0 ≤ k ∧ k < (innN st' j).length) := by simpa [inK] using hk
      refine (rcopy_miss j k w hN hj hk').mono ?_
      rintro e w' ⟨rfl, rfl⟩
      exact ⟨rfl, h, Only.refl _ _⟩
  · unfold copyE copyT
    rw [if_neg hi, if_neg hi]
    refine (rcopy_bad bx k w hN hi).mono ?_
    rintro e w' ⟨rfl, rfl⟩
    exact ⟨rfl, h, Only.refl _ _⟩
theorem tclear_n (bx : Int) (h : Two w0 w p q st st' E) :
    Calls Try.prog 13 #[.pointer (some ⟨p, 0, none⟩), .int .i64 bx] w fun e w' => e = .returned (.tuple #[]) ∧ Two w0 w' p q (clearT st bx) st' E ∧ Only (fun k => ¬ E k) w w' := by
  obtain ⟨bs, hN, h2⟩ := h.net0
  unfold clearT
  by_cases hi : inB st bx
  · rw [if_pos hi]
    obtain ⟨j, rfl, hj⟩ := hi.nat
    rw [Int.toNat_natCast]
    refine (nclear_ok j w hN hj).mono ?_
    rintro e w' ⟨rfl, h3⟩
    exact ⟨rfl, h2 w' _ h3⟩
  · rw [if_neg hi]
    refine (nclear_bad bx w hN hi).mono ?_
    rintro e w' ⟨rfl, rfl⟩
    exact ⟨rfl, h, Only.refl _ _⟩
end
end Go.Proofs.Ytbflffanahnofaa
