/- The bytes of a message, and what is read of bytes: the plain law. -/
import Derived.Test.YtjhocaleampamaaDoorInLaw
namespace Go.Proofs.YtjhocaleampamaaDoor
open Go.RowKit
set_option linter.unusedVariables false
/-- A parser that takes nothing. -/
def pOf {α : Type} (a : α) : List UInt8 → Option (α × List UInt8) := fun b => some (a, b)
/-- One parser behind another. -/
def pThen {α β : Type} (p : List UInt8 → Option (α × List UInt8)) (f : α → List UInt8 → Option (β × List UInt8)) : List UInt8 → Option (β × List UInt8) := fun b => (p b).bind fun x => f x.1 x.2
def pNum (k : Nat) (most : Int) : List UInt8 → Option (Int × List UInt8) := fun b => if lkE b k most = 0 then some (lkN b k most, b.drop k) else none
def pFix (n : Nat) : List UInt8 → Option (List UInt8 × List UInt8) := fun b => if b.length < n then none else some (b.take n, b.drop n)
def pByt (most : Int) : List UInt8 → Option (List UInt8 × List UInt8) := fun b => if lkE b 4 most ≠ 0 then none else if (b.length : Int) - 4 < lkN b 4 most then none else some ((b.drop 4).take (lkN b 4 most).toNat, (b.drop 4).drop (lkN b 4 most).toNat)
def pRep {α : Type} (p : List UInt8 → Option (α × List UInt8)) : Nat → List UInt8 → Option (List α × List UInt8)
  | 0 => pOf []
  | n + 1 => pThen (pRep p n) fun xs => pThen p fun x => pOf (xs ++ [x])
/-- A step of a reader: from d to d2 by the parser p, with the answer x. -/
def Stp {α : Type} (d : IK) (p : List UInt8 → Option (α × List UInt8)) (d2 : IK) (x : α) : Prop :=
  d2.b.length ≤ d.b.length ∧ (d.e ≠ 0 → d2.e ≠ 0) ∧ (d.e = 0 → (p d.b = none ∧ d2.e ≠ 0) ∨ ∃ r, p d.b = some (x, r) ∧ d2 = ⟨r, 0⟩)
theorem Stp.of {α : Type} (d : IK) (x : α) : Stp d (pOf x) d x := ⟨Nat.le_refl _, fun h => h, fun h => .inr ⟨d.b, rfl, by cases d; simp at h; subst h; rfl⟩⟩
theorem Stp.next {α β : Type} {d d1 d2 : IK} {p : List UInt8 → Option (α × List UInt8)} {f : α → List UInt8 → Option (β × List UInt8)} {x : α} {y : β} (h : Stp d p d1 x) (k : Stp d1 (f x) d2 y) : Stp d (pThen p f) d2 y := by
  obtain ⟨h1, h2, h3⟩ := h
  obtain ⟨k1, k2, k3⟩ := k
  refine ⟨Nat.le_trans k1 h1, fun h => k2 (h2 h), fun h => ?_⟩
  unfold pThen
  rcases h3 h with ⟨e1, e2⟩ | ⟨r, e1, e2⟩
  · exact .inl ⟨by rw [e1]; rfl, k2 e2⟩
  · rw [e1]
    have hd : d1.e = 0 := by rw [e2]
    have hb : d1.b = r := by rw [e2]
    rw [← hb]
    exact k3 hd
theorem Stp.num (d : IK) (k : Nat) (most : Int) : Stp d (pNum k most) (d.numS k most) (d.numN k most) := by
  unfold IK.numS IK.numN pNum
  refine ⟨?_, fun h => ?_, fun h => ?_⟩
  · split
    · exact Nat.le_refl _
    · split
      · simp
      · exact Nat.le_refl _
  · rw [if_pos h]; exact h
  · have hd : ¬ d.e ≠ 0 := fun h3 => h3 h
    rw [if_neg hd, if_neg hd]
    dsimp only
    by_cases h2 : lkE d.b k most = 0
    · rw [if_pos h2, if_pos h2]
      exact .inr ⟨_, rfl, by rw [← h]⟩
    · rw [if_neg h2, if_neg h2]
      exact .inl ⟨rfl, h2⟩
theorem Stp.fix (d : IK) (n : Nat) : Stp d (pFix n) (d.fixS n) (d.fixL n) := by
  unfold IK.fixS IK.fixL pFix
  have hn : ¬ (n : Int) < 0 := by omega
  refine ⟨?_, fun h => ?_, fun h => ?_⟩
  · split
    · exact Nat.le_refl _
    · split
      · exact Nat.le_refl _
      · simp
  · rw [if_pos (.inl h)]; exact h
  · have hd : ¬ (d.e ≠ 0 ∨ (n : Int) < 0) := fun h3 => h3.elim (fun h4 => h4 h) hn
    rw [if_neg hd, if_neg hd]
    dsimp only
    by_cases h2 : d.b.length < n
    · rw [if_pos h2, if_pos (by omega)]
      exact .inl ⟨rfl, by simp⟩
    · rw [if_neg h2, if_neg (by omega), if_neg (by omega)]
      exact .inr ⟨_, rfl, by rw [← h, Int.toNat_natCast]⟩
theorem Stp.byt (d : IK) (most : Int) : Stp d (pByt most) (d.bytS most) (d.bytL most) := by
  unfold IK.bytS IK.bytL pByt
  refine ⟨?_, fun h => ?_, fun h => ?_⟩
  · split
    · exact Nat.le_refl _
    · split
      · exact Nat.le_refl _
      · split
        · exact Nat.le_refl _
        · simp
  · rw [if_pos h]; exact h
  · have hd : ¬ d.e ≠ 0 := fun h3 => h3 h
    rw [if_neg hd, if_neg hd]
    dsimp only
    by_cases h2 : lkE d.b 4 most ≠ 0
    · rw [if_pos h2, if_pos h2]
      exact .inl ⟨rfl, h2⟩
    · rw [if_neg h2, if_neg h2, if_neg h2]
      by_cases h3 : (d.b.length : Int) - 4 < lkN d.b 4 most
      · rw [if_pos h3, if_pos h3]
        exact .inl ⟨rfl, by simp⟩
      · rw [if_neg h3, if_neg h3, if_neg h3]
        exact .inr ⟨_, rfl, by rw [← h]⟩
/-- What failed early failed. -/
theorem rep_none {α : Type} {p : List UInt8 → Option (α × List UInt8)} {b : List UInt8} {j : Nat} (h : pRep p j b = none) : ∀ n, j ≤ n → pRep p n b = none := by
  intro n hn
  induction n with
  | zero => have : j = 0 := by omega
            subst this; exact h
  | succ n ih =>
    by_cases he : j = n + 1
    · subst he; exact h
    · show (pRep p n b).bind _ = none
      rw [ih (by omega)]; rfl
theorem Stp.stop {α : Type} {p : List UInt8 → Option (α × List UInt8)} {d d2 : IK} {j n : Nat} {xs : List α} (ys : List α) (h : Stp d (pRep p j) d2 xs) (he : d2.e ≠ 0) (hj : j ≤ n) : Stp d (pRep p n) d2 ys := by
  obtain ⟨h1, h2, h3⟩ := h
  refine ⟨h1, h2, fun h => ?_⟩
  rcases h3 h with ⟨e1, e2⟩ | ⟨r, e1, e2⟩
  · exact .inl ⟨rep_none e1 n hj, e2⟩
  · exact absurd (by rw [e2]) he
theorem Stp.snoc {α : Type} {p : List UInt8 → Option (α × List UInt8)} {d d1 d2 : IK} {j : Nat} {xs : List α} {x : α} (h : Stp d (pRep p j) d1 xs) (k : Stp d1 p d2 x) : Stp d (pRep p (j + 1)) d2 (xs ++ [x]) :=
  h.next (f := fun xs => pThen p fun x => pOf (xs ++ [x])) (k.next (f := fun x => pOf (xs ++ [x])) (Stp.of _ _))
/-- A parser takes just what was put, and only what is right. -/
def Cdc {α : Type} (p : List UInt8 → Option (α × List UInt8)) (enc : α → List UInt8) (ok : α → Prop) : Prop := ∀ b v r, p b = some (v, r) ↔ ok v ∧ b = enc v ++ r
theorem then_iff {α β : Type} {p : List UInt8 → Option (α × List UInt8)} {f : α → List UInt8 → Option (β × List UInt8)} {b : List UInt8} {y : β × List UInt8} : pThen p f b = some y ↔ ∃ a r1, p b = some (a, r1) ∧ f a r1 = some y := by
  unfold pThen
  rw [Option.bind_eq_some_iff]
  exact ⟨fun ⟨⟨a, r1⟩, h1, h2⟩ => ⟨a, r1, h1, h2⟩, fun ⟨a, r1, h1, h2⟩ => ⟨(a, r1), h1, h2⟩⟩
theorem Cdc.rep {α : Type} {p : List UInt8 → Option (α × List UInt8)} {enc : α → List UInt8} {ok : α → Prop} (h : Cdc p enc ok) (n : Nat) : Cdc (pRep p n) (fun xs => (xs.map enc).flatten) (fun xs => xs.length = n ∧ ∀ x ∈ xs, ok x) := by
  induction n with
  | zero =>
    intro b v r
    constructor
    · intro e
      have e2 : ([], b) = (v, r) := Option.some.inj e
      cases e2
      exact ⟨⟨rfl, by simp⟩, by simp⟩
    · rintro ⟨⟨h1, h2⟩, h3⟩
      rw [List.length_eq_zero_iff] at h1
      subst h1
      simp at h3
      subst h3; rfl
  | succ n ih =>
    intro b v r
    show pThen (pRep p n) (fun xs => pThen p fun x => pOf (xs ++ [x])) b = some (v, r) ↔ _
    rw [then_iff]
    constructor
    · rintro ⟨xs, r1, h1, h2⟩
      obtain ⟨x, r2, h3, h4⟩ := then_iff.1 h2
      have e2 : (xs ++ [x], r2) = (v, r) := Option.some.inj h4
      cases e2
      obtain ⟨⟨hl, ho⟩, rfl⟩ := (ih _ _ _).1 h1
      obtain ⟨hx, rfl⟩ := (h _ _ _).1 h3
      refine ⟨⟨by simp [hl], fun y hy => ?_⟩, by simp⟩
      rcases List.mem_append.1 hy with hy | hy
      · exact ho y hy
      · rw [List.mem_singleton.1 hy]; exact hx
    · rintro ⟨⟨hl, ho⟩, rfl⟩
      obtain ⟨xs, x, rfl⟩ : ∃ xs x, v = xs ++ [x] := ⟨v.dropLast, v.getLast (by intro e; simp [e] at hl), (List.dropLast_concat_getLast _).symm⟩
      refine ⟨xs, enc x ++ r, (ih _ _ _).2 ⟨⟨by simpa using hl, fun y hy => ho y (List.mem_append_left _ hy)⟩, by simp⟩, then_iff.2 ⟨x, r, (h _ _ _).2 ⟨ho x (by simp), rfl⟩, rfl⟩⟩
theorem put_beL : ∀ (k : Nat) (l : List UInt8), l.length = k → (putLowL k (beL l)).reverse = l := by
  intro k
  induction k with
  | zero => intro l hl; rw [List.length_eq_zero_iff] at hl; subst hl; rfl
  | succ k ih =>
    intro l hl
    obtain ⟨xs, x, rfl⟩ : ∃ xs x, l = xs ++ [x] := ⟨l.dropLast, l.getLast (by intro e; simp [e] at hl), (List.dropLast_concat_getLast _).symm⟩
    have hx := ih xs (by simpa using hl)
    have hc : x.toNat < 256 := x.toNat_lt
    rw [beL_snoc, putLowL, List.reverse_cons, show (beL xs * 256 + x.toNat) / 256 = beL xs by omega, hx]
    congr 1
    rw [show UInt8.ofNat (beL xs * 256 + x.toNat) = x from UInt8.toNat_inj.1 (by simp)]
theorem lkE_zero {b : List UInt8} {k : Nat} {most : Int} (h : lkE b k most = 0) : k ≤ b.length ∧ beL (b.take k) < 9223372036854775808 ∧ (beL (b.take k) : Int) ≤ most ∧ lkN b k most = (beL (b.take k) : Int) := by
  have h1 := lkE_len h
  have h2 : lkN b k most = (beL (b.take k) : Int) := by unfold lkN; rw [if_pos h]
  unfold lkE at h
  rw [if_neg (by omega)] at h
  by_cases hc : beL (b.take k) < 9223372036854775808 ∧ (beL (b.take k) : Int) ≤ most
  · exact ⟨h1, hc.1, hc.2, h2⟩
  · rw [if_neg hc] at h; cases h
theorem small_cdc (most : Int) (hm : most ≤ 255) : Cdc (pNum 1 most) smallL (fun v => 0 ≤ v ∧ v ≤ most) := by
  intro b v r
  unfold pNum
  constructor
  · intro h
    by_cases h0 : lkE b 1 most = 0
    · rw [if_pos h0] at h
      obtain ⟨h1, _, h3, h4⟩ := lkE_zero h0
      have e2 : (lkN b 1 most, b.drop 1) = (v, r) := Option.some.inj h
      rw [h4] at e2
      cases e2
      refine ⟨⟨by omega, h3⟩, ?_⟩
      unfold smallL
      rw [if_pos ⟨by omega, by omega⟩, Int.toNat_natCast]
      have hp := put_beL 1 (b.take 1) (by rw [List.length_take]; omega)
      have hq : (putLowL 1 (beL (b.take 1))).reverse = [UInt8.ofNat (beL (b.take 1))] := by simp [putLowL]
      rw [← hq, hp, List.take_append_drop]
    · rw [if_neg h0] at h; cases h
  · rintro ⟨⟨h1, h2⟩, rfl⟩
    have hs : smallL v = (putLowL 1 v.toNat).reverse := by unfold smallL; rw [if_pos ⟨h1, by omega⟩]; simp [putLowL]
    rw [hs]
    obtain ⟨e1, e2⟩ := lkE_put (x := v.toNat) (k := 1) (l := r) (most := most) (by omega) (by omega) (by omega)
    rw [if_pos e1, e2, List.drop_left' (by simp [putLowL_length])]
    rw [show ((v.toNat : Nat) : Int) = v by omega]
theorem num_cdc (most : Int) (hm : most ≤ 9223372036854775807) : Cdc (pNum 8 most) numL (fun v => 0 ≤ v ∧ v ≤ most) := by
  intro b v r
  unfold pNum
  constructor
  · intro h
    by_cases h0 : lkE b 8 most = 0
    · rw [if_pos h0] at h
      obtain ⟨h1, _, h3, h4⟩ := lkE_zero h0
      have e2 : (lkN b 8 most, b.drop 8) = (v, r) := Option.some.inj h
      rw [h4] at e2
      cases e2
      refine ⟨⟨by omega, h3⟩, ?_⟩
      unfold numL
      rw [if_pos (by omega), Int.toNat_natCast, put_beL 8 (b.take 8) (by rw [List.length_take]; omega), List.take_append_drop]
    · rw [if_neg h0] at h; cases h
  · rintro ⟨⟨h1, h2⟩, rfl⟩
    unfold numL
    rw [if_pos h1]
    obtain ⟨e1, e2⟩ := lkE_put (x := v.toNat) (k := 8) (l := r) (most := most) (by have : (256 : Nat) ^ 8 = 18446744073709551616 := by decide
                                                                                   omega) (by omega) (by omega)
    rw [if_pos e1, e2, List.drop_left' (by simp [putLowL_length])]
    rw [show ((v.toNat : Nat) : Int) = v by omega]
theorem fix_cdc (n : Nat) : Cdc (pFix n) (fun v => v) (fun v => v.length = n) := by
  intro b v r
  unfold pFix
  constructor
  · intro h
    by_cases h0 : b.length < n
    · rw [if_pos h0] at h; cases h
    · rw [if_neg h0] at h
      have e2 : (b.take n, b.drop n) = (v, r) := Option.some.inj h
      cases e2
      exact ⟨by show (b.take n).length = n; rw [List.length_take]; omega, (List.take_append_drop _ _).symm⟩
  · rintro ⟨h1, rfl⟩
    subst h1
    rw [if_neg (by simp)]; simp
theorem byt_cdc (most : Int) (hm : most < 4294967296) : Cdc (pByt most) bytesL (fun v => (v.length : Int) ≤ most) := by
  intro b v r
  unfold pByt
  constructor
  · intro h
    by_cases h0 : lkE b 4 most ≠ 0
    · rw [if_pos h0] at h; cases h
    · rw [if_neg h0] at h
      obtain ⟨h1, _, h3, h4⟩ := lkE_zero (Decidable.not_not.1 h0)
      rw [h4, Int.toNat_natCast] at h
      by_cases h5 : (b.length : Int) - 4 < (beL (b.take 4) : Int)
      · rw [if_pos h5] at h; cases h
      · rw [if_neg h5] at h
        have e2 : ((b.drop 4).take (beL (b.take 4)), (b.drop 4).drop (beL (b.take 4))) = (v, r) := Option.some.inj h
        have hl : v.length = beL (b.take 4) := by cases e2; rw [List.length_take, List.length_drop]; omega
        refine ⟨by show (v.length : Int) ≤ most; rw [hl]; exact h3, ?_⟩
        unfold bytesL
        rw [hl, put_beL 4 (b.take 4) (by rw [List.length_take]; omega)]
        cases e2
        rw [List.append_assoc, List.take_append_drop, List.take_append_drop]
  · rintro ⟨h1, rfl⟩
    unfold bytesL
    rw [List.append_assoc]
    obtain ⟨e1, e2⟩ := lkE_put (x := v.length) (k := 4) (l := v ++ r) (most := most) (by have : (256 : Nat) ^ 4 = 4294967296 := by decide
                                                                                         omega) (by omega) h1
    have hd : ((putLowL 4 v.length).reverse ++ (v ++ r)).drop 4 = v ++ r := List.drop_left' (by simp [putLowL_length])
    have hl : ((putLowL 4 v.length).reverse ++ (v ++ r)).length = 4 + v.length + r.length := by simp [putLowL_length]; omega
    rw [if_neg (by rw [e1]; simp), if_neg (by rw [hl, e2]; omega), e2, Int.toNat_natCast, hd]; simp
structure RwD where
  key : List UInt8
  set : List UInt8
structure MD where
  kind : Int
  frm : Int
  ask : Int
  err : Int
  hold : Int
  level : Int
  row : RwD
  ats : List Int
  digs : List (List UInt8)
  rows : List RwD
def z32 : List UInt8 := List.replicate 32 0
/-- A message of which only the head is told. -/
def MD.none (k f a : Int) : MD := ⟨k, f, a, 0, 0, 0, ⟨z32, []⟩, [], [], []⟩
def pRow : List UInt8 → Option (RwD × List UInt8) := pThen (pFix 32) fun k => pThen (pByt 1048576) fun s => pOf ⟨k, s⟩
def pMany {α : Type} (p : List UInt8 → Option (α × List UInt8)) : List UInt8 → Option (List α × List UInt8) := pThen (pNum 1 255) fun n => pRep p n.toNat
def pRest (k f a : Int) : List UInt8 → Option (MD × List UInt8) :=
  if k = 1 ∨ k = 4 then pThen pRow fun r => pOf { MD.none k f a with row := r }
  else if k = 2 then pThen (pNum 1 255) fun e => pOf { MD.none k f a with err := e }
  else if k = 3 then pThen (pFix 32) fun x => pOf { MD.none k f a with row := ⟨x, []⟩ }
  else if k = 5 then pThen (pNum 1 7) fun h => pThen pRow fun r => pOf { MD.none k f a with hold := h, row := r }
  else if k = 6 then pThen (pNum 1 4) fun l => pThen (pMany (pNum 8 255)) fun at2 => pThen (pMany (pFix 32)) fun ds => pOf { MD.none k f a with level := l, ats := at2, digs := ds }
  else if k = 7 then pThen (pMany (pNum 8 255)) fun at2 => pThen (pMany pRow) fun rs => pOf { MD.none k f a with ats := at2, rows := rs }
  else fun _ => .none
def pMsg : List UInt8 → Option (MD × List UInt8) := pThen (pNum 1 7) fun k => pThen (pNum 1 8) fun f => pThen (pNum 8 4611686018427387904) fun a => pRest k f a
/-- What is read of bytes. -/
def readM (b : List UInt8) : Option MD := match pMsg b with
  | some (m, []) => some m
  | _ => .none
def rowB (r : RwD) : List UInt8 := r.key ++ bytesL r.set
def rowK (r : RwD) : Prop := r.key.length = 32 ∧ (r.set.length : Int) ≤ 1048576
def manyB {α : Type} (enc : α → List UInt8) (xs : List α) : List UInt8 := smallL xs.length ++ (xs.map enc).flatten
def headB (m : MD) : List UInt8 := smallL m.kind ++ (smallL m.frm ++ numL m.ask)
def restB (m : MD) : List UInt8 :=
  if m.kind = 1 ∨ m.kind = 4 then rowB m.row
  else if m.kind = 2 then smallL m.err
  else if m.kind = 3 then m.row.key
  else if m.kind = 5 then smallL m.hold ++ rowB m.row
  else if m.kind = 6 then smallL m.level ++ (manyB numL m.ats ++ manyB (fun v => v) m.digs)
  else if m.kind = 7 then manyB numL m.ats ++ manyB rowB m.rows
  else []
def bytesM (m : MD) : List UInt8 := headB m ++ restB m
def inK (n lo hi : Int) : Bool := decide (lo ≤ n ∧ n ≤ hi)
def setK (r : RwD) : Bool := decide (r.set.length ≤ 1048576)
def listK (l : List Int) : Bool := decide (l.length ≤ 255) && l.all (fun n => inK n 0 255)
def headK (m : MD) : Bool := inK m.kind 1 7 && inK m.frm 0 8 && inK m.ask 0 4611686018427387904
def restK (m : MD) : Bool :=
  if m.kind = 1 ∨ m.kind = 4 then setK m.row
  else if m.kind = 2 then inK m.err 0 255
  else if m.kind = 3 then true
  else if m.kind = 5 then inK m.hold 0 7 && setK m.row
  else if m.kind = 6 then inK m.level 0 4 && listK m.ats && decide (m.digs.length ≤ 255)
  else if m.kind = 7 then listK m.ats && decide (m.rows.length ≤ 255) && m.rows.all setK
  else false
/-- Has a message bytes? -/
def okM (m : MD) : Bool := headK m && restK m
/-- All keys and digests have 32 bytes. -/
def MD.K32 (m : MD) : Prop := m.row.key.length = 32 ∧ (∀ x ∈ m.digs, x.length = 32) ∧ ∀ r ∈ m.rows, r.key.length = 32
/-- What the kind has, alone. -/
def MD.res (m : MD) : MD :=
  if m.kind = 1 ∨ m.kind = 4 then { MD.none m.kind m.frm m.ask with row := m.row }
  else if m.kind = 2 then { MD.none m.kind m.frm m.ask with err := m.err }
  else if m.kind = 3 then { MD.none m.kind m.frm m.ask with row := ⟨m.row.key, []⟩ }
  else if m.kind = 5 then { MD.none m.kind m.frm m.ask with hold := m.hold, row := m.row }
  else if m.kind = 6 then { MD.none m.kind m.frm m.ask with level := m.level, ats := m.ats, digs := m.digs }
  else if m.kind = 7 then { MD.none m.kind m.frm m.ask with ats := m.ats, rows := m.rows }
  else MD.none m.kind m.frm m.ask
theorem row_cdc : Cdc pRow rowB rowK := by
  intro b v r
  unfold pRow
  rw [then_iff]
  constructor
  · rintro ⟨k, r1, h1, h2⟩
    obtain ⟨s, r2, h3, h4⟩ := then_iff.1 h2
    obtain ⟨hk, rfl⟩ := (fix_cdc 32 _ _ _).1 h1
    obtain ⟨hs, rfl⟩ := (byt_cdc 1048576 (by omega) _ _ _).1 h3
    cases (show (⟨k, s⟩, r2) = (v, r) from Option.some.inj h4)
    exact ⟨⟨hk, hs⟩, by simp [rowB]⟩
  · rintro ⟨⟨hk, hs⟩, rfl⟩
    refine ⟨v.key, bytesL v.set ++ r, (fix_cdc 32 _ _ _).2 ⟨hk, by simp [rowB]⟩, then_iff.2 ⟨v.set, r, (byt_cdc 1048576 (by omega) _ _ _).2 ⟨hs, rfl⟩, rfl⟩⟩
theorem Cdc.many {α : Type} {p : List UInt8 → Option (α × List UInt8)} {enc : α → List UInt8} {ok : α → Prop} (h : Cdc p enc ok) : Cdc (pMany p) (manyB enc) (fun xs => xs.length ≤ 255 ∧ ∀ x ∈ xs, ok x) := by
  intro b v r
  unfold pMany
  rw [then_iff]
  constructor
  · rintro ⟨n, r1, h1, h2⟩
    obtain ⟨hn, rfl⟩ := (small_cdc 255 (by omega) _ _ _).1 h1
    obtain ⟨⟨hl, ho⟩, rfl⟩ := (h.rep _ _ _ _).1 h2
    have hn2 : (v.length : Int) = n := by omega
    exact ⟨⟨by omega, ho⟩, by unfold manyB; rw [hn2, List.append_assoc]⟩
  · rintro ⟨⟨hl, ho⟩, rfl⟩
    exact ⟨v.length, (v.map enc).flatten ++ r, (small_cdc 255 (by omega) _ _ _).2 ⟨by omega, by unfold manyB; rw [List.append_assoc]⟩, (h.rep _ _ _ _).2 ⟨⟨by simp, ho⟩, rfl⟩⟩
end Go.Proofs.YtjhocaleampamaaDoor
