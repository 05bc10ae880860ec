/- codec.In: the object and its methods. -/
import Derived.Test.YtjhocaleampamaaDoorBits
import Derived.Test.YtjhocaleampamaaDoorOnly
import Derived.Test.YtjhocaleampamaaDoorRev
import Derived.Laws.BitsAllLaws
import Derived.Laws.Bits64
namespace Go.Proofs.YtjhocaleampamaaDoor
open Go.RowKit
structure IK where
  b : List UInt8
  e : Int
/-- The number that the bytes are, the highest first. -/
def beL (l : List UInt8) : Nat := l.foldl (fun x c => x * 256 + c.toNat) 0
theorem beL_snoc (l : List UInt8) (c : UInt8) : beL (l ++ [c]) = beL l * 256 + c.toNat := by simp [beL]
theorem or_byte (x : Nat) (c : UInt8) (h : x * 256 < 18446744073709551616) : bits BinOp.or IntKind.u64 (IntKind.u64.wrap ((x : Int) * 256)) (c.toNat : Int) = ((x * 256 + c.toNat : Nat) : Int) := by
  have hc := UInt8.toNat_lt c
  have h1 : IntKind.u64.wrap ((x : Int) * 256) = ((x * 256 : Nat) : Int) := by rw [IntKind.wrap_u64]; omega
  rw [h1, u64_or_nat _ _ h (by omega)]
  have := Nat.shiftLeft_add_eq_or_of_lt (i := 8) (b := c.toNat) (by omega) x
  rw [Nat.shiftLeft_eq] at this
  rw [show (256 : Nat) = 2 ^ 8 from rfl, ← this]
theorem beL_lt (l : List UInt8) : beL l < 256 ^ l.length := by
  have h : ∀ r : List UInt8, beL r.reverse < 256 ^ r.length := by
    intro r
    induction r with
    | nil => simp [beL]
    | cons c r ih =>
      rw [List.reverse_cons, beL_snoc, List.length_cons, Nat.pow_succ]
      have := UInt8.toNat_lt c
      omega
  have := h l.reverse
  simpa using this
theorem beL_lt8 (l : List UInt8) (h : l.length ≤ 8) : beL l < 18446744073709551616 :=
  Nat.lt_of_lt_of_le (beL_lt l) (Nat.pow_le_pow_right (n := 256) (by omega) h)
/-- A codec.In at p; its bytes lie in block g. -/
def InAt (w : World) (p : Nat) (g : Option Nat) (d : IK) : Prop := ∃ ao cap,
  (w.cell? ⟨p, 0, none⟩ = some (.slice ao d.b.length cap) ∧ w.cell? ⟨p, 1, none⟩ = some (.int .i64 d.e)) ∧ (w.frozen? ⟨p, 0, none⟩ = false ∧ w.frozen? ⟨p, 1, none⟩ = false) ∧
  Bsl w (.slice ao d.b.length cap) d.b ∧ (∀ k, (Value.slice ao d.b.length cap).ownBlock = some k → g = some k) ∧ g ≠ some p ∧ (∀ k, g = some k → k < w.heap.size) ∧ (ao = none ∨ ∃ b off, ao = some ⟨b, off, none⟩)
theorem InAt.lt {w : World} {p : Nat} {g : Option Nat} {d : IK} (h : InAt w p g d) : p < w.heap.size := by
  obtain ⟨_, _, ⟨c, _⟩, _⟩ := h
  exact World.block_lt_of_cell? w _ c
theorem InAt.only {S : Nat → Prop} {w w' : World} {p : Nat} {g : Option Nat} {d : IK} (h : InAt w p g d) (ho : Only S w w') (hp : ¬ S p) (hg : ∀ k, g = some k → ¬ S k) : InAt w' p g d := by
  have hlt := h.lt
  obtain ⟨ao, cap, ⟨c0, c1⟩, ⟨f0, f1⟩, hb, h1, h2, h3, h4⟩ := h
  refine ⟨ao, cap, ⟨(ho.cell hlt hp).trans c0, (ho.cell hlt hp).trans c1⟩, ⟨(ho.frozen hlt hp).trans f0, (ho.frozen hlt hp).trans f1⟩, hb.only ho (fun k hk => hg k (h1 k hk)), h1, h2, fun k hk => Nat.lt_of_lt_of_le (h3 k hk) ho.size, h4⟩
theorem InAt.keep {w w' : World} {p : Nat} {g : Option Nat} {d : IK} (h : InAt w p g d) (hb : Below w.heap.size w w') : InAt w' p g d := h.only (Only.of_below (S := fun _ => False) hb) (fun h => h) (fun _ _ h => h)
theorem Bsl.drop {w : World} {b off n cap : Nat} {l : List UInt8} (h : Bsl w (.slice (some ⟨b, off, none⟩) n cap) l) {m : Nat} (hm : m ≤ l.length) : Bsl w (.slice (some ⟨b, off + m, none⟩) (l.length - m) (cap - m)) (l.drop m) := by
  obtain ⟨a, c, he, h1, h2, h3, h4⟩ := h
  simp only [Value.slice.injEq] at he
  obtain ⟨rfl, rfl, rfl⟩ := he
  refine ⟨_, _, by rw [List.length_drop], by simp; omega, by omega, by simp, fun hne => ?_⟩
  have hl : l ≠ [] := by rintro rfl; simp at hne
  obtain ⟨b', off', hx, hc⟩ := h4 hl
  simp only [Option.some.injEq, Addr.mk.injEq, and_true] at hx
  obtain ⟨rfl, rfl⟩ := hx
  refine ⟨_, _, rfl, fun j hj => ?_⟩
  have hj2 : m + j < l.length := by simp at hj; omega
  rw [Nat.add_assoc, hc _ hj2]
  simp [List.getD]
/-- The state, changed. -/
theorem InAt.setE {w : World} {p : Nat} {g : Option Nat} {d : IK} (h : InAt w p g d) (e : Int) : InAt (w.setCell ⟨p, 1, none⟩ (.int .i64 e)) p g { d with e := e } ∧ Only (· = p) w (w.setCell ⟨p, 1, none⟩ (.int .i64 e)) := by
  have hon : Only (· = p) w (w.setCell ⟨p, 1, none⟩ (.int .i64 e)) := Only.setCell (S := (· = p)) (Only.refl _ _) (p := ⟨p, 1, none⟩) (fun _ => rfl) _
  obtain ⟨ao, cap, ⟨c0, c1⟩, ⟨f0, f1⟩, hb, h1, h2, h3, h4⟩ := h
  refine ⟨⟨ao, cap, ⟨?_, World.cell?_setCell_same w _ _ c1⟩, ⟨by rw [World.frozen?_setCell]; exact f0, by rw [World.frozen?_setCell]; exact f1⟩, hb.only hon (fun k hk e => h2 (e ▸ h1 k hk)), h1, h2, fun k hk => Nat.lt_of_lt_of_le (h3 k hk) hon.size, h4⟩, hon⟩
  rw [World.cell?_setCell_other w _ _ _ (by simp)]; exact c0
theorem idead_any (w : World) {p : Nat} {g : Option Nat} {d : IK} (h : InAt w p g d) : Calls Tryd.prog 81 #[.pointer (some ⟨p, 0, none⟩)] w fun e w' => e = .returned (.bool (d.e != 0)) ∧ w = w' := by
  obtain ⟨ao, cap, ⟨c0, c1⟩, ⟨f0, f1⟩, hb, h1, h2, h3, h4⟩ := h
  go_enter Tryd.func81, Tryd.ntmps81
  go_wp2_with fail
  go_ret
  exact ⟨by rfl, rfl⟩
theorem idead_nil (w : World) : Calls Tryd.prog 81 #[.pointer none] w fun e w' => e = .returned (.bool true) ∧ w = w' := by
  go_enter Tryd.func81, Tryd.ntmps81
  go_wp2_with fail
  go_ret
  exact ⟨rfl, rfl⟩
/-- The number that stands next: an error, or the number. -/
def lkE (b : List UInt8) (k : Nat) (most : Int) : Int := if b.length < k then 3 else if beL (b.take k) < 9223372036854775808 ∧ (beL (b.take k) : Int) ≤ most then 0 else 5
def lkN (b : List UInt8) (k : Nat) (most : Int) : Int := if lkE b k most = 0 then (beL (b.take k) : Int) else 0
set_option maxRecDepth 100000 in
set_option maxHeartbeats 1000000 in
theorem ilook_any (s most : Int) (k : Nat) (hs : s = k) (hk : k ≤ 8) (w : World) {p : Nat} {g : Option Nat} {d : IK} (h : InAt w p g d) (he : d.e = 0) :
    Calls Tryd.prog 82 #[.pointer (some ⟨p, 0, none⟩), .int .i64 s, .int .i64 most] w fun e w' => e = .returned (.int .i64 (lkN d.b k most)) ∧ InAt w' p g { d with e := lkE d.b k most } ∧ Only (· = p) w w' := by
  subst hs
  have hO := h
  obtain ⟨ao, cap, ⟨c0, c1⟩, ⟨f0, f1⟩, hb, h1, h2, h3, h4⟩ := h
  have hbl := hb.len
  by_cases hlen : d.b.length < k
  · have hlen8 : (d.b.length : Int) < k := by omega
    have hE : lkE d.b k most = 3 := by unfold lkE; rw [if_pos hlen]
    have hN : lkN d.b k most = 0 := by unfold lkN; rw [hE, if_neg (by omega)]
    rw [hE, hN]
    obtain ⟨hO2, hon⟩ := hO.setE 3
    clear hE hN hO hb h1 h2 h3
    go_enter Tryd.func82, Tryd.ntmps82
    go_wp2_with fail
    go_ret
    exact ⟨rfl, hO2, hon⟩
  · have hlen8 : ¬ ((d.b.length : Int) < k) := by omega
    have hlen9 : (k : Int) ≤ d.b.length := by omega
    have hk0 : (0 : Int) ≤ (k : Int) := Int.natCast_nonneg _
    have hcap : (k : Int) ≤ cap := by omega
    have hx := beL_lt8 (d.b.take k) (by rw [List.length_take]; omega)
    have hcase : (beL (d.b.take k) < 9223372036854775808 ∧ (beL (d.b.take k) : Int) ≤ most ∧ lkE d.b k most = 0 ∧ lkN d.b k most = beL (d.b.take k)) ∨ (beL (d.b.take k) < 9223372036854775808 ∧ most < (beL (d.b.take k) : Int) ∧ lkE d.b k most = 5 ∧ lkN d.b k most = 0) ∨
        (¬ beL (d.b.take k) < 9223372036854775808 ∧ lkE d.b k most = 5 ∧ lkN d.b k most = 0) := by
      unfold lkN lkE
      rw [if_neg hlen]
      by_cases hx1 : beL (d.b.take k) < 9223372036854775808
      · by_cases hx2 : (beL (d.b.take k) : Int) ≤ most
        · rw [if_pos ⟨hx1, hx2⟩]; simp [hx1, hx2]
        · rw [if_neg (fun h => hx2 h.2)]; simp [hx1]; omega
      · rw [if_neg (fun h => hx1 h.1)]; simp; omega
    generalize lkE d.b k most = E at *
    generalize lkN d.b k most = N at *
    have hd : { d with e := 0 } = d := by cases d; simp at he; subst he; rfl
    have hbt := hb.take (m := k) (by omega)
    obtain ⟨hO5, hon5⟩ := hO.setE 5
    go_enter Tryd.func82, Tryd.ntmps82
    go_wp2_with fail
    go_loopw [7, 29] (fun xv iv wr => ∃ r : Nat, r ≤ k ∧ iv = .int .i64 r ∧ xv = .int .u64 (beL (d.b.take r)) ∧ w = wr) (fun _ iv _ => k - (intOf iv).toNat)
    case atStart => exact ⟨0, by omega, rfl, rfl, rfl⟩
    case round =>
      obtain ⟨r, hr, rfl, rfl, rfl⟩ := hrel
      by_cases hlt : r < k
      · have hlt8 : (r : Int) < k := by omega
        have hrl : r < d.b.length := by omega
        obtain ⟨_, _, hv, _, _, _, hcell⟩ := hb
        simp only [Value.slice.injEq] at hv
        obtain ⟨rfl, _, rfl⟩ := hv
        obtain ⟨b, off, rfl, hc⟩ := hcell (by intro e; simp [e] at hrl)
        have cc := hc r hrl
        have hst : d.b.take (r + 1) = d.b.take r ++ [d.b.getD r 0] := by
          rw [List.take_succ_eq_append_getElem hrl, List.getD, List.getElem?_eq_getElem hrl]; rfl
        have hxr := beL_lt (d.b.take r)
        have hc8 := UInt8.toNat_lt (d.b.getD r 0)
        have hsn := beL_snoc (d.b.take r) (d.b.getD r 0)
        rw [← hst] at hsn
        generalize d.b.getD r 0 = c at *
        have HS := Lib.hid hsn
        generalize beL (d.b.take r) = x at *
        clear hc hsn hst hcell hbt hO hO5 hon5
        go_wp2_with fail
        refine ⟨⟨r + 1, by omega, rfl, ?_, trivial⟩, by simp [intOf]; omega⟩
        have hxb : x * 256 < 18446744073709551616 := by
          rw [List.length_take] at hxr
          have h7 : (256 : Nat) ^ (min r d.b.length) ≤ 256 ^ 7 := Nat.pow_le_pow_right (by omega) (by omega)
          have : (256 : Nat) ^ 7 = 72057594037927936 := by decide
          omega
        rw [or_byte x c hxb, HS.out]
      · have hlt8 : ¬ ((r : Int) < k) := by omega
        have hrk : r = k := by omega
        rw [hrk]
        generalize beL (d.b.take k) = x at *
        clear hb hbt
        rcases hcase with ⟨hx1, hx2, rfl, rfl⟩ | ⟨hx1, hx2, rfl, rfl⟩ | ⟨hx1, rfl, rfl⟩
        · clear hO5 hon5
          go_wp2_with fail
          refine (bint_any x w hx).mono ?_
          rintro e w1 ⟨rfl, rfl⟩
          rw [if_pos hx1, decide_eq_true hx1]
          go_wp2_with fail
          go_ret
          exact ⟨rfl, by rw [hd]; exact hO, Only.refl _ _⟩
        · clear hO
          go_wp2_with fail
          refine (bint_any x w hx).mono ?_
          rintro e w1 ⟨rfl, rfl⟩
          rw [if_pos hx1, decide_eq_true hx1]
          go_wp2_with fail
          go_ret
          exact ⟨rfl, hO5, hon5⟩
        · clear hO
          go_wp2_with fail
          refine (bint_any x w hx).mono ?_
          rintro e w1 ⟨rfl, rfl⟩
          rw [if_neg hx1, decide_eq_false hx1]
          go_wp2_with fail
          go_ret
          exact ⟨rfl, hO5, hon5⟩
theorem InAt.setB {w w2 : World} {p : Nat} {g : Option Nat} {d : IK} (h : InAt w p g d) (hB : Below w.heap.size w w2) {ao : Option Addr} {n cap : Nat} {l : List UInt8} (hb : Bsl w2 (.slice ao n cap) l) (hown : ∀ k, (Value.slice ao n cap).ownBlock = some k → g = some k) (hsp : ao = none ∨ ∃ b off, ao = some ⟨b, off, none⟩) :
    InAt (w2.setCell ⟨p, 0, none⟩ (.slice ao n cap)) p g { d with b := l } ∧ Only (· = p) w (w2.setCell ⟨p, 0, none⟩ (.slice ao n cap)) := by
  have hon : Only (· = p) w2 (w2.setCell ⟨p, 0, none⟩ (.slice ao n cap)) := Only.setCell (S := (· = p)) (Only.refl _ _) (p := ⟨p, 0, none⟩) (fun _ => rfl) _
  have hn := hb.len.1
  subst hn
  obtain ⟨ao0, cap0, ⟨c0, c1⟩, ⟨f0, f1⟩, hb0, h1, h2, h3, h4⟩ := h.keep hB
  refine ⟨⟨ao, cap, ⟨World.cell?_setCell_same w2 _ _ c0, ?_⟩, ⟨by rw [World.frozen?_setCell]; exact f0, by rw [World.frozen?_setCell]; exact f1⟩, hb.only hon (fun k hk e => h2 (e ▸ hown k hk)), hown, h2, fun k hk => Nat.lt_of_lt_of_le (h3 k hk) hon.size, hsp⟩, ?_⟩
  · rw [World.cell?_setCell_other w2 _ _ _ (by simp)]; exact c1
  · exact (Only.of_below (S := (· = p)) hB).trans hon (fun _ _ h => h)
set_option maxRecDepth 100000 in
set_option maxHeartbeats 1000000 in
theorem iskip_any (s : Int) (n : Nat) (hs : s = n) (w : World) {p : Nat} {g : Option Nat} {d : IK} (h : InAt w p g d) (hn : n ≤ d.b.length) (hl : d.b.length ≤ 1000000) :
    Calls Tryd.prog 83 #[.pointer (some ⟨p, 0, none⟩), .int .i64 s] w fun e w' => ∃ v, e = .returned v ∧ OB w' w.heap.size v (d.b.take n) ∧ InAt w' p g { d with b := d.b.drop n } ∧ Only (· = p) w w' := by
  subst hs
  have hO := h
  obtain ⟨ao, cap, ⟨c0, c1⟩, ⟨f0, f1⟩, hb, h1, h2, h3, h4⟩ := h
  have hbl := hb.len
  have hn0 : (0 : Int) ≤ (n : Int) := Int.natCast_nonneg _
  have hn8 : (n : Int) ≤ d.b.length := by omega
  have hn9 : (n : Int) ≤ cap := by omega
  have hlt := hO.lt
  have ht := hb.take hn
  go_enter Tryd.func83, Tryd.ntmps83
  go_wp2_with fail
  refine (bclone_any _ _ w ht (by simp; omega)).mono ?_
  rintro e w1 ⟨v, rfl, ho, hB⟩
  have c0' := (hB.cell (p := ⟨p, 0, none⟩) hlt).trans c0
  have f0' := (hB.frozen (p := ⟨p, 0, none⟩) hlt).trans f0
  have hb1 := hb.keep hB
  clear ht c0 c1 f1
  have ho2 : ∀ u, OB (w1.setCell ⟨p, 0, none⟩ u) w.heap.size v (d.b.take n) := fun u => ho.only (Only.setCell (S := (· = p)) (Only.refl _ w1) (p := ⟨p, 0, none⟩) (fun _ => rfl) u) (fun k hk e => by have := ho.own_ge k hk; omega)
  rcases h4 with rfl | ⟨b, off, rfl⟩
  · obtain ⟨_, _, hv, _, _, hnil, _⟩ := id hb
    simp only [Value.slice.injEq] at hv
    obtain ⟨rfl, _, rfl⟩ := hv
    have hcap := hnil rfl
    subst hcap
    have hb0 : d.b = [] := List.eq_nil_of_length_eq_zero (by omega)
    have hn0 : n = 0 := by rw [hb0] at hn; simpa using hn
    have hbs : Bsl w1 (.slice none (d.b.length - n) 0) (d.b.drop n) := ⟨none, 0, by simp, by simp; omega, by omega, fun _ => rfl, by intro h; rw [hb0] at h; simp at h⟩
    obtain ⟨hO2, hon⟩ := hO.setB hB hbs (by intro k hk; simp [Value.ownBlock] at hk) (.inl rfl)
    have HO := Lib.hid hO2
    have HN := Lib.hid hon
    clear hnil hO2 hon hO hbs hb hb1 hb0 hn0
    go_wp2_with fail
    go_ret
    exact ⟨_, rfl, ho2 _, HO.out, HN.out⟩
  · have hd := hb1.drop hn
    by_cases hcn : cap = n
    · subst hcn
      have hbs : Bsl w1 (.slice (some ⟨b, off, none⟩) 0 0) (d.b.drop cap) := ⟨_, 0, by rw [show (d.b.drop cap).length = 0 by simp; omega], by simp; omega, by omega, by simp, by intro h; exact absurd (List.drop_eq_nil_of_le (by omega)) h⟩
      obtain ⟨hO2, hon⟩ := hO.setB hB hbs (by intro k hk; exact h1 k (by simpa [Value.ownBlock] using hk)) (.inr ⟨_, _, rfl⟩)
      have HO := Lib.hid hO2
      have HN := Lib.hid hon
      clear hO2 hon hO hbs hb hb1 hd
      go_wp2_with fail
      go_ret
      exact ⟨_, rfl, ho2 _, HO.out, HN.out⟩
    · obtain ⟨hO2, hon⟩ := hO.setB hB hd (by intro k hk; exact h1 k (by simpa [Value.ownBlock] using hk)) (.inr ⟨_, _, rfl⟩)
      have HO := Lib.hid hO2
      have HN := Lib.hid hon
      have hcn0 : ¬ cap - n = 0 := by omega
      clear hO2 hon hO hb hb1 hd
      go_wp2_with fail
      go_ret
      exact ⟨_, rfl, ho2 _, HO.out, HN.out⟩
/-- What a number that is asked leaves, and tells. -/
def IK.numS (d : IK) (k : Nat) (most : Int) : IK := if d.e ≠ 0 then d else if lkE d.b k most = 0 then { d with b := d.b.drop k } else { d with e := lkE d.b k most }
def IK.numN (d : IK) (k : Nat) (most : Int) : Int := if d.e ≠ 0 then 0 else lkN d.b k most
theorem lkE_len {b : List UInt8} {k : Nat} {most : Int} (h : lkE b k most = 0) : k ≤ b.length := by
  unfold lkE at h
  by_cases hl : b.length < k
  · rw [if_pos hl] at h; omega
  · omega
set_option maxRecDepth 100000 in
set_option maxHeartbeats 1000000 in
theorem inumber_any (s most : Int) (k : Nat) (hs : s = k) (hk : k ≤ 8) (w : World) {p : Nat} {g : Option Nat} {d : IK} (h : InAt w p g d) (hl : d.b.length ≤ 1000000) :
    Calls Tryd.prog 57 #[.pointer (some ⟨p, 0, none⟩), .int .i64 s, .int .i64 most] w fun e w' => e = .returned (.int .i64 (d.numN k most)) ∧ InAt w' p g (d.numS k most) ∧ Only (· = p) w w' := by
  subst hs
  unfold IK.numS IK.numN
  by_cases he : d.e ≠ 0
  · rw [if_pos he, if_pos he]
    have he2 : (d.e != 0) = true := by simpa using he
    go_enter Tryd.func57, Tryd.ntmps57
    go_wp2_with fail
    refine (idead_any w h).mono ?_
    rintro e w1 ⟨rfl, rfl⟩
    rw [he2]
    go_wp2_with fail
    go_ret
    exact ⟨rfl, h, Only.refl _ _⟩
  · rw [if_neg he, if_neg he]
    have he0 : d.e = 0 := by simpa using he
    have he2 : (d.e != 0) = false := by simpa using he0
    clear he
    have hlE := @lkE_len d.b k most
    by_cases hE : lkE d.b k most = 0
    · rw [if_pos hE]
      have hlen := hlE hE
      go_enter Tryd.func57, Tryd.ntmps57
      go_wp2_with fail
      refine (idead_any w h).mono ?_
      rintro e w1 ⟨rfl, rfl⟩
      rw [he2]
      go_wp2_with fail
      refine (ilook_any k most k rfl hk w h he0).mono ?_
      rintro e w1 ⟨rfl, hO1, hon1⟩
      rw [hE] at hO1
      have hd : { d with e := 0 } = d := by cases d; simp at he0; subst he0; rfl
      rw [hd] at hO1
      obtain ⟨ao, cap, ⟨c0, c1⟩, hz1, hz2, hz3, hz4, hz5, hz6⟩ := id hO1
      rw [he0] at c1
      clear hz1 hz2 hz3 hz4 hz5 hz6 c0 hE hlE hd he2
      go_wp2_with fail
      refine (iskip_any k k rfl w1 hO1 hlen hl).mono ?_
      rintro e w2 ⟨v, rfl, _, hO2, hon2⟩
      go_wp2_with fail
      go_ret
      exact ⟨rfl, hO2, hon1.trans hon2 (fun _ _ h => h)⟩
    · rw [if_neg hE]
      go_enter Tryd.func57, Tryd.ntmps57
      go_wp2_with fail
      refine (idead_any w h).mono ?_
      rintro e w1 ⟨rfl, rfl⟩
      rw [he2]
      go_wp2_with fail
      refine (ilook_any k most k rfl hk w h he0).mono ?_
      rintro e w1 ⟨rfl, hO1, hon1⟩
      obtain ⟨ao, cap, ⟨c0, c1⟩, hz1, hz2, hz3, hz4, hz5, hz6⟩ := id hO1
      dsimp only at c1
      clear hz1 hz2 hz3 hz4 hz5 hz6 c0 hlE he2
      go_wp2_with fail
      go_ret
      exact ⟨rfl, hO1, hon1⟩
set_option maxRecDepth 100000 in
theorem inumber_nil (s most : Int) (w : World) : Calls Tryd.prog 57 #[.pointer none, .int .i64 s, .int .i64 most] w fun e w' => e = .returned (.int .i64 0) ∧ w = w' := by
  go_enter Tryd.func57, Tryd.ntmps57
  go_wp2_with fail
  refine (idead_nil w).mono ?_
  rintro e w1 ⟨rfl, rfl⟩
  go_wp2_with fail
  go_ret
  exact ⟨rfl, rfl⟩
theorem inum_any (most : Int) (w : World) {p : Nat} {g : Option Nat} {d : IK} (h : InAt w p g d) (hl : d.b.length ≤ 1000000) :
    Calls Tryd.prog 34 #[.pointer (some ⟨p, 0, none⟩), .int .i64 most] w fun e w' => e = .returned (.int .i64 (d.numN 8 most)) ∧ InAt w' p g (d.numS 8 most) ∧ Only (· = p) w w' := by
  go_enter Tryd.func34, Tryd.ntmps34
  go_wp2_with fail
  refine (inumber_any 8 most 8 rfl (by omega) w h hl).mono ?_
  rintro e w1 ⟨rfl, h1, h2⟩
  go_wp2_with fail
  go_ret
  exact ⟨rfl, h1, h2⟩
theorem ismall_any (most : Int) (w : World) {p : Nat} {g : Option Nat} {d : IK} (h : InAt w p g d) (hl : d.b.length ≤ 1000000) :
    Calls Tryd.prog 33 #[.pointer (some ⟨p, 0, none⟩), .int .i64 most] w fun e w' => e = .returned (.int .i64 (d.numN 1 most)) ∧ InAt w' p g (d.numS 1 most) ∧ Only (· = p) w w' := by
  go_enter Tryd.func33, Tryd.ntmps33
  go_wp2_with fail
  refine (inumber_any 1 most 1 rfl (by omega) w h hl).mono ?_
  rintro e w1 ⟨rfl, h1, h2⟩
  go_wp2_with fail
  go_ret
  exact ⟨rfl, h1, h2⟩
theorem inum_nil (most : Int) (w : World) : Calls Tryd.prog 34 #[.pointer none, .int .i64 most] w fun e w' => e = .returned (.int .i64 0) ∧ w = w' := by
  go_enter Tryd.func34, Tryd.ntmps34
  go_wp2_with fail
  refine (inumber_nil 8 most w).mono ?_
  rintro e w1 ⟨rfl, rfl⟩
  go_wp2_with fail
  go_ret
  exact ⟨rfl, rfl⟩
theorem ismall_nil (most : Int) (w : World) : Calls Tryd.prog 33 #[.pointer none, .int .i64 most] w fun e w' => e = .returned (.int .i64 0) ∧ w = w' := by
  go_enter Tryd.func33, Tryd.ntmps33
  go_wp2_with fail
  refine (inumber_nil 1 most w).mono ?_
  rintro e w1 ⟨rfl, rfl⟩
  go_wp2_with fail
  go_ret
  exact ⟨rfl, rfl⟩
end Go.Proofs.YtjhocaleampamaaDoor
