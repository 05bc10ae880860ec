/- Plain law of layer 9: the check's run over bytes is linear; a burst of up to 32 bits turns it. No program is in sight here. -/
namespace Go.Proofs.Ytbmdcblcefebiaa.Crc
/-- One bit of the check's divider. -/
def cStep (n : Nat) : Nat := if n % 2 = 1 then (n / 2) ^^^ 0x82F63B78 else n / 2
def cIter : Nat → Nat → Nat
  | 0, n => n
  | k + 1, n => cIter k (cStep n)
def cByte (n c : Nat) : Nat := cIter 8 (n ^^^ c)
def cRun (n : Nat) (l : List Nat) : Nat := l.foldl cByte n
def crcOf (l : List Nat) : Nat := cRun 0xFFFFFFFF l ^^^ 0xFFFFFFFF

theorem xor_lt32 {a b : Nat} (ha : a < 4294967296) (hb : b < 4294967296) : a ^^^ b < 4294967296 :=
  Nat.xor_lt_two_pow (n := 32) ha hb
theorem cStep_lt {n : Nat} (h : n < 4294967296) : cStep n < 4294967296 := by
  unfold cStep; split
  · exact xor_lt32 (by omega) (by decide)
  · omega
theorem cIter_lt (k : Nat) : ∀ {n : Nat}, n < 4294967296 → cIter k n < 4294967296 := by
  induction k with
  | zero => intro n h; exact h
  | succ k ih => intro n h; exact ih (cStep_lt h)
theorem cByte_lt {n c : Nat} (h : n < 4294967296) (hc : c < 256) : cByte n c < 4294967296 := cIter_lt 8 (xor_lt32 h (by omega))
theorem cRun_lt (l : List Nat) : ∀ {n : Nat}, n < 4294967296 → (∀ c ∈ l, c < 256) → cRun n l < 4294967296 := by
  induction l with
  | nil => intro n h _; exact h
  | cons c l ih => intro n h hl; exact ih (cByte_lt h (hl c (by simp))) (fun x hx => hl x (by simp [hx]))
theorem crcOf_lt (l : List Nat) (hl : ∀ c ∈ l, c < 256) : crcOf l < 4294967296 := xor_lt32 (cRun_lt l (by decide) hl) (by decide)
theorem cRun_append (n : Nat) (l m : List Nat) : cRun n (l ++ m) = cRun (cRun n l) m := by simp [cRun]

theorem xor_mod2 (a b : Nat) : (a ^^^ b) % 2 = (a % 2 + b % 2) % 2 := by
  have h := Nat.xor_mod_two_pow (a := a) (b := b) (n := 1)
  simp only [Nat.pow_one] at h
  rw [h]
  rcases Nat.mod_two_eq_zero_or_one a with ha | ha <;> rcases Nat.mod_two_eq_zero_or_one b with hb | hb <;> simp [ha, hb]
theorem xor_div2 (a b : Nat) : (a ^^^ b) / 2 = a / 2 ^^^ b / 2 := by
  have h := Nat.xor_div_two_pow (a := a) (b := b) (n := 1)
  simpa using h
theorem cStep_xor (a b : Nat) : cStep (a ^^^ b) = cStep a ^^^ cStep b := by
  unfold cStep
  rw [xor_mod2, xor_div2]
  rcases Nat.mod_two_eq_zero_or_one a with ha | ha <;> rcases Nat.mod_two_eq_zero_or_one b with hb | hb <;> simp only [ha, hb] <;> simp
  · rw [Nat.xor_assoc]
  · rw [Nat.xor_assoc, Nat.xor_assoc, Nat.xor_comm (b/2)]
  · rw [Nat.xor_assoc, Nat.xor_comm (2197175160) (b / 2 ^^^ 2197175160), Nat.xor_assoc, Nat.xor_self, Nat.xor_zero]
theorem cIter_xor (k : Nat) : ∀ a b, cIter k (a ^^^ b) = cIter k a ^^^ cIter k b := by
  induction k with
  | zero => intro a b; rfl
  | succ k ih => intro a b; simp only [cIter]; rw [cStep_xor, ih]
theorem cStep_zero {n : Nat} (h : n < 4294967296) (h0 : cStep n = 0) : n = 0 := by
  unfold cStep at h0
  split at h0
  · rename_i hodd
    exfalso
    have : (n / 2 ^^^ 0x82F63B78).testBit 31 = true := by
      rw [Nat.testBit_xor, Nat.testBit_lt_two_pow (x := n / 2) (i := 31) (by omega)]; decide
    rw [h0] at this; simp at this
  · omega
theorem cIter_zero (k : Nat) : ∀ {n : Nat}, n < 4294967296 → cIter k n = 0 → n = 0 := by
  induction k with
  | zero => intro n _ h; exact h
  | succ k ih => intro n hn h; exact cStep_zero hn (ih (cStep_lt hn) h)
theorem xor_eq_zero' {a b : Nat} (h : a ^^^ b = 0) : a = b := by
  have : (a ^^^ b) ^^^ b = b := by rw [h, Nat.zero_xor]
  rw [Nat.xor_assoc, Nat.xor_self, Nat.xor_zero] at this; exact this
theorem cIter_inj (k : Nat) {a b : Nat} (ha : a < 4294967296) (hb : b < 4294967296) (h : cIter k a = cIter k b) : a = b := by
  apply xor_eq_zero'
  apply cIter_zero k (xor_lt32 ha hb)
  rw [cIter_xor, h, Nat.xor_self]
/-- Differences go their own way: two runs over lists of one length. -/
theorem cByte_xor (a b c d : Nat) : cByte (a ^^^ b) (c ^^^ d) = cByte a c ^^^ cByte b d := by
  unfold cByte
  rw [← cIter_xor]; congr 1
  rw [Nat.xor_assoc, Nat.xor_assoc, ← Nat.xor_assoc b, Nat.xor_comm b c, Nat.xor_assoc c]
theorem cRun_xor (l : List Nat) : ∀ (m : List Nat) (a b : Nat), l.length = m.length → cRun (a ^^^ b) (List.zipWith (· ^^^ ·) l m) = cRun a l ^^^ cRun b m := by
  induction l with
  | nil => intro m a b h; cases m <;> simp_all [cRun]
  | cons c l ih =>
    intro m a b h
    cases m with
    | nil => simp at h
    | cons d m =>
      simp only [cRun, List.zipWith_cons_cons, List.foldl_cons]
      rw [cByte_xor]
      exact ih m _ _ (by simpa using h)
theorem cRun_zeros_inj (k : Nat) {n : Nat} (h : n < 4294967296) (h0 : cRun n (List.replicate k 0) = 0) : n = 0 := by
  induction k generalizing n with
  | zero => simpa [cRun] using h0
  | succ k ih =>
    simp only [List.replicate_succ, cRun, List.foldl_cons] at h0
    have h1 : cByte n 0 < 4294967296 := cByte_lt h (by omega)
    have := ih h1 h0
    unfold cByte at this
    rw [Nat.xor_zero] at this
    exact cIter_zero 8 h this
/-- Three texts. -/
theorem crc_sums (a b c : List Nat) (h1 : a.length = b.length) (h2 : a.length = c.length) :
    crcOf (List.zipWith (· ^^^ ·) (List.zipWith (· ^^^ ·) a b) c) = crcOf a ^^^ crcOf b ^^^ crcOf c := by
  unfold crcOf
  have := cRun_xor (List.zipWith (· ^^^ ·) a b) c (0xFFFFFFFF ^^^ 0xFFFFFFFF) 0xFFFFFFFF (by simp; omega)
  have h := cRun_xor a b 0xFFFFFFFF 0xFFFFFFFF h1
  rw [h] at this
  have e : (0xFFFFFFFF ^^^ 0xFFFFFFFF) ^^^ 0xFFFFFFFF = (0xFFFFFFFF : Nat) := by decide
  rw [e] at this
  rw [this]
  generalize cRun 4294967295 a = x
  generalize cRun 4294967295 b = y
  generalize cRun 4294967295 c = z
  apply Nat.eq_of_testBit_eq; intro i
  simp only [Nat.testBit_xor]
  cases x.testBit i <;> cases y.testBit i <;> cases z.testBit i <;> cases (4294967295 : Nat).testBit i <;> rfl

/-- eight steps take a low byte away -/
theorem cIter_even (k : Nat) : ∀ n, cIter k (n * 2 ^ k) = n := by
  induction k with
  | zero => intro n; simp [cIter]
  | succ k ih =>
    intro n
    simp only [cIter]
    have : cStep (n * 2 ^ (k + 1)) = n * 2 ^ k := by
      unfold cStep
      rw [Nat.pow_succ, ← Nat.mul_assoc]
      rw [if_neg (by omega)]; omega
    rw [this, ih]
theorem cIter_add (a b n : Nat) : cIter (a + b) n = cIter b (cIter a n) := by
  induction a generalizing n with
  | zero => simp [cIter]
  | succ a ih => rw [show a + 1 + b = (a + b) + 1 from by omega]; simp only [cIter]; exact ih _
theorem cRun_four (s b0 b1 b2 b3 : Nat) : cRun s [b0, b1, b2, b3] = cIter 32 (s ^^^ (b0 ^^^ (b1 * 256) ^^^ (b2 * 65536) ^^^ (b3 * 16777216))) := by
  simp only [cRun, List.foldl_cons, List.foldl_nil, cByte]
  rw [show (32 : Nat) = 8 + (8 + (8 + 8)) from rfl, cIter_add, cIter_add, cIter_add]
  have e3 : ∀ x, cIter 8 x ^^^ b3 = cIter 8 (x ^^^ b3 * 256) := by intro x; rw [cIter_xor]; congr 1; exact (cIter_even 8 b3).symm
  have e2 : ∀ x y, cIter 8 x ^^^ y = cIter 8 (x ^^^ y * 256) := by intro x y; rw [cIter_xor]; congr 1; exact (cIter_even 8 y).symm
  rw [e2 _ b3, e2 _ b2, e2, e2 _ b1, e2, e2]
  congr 4
  rw [show b3 * 256 * 256 * 256 = b3 * 16777216 from by omega, show b2 * 256 * 256 = b2 * 65536 from by omega]
  simp only [Nat.xor_assoc]
def le4 (n : Nat) : List Nat := [n % 256, n / 256 % 256, n / 65536 % 256, n / 16777216 % 256]
def word4 (b0 b1 b2 b3 : Nat) : Nat := b0 ^^^ (b1 * 256) ^^^ (b2 * 65536) ^^^ (b3 * 16777216)
theorem word4_add {b0 b1 b2 b3 : Nat} (h0 : b0 < 256) (h1 : b1 < 256) (h2 : b2 < 256) (_h3 : b3 < 256) :
    word4 b0 b1 b2 b3 = b0 + b1 * 256 + b2 * 65536 + b3 * 16777216 := by
  unfold word4
  have aux : ∀ (x y i : Nat), x < 2 ^ i → x ^^^ y * 2 ^ i = x + y * 2 ^ i := by
    intro x y i hx
    rw [Nat.add_comm, ← Nat.shiftLeft_eq, Nat.shiftLeft_add_eq_or_of_lt hx]
    apply Nat.eq_of_testBit_eq; intro j
    simp only [Nat.testBit_xor, Nat.testBit_or, Nat.testBit_shiftLeft]
    by_cases hj : i ≤ j
    · have : x.testBit j = false := Nat.testBit_lt_two_pow (Nat.lt_of_lt_of_le hx (Nat.pow_le_pow_right (by omega) hj))
      simp [this, hj]
    · simp [hj]
  rw [show b1 * 256 = b1 * 2 ^ 8 from rfl, aux b0 b1 8 h0, show b2 * 65536 = b2 * 2 ^ 16 from rfl, aux _ b2 16 (by omega), show b3 * 16777216 = b3 * 2 ^ 24 from rfl, aux _ b3 24 (by omega)]
theorem word4_lt {b0 b1 b2 b3 : Nat} (h0 : b0 < 256) (h1 : b1 < 256) (h2 : b2 < 256) (h3 : b3 < 256) : word4 b0 b1 b2 b3 < 4294967296 := by
  rw [word4_add h0 h1 h2 h3]; omega
theorem le4_lt (n : Nat) : ∀ c ∈ le4 n, c < 256 := by intro c hc; simp [le4] at hc; omega
/-- The whole run over a text and four bytes tells whether these are its check. -/
theorem run_good_iff (m : List Nat) (hm : ∀ c ∈ m, c < 256) {b0 b1 b2 b3 : Nat} (h0 : b0 < 256) (h1 : b1 < 256) (h2 : b2 < 256) (h3 : b3 < 256) :
    cRun 0xFFFFFFFF (m ++ [b0, b1, b2, b3]) = cIter 32 0xFFFFFFFF ↔ le4 (crcOf m) = [b0, b1, b2, b3] := by
  have hs := cRun_lt m (n := 0xFFFFFFFF) (by decide) hm
  have hw := word4_lt h0 h1 h2 h3
  have ha := word4_add h0 h1 h2 h3
  rw [cRun_append, cRun_four]
  unfold crcOf
  generalize hsd : cRun 0xFFFFFFFF m = s at *
  show cIter 32 (s ^^^ word4 b0 b1 b2 b3) = _ ↔ _
  constructor
  · intro h
    have h := cIter_inj 32 (xor_lt32 hs hw) (by decide) h
    have : s ^^^ 0xFFFFFFFF = word4 b0 b1 b2 b3 := by
      rw [← h, ← Nat.xor_assoc, Nat.xor_self, Nat.zero_xor]
    rw [this, ha]
    simp only [le4, List.cons.injEq, and_true]
    omega
  · intro h
    simp only [le4, List.cons.injEq, and_true] at h
    have hlt : s ^^^ 0xFFFFFFFF < 4294967296 := xor_lt32 hs (by decide)
    have : word4 b0 b1 b2 b3 = s ^^^ 0xFFFFFFFF := by rw [ha]; omega
    rw [this, ← Nat.xor_assoc, Nat.xor_self, Nat.zero_xor]
theorem run_zeros (k : Nat) : cRun 0 (List.replicate k 0) = 0 := by
  induction k with
  | zero => rfl
  | succ k ih => simp only [List.replicate_succ, cRun, List.foldl_cons] at ih ⊢; exact ih
/-- A burst of up to 32 bits turns the whole run. -/
theorem burst_turns (k j : Nat) {d0 d1 d2 d3 : Nat} (h0 : d0 < 256) (h1 : d1 < 256) (h2 : d2 < 256) (h3 : d3 < 256) (hd : word4 d0 d1 d2 d3 ≠ 0) :
    cRun 0 (List.replicate k 0 ++ [d0, d1, d2, d3] ++ List.replicate j 0) ≠ 0 := by
  intro h
  rw [cRun_append, cRun_append, run_zeros, cRun_four, Nat.zero_xor] at h
  have hw := word4_lt h0 h1 h2 h3
  have := cRun_zeros_inj j (cIter_lt 32 hw) h
  exact hd (cIter_zero 32 hw this)
/-- What was closed, and then changed by a burst, is not what is closed. -/
theorem burst_caught (m : List Nat) (hm : ∀ c ∈ m, c < 256) (k : Nat) {d0 d1 d2 d3 : Nat} (h0 : d0 < 256) (h1 : d1 < 256) (h2 : d2 < 256) (h3 : d3 < 256) (hd : word4 d0 d1 d2 d3 ≠ 0)
    (hk : k ≤ m.length) (m' : List Nat) (hm' : ∀ c ∈ m', c < 256) {b0 b1 b2 b3 : Nat} (g0 : b0 < 256) (g1 : b1 < 256) (g2 : b2 < 256) (g3 : b3 < 256)
    (he : m' ++ [b0, b1, b2, b3] = List.zipWith (· ^^^ ·) (m ++ le4 (crcOf m)) (List.replicate k 0 ++ [d0, d1, d2, d3] ++ List.replicate (m.length - k) 0)) :
    le4 (crcOf m') ≠ [b0, b1, b2, b3] := by
  intro h
  have hgood := (run_good_iff m' hm' g0 g1 g2 g3).2 h
  rw [he] at hgood
  have hx := cRun_xor (m ++ le4 (crcOf m)) (List.replicate k 0 ++ [d0, d1, d2, d3] ++ List.replicate (m.length - k) 0) 0xFFFFFFFF 0 (by simp [le4]; omega)
  rw [Nat.xor_zero] at hx
  rw [hx] at hgood
  have hold : cRun 0xFFFFFFFF (m ++ le4 (crcOf m)) = cIter 32 0xFFFFFFFF := by
    have hl := le4_lt (crcOf m)
    simp only [le4] at hl
    exact (run_good_iff m hm (hl _ (by simp)) (hl _ (by simp)) (hl _ (by simp)) (hl _ (by simp))).2 rfl
  rw [hold] at hgood
  have hne := burst_turns k (m.length - k) h0 h1 h2 h3 hd
  apply hne
  generalize cRun 0 _ = y at hgood
  generalize cIter 32 4294967295 = x at hgood
  have : x ^^^ (x ^^^ y) = x ^^^ x := by rw [hgood]
  rw [← Nat.xor_assoc, Nat.xor_self, Nat.zero_xor] at this; exact this

end Go.Proofs.Ytbmdcblcefebiaa.Crc
