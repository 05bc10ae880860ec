/- sha2: the plain law: what the code computes, in numbers. -/
namespace Go.Proofs.YtjhocaleampamaaDoor
/-- Turned left by k bits (below 32). -/
def rotL (x k : Nat) : Nat := (x <<< k) % 4294967296 ||| x >>> (32 - k)
def shaTurned (x a b c : Nat) : Nat := rotL x (32 - a) ^^^ rotL x (32 - b) ^^^ rotL x (32 - c)
def shaMoved (x a b c : Nat) : Nat := rotL x (32 - a) ^^^ rotL x (32 - b) ^^^ x >>> c
def shaKeys : List Nat := [
  0x428a2f98, 0x71374491, 0xb5c0fbcf, 0xe9b5dba5, 0x3956c25b, 0x59f111f1, 0x923f82a4, 0xab1c5ed5,
  0xd807aa98, 0x12835b01, 0x243185be, 0x550c7dc3, 0x72be5d74, 0x80deb1fe, 0x9bdc06a7, 0xc19bf174,
  0xe49b69c1, 0xefbe4786, 0x0fc19dc6, 0x240ca1cc, 0x2de92c6f, 0x4a7484aa, 0x5cb0a9dc, 0x76f988da,
  0x983e5152, 0xa831c66d, 0xb00327c8, 0xbf597fc7, 0xc6e00bf3, 0xd5a79147, 0x06ca6351, 0x14292967,
  0x27b70a85, 0x2e1b2138, 0x4d2c6dfc, 0x53380d13, 0x650a7354, 0x766a0abb, 0x81c2c92e, 0x92722c85,
  0xa2bfe8a1, 0xa81a664b, 0xc24b8b70, 0xc76c51a3, 0xd192e819, 0xd6990624, 0xf40e3585, 0x106aa070,
  0x19a4c116, 0x1e376c08, 0x2748774c, 0x34b0bcb5, 0x391c0cb3, 0x4ed8aa4a, 0x5b9cca4f, 0x682e6ff3,
  0x748f82ee, 0x78a5636f, 0x84c87814, 0x8cc70208, 0x90befffa, 0xa4506ceb, 0xbef9a3f7, 0xc67178f2]
def shaStart : List Nat := [0x6a09e667, 0xbb67ae85, 0x3c6ef372, 0xa54ff53a, 0x510e527f, 0x9b05688c, 0x1f83d9ab, 0x5be0cd19]
/-- A word of four bytes, the highest first. -/
def beW (l : List UInt8) : Nat := l.foldl (fun x c => x * 256 + c.toNat) 0
/-- One word more of a block's schedule. -/
def schedStep (b : List UInt8) (w : List Nat) : List Nat := w ++ [if w.length < 16 then beW ((b.drop (4 * w.length)).take 4) else
      (shaMoved (w.getD (w.length - 2) 0) 17 19 10 + w.getD (w.length - 7) 0 + shaMoved (w.getD (w.length - 15) 0) 7 18 3 + w.getD (w.length - 16) 0) % 4294967296]
/-- The first t words of a block's schedule. -/
def shaSched (b : List UInt8) : Nat → List Nat
  | 0 => []
  | t + 1 => schedStep b (shaSched b t)
theorem shaSched_len (b : List UInt8) (t : Nat) : (shaSched b t).length = t := by
  induction t with
  | zero => rfl
  | succ t ih => simp [shaSched, schedStep, ih]
/-- One round. -/
def shaRound (v : List Nat) (k w : Nat) : List Nat :=
  let x := (v.getD 7 0 + shaTurned (v.getD 4 0) 6 11 25 + ((v.getD 4 0 &&& v.getD 5 0) ^^^ ((v.getD 4 0 ^^^ 4294967295) &&& v.getD 6 0)) + k + w) % 4294967296
  let y := (shaTurned (v.getD 0 0) 2 13 22 + ((v.getD 0 0 &&& v.getD 1 0) ^^^ (v.getD 0 0 &&& v.getD 2 0) ^^^ (v.getD 1 0 &&& v.getD 2 0))) % 4294967296
  [(x + y) % 4294967296, v.getD 0 0, v.getD 1 0, v.getD 2 0, (v.getD 3 0 + x) % 4294967296, v.getD 4 0, v.getD 5 0, v.getD 6 0]
def shaRounds (w : List Nat) : Nat → List Nat → List Nat
  | 0, v => v
  | t + 1, v => shaRound (shaRounds w t v) (shaKeys.getD t 0) (w.getD t 0)
def shaMix (h : List Nat) (b : List UInt8) : List Nat :=
  List.zipWith (fun x y => (x + y) % 4294967296) h (shaRounds (shaSched b 64) 64 h)
/-- Bytes of a word, the highest first. -/
def be4 (x : Nat) : List UInt8 := [UInt8.ofNat (x / 16777216), UInt8.ofNat (x / 65536), UInt8.ofNat (x / 256), UInt8.ofNat x]
def be8 (x : Nat) : List UInt8 := be4 (x / 4294967296) ++ be4 x
def shaPad (l : List UInt8) : List UInt8 := l ++ 0x80 :: (List.replicate ((119 - l.length % 64) % 64) 0 ++ be8 (l.length * 8 % 18446744073709551616))
def shaBlocks : Nat → List UInt8 → List Nat → List Nat
  | 0, _, h => h
  | n + 1, b, h => shaBlocks n (b.drop 64) (shaMix h (b.take 64))
def sha (l : List UInt8) : List UInt8 := ((shaBlocks ((shaPad l).length / 64) (shaPad l) shaStart).map be4).flatten
theorem sha_abc : (sha [97, 98, 99]).getD 0 0 = 0xba ∧ (sha [97, 98, 99]).getD 1 0 = 0x78 ∧ (sha [97, 98, 99]).getD 31 0 = 0xad := by decide +kernel
end Go.Proofs.YtjhocaleampamaaDoor
