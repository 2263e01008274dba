/- SHA-256, HMAC and hexadecimal digits in plain Lean. No condition. -/
import Derived.Test.YtjghmhcljhjmmaaDoorStep
namespace Go.Proofs.YtjghmhcljhjmmaaDoor
set_option linter.unusedVariables false
set_option linter.unusedSimpArgs false

abbrev W32 := BitVec 32
def kC : List W32 := [0x428a2f98, 0x71374491, 0xb5c0fbcf, 0xe9b5dba5, 0x3956c25b, 0x59f111f1, 0x923f82a4, 0xab1c5ed5,
  0xd807aa98, 0x12835b01, 0x243185be, 0x550c7dc3, 0x72be5d74, 0x80deb1fe, 0x9bdc06a7, 0xc19bf174,
  0xe49b69c1, 0xefbe4786, 0x0fc19dc6, 0x240ca1cc, 0x2de92c6f, 0x4a7484aa, 0x5cb0a9dc, 0x76f988da,
  0x983e5152, 0xa831c66d, 0xb00327c8, 0xbf597fc7, 0xc6e00bf3, 0xd5a79147, 0x06ca6351, 0x14292967,
  0x27b70a85, 0x2e1b2138, 0x4d2c6dfc, 0x53380d13, 0x650a7354, 0x766a0abb, 0x81c2c92e, 0x92722c85,
  0xa2bfe8a1, 0xa81a664b, 0xc24b8b70, 0xc76c51a3, 0xd192e819, 0xd6990624, 0xf40e3585, 0x106aa070,
  0x19a4c116, 0x1e376c08, 0x2748774c, 0x34b0bcb5, 0x391c0cb3, 0x4ed8aa4a, 0x5b9cca4f, 0x682e6ff3,
  0x748f82ee, 0x78a5636f, 0x84c87814, 0x8cc70208, 0x90befffa, 0xa4506ceb, 0xbef9a3f7, 0xc67178f2]
def rr (x : W32) (n : Nat) : W32 := x <<< (32 - n) ||| x >>> n
def word4 (a b c d : UInt8) : W32 := BitVec.ofNat 32 a.toNat <<< 24 ||| BitVec.ofNat 32 b.toNat <<< 16 ||| BitVec.ofNat 32 c.toNat <<< 8 ||| BitVec.ofNat 32 d.toNat
/-- The first words: those of the block. -/
def firstW : Nat → List UInt8 → List W32
  | n + 1, a :: b :: c :: d :: r => word4 a b c d :: firstW n r
  | _, _ => []
def sig0 (y : W32) : W32 := rr y 7 ^^^ rr y 18 ^^^ y >>> 3
def sig1 (x : W32) : W32 := rr x 17 ^^^ rr x 19 ^^^ x >>> 10
def nextW (l : List W32) : W32 := sig1 (l.getD (l.length - 2) 0) + l.getD (l.length - 7) 0 + sig0 (l.getD (l.length - 15) 0) + l.getD (l.length - 16) 0
def moreW : Nat → List W32 → List W32
  | 0, l => l
  | n + 1, l => moreW n (l ++ [nextW l])
def schedP (b : List UInt8) : List W32 := moreW 48 (firstW 16 b)
structure S8 where
  a : W32
  b : W32
  c : W32
  d : W32
  e : W32
  f : W32
  g : W32
  h : W32
deriving DecidableEq
def S8.list (s : S8) : List W32 := [s.a, s.b, s.c, s.d, s.e, s.f, s.g, s.h]
def t1P (s : S8) (k w : W32) : W32 := s.h + (rr s.e 6 ^^^ rr s.e 11 ^^^ rr s.e 25) + (s.e &&& s.f ^^^ ~~~s.e &&& s.g) + k + w
def t2P (s : S8) : W32 := (rr s.a 2 ^^^ rr s.a 13 ^^^ rr s.a 22) + (s.a &&& s.b ^^^ s.a &&& s.c ^^^ s.b &&& s.c)
def roundP (s : S8) (k w : W32) : S8 := ⟨t1P s k w + t2P s, s.a, s.b, s.c, s.d + t1P s k w, s.e, s.f, s.g⟩
def roundsP : S8 → List (W32 × W32) → S8
  | s, [] => s
  | s, (k, w) :: r => roundsP (roundP s k w) r
def addS (s t : S8) : S8 := ⟨s.a + t.a, s.b + t.b, s.c + t.c, s.d + t.d, s.e + t.e, s.f + t.f, s.g + t.g, s.h + t.h⟩
def mixP (s : S8) (b : List UInt8) : S8 := addS (roundsP s (kC.zip (schedP b))) s
def iv : S8 := ⟨0x6a09e667, 0xbb67ae85, 0x3c6ef372, 0xa54ff53a, 0x510e527f, 0x9b05688c, 0x1f83d9ab, 0x5be0cd19⟩
/-- n blocks of a text. -/
def blocksP : Nat → S8 → List UInt8 → S8
  | 0, s, _ => s
  | n + 1, s, l => blocksP n (mixP s (l.take 64)) (l.drop 64)
def zerosN (n : Nat) : Nat := (119 - n % 64) % 64
/-- The length, in bits, as eight bytes. -/
def lenB (n : Nat) : List UInt8 := [UInt8.ofNat (8 * n / 2 ^ 56), UInt8.ofNat (8 * n / 2 ^ 48), UInt8.ofNat (8 * n / 2 ^ 40), UInt8.ofNat (8 * n / 2 ^ 32), UInt8.ofNat (8 * n / 2 ^ 24), UInt8.ofNat (8 * n / 2 ^ 16), UInt8.ofNat (8 * n / 2 ^ 8), UInt8.ofNat (8 * n)]
def tailP (n : Nat) : List UInt8 := 128 :: List.replicate (zerosN n) 0 ++ lenB n
def word4B (x : W32) : List UInt8 := [UInt8.ofNat (x.toNat / 2 ^ 24), UInt8.ofNat (x.toNat / 2 ^ 16), UInt8.ofNat (x.toNat / 2 ^ 8), UInt8.ofNat x.toNat]
def outP (s : S8) : List UInt8 := s.list.flatMap word4B
def shaP (l : List UInt8) : List UInt8 := outP (blocksP ((l.length + (tailP l.length).length) / 64) iv (l ++ tailP l.length))
def hexD (n : Nat) : UInt8 := UInt8.ofNat (if n < 10 then 48 + n else 87 + n)
def hexP (l : List UInt8) : List UInt8 := l.flatMap fun c => [hexD (c.toNat / 16), hexD (c.toNat % 16)]
def abcH : List UInt8 := [98, 97, 55, 56, 49, 54, 98, 102, 56, 102, 48, 49, 99, 102, 101, 97, 52, 49, 52, 49, 52, 48, 100, 101, 53, 100, 97, 101, 50, 50, 50, 51, 98, 48, 48, 51, 54, 49, 97, 51, 57, 54, 49, 55, 55, 97, 57, 99, 98, 52, 49, 48, 102, 102, 54, 49, 102, 50, 48, 48, 49, 53, 97, 100]
theorem abc_sha : hexP (shaP [97, 98, 99]) = abcH := by decide +kernel
end Go.Proofs.YtjghmhcljhjmmaaDoor
