/-
  SHA-256 over whole numbers: words of 32 bits, one block. Plain laws.
-/
import Derived.Test.YtbomppdiiaodbaaRRRSp
import Derived.Test.YtbomppdiiaodbaaRRRArL
namespace Go.Proofs.YtbomppdiiaodbaaRRR.B
open Go
set_option linter.unusedVariables false
set_option linter.unusedSimpArgs false
def xorU (a b : Int) : Int := IntKind.u32.wrap (BitVec.ofInt IntKind.u32.bits a ^^^ BitVec.ofInt IntKind.u32.bits b).toNat
def andU (a b : Int) : Int := IntKind.u32.wrap (BitVec.ofInt IntKind.u32.bits a &&& BitVec.ofInt IntKind.u32.bits b).toNat
def orU (a b : Int) : Int := IntKind.u32.wrap (BitVec.ofInt IntKind.u32.bits a ||| BitVec.ofInt IntKind.u32.bits b).toNat
def notU (n : Int) : Int := IntKind.u32.wrap (BitVec.ofInt IntKind.u32.bits (if IntKind.u32.signed then -1 else IntKind.u32.max) ^^^ BitVec.ofInt IntKind.u32.bits n).toNat
def addU (a b : Int) : Int := IntKind.u32.wrap (a + b)
def shrU (x : Int) (n : Nat) : Int := x.fdiv (2 ^ n)
def shlU (x : Int) (n : Nat) : Int := IntKind.u32.wrap (x * 2 ^ n)
def rotU (x : Int) (n : Nat) : Int := orU (shrU x n) (shlU x (32 - n))
def s0U (x : Int) : Int := xorU (xorU (rotU x 7) (rotU x 18)) (shrU x 3)
def s1U (x : Int) : Int := xorU (xorU (rotU x 17) (rotU x 19)) (shrU x 10)
def b0U (x : Int) : Int := xorU (xorU (rotU x 2) (rotU x 13)) (rotU x 22)
def b1U (x : Int) : Int := xorU (xorU (rotU x 6) (rotU x 11)) (rotU x 25)
def chU (e f g : Int) : Int := xorU (andU e f) (andU (notU e) g)
def majU (a b c : Int) : Int := xorU (xorU (andU a b) (andU a c)) (andU b c)
def nextW (l : List Int) : Int := addU (addU (addU (l.getD (l.length - 16) 0) (s0U (l.getD (l.length - 15) 0))) (l.getD (l.length - 7) 0)) (s1U (l.getD (l.length - 2) 0))
def schedF : Nat → List Int → List Int
  | 0, l => l
  | n + 1, l => schedF n (l ++ [nextW l])
theorem schedF_len : ∀ (n : Nat) (l : List Int), (schedF n l).length = l.length + n
  | 0, l => rfl
  | n + 1, l => by rw [schedF, schedF_len n]; simp; omega
structure St where
  a : Int
  b : Int
  c : Int
  d : Int
  e : Int
  f : Int
  g : Int
  z : Int
def St.l (s : St) : List Int := [s.a, s.b, s.c, s.d, s.e, s.f, s.g, s.z]
def St.c' (s : St) : List Value := [.int .u32 s.a, .int .u32 s.b, .int .u32 s.c, .int .u32 s.d, .int .u32 s.e, .int .u32 s.f, .int .u32 s.g, .int .u32 s.z]
def t1U (k w : Int) (s : St) : Int := addU (addU (addU (addU s.z (b1U s.e)) (chU s.e s.f s.g)) k) w
def t2U (s : St) : Int := addU (b0U s.a) (majU s.a s.b s.c)
def roundF (k w : Int) (s : St) : St := ⟨addU (t1U k w s) (t2U s), s.a, s.b, s.c, addU s.d (t1U k w s), s.e, s.f, s.g⟩
def roundsF (ks ws : List Int) (s : St) : Nat → St
  | 0 => s
  | n + 1 => roundF (ks.getD n 0) (ws.getD n 0) (roundsF ks ws s n)
def KS : List Int := [0x428a2f98, 0x71374491, 0xb5c0fbcf, 0xe9b5dba5, 0x3956c25b, 0x59f111f1, 0x923f82a4, 0xab1c5ed5,
  0xd807aa98, 0x12835b01, 0x243185be, 0x550c7dc3, 0x72be5d74, 0x80deb1fe, 0x9bdc06a7, 0xc19bf174,
  0xe49b69c1, 0xefbe4786, 0x0fc19dc6, 0x240ca1cc, 0x2de92c6f, 0x4a7484aa, 0x5cb0a9dc, 0x76f988da,
  0x983e5152, 0xa831c66d, 0xb00327c8, 0xbf597fc7, 0xc6e00bf3, 0xd5a79147, 0x06ca6351, 0x14292967,
  0x27b70a85, 0x2e1b2138, 0x4d2c6dfc, 0x53380d13, 0x650a7354, 0x766a0abb, 0x81c2c92e, 0x92722c85,
  0xa2bfe8a1, 0xa81a664b, 0xc24b8b70, 0xc76c51a3, 0xd192e819, 0xd6990624, 0xf40e3585, 0x106aa070,
  0x19a4c116, 0x1e376c08, 0x2748774c, 0x34b0bcb5, 0x391c0cb3, 0x4ed8aa4a, 0x5b9cca4f, 0x682e6ff3,
  0x748f82ee, 0x78a5636f, 0x84c87814, 0x8cc70208, 0x90befffa, 0xa4506ceb, 0xbef9a3f7, 0xc67178f2]
def wordF (a b c d : Int) : Int := ((a * 256 + b) * 256 + c) * 256 + d
def wordsF (m : List Int) : Nat → List Int
  | 0 => []
  | n + 1 => wordsF m n ++ [wordF (m.getD (4 * n) 0) (m.getD (4 * n + 1) 0) (m.getD (4 * n + 2) 0) (m.getD (4 * n + 3) 0)]
theorem wordsF_len (m : List Int) : ∀ n, (wordsF m n).length = n
  | 0 => rfl
  | n + 1 => by rw [wordsF, List.length_append, wordsF_len m n]; rfl
def addSt (s t : St) : St := ⟨addU s.a t.a, addU s.b t.b, addU s.c t.c, addU s.d t.d, addU s.e t.e, addU s.f t.f, addU s.g t.g, addU s.z t.z⟩
def mixF (s : St) (m : List Int) : St := addSt s (roundsF KS (schedF 48 (wordsF m 16)) s 64)
def st0 : St := ⟨0x6a09e667, 0xbb67ae85, 0x3c6ef372, 0xa54ff53a, 0x510e527f, 0x9b05688c, 0x1f83d9ab, 0x5be0cd19⟩
/-- A text, filled up; its sum. -/
def tailF (n : Nat) : List Int := 128 :: (List.replicate (zpad n) 0 ++ beF 8 ((n : Int) * 8 % 18446744073709551616))
def shaF (m : List Int) : List Int := (hashF mixF st0 (m ++ tailF m.length)).l.flatMap (beF 4)
theorem tailF_len (n : Nat) : (tailF n).length = 1 + zpad n + 8 := by simp [tailF, beF_len]; omega
theorem shaF_len (m : List Int) : (shaF m).length = 32 := by simp [shaF, St.l, beF_len]
/-- The two ways of the schedule's sum are one. -/
theorem sum_ways (a b c d : Int) : addU (addU (addU d c) b) a = addU (addU (addU a b) c) d := by
  unfold addU
  rw [IntKind.wrap_u32, IntKind.wrap_u32, IntKind.wrap_u32, IntKind.wrap_u32, IntKind.wrap_u32, IntKind.wrap_u32]
  omega
theorem orU_nat {a b : Nat} (ha : a < 2 ^ 32) (hb : b < 2 ^ 32) : orU a b = ((a ||| b : Nat) : Int) := by
  have hl := Nat.or_lt_two_pow ha hb
  have e : (BitVec.ofInt IntKind.u32.bits (a : Int) ||| BitVec.ofInt IntKind.u32.bits (b : Int)).toNat = a ||| b := by
    show (BitVec.ofInt 32 (a : Int) ||| BitVec.ofInt 32 (b : Int)).toNat = a ||| b
    rw [BitVec.toNat_or, BitVec.toNat_ofInt, BitVec.toNat_ofInt]
    congr 1 <;> omega
  unfold orU
  rw [e, IntKind.wrap_u32]
  omega
theorem or_add (k : Nat) {a b : Nat} (hb : b < 2 ^ k) : 2 ^ k * a ||| b = 2 ^ k * a + b := (Nat.two_pow_add_eq_or_of_lt hb a).symm
/-- Four bytes laid side by side. -/
theorem word_or {a b c d : Nat} (ha : a < 256) (hb : b < 256) (hc : c < 256) (hd : d < 256) :
    orU (orU (orU (shlU a 24) (shlU b 16)) (shlU c 8)) d = wordF a b c d := by
  have h1 : shlU (a : Int) 24 = ((2 ^ 24 * a : Nat) : Int) := by unfold shlU; rw [IntKind.wrap_u32]; omega
  have h2 : shlU (b : Int) 16 = ((2 ^ 16 * b : Nat) : Int) := by unfold shlU; rw [IntKind.wrap_u32]; omega
  have h3 : shlU (c : Int) 8 = ((2 ^ 8 * c : Nat) : Int) := by unfold shlU; rw [IntKind.wrap_u32]; omega
  rw [h1, h2, h3, orU_nat (by omega) (by omega), or_add 24 (by omega), show 2 ^ 24 * a + 2 ^ 16 * b = 2 ^ 16 * (2 ^ 8 * a + b) by omega,
    orU_nat (by omega) (by omega), or_add 16 (by omega), show 2 ^ 16 * (2 ^ 8 * a + b) + 2 ^ 8 * c = 2 ^ 8 * (2 ^ 8 * (2 ^ 8 * a + b) + c) by omega,
    orU_nat (by omega) (by omega), or_add 8 (by omega)]
  unfold wordF
  omega
theorem word_add {a b c d : Nat} (ha : a < 256) (hb : b < 256) (hc : c < 256) (hd : d < 256) :
    addU (addU (addU (IntKind.u32.wrap ((a : Int) * 16777216)) (IntKind.u32.wrap ((b : Int) * 65536))) (IntKind.u32.wrap ((c : Int) * 256))) d = wordF a b c d := by
  unfold addU wordF
  simp only [IntKind.wrap_u32]
  omega
end Go.Proofs.YtbomppdiiaodbaaRRR.B
