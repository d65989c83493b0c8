/- SHA-256 in plain Lean: words of 32 bits, the schedule, the rounds, the digest of a list of bytes. -/
namespace Go.Proofs.Ythlppmhkdincgaa.Sha

abbrev W := BitVec 32

def rotr (x : W) (n : Nat) : W := (x >>> n) ||| (x <<< (32 - n))

def ks : List W := [
  0x428a2f98#32, 0x71374491#32, 0xb5c0fbcf#32, 0xe9b5dba5#32, 0x3956c25b#32, 0x59f111f1#32, 0x923f82a4#32, 0xab1c5ed5#32,
  0xd807aa98#32, 0x12835b01#32, 0x243185be#32, 0x550c7dc3#32, 0x72be5d74#32, 0x80deb1fe#32, 0x9bdc06a7#32, 0xc19bf174#32,
  0xe49b69c1#32, 0xefbe4786#32, 0x0fc19dc6#32, 0x240ca1cc#32, 0x2de92c6f#32, 0x4a7484aa#32, 0x5cb0a9dc#32, 0x76f988da#32,
  0x983e5152#32, 0xa831c66d#32, 0xb00327c8#32, 0xbf597fc7#32, 0xc6e00bf3#32, 0xd5a79147#32, 0x06ca6351#32, 0x14292967#32,
  0x27b70a85#32, 0x2e1b2138#32, 0x4d2c6dfc#32, 0x53380d13#32, 0x650a7354#32, 0x766a0abb#32, 0x81c2c92e#32, 0x92722c85#32,
  0xa2bfe8a1#32, 0xa81a664b#32, 0xc24b8b70#32, 0xc76c51a3#32, 0xd192e819#32, 0xd6990624#32, 0xf40e3585#32, 0x106aa070#32,
  0x19a4c116#32, 0x1e376c08#32, 0x2748774c#32, 0x34b0bcb5#32, 0x391c0cb3#32, 0x4ed8aa4a#32, 0x5b9cca4f#32, 0x682e6ff3#32,
  0x748f82ee#32, 0x78a5636f#32, 0x84c87814#32, 0x8cc70208#32, 0x90befffa#32, 0xa4506ceb#32, 0xbef9a3f7#32, 0xc67178f2#32]

/-- Four bytes as a word. -/
def quad (a b c d : UInt8) : W := BitVec.ofNat 32 (a.toNat * 16777216 + b.toNat * 65536 + c.toNat * 256 + d.toNat)

/-- Word number i of a block. -/
def word (l : List UInt8) (i : Nat) : W := quad (l.getD (4 * i) 0) (l.getD (4 * i + 1) 0) (l.getD (4 * i + 2) 0) (l.getD (4 * i + 3) 0)

def low (x : W) : W := rotr x 7 ^^^ rotr x 18 ^^^ (x >>> 3)
def high (x : W) : W := rotr x 17 ^^^ rotr x 19 ^^^ (x >>> 10)

/-- The word behind those of a row of i words. -/
def next (l : List UInt8) (i : Nat) (w : List W) : W :=
  if i < 16 then word l i else w.getD (i - 16) 0 + low (w.getD (i - 15) 0) + w.getD (i - 7) 0 + high (w.getD (i - 2) 0)

/-- The first i words of a block. -/
def sched (l : List UInt8) : Nat → List W
  | 0 => []
  | i + 1 => sched l i ++ [next l i (sched l i)]

structure St where
  a : W
  b : W
  c : W
  d : W
  e : W
  f : W
  g : W
  h : W

def first : St := ⟨0x6a09e667#32, 0xbb67ae85#32, 0x3c6ef372#32, 0xa54ff53a#32, 0x510e527f#32, 0x9b05688c#32, 0x1f83d9ab#32, 0x5be0cd19#32⟩

def t1 (s : St) (k w : W) : W := s.h + (rotr s.e 6 ^^^ rotr s.e 11 ^^^ rotr s.e 25) + ((s.e &&& s.f) ^^^ (~~~s.e &&& s.g)) + k + w
def t2 (s : St) : W := (rotr s.a 2 ^^^ rotr s.a 13 ^^^ rotr s.a 22) + ((s.a &&& s.b) ^^^ (s.a &&& s.c) ^^^ (s.b &&& s.c))
def step (s : St) (k w : W) : St := ⟨t1 s k w + t2 s, s.a, s.b, s.c, s.d + t1 s k w, s.e, s.f, s.g⟩

/-- The state behind i rounds. -/
def rounds (s : St) (l : List UInt8) : Nat → St
  | 0 => s
  | i + 1 => step (rounds s l i) (ks.getD i 0) ((sched l 64).getD i 0)

def plus (s t : St) : St := ⟨s.a + t.a, s.b + t.b, s.c + t.c, s.d + t.d, s.e + t.e, s.f + t.f, s.g + t.g, s.h + t.h⟩

/-- The state behind a block. -/
def mix (s : St) (l : List UInt8) : St := plus s (rounds s l 64)

/-- The state behind the first k blocks of a text. -/
def blocks (l : List UInt8) : Nat → St
  | 0 => first
  | k + 1 => mix (blocks l k) ((l.drop (64 * k)).take 64)

def four (x : W) : List UInt8 := [UInt8.ofNat (x.toNat / 16777216), UInt8.ofNat (x.toNat / 65536), UInt8.ofNat (x.toNat / 256), UInt8.ofNat x.toNat]

def St.bytes (s : St) : List UInt8 := four s.a ++ four s.b ++ four s.c ++ four s.d ++ four s.e ++ four s.f ++ four s.g ++ four s.h

/-- How many bytes 0 stand behind the byte 0x80 of a text of n bytes. -/
def zeros (n : Nat) : Nat := (119 - n % 64) % 64

def eight (n : Nat) : List UInt8 :=
  [UInt8.ofNat (n / 72057594037927936), UInt8.ofNat (n / 281474976710656), UInt8.ofNat (n / 1099511627776), UInt8.ofNat (n / 4294967296), UInt8.ofNat (n / 16777216), UInt8.ofNat (n / 65536), UInt8.ofNat (n / 256), UInt8.ofNat n]

/-- What stands behind a text of n bytes. -/
def ending (n : Nat) : List UInt8 := 0x80 :: (List.replicate (zeros n) 0 ++ eight (8 * n))

def padded (l : List UInt8) : List UInt8 := l ++ ending l.length

def sha (l : List UInt8) : List UInt8 := (blocks (padded l) ((padded l).length / 64)).bytes

def hexDigit (n : Nat) : UInt8 := if n < 10 then UInt8.ofNat (48 + n) else UInt8.ofNat (87 + n)
def hex (l : List UInt8) : List UInt8 := l.flatMap fun c => [hexDigit (c.toNat / 16), hexDigit (c.toNat % 16)]

set_option maxRecDepth 100000 in
theorem sha_abc : sha [97, 98, 99] = [0xba, 0x78, 0x16, 0xbf, 0x8f, 0x01, 0xcf, 0xea, 0x41, 0x41, 0x40, 0xde, 0x5d, 0xae, 0x22, 0x23, 0xb0, 0x03, 0x61, 0xa3, 0x96, 0x17, 0x7a, 0x9c, 0xb4, 0x10, 0xff, 0x61, 0xf2, 0x00, 0x15, 0xad] := by
  decide +kernel

end Go.Proofs.Ythlppmhkdincgaa.Sha
