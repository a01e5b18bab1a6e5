/- The digest of a text, by plain numbers: SHA-256 over lists of bytes. No Go, no memory. -/
namespace Go.Proofs.YtdiccgpgmddbdaaDoor.Sha

def M32 : Nat := 4294967296
def rotr (x n : Nat) : Nat := x / 2 ^ n + x % 2 ^ n * 2 ^ (32 - n)
def sg0 (x : Nat) : Nat := rotr x 7 ^^^ rotr x 18 ^^^ (x / 8)
def sg1 (x : Nat) : Nat := rotr x 17 ^^^ rotr x 19 ^^^ (x / 1024)
def bs0 (x : Nat) : Nat := rotr x 2 ^^^ rotr x 13 ^^^ rotr x 22
def bs1 (x : Nat) : Nat := rotr x 6 ^^^ rotr x 11 ^^^ rotr x 25
def chs (e f g : Nat) : Nat := (e &&& f) ^^^ ((4294967295 - e) &&& g)
def maj (a b c : Nat) : Nat := (a &&& b) ^^^ (a &&& c) ^^^ (b &&& c)

/-- The word at place i (in words) of some bytes. -/
def be32 (s : List UInt8) (i : Nat) : Nat :=
  (s.getD (4 * i) 0).toNat * 16777216 + (s.getD (4 * i + 1) 0).toNat * 65536 + (s.getD (4 * i + 2) 0).toNat * 256 + (s.getD (4 * i + 3) 0).toNat
def words16 (s : List UInt8) : Nat → List Nat
  | 0 => []
  | k + 1 => words16 s k ++ [be32 s k]
/-- The schedule, so many words behind the first sixteen. -/
def sched (l : List Nat) : Nat → List Nat
  | 0 => l
  | k + 1 =>
    let r := sched l k
    r ++ [(r.getD k 0 + sg0 (r.getD (k + 1) 0) + r.getD (k + 9) 0 + sg1 (r.getD (k + 14) 0)) % M32]
def words (s : List UInt8) : List Nat := sched (words16 s 16) 48

structure S8 where
  a : Nat
  b : Nat
  c : Nat
  d : Nat
  e : Nat
  f : Nat
  g : Nat
  h : Nat

def S8.l (s : S8) : List Nat := [s.a, s.b, s.c, s.d, s.e, s.f, s.g, s.h]
def t1 (s : S8) (k w : Nat) : Nat := (s.h + bs1 s.e + chs s.e s.f s.g + k + w) % M32
def t2 (s : S8) : Nat := (bs0 s.a + maj s.a s.b s.c) % M32
def rnd (s : S8) (k w : Nat) : S8 := ⟨(t1 s k w + t2 s) % M32, s.a, s.b, s.c, (s.d + t1 s k w) % M32, s.e, s.f, s.g⟩
def rnds (s : S8) (ks ws : List Nat) : Nat → S8
  | 0 => s
  | i + 1 => rnd (rnds s ks ws i) (ks.getD i 0) (ws.getD i 0)
def add8 (s t : S8) : S8 :=
  ⟨(s.a + t.a) % M32, (s.b + t.b) % M32, (s.c + t.c) % M32, (s.d + t.d) % M32, (s.e + t.e) % M32, (s.f + t.f) % M32, (s.g + t.g) % M32, (s.h + t.h) % M32⟩

def first : S8 := ⟨1779033703, 3144134277, 1013904242, 2773480762, 1359893119, 2600822924, 528734635, 1541459225⟩
def rounds : List Nat := [1116352408, 1899447441, 3049323471, 3921009573, 961987163, 1508970993, 2453635748, 2870763221, 3624381080, 310598401, 607225278, 1426881987, 1925078388, 2162078206, 2614888103, 3248222580, 3835390401, 4022224774, 264347078, 604807628, 770255983, 1249150122, 1555081692, 1996064986, 2554220882, 2821834349, 2952996808, 3210313671, 3336571891, 3584528711, 113926993, 338241895, 666307205, 773529912, 1294757372, 1396182291, 1695183700, 1986661051, 2177026350, 2456956037, 2730485921, 2820302411, 3259730800, 3345764771, 3516065817, 3600352804, 4094571909, 275423344, 430227734, 506948616, 659060556, 883997877, 958139571, 1322822218, 1537002063, 1747873779, 1955562222, 2024104815, 2227730452, 2361852424, 2428436474, 2756734187, 3204031479, 3329325298]

/-- A state behind a block. -/
def mix (s : S8) (b : List UInt8) : S8 := add8 (rnds s rounds (words b) 64) s
/-- A state behind so many blocks of some bytes. -/
def blocks (s : S8) (b : List UInt8) : Nat → S8
  | 0 => s
  | n + 1 => mix (blocks s b n) ((b.drop (64 * n)).take 64)

def put32 (x : Nat) : List UInt8 := [UInt8.ofNat (x / 16777216), UInt8.ofNat (x / 65536), UInt8.ofNat (x / 256), UInt8.ofNat x]
def put64 (x : Nat) : List UInt8 := put32 (x / M32 % M32) ++ put32 (x % M32)
/-- How many zeros make room for the length at a block's end. -/
def zeros (n : Nat) : Nat := (119 - n % 64) % 64
def pad (b : List UInt8) : List UInt8 := b ++ [128] ++ List.replicate (zeros b.length) 0 ++ put64 (8 * b.length)
def out8 (s : S8) : List UInt8 := put32 s.a ++ put32 s.b ++ put32 s.c ++ put32 s.d ++ put32 s.e ++ put32 s.f ++ put32 s.g ++ put32 s.h
/-- THE DIGEST. -/
def sum (b : List UInt8) : List UInt8 := out8 (blocks first (pad b) ((pad b).length / 64))

set_option maxRecDepth 100000 in
theorem sum_abc : (sum [97, 98, 99]).map (·.toNat) = [0xba, 0x78, 0x16, 0xbf, 0x8f, 0x01, 0xcf, 0xea, 0x41, 0x41, 0x40, 0xde, 0x5d, 0xae, 0x22, 0x23, 0xb0, 0x03, 0x61, 0xa3, 0x96, 0x17, 0x7a, 0x9c, 0xb4, 0x10, 0xff, 0x61, 0xf2, 0x00, 0x15, 0xad] := by decide +kernel
end Go.Proofs.YtdiccgpgmddbdaaDoor.Sha
