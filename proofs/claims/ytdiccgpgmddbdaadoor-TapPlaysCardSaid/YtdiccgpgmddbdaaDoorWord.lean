/- The walks of package word's small functions (Turn, Get32, Put32, Put64), each with what it answers in plain numbers. Conditions: words below 2^32. -/
import Derived.Test.YtdiccgpgmddbdaaDoorProg
import Derived.Test.YtdiccgpgmddbdaaDoorShaSpec
import Derived.WalkKit
import Derived.Deep.QuietTactic
import Derived.BigQuiet
import Derived.Outline
import Derived.Laws.BitsLemmas
import Derived.Lib.ConvBytes
import Derived.Laws.BytesArg
import Derived.Laws.Rows
import Derived.Deep.WholeRow
import Derived.KernelRfl
namespace Go.Proofs.YtdiccgpgmddbdaaDoor
open Go.RowKit

theorem wraps_u32 (n : Int) (h0 : 0 ≤ n) (h1 : n < 2 ^ 32) : IntKind.u32.wrap n = n := by rw [IntKind.wrap_u32]; omega
theorem wraps_u64 (n : Int) (h0 : 0 ≤ n) (h1 : n < 2 ^ 64) : IntKind.u64.wrap n = n := by
  simp [IntKind.wrap, IntKind.bits, IntKind.signed]; omega
theorem and_u32 {a b : Nat} (ha : a < 2 ^ 32) (hb : b < 2 ^ 32) : bits .and .u32 (a : Int) (b : Int) = ((a &&& b : Nat) : Int) := (bits_nat .u32 32 (by decide) wraps_u32 a b ha hb).1
theorem or_u32 {a b : Nat} (ha : a < 2 ^ 32) (hb : b < 2 ^ 32) : bits .or .u32 (a : Int) (b : Int) = ((a ||| b : Nat) : Int) := (bits_nat .u32 32 (by decide) wraps_u32 a b ha hb).2
theorem xor_u32 {a b : Nat} (ha : a < 2 ^ 32) (hb : b < 2 ^ 32) : bits .xor .u32 (a : Int) (b : Int) = ((a ^^^ b : Nat) : Int) := by
  have ha' : a % 4294967296 = a := Nat.mod_eq_of_lt ha
  have hb' : b % 4294967296 = b := Nat.mod_eq_of_lt hb
  have e : (BitVec.ofNat 32 a ^^^ BitVec.ofNat 32 b).toNat = a ^^^ b := by
    rw [BitVec.toNat_xor, BitVec.toNat_ofNat, BitVec.toNat_ofNat]
    rw [show 2 ^ 32 = 4294967296 from rfl, ha', hb']
  have e2 : bits .xor .u32 (a : Int) (b : Int) = IntKind.u32.wrap ((BitVec.ofNat 32 a ^^^ BitVec.ofNat 32 b).toNat : Int) := by
    simp only [bits, BitVec.ofInt_natCast]; rfl
  rw [e2, e]
  exact wraps_u32 _ (Int.natCast_nonneg _) (by exact_mod_cast Nat.xor_lt_two_pow ha hb)

theorem rotr_lt {x n : Nat} (hx : x < 2 ^ 32) (hn : n ≤ 32) : Sha.rotr x n < 2 ^ 32 := by
  unfold Sha.rotr
  have h1 : x / 2 ^ n < 2 ^ (32 - n) := by
    rw [Nat.div_lt_iff_lt_mul (Nat.two_pow_pos n), ← Nat.pow_add]
    rwa [show 32 - n + n = 32 by omega]
  have h2 : x % 2 ^ n < 2 ^ n := Nat.mod_lt _ (Nat.two_pow_pos n)
  have h3 : 2 ^ n * 2 ^ (32 - n) = 2 ^ 32 := by rw [← Nat.pow_add]; congr 1; omega
  calc x / 2 ^ n + x % 2 ^ n * 2 ^ (32 - n) < 2 ^ (32 - n) + x % 2 ^ n * 2 ^ (32 - n) := by omega
    _ = (x % 2 ^ n + 1) * 2 ^ (32 - n) := by rw [Nat.add_mul]; omega
    _ ≤ 2 ^ n * 2 ^ (32 - n) := Nat.mul_le_mul_right _ h2
    _ = 2 ^ 32 := h3
/-- Turned to the left by as many places as are missing to 32: turned to the right. -/
theorem rot_or {x n : Nat} (hx : x < 2 ^ 32) (hn : n ≤ 32) : (x * 2 ^ (32 - n)) % 2 ^ 32 ||| x / 2 ^ n = Sha.rotr x n := by
  have h3 : (2 : Nat) ^ 32 = 2 ^ n * 2 ^ (32 - n) := by rw [← Nat.pow_add]; congr 1; omega
  have h1 : x / 2 ^ n < 2 ^ (32 - n) := by
    rw [Nat.div_lt_iff_lt_mul (Nat.two_pow_pos n), Nat.mul_comm, ← h3]; exact hx
  have h2 : (x * 2 ^ (32 - n)) % 2 ^ 32 = 2 ^ (32 - n) * (x % 2 ^ n) := by
    rw [h3, Nat.mul_mod_mul_right, Nat.mul_comm]
  rw [h2, ← Nat.two_pow_add_eq_or_of_lt h1]
  unfold Sha.rotr
  rw [Nat.mul_comm]; omega

set_option maxHeartbeats 400000 in
theorem rotl_any (x : Nat) (k : Int) (n : Nat) (w : World) (hx : x < 2 ^ 32) (hn1 : 1 ≤ n) (hn : n ≤ 31) (hk : k = -(n : Int)) :
    Calls Tryd.prog 51 #[.int .u32 x, .int .i64 k] w fun e w' => e = .returned (.int .u32 (Sha.rotr x n : Nat)) ∧ w = w' := by
  have e1 : bits .and .u64 (IntKind.u64.wrap k) 31 = ((32 - n : Nat) : Int) := by
    subst hk
    have hc : n = 1 ∨ n = 2 ∨ n = 3 ∨ n = 4 ∨ n = 5 ∨ n = 6 ∨ n = 7 ∨ n = 8 ∨ n = 9 ∨ n = 10 ∨ n = 11 ∨ n = 12 ∨ n = 13 ∨ n = 14 ∨ n = 15 ∨ n = 16 ∨ n = 17 ∨ n = 18 ∨ n = 19 ∨ n = 20 ∨ n = 21 ∨ n = 22 ∨ n = 23 ∨ n = 24 ∨ n = 25 ∨ n = 26 ∨ n = 27 ∨ n = 28 ∨ n = 29 ∨ n = 30 ∨ n = 31 := by omega
    rcases hc with h | h | h | h | h | h | h | h | h | h | h | h | h | h | h | h | h | h | h | h | h | h | h | h | h | h | h | h | h | h | h <;> (subst h; decide)
  obtain ⟨m, hm⟩ : ∃ m, m = 32 - n := ⟨_, rfl⟩
  rw [← hm] at e1
  have hm0 : (0 : Int) ≤ (m : Int) := by omega
  have hm1 : (m : Int) ≤ 31 := by omega
  have HM : Hid (m = 32 - n) := hm
  clear hm hk
  go_enter Tryd.func51, Tryd.ntmps51
  go_wp2
  go_ret
  refine ⟨?_, rfl⟩
  have e2 : bits .or .u32 ((x : Int) * 2 ^ m % 4294967296) ((x : Int) / 2 ^ (32 - m)) = ((Sha.rotr x n : Nat) : Int) := by
    have hm := HM.out
    have h32 : 32 - m = n := by omega
    have a1 : (x : Int) * 2 ^ m % 4294967296 = (((x * 2 ^ (32 - n)) % 2 ^ 32 : Nat) : Int) := by rw [hm]; simp
    have a2 : (x : Int) / 2 ^ (32 - m) = ((x / 2 ^ n : Nat) : Int) := by rw [h32]; simp
    rw [a1, a2, or_u32 (Nat.mod_lt _ (by decide)) (Nat.lt_of_le_of_lt (Nat.div_le_self _ _) hx), rot_or hx (by omega)]
  exact congrArg (fun v => Ending.returned (Value.int IntKind.u32 v)) e2

theorem turn_any (y : Int) (i : Int) (w : World) (h0 : 0 ≤ y) (hy : y < 4294967296) (hn1 : 1 ≤ i) (hn : i ≤ 31) :
    Calls Tryd.prog 47 #[.int .u32 y, .int .i64 i] w fun e w' => e = .returned (.int .u32 (Sha.rotr y.toNat i.toNat : Nat)) ∧ w = w' := by
  obtain ⟨x, rfl⟩ := Int.eq_ofNat_of_zero_le h0
  obtain ⟨n, hi⟩ := Int.eq_ofNat_of_zero_le (show 0 ≤ i by omega)
  have hn1' : 1 ≤ n := by omega
  have hn' : n ≤ 31 := by omega
  rw [Int.toNat_natCast, show i.toNat = n by omega]
  have hx : x < 2 ^ 32 := by omega
  clear h0 hy
  have e1 : bits .and .i64 i 31 = (n : Int) := by
    subst hi
    have hc : n = 1 ∨ n = 2 ∨ n = 3 ∨ n = 4 ∨ n = 5 ∨ n = 6 ∨ n = 7 ∨ n = 8 ∨ n = 9 ∨ n = 10 ∨ n = 11 ∨ n = 12 ∨ n = 13 ∨ n = 14 ∨ n = 15 ∨ n = 16 ∨ n = 17 ∨ n = 18 ∨ n = 19 ∨ n = 20 ∨ n = 21 ∨ n = 22 ∨ n = 23 ∨ n = 24 ∨ n = 25 ∨ n = 26 ∨ n = 27 ∨ n = 28 ∨ n = 29 ∨ n = 30 ∨ n = 31 := by omega
    rcases hc with h | h | h | h | h | h | h | h | h | h | h | h | h | h | h | h | h | h | h | h | h | h | h | h | h | h | h | h | h | h | h <;> (subst h; decide)
  have HI : Hid (i = (n : Int)) := hi
  clear hi
  go_enter Tryd.func47, Tryd.ntmps47
  go_wp2_with (go_at_call 51; refine (rotl_any x _ n _ hx hn1' hn' (by have := HI.out; omega)).mono ?_; rintro e w' ⟨rfl, rfl⟩)
  go_ret
  exact ⟨rfl, rfl⟩

/-- A word, turned, as the walks hold it: closed to them. -/
@[irreducible] def rotI (y i : Int) : Int := (Sha.rotr y.toNat i.toNat : Nat)
theorem rotI_nat (x n : Nat) : rotI x n = (Sha.rotr x n : Nat) := by unfold rotI; simp
theorem turn_same (y : Int) (i : Int) (w : World) (h0 : 0 ≤ y) (hy : y < 4294967296) (hn1 : 1 ≤ i) (hn : i ≤ 31) :
    Calls Tryd.prog 47 #[.int .u32 y, .int .i64 i] w fun e w' => e = .returned (.int .u32 (rotI y i)) ∧ w' = w :=
  (turn_any y i w h0 hy hn1 hn).mono fun _ _ h => ⟨by rw [h.1]; unfold rotI; rfl, h.2.symm⟩

/-- A byte of a text, as a number. -/
def byt (s : ByteArray) (i : Nat) : Nat := (s.data.toList.getD i 0).toNat
theorem byt_lt (s : ByteArray) (i : Nat) : byt s i < 256 := (s.data.toList.getD i 0).toNat_lt
theorem byt_get {s : ByteArray} {i : Nat} (h : i < s.size) : s[i].toNat = byt s i := by
  have h' : i < s.data.toList.length := by simpa using h
  have e : s.data.toList.getD i 0 = s.data.toList[i] := by rw [List.getD_eq_getElem?_getD, List.getElem?_eq_getElem h']; rfl
  unfold byt
  rw [e]
  rfl
theorem or_byte {a b k : Nat} (hb : b < 2 ^ k) : a * 2 ^ k ||| b = a * 2 ^ k + b := by
  rw [Nat.mul_comm, ← Nat.two_pow_add_eq_or_of_lt hb]

def be4 (s : ByteArray) (j : Nat) : Nat := byt s j * 16777216 + byt s (j + 1) * 65536 + byt s (j + 2) * 256 + byt s (j + 3)

theorem be4_bits (s : ByteArray) (i : Int) (h0 : 0 ≤ i) (p0 : i.toNat < s.size) (p1 : (i + 1).toNat < s.size) (p2 : (i + 2).toNat < s.size) (p3 : (i + 3).toNat < s.size) :
    bits .or .u32 (bits .or .u32 (bits .or .u32 ((s[i.toNat].toNat : Int) % 4294967296 * 16777216 % 4294967296) ((s[(i + 1).toNat].toNat : Int) % 4294967296 * 65536 % 4294967296))
      ((s[(i + 2).toNat].toNat : Int) % 4294967296 * 256 % 4294967296)) ((s[(i + 3).toNat].toNat : Int) % 4294967296) = ((be4 s i.toNat : Nat) : Int) := by
  have e1 : (i + 1).toNat = i.toNat + 1 := by omega
  have e2 : (i + 2).toNat = i.toNat + 2 := by omega
  have e3 : (i + 3).toNat = i.toNat + 3 := by omega
  rw [byt_get p0, byt_get p1, byt_get p2, byt_get p3, e1, e2, e3]
  have a0 := byt_lt s i.toNat
  have a1 := byt_lt s (i.toNat + 1)
  have a2 := byt_lt s (i.toNat + 2)
  have a3 := byt_lt s (i.toNat + 3)
  unfold be4
  generalize byt s i.toNat = x0 at *
  generalize byt s (i.toNat + 1) = x1 at *
  generalize byt s (i.toNat + 2) = x2 at *
  generalize byt s (i.toNat + 3) = x3 at *
  rw [show (x0 : Int) % 4294967296 * 16777216 % 4294967296 = ((x0 * 2 ^ 24 : Nat) : Int) by omega, show (x1 : Int) % 4294967296 * 65536 % 4294967296 = ((x1 * 2 ^ 16 : Nat) : Int) by omega,
    show (x2 : Int) % 4294967296 * 256 % 4294967296 = ((x2 * 2 ^ 8 : Nat) : Int) by omega, show (x3 : Int) % 4294967296 = ((x3 : Nat) : Int) by omega]
  rw [or_u32 (by omega) (by omega), or_byte (by omega), show x0 * 2 ^ 24 + x1 * 2 ^ 16 = (x0 * 2 ^ 8 + x1) * 2 ^ 16 by omega, or_u32 (by omega) (by omega), or_byte (by omega),
    show (x0 * 2 ^ 8 + x1) * 2 ^ 16 + x2 * 2 ^ 8 = ((x0 * 2 ^ 8 + x1) * 2 ^ 8 + x2) * 2 ^ 8 by omega, or_u32 (by omega) (by omega), or_byte (by omega)]

set_option maxHeartbeats 400000 in
theorem get_any (s : ByteArray) (i : Int) (w : World) (hs' : s.size ≤ 9223372036854775807) (h0 : 0 ≤ i) (hi : i + 4 ≤ s.size) :
    Calls Tryd.prog 50 #[.string s, .int .i64 i] w fun e w' => e = .returned (.tuple #[.int .u32 (be4 s i.toNat : Nat), .bool true]) ∧ ∃ n, w' = w.drewN n := by
  have d0 : decide (i < 0) = false := by simp; omega
  have d1 : decide ((s.size : Int) < 4) = false := by simp; omega
  have d2 : decide ((s.size : Int) - 4 < i) = false := by simp; omega
  have w1 : IntKind.i64.wrap (i + 1) = i + 1 := IntWalk.i64_in _ (by omega)
  have w2 : IntKind.i64.wrap (i + 2) = i + 2 := IntWalk.i64_in _ (by omega)
  have w3 : IntKind.i64.wrap (i + 3) = i + 3 := IntWalk.i64_in _ (by omega)
  have z1 : 0 ≤ i + 1 := by omega
  have z2 : 0 ≤ i + 2 := by omega
  have z3 : 0 ≤ i + 3 := by omega
  have b0 : i < (s.size : Int) := by omega
  have b1 : i + 1 < (s.size : Int) := by omega
  have b2 : i + 2 < (s.size : Int) := by omega
  have b3 : i + 3 < (s.size : Int) := by omega
  go_enter Tryd.func50, Tryd.ntmps50
  go_wp2
  go_quiet (fail)
  go_wp2
  go_ret2
  exact ⟨congrArg (fun v => Ending.returned (.tuple #[.int .u32 v, .bool true])) (be4_bits s i h0 _ _ _ _), _, rfl⟩

theorem conv4 (a0 a1 a2 a3 : Int) (w : World) : (convert 70 9 (.slice (some ⟨w.heap.size, 0, none⟩) 4 4)).run Tryd.prog (w.alloc (.cells #[.int .u8 a0, .int .u8 a1, .int .u8 a2, .int .u8 a3] 5)) =
    .ok (.string (strOfNums [a0, a1, a2, a3])) (w.alloc (.cells #[.int .u8 a0, .int .u8 a1, .int .u8 a2, .int .u8 a3] 5)) := by
  refine run_convert_bytes_arg _ 70 5 Tryd.underlying70 Tryd.underlying5 w.heap.size 0 4 4 [a0, a1, a2, a3] rfl (fun i hi => ?_) 9 Tryd.underlying9
  rw [cell_of_row _ _ _ _ _ (0, 0) (heap_alloc_last w _)]
  match i, hi with
  | 0, _ => rfl
  | 1, _ => rfl
  | 2, _ => rfl
  | 3, _ => rfl

theorem put32_nums (x : Nat) (hx : x < 2 ^ 32) : strOfNums [(x : Int) / 16777216, (x : Int) / 65536 % 256, (x : Int) / 256 % 256, (x : Int) % 256] = ⟨(Sha.put32 x).toArray⟩ := by
  have e : ∀ a : Int, ∀ b : Nat, a.toNat % 256 = b % 256 → UInt8.ofNat a.toNat = UInt8.ofNat b := fun a b h => by
    apply UInt8.toNat.inj; simpa using h
  unfold strOfNums Sha.put32
  simp only [List.map_cons, List.map_nil]
  rw [e _ (x / 16777216) (by omega), e _ (x / 65536) (by omega), e _ (x / 256) (by omega), e _ x (by omega)]

/-- Four bytes of a word. -/
theorem put32_any (y : Int) (w : World) (h0 : 0 ≤ y) (hy : y < 4294967296) :
    Calls Tryd.prog 40 #[.int .u32 y] w fun e w' => e = .returned (.string ⟨(Sha.put32 y.toNat).toArray⟩) ∧ Below w.heap.size w w' := by
  obtain ⟨x, rfl⟩ := Int.eq_ofNat_of_zero_le h0
  rw [Int.toNat_natCast]
  have hx : x < 2 ^ 32 := by omega
  have hcv := fun a0 a1 a2 a3 => conv4 a0 a1 a2 a3 w
  clear h0
  go_enter Tryd.func40, Tryd.ntmps40
  go_wp2
  go_ret
  exact ⟨congrArg (fun s => Ending.returned (.string s)) (put32_nums x hx), (Below.refl _ _).alloc (Nat.le_refl _) _⟩

theorem str_join (a b : List UInt8) : (⟨a.toArray⟩ : ByteArray) ++ ⟨b.toArray⟩ = ⟨(a ++ b).toArray⟩ := by
  apply ByteArray.ext; simp

theorem put64_any (y : Int) (w : World) (h0 : 0 ≤ y) (hy : y < 18446744073709551616) :
    Calls Tryd.prog 39 #[.int .u64 y] w fun e w' => e = .returned (.string ⟨(Sha.put64 y.toNat).toArray⟩) ∧ Below w.heap.size w w' := by
  go_enter Tryd.func39, Tryd.ntmps39
  go_wp2_with (go_at_call 40; refine (put32_any _ _ (by omega) (by omega)).mono ?_; rintro e w' ⟨rfl, hb⟩)
  go_ret
  have hb1 := ‹Below w.heap.size w _›
  have e1 : (y / 4294967296).toNat = y.toNat / 4294967296 % 4294967296 := by omega
  have e2 : (y % 4294967296).toNat = y.toNat % 4294967296 := by omega
  refine ⟨congrArg (fun s => Ending.returned (.string s)) ?_, hb1.trans (hb.mono hb1.size)⟩
  show (_ : ByteArray) ++ _ = _
  rw [str_join, e1, e2]
  rfl
end Go.Proofs.YtdiccgpgmddbdaaDoor
