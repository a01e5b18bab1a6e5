/- Plain laws of the digest: blocks of what comes in parts. No Go, no memory. -/
import Derived.Test.YtdiccgpgmddbdaaDoorShaSpec
namespace Go.Proofs.YtdiccgpgmddbdaaDoor.Sha

/-- The state behind some whole blocks. -/
def stc (c : List UInt8) : S8 := blocks first c (c.length / 64)

theorem blocks_app (s : S8) (c x : List UInt8) (n : Nat) (h : 64 * n ≤ c.length) : blocks s (c ++ x) n = blocks s c n := by
  induction n with
  | zero => rfl
  | succ n ih =>
    unfold blocks
    rw [ih (by omega), List.drop_append_of_le_length (by omega), List.take_append_of_le_length (by simp; omega)]

theorem stc_block (c x : List UInt8) (hc : c.length % 64 = 0) (hx : x.length = 64) : stc (c ++ x) = mix (stc c) x := by
  unfold stc
  have h1 : (c ++ x).length / 64 = c.length / 64 + 1 := by simp [hx]
  have h2 : 64 * (c.length / 64) = c.length := by omega
  rw [h1]
  show mix (blocks first (c ++ x) (c.length / 64)) _ = _
  rw [blocks_app _ _ _ _ (by omega), h2, List.drop_left, List.take_of_length_le (by omega)]

theorem stc_short (c r : List UInt8) (hc : c.length % 64 = 0) (hr : r.length < 64) : blocks first (c ++ r) ((c ++ r).length / 64) = stc c := by
  unfold stc
  have h1 : (c ++ r).length / 64 = c.length / 64 := by simp; omega
  rw [h1, blocks_app _ _ _ _ (by omega)]

theorem put32_len (x : Nat) : (put32 x).length = 4 := rfl
theorem put64_len (x : Nat) : (put64 x).length = 8 := rfl
theorem pad_len (b : List UInt8) : (pad b).length % 64 = 0 := by
  unfold pad zeros
  simp [put64_len]
  omega
/-- The digest by whole blocks. -/
theorem sum_eq (b : List UInt8) : sum b = out8 (stc (pad b)) := rfl
theorem out8_len (s : S8) : (out8 s).length = 32 := rfl
theorem sum_len (b : List UInt8) : (sum b).length = 32 := rfl
end Go.Proofs.YtdiccgpgmddbdaaDoor.Sha
