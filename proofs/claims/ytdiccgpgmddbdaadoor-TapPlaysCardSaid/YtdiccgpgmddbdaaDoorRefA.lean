/- The walks of the references' small functions: Prime, Turn, turn, half, at. -/
import Derived.Test.YtdiccgpgmddbdaaDoorRefNum
import Derived.Test.YtdiccgpgmddbdaaDoorOwn
import Derived.Outline
namespace Go.Proofs.YtdiccgpgmddbdaaDoor
open Go.RowKit

theorem prime_any (n : Nat) (w : World) (hn : n ≤ 400) :
    Calls Tryd.prog 23 #[.int .u64 (n : Int)] w fun e w' => e = .returned (.bool (Num.prime n)) ∧ w = w' := by
  by_cases h2 : n < 2
  · have hp : Num.prime n = false := by unfold Num.prime; simp; omega
    have HP := Lib.hid hp
    have h2' : (n : Int) < 2 := by omega
    clear hp
    go_enter Tryd.func23, Tryd.ntmps23
    go_wp2
    go_ret
    exact ⟨ret_bool HP.out.symm, rfl⟩
  · have hp : Num.prime n = Num.tried n 20 2 := by unfold Num.prime; simp; omega
    have HP := Lib.hid hp
    have h2' : ¬ (n : Int) < 2 := by omega
    clear hp
    go_enter Tryd.func23, Tryd.ntmps23
    go_wp2
    go_loop [3] (fun v => ∃ d : Nat, 2 ≤ d ∧ d ≤ 21 ∧ v = .int .u64 d ∧ Num.tried n (22 - d) d = Num.tried n 20 2) (fun v => 22 - (intOf v).toNat)
    case atStart => exact ⟨2, by omega, by omega, rfl, rfl⟩
    case round =>
      obtain ⟨d, hd1, hd2, rfl, ht⟩ := hrel
      have hs : Num.tried n (22 - d) d = if n < d * d then true else if n % d = 0 then false else Num.tried n (22 - (d + 1)) (d + 1) := by
        rw [show 22 - d = (22 - (d + 1)) + 1 by omega]; rfl
      rw [hs] at ht
      have hq1 : d * d ≤ 441 := by
        have := Nat.mul_le_mul hd2 hd2
        omega
      obtain ⟨q, hq⟩ : ∃ q, q = d * d := ⟨_, rfl⟩
      have hm : IntKind.u64.wrap ((d : Int) * (d : Int)) = (q : Int) := by rw [hq, IntKind.wrap_u64]; omega
      rw [← hq] at ht hq1
      have hq2 : d = 21 → q = 441 := fun e => by rw [hq, e]
      have HQ := Lib.hid hq2
      have HT := Lib.hid ht
      clear ht hs hq hq2
      by_cases h1 : n < q
      · have h1' : ¬ (q : Int) ≤ (n : Int) := by omega
        go_wp2
        go_ret
        have := HT.out
        rw [if_pos h1] at this
        exact ⟨ret_bool (by rw [HP.out, ← this]), rfl⟩
      · have h1' : (q : Int) ≤ (n : Int) := by omega
        by_cases h3 : n % d = 0
        · have h3' : (n : Int) % (d : Int) = 0 := by omega
          go_wp2
          go_ret
          have := HT.out
          rw [if_neg h1, if_pos h3] at this
          exact ⟨ret_bool (by rw [HP.out, ← this]), rfl⟩
        · have h3' : ¬ (n : Int) % (d : Int) = 0 := by omega
          go_wp2
          go_round
          case rel =>
            have := HT.out
            rw [if_neg h1, if_neg h3] at this
            exact ⟨d + 1, by omega, by have := HQ.out; omega, by go_num, this⟩
          case measure => simp [intOf]; omega

theorem refTurn_any (x n : Nat) (w : World) (hx : x < 4294967296) (hn : n < 32) :
    Calls Tryd.prog 49 #[.int .u32 (x : Int), .int .i64 (n : Int)] w fun e w' => e = .returned (.int .u32 (Sha.rotr x n : Nat)) ∧ w = w' := by
  have hm : (n : Int) % 32 = n := by omega
  go_enter Tryd.func49, Tryd.ntmps49
  go_wp2
  go_loop [0, 5] (fun v i => ∃ k : Nat, k ≤ n ∧ i = .int .i64 k ∧ v = .int .u32 (Sha.rotr x k : Nat)) (fun _ i => n - (intOf i).toNat)
  case atStart => exact ⟨0, by omega, rfl, by rw [Num.rotr_zero]⟩
  case round =>
    obtain ⟨k, hk, rfl, rfl⟩ := hrel
    have hl := Num.rotr_lt x k hx (by omega)
    by_cases hlt : k < n
    · have hs := Num.rotr_next x k (by omega)
      have HS := Lib.hid hs
      clear hs
      generalize Sha.rotr x k = y at *
      by_cases h1 : y % 2 = 1
      · have h1' : (y : Int) % 2 = 1 := by omega
        go_wp2
        go_round
        case rel => exact ⟨k + 1, by omega, by go_num, by rw [← HS.out, h1]; go_num⟩
        case measure => simp [intOf]; omega
      · have h1' : (y : Int) % 2 = 0 := by omega
        have h1'' : y % 2 = 0 := by omega
        go_wp2
        go_round
        case rel => exact ⟨k + 1, by omega, by go_num, by rw [← HS.out, h1'']; go_num⟩
        case measure => simp [intOf]; omega
    · obtain rfl : k = n := by omega
      clear hlt
      go_wp2
      go_ret
      exact ⟨rfl, rfl⟩
theorem turn2_any (x n : Nat) (w : World) (hx : x < 4294967296) (hn : n < 32) :
    Calls Tryd.prog 44 #[.int .u32 (x : Int), .int .i64 (n : Int)] w fun e w' => e = .returned (.int .u32 (Sha.rotr x n : Nat)) ∧ w = w' := by
  go_enter Tryd.func44, Tryd.ntmps44
  go_wp2_with (go_at_call 49; refine (refTurn_any x n _ hx hn).mono ?_; rintro e w1 ⟨rfl, rfl⟩)
  go_ret
  exact ⟨rfl, rfl⟩
theorem half_any (x n : Nat) (w : World) (hx : x < 4294967296) (hn : n < 32) :
    Calls Tryd.prog 45 #[.int .u32 (x : Int), .int .i64 (n : Int)] w fun e w' => e = .returned (.int .u32 (Num.half x n : Nat)) ∧ w = w' := by
  go_enter Tryd.func45, Tryd.ntmps45
  go_wp2
  go_loop [0, 5] (fun v i => ∃ k : Nat, k ≤ n ∧ i = .int .i64 k ∧ v = .int .u32 (Num.half x k : Nat)) (fun _ i => n - (intOf i).toNat)
  case atStart => exact ⟨0, by omega, rfl, by simp [Num.half]⟩
  case round =>
    obtain ⟨k, hk, rfl, rfl⟩ := hrel
    have hl : Num.half x k < 4294967296 := Nat.lt_of_le_of_lt (Num.half_le _ _) hx
    by_cases hlt : k < n
    · have hs := Num.half_next x k
      have HS := Lib.hid hs
      clear hs
      generalize Num.half x k = y at *
      go_wp2
      go_round
      case rel => exact ⟨k + 1, by omega, by go_num, by rw [HS.out]; go_num⟩
      case measure => simp [intOf]; omega
    · obtain rfl : k = n := by omega
      clear hlt
      go_wp2
      go_ret
      exact ⟨rfl, rfl⟩
theorem at_any (g cap : Nat) (l : List Nat) (i : Nat) (w : World) (h : ∀ j, j < l.length → w.cell? ⟨g, j, none⟩ = some (.int .i64 (l.getD j 0 : Nat))) :
    Calls Tryd.prog 48 #[.slice (some ⟨g, 0, none⟩) l.length cap, .int .i64 (i : Int)] w fun e w' => e = .returned (.int .i64 (l.getD i 0 : Nat)) ∧ w = w' := by
  by_cases hlt : i < l.length
  · have c := h i hlt
    clear h
    generalize l.getD i 0 = y at *
    go_enter Tryd.func48, Tryd.ntmps48
    go_wp2
    go_ret
    exact ⟨rfl, rfl⟩
  · have h0 : l.getD i 0 = 0 := by rw [List.getD_eq_getElem?_getD, List.getElem?_eq_none (by omega)]; rfl
    rw [h0]
    clear h h0
    go_enter Tryd.func48, Tryd.ntmps48
    go_wp2
    go_ret
    exact ⟨rfl, rfl⟩
#print axioms at_any
end Go.Proofs.YtdiccgpgmddbdaaDoor
