/- The walks of the references' bytes, Put, atMost. -/
import Derived.Test.YtdiccgpgmddbdaaDoorRefA
namespace Go.Proofs.YtdiccgpgmddbdaaDoor
open Go.RowKit

set_option maxHeartbeats 400000 in
theorem bytes_any (n : Nat) (w : World) (hn : n < 18446744073709551616) :
    Calls Tryd.prog 41 #[.int .u64 (n : Int)] w fun e w' => ∃ g cap, e = .returned (.slice (some ⟨g, 0, none⟩) 8 cap) ∧ w'.ownsRow w.heap.size 3 1 (.slice (some ⟨g, 0, none⟩) 8 cap) 8 (i64s (Num.digs 8 n)) ∧ Below w.heap.size w w' := by
  obtain ⟨i0, hi, hz0, hz1, hz2⟩ := info_parts info_i64
  have HN := Lib.hid hn
  clear hn
  go_enter Tryd.func41, Tryd.ntmps41
  go_wp2
  go_loopw [0, 3, 4] (fun x v i wr => ∃ k : Nat, k ≤ 8 ∧ i = .int .i64 k ∧ x = .int .u64 (n / 256 ^ k : Nat) ∧ wr.ownsRow w.heap.size 3 1 v k (i64s (Num.digs k n)) ∧ Below w.heap.size w wr) (fun _ _ i _ => 8 - (intOf i).toNat)
  case atStart => exact ⟨0, by omega, rfl, by simp, own_lit w _ [] 0 _ rfl (Nat.le_refl _) (by unfold maxLen; omega), (Below.refl _ _).alloc (Nat.le_refl _) _⟩
  case round =>
    obtain ⟨k, hk, rfl, rfl, hown, hb⟩ := hrel
    have hdv : n / 256 ^ k < 18446744073709551616 := Nat.lt_of_le_of_lt (Nat.div_le_self _ _) HN.out
    have hsn := Num.digs_snoc k n
    have hnx : n / 256 ^ (k + 1) = n / 256 ^ k / 256 := by rw [Nat.pow_succ, Nat.div_div_eq_div_mul]
    have HS := Lib.hid hsn
    have HX := Lib.hid hnx
    have HO := Lib.hid hown
    have hbs := hb.size
    clear hsn hnx hown
    by_cases hlt : k < 8
    · generalize n / 256 ^ k = y at *
      have hy : (y : Int) ≤ 18446744073709551615 := by omega
      clear hdv
      have HY := Lib.hid hy
      clear hy
      go_wp2_with (at_builtin; refine wpList_append_mine rfl _ _ 66 rfl w.heap.size 3 i0 (.int .i64 0) 1 8 Tryd.underlying66 hi hz0 hz1 hz2 rfl (by decide) _ k _ rfl (HO.out.alloc _) ⟨wr.heap.size, 0, none⟩ 1 1 [.int .i64 ((y : Int) % 256)] rfl rfl (cells_new _ [.int .i64 ((y : Int) % 256)] _) (fun x hx => by simp at hx; subst hx; rfl) (by omega) (by unfold maxLen; omega) (by omega) (by simp; omega) ?grow)
      intro g cap' w1 hown1 hgrow1 hg1 hg2
      have hb1 : Below w.heap.size w w1 := (hb.alloc hbs _).grown hgrow1 (by simp; omega) (fun j e => (HO.out.lt j e).1)
      have HO1 := Lib.hid hown1
      clear hgrow1 hg1 hg2 hown1 hb
      go_wp2
      go_roundw
      case rel =>
        refine ⟨k + 1, by omega, by go_num, by rw [HX.out, IntKind.wrap_u64]; congr 1; have := HY.out; omega, own_xs HO1.out rfl ?_, hb1⟩
        rw [HS.out, ← i64s_snoc]; rfl
      case measure => simp [intOf]; omega
    · obtain rfl : k = 8 := by omega
      clear hlt
      go_wp2
      go_ret
      obtain ⟨g, cap, hv⟩ := own_shows HO.out (by omega)
      exact ⟨g, cap, congrArg Ending.returned hv, hv ▸ HO.out, hb⟩

set_option maxHeartbeats 400000 in
theorem put_any (x n : Nat) (w : World) (hx : x < 18446744073709551616) (hn : n ≤ 8) :
    Calls Tryd.prog 37 #[.int .u64 (x : Int), .int .i64 (n : Int)] w fun e w' => e = .returned (.string ⟨(Num.put n x).toArray⟩) ∧ Below w.heap.size w w' := by
  obtain ⟨i0, hi, hz0, hz1, hz2⟩ := info_parts info_u8
  have HN := Lib.hid hx
  clear hx
  go_enter Tryd.func37, Tryd.ntmps37
  go_wp2
  go_loopw [0, 5, 6] (fun y v i wr => ∃ k g cap : Nat, k ≤ n ∧ i = .int .i64 k ∧ y = .int .u64 (x / 256 ^ k : Nat) ∧ v = .slice (some ⟨g, 0, none⟩) k cap ∧ wr.ownsRow w.heap.size 5 1 (.slice (some ⟨g, 0, none⟩) k cap) k (u8s (Num.put k x)) ∧ Below w.heap.size w wr) (fun _ _ i _ => n - (intOf i).toNat)
  case atStart => exact ⟨0, w.heap.size, 0, by omega, rfl, by simp, rfl, own_lit w _ [] 0 _ rfl (Nat.le_refl _) (by unfold maxLen; omega), (Below.refl _ _).alloc (Nat.le_refl _) _⟩
  case round =>
    obtain ⟨k, g0, cap0, hk, rfl, rfl, rfl, hown, hb⟩ := hrel
    have hdv : x / 256 ^ k < 18446744073709551616 := Nat.lt_of_le_of_lt (Nat.div_le_self _ _) HN.out
    have hsn : Num.put (k + 1) x = UInt8.ofNat (x / 256 ^ k % 256) :: Num.put k x := rfl
    have hnx : x / 256 ^ (k + 1) = x / 256 ^ k / 256 := by rw [Nat.pow_succ, Nat.div_div_eq_div_mul]
    have HS := Lib.hid hsn
    have HX := Lib.hid hnx
    have HO := Lib.hid hown
    have hbs := hb.size
    clear hsn hnx hown
    by_cases hlt : k < n
    · generalize x / 256 ^ k = y at *
      have hy : (y : Int) ≤ 18446744073709551615 := by omega
      have HY := Lib.hid hy
      clear hdv hy
      go_wp2_with (at_builtin; refine wpList_append_mine rfl _ _ 70 rfl w.heap.size 5 i0 (.int .u8 0) 1 1 Tryd.underlying70 hi hz0 hz1 hz2 rfl (by decide) (.slice (some ⟨wr.heap.size, 0, none⟩) 1 1) 1 [.int .u8 ((y : Int) % 256)] rfl (own_lit wr _ [.int .u8 ((y : Int) % 256)] 1 _ rfl hbs (by unfold maxLen; omega)) ⟨g0, 0, none⟩ k cap0 (u8s (Num.put k x)) rfl ?c1 ?c2 (u8s_one _) (by omega) (by unfold maxLen; omega) (by omega) (by simp; omega) ?grow)
      case c1 => simp [Num.put_len]
      case c2 => exact (HO.out.alloc _).cells (g := g0) rfl
      case grow =>
        intro g cap' w1 hown1 hgrow1 hg1 hg2
        have hb1 : Below w.heap.size w w1 := (hb.alloc hbs _).grown hgrow1 (by simp; omega) (fun j e => by cases e; exact hbs)
        have HO1 := Lib.hid hown1
        clear hgrow1 hg1 hg2 hown1 hb
        go_wp2
        go_roundw
        case rel =>
          refine ⟨k + 1, g, cap', by omega, by go_num, by rw [HX.out, IntKind.wrap_u64]; congr 1; have := HY.out; omega, by rw [Nat.add_comm], ?_, hb1⟩
          have h := HO1.out
          rw [Nat.add_comm 1 k] at h
          refine own_xs h rfl ?_
          rw [HS.out]
          simp [u8s]
        case measure => simp [intOf]; omega
    · obtain rfl : k = n := by omega
      have hcv := own_string (l := Num.put k x) (by rw [Num.put_len]; exact HO.out)
      clear hlt hdv
      go_wp2
      go_ret
      exact ⟨rfl, hb⟩
#print axioms put_any

set_option maxHeartbeats 400000 in
theorem atMost_any (ga ca gb cb : Nat) (a b : List Nat) (w : World) (ha : Num.Small a) (hb : Num.Small b) (la : a.length ≤ 40) (lb : b.length ≤ 40)
    (hca : ∀ j, j < a.length → w.cell? ⟨ga, j, none⟩ = some (.int .i64 (a.getD j 0 : Nat))) (hcb : ∀ j, j < b.length → w.cell? ⟨gb, j, none⟩ = some (.int .i64 (b.getD j 0 : Nat))) :
    Calls Tryd.prog 43 #[.slice (some ⟨ga, 0, none⟩) a.length ca, .slice (some ⟨gb, 0, none⟩) b.length cb] w fun e w' => e = .returned (.bool (decide (Num.val a ≤ Num.val b))) ∧ w = w' := by
  have HA := Lib.hid ha
  have HB := Lib.hid hb
  have hfa : ∀ i : Nat, Calls Tryd.prog 48 #[.slice (some ⟨ga, 0, none⟩) a.length ca, .int .i64 (i : Int)] w fun e w' => e = .returned (.int .i64 (a.getD i 0 : Nat)) ∧ w = w' := fun i => at_any ga ca a i w hca
  have hfb : ∀ i : Nat, Calls Tryd.prog 48 #[.slice (some ⟨gb, 0, none⟩) b.length cb, .int .i64 (i : Int)] w fun e w' => e = .returned (.int .i64 (b.getD i 0 : Nat)) ∧ w = w' := fun i => at_any gb cb b i w hcb
  have HLA := Lib.hid la
  have HLB := Lib.hid lb
  clear ha hb hca hcb la lb
  go_enter Tryd.func43, Tryd.ntmps43
  go_wp2
  go_loop [5] (fun i => ∃ k : Nat, k ≤ 40 ∧ i = .int .i64 ((k : Int) - 1) ∧ Num.val (a.drop k) = Num.val (b.drop k)) (fun i => (intOf i + 1).toNat)
  case atStart => exact ⟨40, by omega, rfl, by rw [List.drop_of_length_le HLA.out, List.drop_of_length_le HLB.out]⟩
  case round =>
    obtain ⟨k, hk, rfl, hv⟩ := hrel
    have HV := Lib.hid hv
    clear hv
    cases k with
    | zero =>
      have hd : decide (Num.val a ≤ Num.val b) = true := by
        have := HV.out
        simp at this
        simp [this]
      have HD := Lib.hid hd
      clear hd
      go_wp2
      go_ret
      exact ⟨ret_bool HD.out.symm, rfl⟩
    | succ i =>
      rw [show (((i + 1 : Nat) : Int) - 1) = (i : Int) by omega]
      have f1 := hfa i
      have f2 := hfb i
      obtain ⟨x, hx⟩ : ∃ x, x = a.getD i 0 := ⟨_, rfl⟩
      obtain ⟨y, hy⟩ : ∃ y, y = b.getD i 0 := ⟨_, rfl⟩
      rw [← hx] at f1
      rw [← hy] at f2
      have HX := Lib.hid hx
      have HY := Lib.hid hy
      clear hx hy hfa hfb
      have hk' : (i : Int) < 40 := by omega
      by_cases he : x = y
      · subst he
        go_wp2_with fail
        refine f1.mono ?_
        rintro e w1 ⟨rfl, rfl⟩
        go_wp2_with fail
        refine f2.mono ?_
        rintro e w1 ⟨rfl, rfl⟩
        clear f1 f2
        go_wp2
        go_round
        case rel => exact ⟨i, by omega, by go_num, by rw [Num.val_drop a, Num.val_drop b, ← HX.out, ← HY.out, HV.out]⟩
        case measure => simp [intOf]
      · have he1 : ((x : Int) == (y : Int)) = false := by simp; omega
        have he2 : ((x : Int) != (y : Int)) = true := by simp; omega
        have hd : decide ((x : Int) < (y : Int)) = decide (Num.val a ≤ Num.val b) := by
          rcases Nat.lt_or_gt_of_ne he with h | h
          · have := Num.part_lt HA.out HV.out (by rw [← HX.out, ← HY.out]; exact h)
            simp; omega
          · have := Num.part_lt HB.out HV.out.symm (by rw [← HX.out, ← HY.out]; exact h)
            simp; omega
        have HD := Lib.hid hd
        clear hd
        go_wp2_with fail
        refine f1.mono ?_
        rintro e w1 ⟨rfl, rfl⟩
        go_wp2_with fail
        refine f2.mono ?_
        rintro e w1 ⟨rfl, rfl⟩
        go_wp2_with fail
        refine f1.mono ?_
        rintro e w1 ⟨rfl, rfl⟩
        go_wp2_with fail
        refine f2.mono ?_
        rintro e w1 ⟨rfl, rfl⟩
        clear f1 f2
        go_wp2
        go_ret
        refine ⟨?_, rfl⟩
        rw [← HD.out]
        first | exact ret_bool (by simp) | rfl
#print axioms atMost_any
end Go.Proofs.YtdiccgpgmddbdaaDoor
