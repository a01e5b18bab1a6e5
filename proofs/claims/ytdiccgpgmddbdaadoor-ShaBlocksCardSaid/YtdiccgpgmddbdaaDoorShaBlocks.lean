/- The walk of gantletlaw02.ShaBlocks: whatever two texts, it answers true. Condition: the two package tables lie as laid. -/
import Derived.Test.YtdiccgpgmddbdaaDoorShaCopies
import Derived.Test.YtdiccgpgmddbdaaDoorRefSum
namespace Go.Proofs.YtdiccgpgmddbdaaDoor
open Go.RowKit

theorem blocks_far (a b : ByteArray) (w : World) (ht : Tabs w) (h : 300 < a.size ∨ (a.size ≤ 300 ∧ 300 < b.size)) :
    Calls Tryd.prog 7 #[.string a, .string b] w fun e w' => e = .returned (.bool true) ∧ Below w.heap.size w w' := by
  have hsz := ht.size
  rcases h with h | ⟨h1, h⟩
  all_goals
    try have ia : (a.size : Int) ≤ 300 := by omega
    try have ja : (300 : Int) < a.size := by omega
    try have jb : (300 : Int) < b.size := by omega
    go_enter Tryd.func7, Tryd.ntmps7
    go_wp2_with fail
    refine (awake_any w ht).mono ?_
    rintro e w1 ⟨rfl, hb1⟩
    go_wp2_with fail
    refine (awake_any w1 (ht.keep hb1 hsz)).mono ?_
    rintro e w2 ⟨rfl, hb2⟩
    go_wp2
    go_ret
    exact ⟨rfl, hb1.trans (hb2.mono hb1.size)⟩

theorem take_one (l : List UInt8) (i : Nat) (h : i < l.length) : l.take (i + 1) = l.take i ++ [l[i]] := by
  rw [List.take_succ_eq_append_getElem h]
theorem extract_one (s : ByteArray) (i : Nat) (h : i < s.size) : (s.extract i (i + 1)).data.toList = [s.data.toList[i]'(by simpa using h)] := by
  have h1 : i < s.data.toList.length := by simpa using h
  simp [List.extract_eq_take_drop]
  rw [List.take_one, List.head?_drop]
  simp

set_option maxHeartbeats 800000 in
theorem blocks_near (a b : ByteArray) (w : World) (ht : Tabs w) (ha : a.size ≤ 300) (hb : b.size ≤ 300) :
    Calls Tryd.prog 7 #[.string a, .string b] w fun e w' => e = .returned (.bool true) ∧ Below w.heap.size w w' := by
  have hsz := ht.size
  have ia : (a.size : Int) ≤ 300 := by omega
  have ib : (b.size : Int) ≤ 300 := by omega
  obtain ⟨A, hA⟩ : ∃ A : ByteArray, A = ⟨(Sha.sum (a.data.toList ++ b.data.toList)).toArray⟩ := ⟨_, rfl⟩
  have hs2 : ∀ W : World, Calls Tryd.prog 15 #[.string (a ++ b)] W fun e w' => e = .returned (.string A) ∧ Below W.heap.size W w' := fun W => by
    have h := sum02_any (a ++ b) W (by simp; omega)
    rw [hA]
    have e : (a ++ b).data.toList = a.data.toList ++ b.data.toList := by simp
    rwa [e] at h
  have hx1 : ∀ (k : Nat) (W : World), Below w.heap.size w W → 2 ≤ k → HashAt W k ([] ++ a.data.toList ++ b.data.toList) → Calls Tryd.prog 19 #[.pointer (some ⟨k, 0, none⟩)] W fun e w' => e = .returned (.string A) ∧ Below W.heap.size W w' := fun k W hW hk h => by
    rw [hA]; exact sum_any k _ W (ht.keep hW hsz) hk h (by simp; omega)
  have hl1 : ∀ (k : Nat) (W : World), HashAt W k ([] ++ a.data.toList ++ b.data.toList) → Calls Tryd.prog 20 #[.pointer (some ⟨k, 0, none⟩)] W fun e w' => e = .returned (.int .u64 ((a.size : Int) + b.size)) ∧ W = w' := fun k W h => by
    have h1 := len_any k _ W h
    have e : ((([] ++ a.data.toList ++ b.data.toList).length : Nat) : Int) = (a.size : Int) + b.size := by simp
    rwa [e] at h1
  have HA := Lib.hid hA
  clear hA
  go_enter Tryd.func7, Tryd.ntmps7
  go_wp2_with fail
  refine (awake_any w ht).mono ?_
  rintro e w1 ⟨rfl, hb1⟩
  go_wp2_with fail
  refine (new_any w1 (ht.keep hb1 hsz)).mono ?_
  rintro e w2 ⟨h, rfl, hh, hk2, hb2⟩
  have hb2' : Below w.heap.size w w2 := hb1.trans (hb2.mono hb1.size)
  have hh' : w.heap.size ≤ h := Nat.le_trans hb1.size hh
  go_wp2_with fail
  refine (write_any h [] a w2 (ht.keep hb2' hsz) (by omega) hk2 (by simp; omega)).mono ?_
  rintro e w3 ⟨rfl, hk3, ho3⟩
  have hb3' : Below w.heap.size w w3 := hb2'.trans (ho3.below hb2'.size (fun k hk e => by omega))
  go_wp2_with fail
  refine (copy_ex h _ w3 hk3).mono ?_
  rintro e w4 ⟨k, rfl, hkl, hc4, hb4⟩
  have hkn : h ≠ k := fun e => Nat.lt_irrefl _ (Nat.lt_of_lt_of_le hk3.lt (e ▸ hkl))
  have hk2n : 2 ≤ k := Nat.le_trans (Nat.le_trans hsz hb3'.size) hkl
  have hkw : w.heap.size ≤ k := Nat.le_trans hb3'.size hkl
  have hb4' := hb3'.trans (hb4.mono hb3'.size)
  have hk4 := hk3.keep (hb4.block _ hk3.lt)
  have HC4 : Hid (HashAt w4 k ([] ++ a.data.toList ++ b.data.toList.take 0)) := by rw [List.take_zero, List.append_nil]; exact hc4
  have HK4 := Lib.hid hk4
  have hg2 : 2 ≤ h := by omega
  clear hk2 hk3 ho3 hb3' hb2' hb2 hb1 hb4 hk4 hc4 hh hkl
  go_wp2_with fail
  go_loopw [33] (fun vi wr => ∃ i : Nat, i ≤ b.size ∧ vi = .int .i64 i ∧ HashAt wr k ([] ++ a.data.toList ++ b.data.toList.take i) ∧ HashAt wr h ([] ++ a.data.toList) ∧ Below w.heap.size w wr) (fun vi _ => b.size - (intOf vi).toNat)
  case atStart => exact ⟨0, by omega, rfl, HC4.out, HK4.out, hb4'⟩
  case round =>
    clear HC4 HK4 hb4'
    obtain ⟨i, hi, rfl, hc, hk, hbr⟩ := hrel
    have HC := Lib.hid hc
    have HK := Lib.hid hk
    clear hc hk
    by_cases hlt : i < b.size
    · have hwr : ∀ W : World, W = wr → Calls Tryd.prog 18 #[.pointer (some ⟨k, 0, none⟩), .string (b.extract i (i + 1))] W fun e w' => e = .returned (.tuple #[]) ∧ HashAt w' k ([] ++ a.data.toList ++ b.data.toList.take (i + 1)) ∧ Only (· = k) wr w' := by
        rintro W rfl
        have h := write_any k _ (b.extract i (i + 1)) W (ht.keep hbr hsz) hk2n HC.out (by simp; omega)
        rw [extract_one b i hlt, List.append_assoc, ← take_one _ _ (by simpa using hlt)] at h
        exact h
      have t2 : ((i : Int) + 1).toNat = i + 1 := by omega
      have t3 : (0 : Int) ≤ (i : Int) + 1 := by omega
      have t4 : (i : Int) ≤ (i : Int) + 1 := by omega
      have t5 : (i : Int) + 1 ≤ (b.size : Int) := by omega
      go_wp2_with fail
      refine (hwr _ rfl).mono ?_
      rintro e w5 ⟨rfl, hc5, ho5⟩
      have HC5 := Lib.hid hc5
      have HK5 := Lib.hid (HK.out.keep (ho5.block h HK.out.lt hkn))
      have hb5 : Below w.heap.size w w5 := hbr.trans (ho5.below hbr.size (fun j hj e => by omega))
      clear hc5 hwr
      go_wp2
      go_roundw
      case rel => exact ⟨i + 1, by omega, by go_num, HC5.out, HK5.out, hb5⟩
      case measure => simp [intOf]; omega
    · obtain rfl : i = b.size := by omega
      have HC2 : Hid (HashAt wr k ([] ++ a.data.toList ++ b.data.toList)) := by
        have h := HC.out
        rwa [List.take_of_length_le (by simp)] at h
      clear HC hlt hi
      go_wp2_with fail
      refine (write_any h _ b wr (ht.keep hbr hsz) hg2 HK.out (by simp; omega)).mono ?_
      rintro e w5 ⟨rfl, hk5, ho5⟩
      have HK5 := Lib.hid hk5
      have HC5 := Lib.hid (HC2.out.keep (ho5.block k HC2.out.lt (fun e => hkn e.symm)))
      have hb5 : Below w.heap.size w w5 := hbr.trans (ho5.below hbr.size (fun j hj e => by omega))
      clear hk5
      go_wp2_with fail
      refine (hx1 h w5 hb5 hg2 HK5.out).mono ?_
      rintro e w6 ⟨rfl, hb6⟩
      have hb6' := hb5.trans (hb6.mono hb5.size)
      have HK6 := Lib.hid (HK5.out.keep (hb6.block _ HK5.out.lt))
      have HC6 := Lib.hid (HC5.out.keep (hb6.block _ HC5.out.lt))
      go_wp2_with fail
      refine (hx1 k w6 hb6' hk2n HC6.out).mono ?_
      rintro e w7 ⟨rfl, hb7⟩
      have hb7' := hb6'.trans (hb7.mono hb6'.size)
      have HK7 := Lib.hid (HK6.out.keep (hb7.block _ HK6.out.lt))
      have HC7 := Lib.hid (HC6.out.keep (hb7.block _ HC6.out.lt))
      go_wp2_with fail
      refine (hl1 h w7 HK7.out).mono ?_
      rintro e w8 ⟨rfl, rfl⟩
      go_wp2_with fail
      refine (hl1 k w7 HC7.out).mono ?_
      rintro e w8 ⟨rfl, rfl⟩
      go_wp2_with fail
      refine (hx1 h w7 hb7' hg2 HK7.out).mono ?_
      rintro e w8 ⟨rfl, hb8⟩
      have hb8' := hb7'.trans (hb8.mono hb7'.size)
      go_wp2_with fail
      refine (hs2 w8).mono ?_
      rintro e w9 ⟨rfl, hb9⟩
      go_wp2
      go_ret
      exact ⟨rfl, hb8'.trans (hb9.mono hb8'.size)⟩

theorem blocks_any (a b : ByteArray) (w : World) (ht : Tabs w) :
    Calls Tryd.prog 7 #[.string a, .string b] w fun e w' => e = .returned (.bool true) ∧ Below w.heap.size w w' := by
  by_cases h : 300 < a.size ∨ (a.size ≤ 300 ∧ 300 < b.size)
  · exact blocks_far a b w ht h
  · exact blocks_near a b w ht (by omega) (by omega)
#print axioms blocks_any
end Go.Proofs.YtdiccgpgmddbdaaDoor
