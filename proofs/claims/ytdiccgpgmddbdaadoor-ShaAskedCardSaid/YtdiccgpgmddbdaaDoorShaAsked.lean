/- The walk of gantletlaw02.ShaAsked: whatever two texts, it answers true. Condition: the two package tables lie as laid. -/
import Derived.Test.YtdiccgpgmddbdaaDoorShaAwake
namespace Go.Proofs.YtdiccgpgmddbdaaDoor
open Go.RowKit

theorem asked_far (a b : ByteArray) (w : World) (ht : Tabs w) (h : 500 < a.size ∨ 500 < b.size) :
    Calls Tryd.prog 8 #[.string a, .string b] w fun e w' => e = .returned (.bool true) ∧ Below w.heap.size w w' := by
  have hsz := ht.size
  by_cases h1 : (500 : Int) < a.size
  all_goals
    try have h2 : (500 : Int) < b.size := by omega
    go_enter Tryd.func8, Tryd.ntmps8
    go_wp2_with (go_at_call 17; refine (new_any _ ht).mono ?_; rintro e w1 ⟨k, rfl, hk, hk1, hb1⟩)
    refine (awake_any w1 (ht.keep hb1 hsz)).mono ?_
    rintro e w2 ⟨rfl, hb2⟩
    have hb2' : Below w.heap.size w w2 := hb1.trans (hb2.mono hb1.size)
    go_wp2_with fail
    refine (awake_any w2 (ht.keep hb2' hsz)).mono ?_
    rintro e w3 ⟨rfl, hb3⟩
    go_wp2
    go_ret
    exact ⟨rfl, hb2'.trans (hb3.mono hb2'.size)⟩

theorem asked_near (a b : ByteArray) (w : World) (ht : Tabs w) (ha : a.size ≤ 500) (hb : b.size ≤ 500) :
    Calls Tryd.prog 8 #[.string a, .string b] w fun e w' => e = .returned (.bool true) ∧ Below w.heap.size w w' := by
  have hsz := ht.size
  have ia : (a.size : Int) ≤ 500 := by omega
  have ib : (b.size : Int) ≤ 500 := by omega
  obtain ⟨A, hA⟩ : ∃ A : ByteArray, A = ⟨(Sha.sum a.data.toList).toArray⟩ := ⟨_, rfl⟩
  obtain ⟨D, hD⟩ : ∃ D : ByteArray, D = ⟨(Sha.sum (a.data.toList ++ b.data.toList)).toArray⟩ := ⟨_, rfl⟩
  have hA1 : A.size = 32 := by rw [hA]; rfl
  have hs1 : ∀ W : World, Below w.heap.size w W → Calls Tryd.prog 14 #[.string a] W fun e w' => e = .returned (.string A) ∧ Below W.heap.size W w' := fun W hW => by
    rw [hA]; exact sumOf_any a W (ht.keep hW hsz) (by omega)
  have hs2 : ∀ W : World, Below w.heap.size w W → Calls Tryd.prog 14 #[.string (a ++ b)] W fun e w' => e = .returned (.string D) ∧ Below W.heap.size W w' := fun W hW => by
    have h := sumOf_any (a ++ b) W (ht.keep hW hsz) (by simp; omega)
    rw [hD]
    have e : (a ++ b).data.toList = a.data.toList ++ b.data.toList := by simp
    rwa [e] at h
  have hx1 : ∀ (k : Nat) (W : World), Below w.heap.size w W → 2 ≤ k → HashAt W k ([] ++ a.data.toList) → Calls Tryd.prog 19 #[.pointer (some ⟨k, 0, none⟩)] W fun e w' => e = .returned (.string A) ∧ Below W.heap.size W w' := fun k W hW hk h => by
    rw [hA]; exact sum_any k _ W (ht.keep hW hsz) hk h (by simp; omega)
  have hx2 : ∀ (k : Nat) (W : World), Below w.heap.size w W → 2 ≤ k → HashAt W k ([] ++ a.data.toList ++ b.data.toList) → Calls Tryd.prog 19 #[.pointer (some ⟨k, 0, none⟩)] W fun e w' => e = .returned (.string D) ∧ Below W.heap.size W w' := fun k W hW hk h => by
    rw [hD]; exact sum_any k _ W (ht.keep hW hsz) hk h (by simp; omega)
  have HA := Lib.hid hA
  have HD := Lib.hid hD
  clear hA hD
  go_enter Tryd.func8, Tryd.ntmps8
  go_wp2_with (go_at_call 17; refine (new_any _ ht).mono ?_; rintro e w1 ⟨k, rfl, hk, hk1, hb1⟩)
  refine (awake_any w1 (ht.keep hb1 hsz)).mono ?_
  rintro e w2 ⟨rfl, hb2⟩
  have hb2' : Below w.heap.size w w2 := hb1.trans (hb2.mono hb1.size)
  have hk2 := hk1.keep (hb2.block _ hk1.lt)
  go_wp2_with fail
  refine (write_any k [] a w2 (ht.keep hb2' hsz) (by omega) hk2 (by simp; omega)).mono ?_
  rintro e w3 ⟨rfl, hk3, ho3⟩
  have hb3' : Below w.heap.size w w3 := hb2'.trans (ho3.below hb2'.size (fun k hk e => by omega))
  go_wp2_with fail
  refine (hx1 k w3 hb3' (by omega) hk3).mono ?_
  rintro e w4 ⟨rfl, hb4⟩
  have hb4' := hb3'.trans (hb4.mono hb3'.size)
  have hk4 := hk3.keep (hb4.block _ hk3.lt)
  go_wp2_with fail
  refine (hx1 k w4 hb4' (by omega) hk4).mono ?_
  rintro e w5 ⟨rfl, hb5⟩
  have hb5' := hb4'.trans (hb5.mono hb4'.size)
  have hk5 := hk4.keep (hb5.block _ hk4.lt)
  go_wp2_with fail
  refine (write_any k _ b w5 (ht.keep hb5' hsz) (by omega) hk5 (by simp; omega)).mono ?_
  rintro e w6 ⟨rfl, hk6, ho6⟩
  have hb6' : Below w.heap.size w w6 := hb5'.trans (ho6.below hb5'.size (fun k hk e => by omega))
  go_wp2_with fail
  refine (hs1 w6 hb6').mono ?_
  rintro e w7 ⟨rfl, hb7⟩
  have hb7' := hb6'.trans (hb7.mono hb6'.size)
  have hk7 := hk6.keep (hb7.block _ hk6.lt)
  go_wp2_with fail
  refine (hx2 k w7 hb7' (by omega) hk7).mono ?_
  rintro e w8 ⟨rfl, hb8⟩
  have hb8' := hb7'.trans (hb8.mono hb7'.size)
  have hk8 := hk7.keep (hb8.block _ hk7.lt)
  go_wp2_with fail
  refine (hs2 w8 hb8').mono ?_
  rintro e w9 ⟨rfl, hb9⟩
  have hb9' := hb8'.trans (hb9.mono hb8'.size)
  have hk9 := hk8.keep (hb9.block _ hk8.lt)
  have hlen : Calls Tryd.prog 20 #[.pointer (some ⟨k, 0, none⟩)] w9 fun e w' => e = .returned (.int .u64 ((a.size : Int) + b.size)) ∧ w9 = w' := by
    have h := len_any k _ w9 hk9
    have e : ((([] ++ a.data.toList ++ b.data.toList).length : Nat) : Int) = (a.size : Int) + b.size := by simp
    rwa [e] at h
  go_wp2_with fail
  refine hlen.mono ?_
  rintro e w10 ⟨rfl, rfl⟩
  go_wp2
  go_ret
  exact ⟨rfl, hb9'⟩

theorem asked_any (a b : ByteArray) (w : World) (ht : Tabs w) :
    Calls Tryd.prog 8 #[.string a, .string b] w fun e w' => e = .returned (.bool true) ∧ Below w.heap.size w w' := by
  by_cases h : 500 < a.size ∨ 500 < b.size
  · exact asked_far a b w ht h
  · exact asked_near a b w ht (by omega) (by omega)
#print axioms asked_any
end Go.Proofs.YtdiccgpgmddbdaaDoor
