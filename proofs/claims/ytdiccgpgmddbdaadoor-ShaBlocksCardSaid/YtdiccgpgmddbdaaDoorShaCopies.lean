/- The walk of gantletlaw02.ShaCopies: whatever three texts, it answers true. Condition: the two package tables lie as laid. -/
import Derived.Test.YtdiccgpgmddbdaaDoorShaAwake
namespace Go.Proofs.YtdiccgpgmddbdaaDoor
open Go.RowKit

theorem copies_far (a b c : ByteArray) (w : World) (ht : Tabs w) (h : 500 < a.size ∨ (a.size ≤ 500 ∧ 500 < b.size) ∨ (a.size ≤ 500 ∧ b.size ≤ 500 ∧ 500 < c.size)) :
    Calls Tryd.prog 5 #[.string a, .string b, .string c] w fun e w' => e = .returned (.bool true) ∧ Below w.heap.size w w' := by
  have hsz := ht.size
  rcases h with h | ⟨h1, h⟩ | ⟨h1, h2, h⟩
  all_goals
    try have ia : (a.size : Int) ≤ 500 := by omega
    try have ib : (b.size : Int) ≤ 500 := by omega
    try have ja : (500 : Int) < a.size := by omega
    try have jb : (500 : Int) < b.size := by omega
    try have jc : (500 : Int) < c.size := by omega
    go_enter Tryd.func5, Tryd.ntmps5
    go_wp2_with (go_at_call 13; refine (awake_any w ht).mono ?_; rintro e w1 ⟨rfl, hb1⟩)
    refine (awake_any w1 (ht.keep hb1 hsz)).mono ?_
    rintro e w2 ⟨rfl, hb2⟩
    go_wp2
    go_ret
    exact ⟨rfl, hb1.trans (hb2.mono hb1.size)⟩

theorem copy_ex (b : Nat) (m : List UInt8) (w : World) (h : HashAt w b m) :
    Calls Tryd.prog 21 #[.pointer (some ⟨b, 0, none⟩)] w fun e w' => ∃ k, e = .returned (.pointer (some ⟨k, 0, none⟩)) ∧ w.heap.size ≤ k ∧ HashAt w' k m ∧ Below w.heap.size w w' :=
  (copy_any b m w h).mono fun _ _ ⟨h1, h2, h3, _⟩ => ⟨_, h1, Nat.le_refl _, h2, h3⟩

set_option maxHeartbeats 400000 in
theorem copies_near (a b c : ByteArray) (w : World) (ht : Tabs w) (ha : a.size ≤ 500) (hb : b.size ≤ 500) (hc : c.size ≤ 500) :
    Calls Tryd.prog 5 #[.string a, .string b, .string c] w fun e w' => e = .returned (.bool true) ∧ Below w.heap.size w w' := by
  have hsz := ht.size
  have ia : (a.size : Int) ≤ 500 := by omega
  have ib : (b.size : Int) ≤ 500 := by omega
  have ic : (c.size : Int) ≤ 500 := by omega
  obtain ⟨A, hA⟩ : ∃ A : ByteArray, A = ⟨(Sha.sum (a.data.toList ++ b.data.toList)).toArray⟩ := ⟨_, rfl⟩
  obtain ⟨D, hD⟩ : ∃ D : ByteArray, D = ⟨(Sha.sum (a.data.toList ++ c.data.toList)).toArray⟩ := ⟨_, rfl⟩
  have hs1 : ∀ W : World, Below w.heap.size w W → Calls Tryd.prog 14 #[.string (a ++ b)] W fun e w' => e = .returned (.string A) ∧ Below W.heap.size W w' := fun W hW => by
    have h := sumOf_any (a ++ b) W (ht.keep hW hsz) (by simp; omega)
    rw [hA]
    have e : (a ++ b).data.toList = a.data.toList ++ b.data.toList := by simp
    rwa [e] at h
  have hs2 : ∀ W : World, Below w.heap.size w W → Calls Tryd.prog 14 #[.string (a ++ c)] W fun e w' => e = .returned (.string D) ∧ Below W.heap.size W w' := fun W hW => by
    have h := sumOf_any (a ++ c) W (ht.keep hW hsz) (by simp; omega)
    rw [hD]
    have e : (a ++ c).data.toList = a.data.toList ++ c.data.toList := by simp
    rwa [e] at h
  have hx1 : ∀ (k : Nat) (W : World), Below w.heap.size w W → 2 ≤ k → HashAt W k ([] ++ a.data.toList ++ b.data.toList) → Calls Tryd.prog 19 #[.pointer (some ⟨k, 0, none⟩)] W fun e w' => e = .returned (.string A) ∧ Below W.heap.size W w' := fun k W hW hk h => by
    rw [hA]; exact sum_any k _ W (ht.keep hW hsz) hk h (by simp; omega)
  have hx2 : ∀ (k : Nat) (W : World), Below w.heap.size w W → 2 ≤ k → HashAt W k ([] ++ a.data.toList ++ c.data.toList) → Calls Tryd.prog 19 #[.pointer (some ⟨k, 0, none⟩)] W fun e w' => e = .returned (.string D) ∧ Below W.heap.size W w' := fun k W hW hk h => by
    rw [hD]; exact sum_any k _ W (ht.keep hW hsz) hk h (by simp; omega)
  have HA := Lib.hid hA
  have HD := Lib.hid hD
  clear hA hD
  go_enter Tryd.func5, Tryd.ntmps5
  go_wp2_with (go_at_call 13; refine (awake_any w ht).mono ?_; rintro e w1 ⟨rfl, hb1⟩)
  refine (new_any w1 (ht.keep hb1 hsz)).mono ?_
  rintro e w2 ⟨h, rfl, hh, hk2, hb2⟩
  have hb2' : Below w.heap.size w w2 := hb1.trans (hb2.mono hb1.size)
  have hh' : w.heap.size ≤ h := Nat.le_trans hb1.size hh
  go_wp2_with fail
  refine (write_any h [] a w2 (ht.keep hb2' hsz) (by omega) hk2 (by simp; omega)).mono ?_
  rintro e w3 ⟨rfl, hk3, ho3⟩
  have hb3' : Below w.heap.size w w3 := hb2'.trans (ho3.below hb2'.size (fun k hk e => by omega))
  go_wp2_with fail
  refine (copy_ex h _ w3 hk3).mono ?_
  rintro e w4 ⟨k, rfl, hkl, hc4, hb4⟩
  have hkn : h ≠ k := fun e => Nat.lt_irrefl _ (Nat.lt_of_lt_of_le hk3.lt (e ▸ hkl))
  have hk2n : 2 ≤ k := Nat.le_trans (Nat.le_trans hsz hb3'.size) hkl
  have hl4 := hc4.lt
  have hb4' := hb3'.trans (hb4.mono hb3'.size)
  have hk4 := hk3.keep (hb4.block _ hk3.lt)
  go_wp2_with fail
  refine (write_any h _ b w4 (ht.keep hb4' hsz) (by omega) hk4 (by simp; omega)).mono ?_
  rintro e w5 ⟨rfl, hk5, ho5⟩
  have hb5' : Below w.heap.size w w5 := hb4'.trans (ho5.below hb4'.size (fun k hk e => by omega))
  have hc5 := hc4.keep (ho5.block k hl4 (fun e => hkn e.symm))
  go_wp2_with fail
  refine (write_any k _ c w5 (ht.keep hb5' hsz) hk2n hc5 (by simp; omega)).mono ?_
  rintro e w6 ⟨rfl, hc6, ho6⟩
  have hb6' : Below w.heap.size w w6 := hb5'.trans (ho6.below hb5'.size (fun j hj e => by subst e; have := hb3'.size; omega))
  have hk6 := hk5.keep (ho6.block h hk5.lt hkn)
  go_wp2_with fail
  refine (hx1 h w6 hb6' (by omega) hk6).mono ?_
  rintro e w7 ⟨rfl, hb7⟩
  have hb7' := hb6'.trans (hb7.mono hb6'.size)
  have hc7 := hc6.keep (hb7.block _ hc6.lt)
  go_wp2_with fail
  refine (hs1 w7 hb7').mono ?_
  rintro e w8 ⟨rfl, hb8⟩
  have hb8' := hb7'.trans (hb8.mono hb7'.size)
  have hc8 := hc7.keep (hb8.block _ hc7.lt)
  go_wp2_with fail
  refine (hx2 k w8 hb8' hk2n hc8).mono ?_
  rintro e w9 ⟨rfl, hb9⟩
  have hb9' := hb8'.trans (hb9.mono hb8'.size)
  go_wp2_with fail
  refine (hs2 w9 hb9').mono ?_
  rintro e w10 ⟨rfl, hb10⟩
  go_wp2
  go_ret
  exact ⟨rfl, hb9'.trans (hb10.mono hb9'.size)⟩

theorem copies_any (a b c : ByteArray) (w : World) (ht : Tabs w) :
    Calls Tryd.prog 5 #[.string a, .string b, .string c] w fun e w' => e = .returned (.bool true) ∧ Below w.heap.size w w' := by
  by_cases h : 500 < a.size ∨ (a.size ≤ 500 ∧ 500 < b.size) ∨ (a.size ≤ 500 ∧ b.size ≤ 500 ∧ 500 < c.size)
  · exact copies_far a b c w ht h
  · exact copies_near a b c w ht (by omega) (by omega) (by omega)
#print axioms copies_any
end Go.Proofs.YtdiccgpgmddbdaaDoor
