/- The walk of gantletlaw02.ShaParts: whatever list of texts, it answers true. Condition: the two package tables lie as laid. -/
import Derived.Test.YtdiccgpgmddbdaaDoorShaAwake
import Derived.Outline
namespace Go.Proofs.YtdiccgpgmddbdaaDoor
open Go.RowKit

/-- How many texts and bytes, so many texts taken. -/
def szs (len : Nat) (ss : List ByteArray) : Nat → Nat
  | 0 => len
  | k + 1 => szs len ss k + (ss.getD k ByteArray.empty).size
/-- So many texts, one behind the other. -/
def cat (ss : List ByteArray) : Nat → ByteArray
  | 0 => ⟨#[]⟩
  | k + 1 => cat ss k ++ ss.getD k ByteArray.empty
theorem cat_size (len : Nat) (ss : List ByteArray) (k : Nat) : (cat ss k).size + len = szs len ss k := by
  induction k with
  | zero => simp [cat, szs, ByteArray.size]
  | succ k ih => simp [cat, szs]; omega
theorem szs_mono (len : Nat) (ss : List ByteArray) {i k : Nat} (h : i ≤ k) : szs len ss i ≤ szs len ss k := by
  induction k with
  | zero => obtain rfl : i = 0 := by omega
            exact Nat.le_refl _
  | succ k ih =>
    rcases Nat.lt_or_ge i (k + 1) with h1 | h1
    · have := ih (by omega)
      simp only [szs]; omega
    · obtain rfl : i = k + 1 := by omega
      exact Nat.le_refl _

theorem great_none (a0 : Option Addr) (cap : Nat) (w : World) :
    Calls Tryd.prog 16 #[.slice a0 0 cap] w fun e w' => e = .returned (.bool false) ∧ w = w' := by
  go_enter Tryd.func16, Tryd.ntmps16
  go_wp2
  go_loop [3, 10] (fun n i => n = .int .i64 0 ∧ i = .int .i64 0) (fun _ _ => 0)
  case atStart => exact ⟨rfl, rfl⟩
  case round =>
    obtain ⟨rfl, rfl⟩ := hrel
    go_wp2
    go_ret
    exact ⟨rfl, rfl⟩

theorem great_yes (b off len cap : Nat) (ss : List ByteArray) (w : World) (hlen : len ≤ 9223372036854775807) (hc : ∀ i, i < len → w.cell? ⟨b, off + i, none⟩ = some (.string (ss.getD i ByteArray.empty))) (hg : 2000 < szs len ss len) :
    Calls Tryd.prog 16 #[.slice (some ⟨b, off, none⟩) len cap] w fun e w' => e = .returned (.bool true) ∧ w = w' := by
  have HG := Lib.hid hg
  have HC : Hid (∀ i, i < len → w.cell? ⟨b, off + i, none⟩ = some (.string (ss.getD i ByteArray.empty))) := Lib.hid hc
  clear hg hc
  go_enter Tryd.func16, Tryd.ntmps16
  go_wp2
  go_loop [3, 10] (fun n i => ∃ k : Nat, k ≤ len ∧ i = .int .i64 k ∧ n = .int .i64 (szs len ss k)) (fun _ i => len - (intOf i).toNat)
  case atStart => exact ⟨0, Nat.zero_le _, rfl, rfl⟩
  case round =>
    obtain ⟨k, hk, rfl, rfl⟩ := hrel
    by_cases hlt : k < len
    · have c := HC.out k hlt
      have hs : szs len ss (k + 1) = szs len ss k + (ss.getD k ByteArray.empty).size := rfl
      have HS := Lib.hid hs
      clear hs
      generalize ss.getD k ByteArray.empty = s at *
      generalize szs len ss k = n at *
      by_cases h1 : (2000 : Int) < n
      · go_wp2
        go_ret
        exact ⟨rfl, rfl⟩
      · by_cases h2 : (2000 : Int) < s.size
        · go_wp2
          go_ret
          exact ⟨rfl, rfl⟩
        · go_wp2
          go_round
          case rel => exact ⟨k + 1, by omega, by go_num, by rw [HS.out]; go_num⟩
          case measure => simp [intOf]; omega
    · obtain rfl : k = len := by omega
      have hn : (2000 : Int) < (szs k ss k : Nat) := by have := HG.out; omega
      clear hlt hk
      generalize szs k ss k = n at *
      go_wp2
      go_ret
      exact ⟨rfl, rfl⟩

theorem great_no (b off len cap : Nat) (ss : List ByteArray) (w : World) (hc : ∀ i, i < len → w.cell? ⟨b, off + i, none⟩ = some (.string (ss.getD i ByteArray.empty))) (hg : szs len ss len ≤ 2000) :
    Calls Tryd.prog 16 #[.slice (some ⟨b, off, none⟩) len cap] w fun e w' => e = .returned (.bool false) ∧ w = w' := by
  have HG := Lib.hid hg
  have hlen : len ≤ 2000 := by have := szs_mono len ss (Nat.zero_le len); simp only [szs] at this; omega
  have HC : Hid (∀ i, i < len → w.cell? ⟨b, off + i, none⟩ = some (.string (ss.getD i ByteArray.empty))) := Lib.hid hc
  clear hg hc
  go_enter Tryd.func16, Tryd.ntmps16
  go_wp2
  go_loop [3, 10] (fun n i => ∃ k : Nat, k ≤ len ∧ i = .int .i64 k ∧ n = .int .i64 (szs len ss k)) (fun _ i => len - (intOf i).toNat)
  case atStart => exact ⟨0, Nat.zero_le _, rfl, rfl⟩
  case round =>
    obtain ⟨k, hk, rfl, rfl⟩ := hrel
    have h0 : (szs len ss k : Int) ≤ 2000 := by have := HG.out; have := szs_mono len ss hk; omega
    by_cases hlt : k < len
    · have c := HC.out k hlt
      have hs : szs len ss (k + 1) = szs len ss k + (ss.getD k ByteArray.empty).size := rfl
      have h1 : ((ss.getD k ByteArray.empty).size : Int) ≤ 2000 := by have := HG.out; have := szs_mono len ss (show k + 1 ≤ len from hlt); omega
      have HS := Lib.hid hs
      clear hs
      generalize ss.getD k ByteArray.empty = s at *
      generalize szs len ss k = n at *
      go_wp2
      go_round
      case rel => exact ⟨k + 1, by omega, by go_num, by rw [HS.out]; go_num⟩
      case measure => simp [intOf]; omega
    · obtain rfl : k = len := by omega
      clear hlt hk
      generalize szs k ss k = n at *
      have hd : decide ((2000 : Int) < (n : Int)) = false := by simpa using h0
      go_wp2
      go_ret
      exact ⟨rfl, rfl⟩

theorem parts_far (b off len cap : Nat) (ss : List ByteArray) (w : World) (ht : Tabs w) (hb : b < w.heap.size) (hlen : len ≤ 9223372036854775807) (hc : ∀ i, i < len → w.cell? ⟨b, off + i, none⟩ = some (.string (ss.getD i ByteArray.empty))) (hg : 2000 < szs len ss len) :
    Calls Tryd.prog 4 #[.slice (some ⟨b, off, none⟩) len cap] w fun e w' => e = .returned (.bool true) ∧ Below w.heap.size w w' := by
  have hsz := ht.size
  have hgr : ∀ W, Below w.heap.size w W → Calls Tryd.prog 16 #[.slice (some ⟨b, off, none⟩) len cap] W fun e w' => e = .returned (.bool true) ∧ W = w' := fun W hW =>
    great_yes b off len cap ss W hlen (fun i hi => by rw [hW.cell (p := ⟨b, off + i, none⟩) hb]; exact hc i hi) hg
  clear hc hg
  go_enter Tryd.func4, Tryd.ntmps4
  go_wp2_with (go_at_call 13; refine (awake_any w ht).mono ?_; rintro e w1 ⟨rfl, hb1⟩)
  refine (hgr w1 hb1).mono ?_
  rintro e w2 ⟨rfl, rfl⟩
  go_wp2_with fail
  refine (awake_any w1 (ht.keep hb1 hsz)).mono ?_
  rintro e w2 ⟨rfl, hb2⟩
  go_wp2
  go_ret
  exact ⟨rfl, hb1.trans (hb2.mono hb1.size)⟩

theorem parts_none (a0 : Option Addr) (cap : Nat) (w : World) (ht : Tabs w) :
    Calls Tryd.prog 4 #[.slice a0 0 cap] w fun e w' => e = .returned (.bool true) ∧ Below w.heap.size w w' := by
  have hsz := ht.size
  obtain ⟨A, hA⟩ : ∃ A : ByteArray, A = ⟨(Sha.sum []).toArray⟩ := ⟨_, rfl⟩
  have hs1 : ∀ W : World, Below w.heap.size w W → Calls Tryd.prog 14 #[.string ⟨#[]⟩] W fun e w' => e = .returned (.string A) ∧ Below W.heap.size W w' := fun W hW => by
    rw [hA]; exact sumOf_any ⟨#[]⟩ W (ht.keep hW hsz) (by decide)
  have hx1 : ∀ (k : Nat) (W : World), Below w.heap.size w W → 2 ≤ k → HashAt W k [] → Calls Tryd.prog 19 #[.pointer (some ⟨k, 0, none⟩)] W fun e w' => e = .returned (.string A) ∧ Below W.heap.size W w' := fun k W hW hk h => by
    rw [hA]; exact sum_any k _ W (ht.keep hW hsz) hk h (by decide)
  have HA := Lib.hid hA
  clear hA
  go_enter Tryd.func4, Tryd.ntmps4
  go_wp2_with (go_at_call 13; refine (awake_any w ht).mono ?_; rintro e w1 ⟨rfl, hb1⟩)
  refine (great_none a0 cap w1).mono ?_
  rintro e w2 ⟨rfl, rfl⟩
  go_wp2_with fail
  refine (new_any w1 (ht.keep hb1 hsz)).mono ?_
  rintro e w2 ⟨h, rfl, hh, hk2, hb2⟩
  have hb2' : Below w.heap.size w w2 := hb1.trans (hb2.mono hb1.size)
  have hh' : w.heap.size ≤ h := Nat.le_trans hb1.size hh
  go_wp2_with fail
  go_loop [4, 19] (fun n i => n = .string ⟨#[]⟩ ∧ i = .int .i64 0) (fun _ _ => 0)
  case atStart => exact ⟨rfl, rfl⟩
  case round =>
    obtain ⟨rfl, rfl⟩ := hrel
    go_wp2_with fail
    refine (hx1 h w2 hb2' (by omega) hk2).mono ?_
    rintro e w3 ⟨rfl, hb3⟩
    have hb3' := hb2'.trans (hb3.mono hb2'.size)
    go_wp2_with fail
    refine (hs1 w3 hb3').mono ?_
    rintro e w4 ⟨rfl, hb4⟩
    go_wp2
    go_ret
    exact ⟨rfl, hb3'.trans (hb4.mono hb3'.size)⟩

set_option maxHeartbeats 400000 in
theorem parts_near (b off len cap : Nat) (ss : List ByteArray) (w : World) (ht : Tabs w) (hb : b < w.heap.size) (hc : ∀ i, i < len → w.cell? ⟨b, off + i, none⟩ = some (.string (ss.getD i ByteArray.empty))) (hg : szs len ss len ≤ 2000) :
    Calls Tryd.prog 4 #[.slice (some ⟨b, off, none⟩) len cap] w fun e w' => e = .returned (.bool true) ∧ Below w.heap.size w w' := by
  have hsz := ht.size
  have hlen : len ≤ 2000 := by have := szs_mono len ss (Nat.zero_le len); simp only [szs] at this; omega
  have hgr : ∀ W, Below w.heap.size w W → Calls Tryd.prog 16 #[.slice (some ⟨b, off, none⟩) len cap] W fun e w' => e = .returned (.bool false) ∧ W = w' := fun W hW =>
    great_no b off len cap ss W (fun i hi => by rw [hW.cell (p := ⟨b, off + i, none⟩) hb]; exact hc i hi) hg
  have HC : Hid (∀ W, Below w.heap.size w W → ∀ i, i < len → W.cell? ⟨b, off + i, none⟩ = some (.string (ss.getD i ByteArray.empty))) := show ∀ W, Below w.heap.size w W → ∀ i, i < len → W.cell? ⟨b, off + i, none⟩ = some (.string (ss.getD i ByteArray.empty)) from fun W hW i hi => by rw [hW.cell (p := ⟨b, off + i, none⟩) hb]; exact hc i hi
  have HG : Hid (∀ k, k ≤ len → (cat ss k).size ≤ 2000) := show ∀ k, k ≤ len → (cat ss k).size ≤ 2000 from fun k hk => by have := szs_mono len ss hk; have := cat_size len ss k; omega
  clear hc hg
  have hs1 : ∀ (s : ByteArray) (W : World), s.size ≤ 2000 → Below w.heap.size w W → Calls Tryd.prog 14 #[.string s] W fun e w' => e = .returned (.string ⟨(Sha.sum s.data.toList).toArray⟩) ∧ Below W.heap.size W w' := fun s W hs hW =>
    sumOf_any s W (ht.keep hW hsz) (by omega)
  have hx1 : ∀ (k : Nat) (s : ByteArray) (W : World), s.size ≤ 2000 → Below w.heap.size w W → 2 ≤ k → HashAt W k s.data.toList → Calls Tryd.prog 19 #[.pointer (some ⟨k, 0, none⟩)] W fun e w' => e = .returned (.string ⟨(Sha.sum s.data.toList).toArray⟩) ∧ Below W.heap.size W w' := fun k s W hs hW hk h =>
    sum_any k _ W (ht.keep hW hsz) hk h (by simp; omega)
  go_enter Tryd.func4, Tryd.ntmps4
  go_wp2_with (go_at_call 13; refine (awake_any w ht).mono ?_; rintro e w1 ⟨rfl, hb1⟩)
  refine (hgr w1 hb1).mono ?_
  rintro e w2 ⟨rfl, rfl⟩
  go_wp2_with fail
  refine (new_any w1 (ht.keep hb1 hsz)).mono ?_
  rintro e w2 ⟨h, rfl, hh, hk2, hb2⟩
  have hb2' : Below w.heap.size w w2 := hb1.trans (hb2.mono hb1.size)
  have hh' : w.heap.size ≤ h := Nat.le_trans hb1.size hh
  clear hgr
  go_wp2_with fail
  go_loopw [4, 19] (fun v i wr => ∃ k : Nat, k ≤ len ∧ i = .int .i64 k ∧ v = .string (cat ss k) ∧ HashAt wr h (cat ss k).data.toList ∧ Below w.heap.size w wr) (fun _ i _ => len - (intOf i).toNat)
  case atStart => exact ⟨0, Nat.zero_le _, rfl, rfl, hk2, hb2'⟩
  case round =>
    clear hb2' hk2 hb2 hb1
    obtain ⟨k, hk, rfl, rfl, hkr, hbr⟩ := hrel
    by_cases hlt : k < len
    · have c := HC.out wr hbr k hlt
      have hcs : cat ss (k + 1) = cat ss k ++ ss.getD k ByteArray.empty := rfl
      have hcz := HG.out (k + 1) hlt
      have HS := Lib.hid hcs
      rw [hcs] at hcz
      clear hcs
      generalize ss.getD k ByteArray.empty = s at *
      generalize cat ss k = a at *
      have hz : a.size + s.size ≤ 2000 := by simpa using hcz
      obtain ⟨A, hA⟩ : ∃ A : ByteArray, A = ⟨(Sha.sum (a ++ s).data.toList).toArray⟩ := ⟨_, rfl⟩
      have hsA : ∀ W : World, Below w.heap.size w W → Calls Tryd.prog 14 #[.string (a ++ s)] W fun e w' => e = .returned (.string A) ∧ Below W.heap.size W w' := fun W hW => by rw [hA]; exact hs1 _ W hcz hW
      have hxA : ∀ W : World, Below w.heap.size w W → HashAt W h ((a ++ s)).data.toList → Calls Tryd.prog 19 #[.pointer (some ⟨h, 0, none⟩)] W fun e w' => e = .returned (.string A) ∧ Below W.heap.size W w' := fun W hW hk => by rw [hA]; exact hx1 h _ W hcz hW (by omega) hk
      have HA := Lib.hid hA
      clear hA hs1 hx1
      go_wp2_with fail
      refine (write_any h a.data.toList s wr (ht.keep hbr hsz) (by omega) hkr (by simp; omega)).mono ?_
      rintro e w3 ⟨rfl, hk3, ho3⟩
      have hb3' : Below w.heap.size w w3 := hbr.trans (ho3.below hbr.size (fun k hk e => by omega))
      have hk3' : HashAt w3 h (a ++ s).data.toList := by simpa using hk3
      clear hk3
      go_wp2_with fail
      refine (hxA w3 hb3' hk3').mono ?_
      rintro e w4 ⟨rfl, hb4⟩
      have hb4' := hb3'.trans (hb4.mono hb3'.size)
      have hk4 := hk3'.keep (hb4.block _ hk3'.lt)
      go_wp2_with fail
      refine (hsA w4 hb4').mono ?_
      rintro e w5 ⟨rfl, hb5⟩
      have hb5' := hb4'.trans (hb5.mono hb4'.size)
      have hk5 := hk4.keep (hb5.block _ hk4.lt)
      have hlen5 : Calls Tryd.prog 20 #[.pointer (some ⟨h, 0, none⟩)] w5 fun e w' => e = .returned (.int .u64 ((a.size : Int) + s.size)) ∧ w5 = w' := by
        have h := len_any h _ w5 hk5
        have e : (((a ++ s).data.toList.length : Nat) : Int) = (a.size : Int) + s.size := by simp
        rwa [e] at h
      go_wp2_with fail
      refine hlen5.mono ?_
      rintro e w6 ⟨rfl, rfl⟩
      clear hlen5
      go_wp2
      go_roundw
      case rel => exact ⟨k + 1, by omega, by go_num, by rw [HS.out], by rw [HS.out]; exact hk5, hb5'⟩
      case measure => simp [intOf]; omega
    · obtain rfl : k = len := by omega
      have hcz := HG.out k (Nat.le_refl _)
      clear hlt hk
      generalize cat ss k = a at *
      obtain ⟨A, hA⟩ : ∃ A : ByteArray, A = ⟨(Sha.sum a.data.toList).toArray⟩ := ⟨_, rfl⟩
      have hsA : ∀ W : World, Below w.heap.size w W → Calls Tryd.prog 14 #[.string a] W fun e w' => e = .returned (.string A) ∧ Below W.heap.size W w' := fun W hW => by rw [hA]; exact hs1 _ W hcz hW
      have hxA : ∀ W : World, Below w.heap.size w W → HashAt W h (a).data.toList → Calls Tryd.prog 19 #[.pointer (some ⟨h, 0, none⟩)] W fun e w' => e = .returned (.string A) ∧ Below W.heap.size W w' := fun W hW hk => by rw [hA]; exact hx1 h _ W hcz hW (by omega) hk
      have HA := Lib.hid hA
      clear hA hs1 hx1
      go_wp2_with fail
      refine (hxA wr hbr hkr).mono ?_
      rintro e w4 ⟨rfl, hb4⟩
      have hb4' := hbr.trans (hb4.mono hbr.size)
      go_wp2_with fail
      refine (hsA w4 hb4').mono ?_
      rintro e w5 ⟨rfl, hb5⟩
      go_wp2
      go_ret
      exact ⟨rfl, hb4'.trans (hb5.mono hb4'.size)⟩

theorem parts_any (b off len cap : Nat) (ss : List ByteArray) (w : World) (ht : Tabs w) (hb : b < w.heap.size) (hlen : len ≤ 9223372036854775807) (hc : ∀ i, i < len → w.cell? ⟨b, off + i, none⟩ = some (.string (ss.getD i ByteArray.empty))) :
    Calls Tryd.prog 4 #[.slice (some ⟨b, off, none⟩) len cap] w fun e w' => e = .returned (.bool true) ∧ Below w.heap.size w w' := by
  rcases Nat.lt_or_ge 2000 (szs len ss len) with h | h
  · exact parts_far b off len cap ss w ht hb hlen hc h
  · exact parts_near b off len cap ss w ht hb hc h
#print axioms parts_any
end Go.Proofs.YtdiccgpgmddbdaaDoor
