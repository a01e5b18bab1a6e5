/- The walk of gantletlaw21.TapPieces: whatever list of texts, it answers true. Condition: the two package tables lie as laid. -/
import Derived.Test.YtdiccgpgmddbdaaDoorTapParts
namespace Go.Proofs.YtdiccgpgmddbdaaDoor
open Go.RowKit

/-- The part behind some bytes. -/
def partAdd (on : Bool) (pt : Option (List UInt8)) (l : List UInt8) : Option (List UInt8) := if on then pt.map (· ++ l) else pt
theorem partAdd_push (on : Bool) (pt : Option (List UInt8)) (l : List UInt8) (c : UInt8) : partPush on (partAdd on pt l) c = partAdd on pt (l ++ [c]) := by
  cases on <;> cases pt <;> simp [partPush, partAdd]
theorem partAdd_nil (on : Bool) (pt : Option (List UInt8)) : partAdd on pt [] = pt := by cases on <;> cases pt <;> simp [partAdd]
theorem partAdd_len (on : Bool) (pt : Option (List UInt8)) (l : List UInt8) : ((partAdd on pt l).getD []).length ≤ (pt.getD []).length + l.length := by
  cases on <;> cases pt <;> simp [partAdd]
theorem partAdd_some (on : Bool) (pt : Option (List UInt8)) (l : List UInt8) : (partAdd on pt l).isSome = pt.isSome := by cases on <;> cases pt <;> rfl

theorem pieces_none (a0 : Option Addr) (cap : Nat) (w : World) (ht : Tabs w) :
    Calls Tryd.prog 12 #[.slice a0 0 cap] w fun e w' => e = .returned (.bool true) ∧ Below w.heap.size w w' := by
  have hsz := ht.size
  go_enter Tryd.func12, Tryd.ntmps12
  go_wp2_with fail
  refine (tpNew w.heap.size w (Nat.le_refl _)).mono ?_
  rintro e w1 ⟨b, rfl, h1, hb1⟩
  go_wp2_with fail
  refine (awake21_any w1 (ht.keep hb1 hsz)).mono ?_
  rintro e w2 ⟨rfl, hb2⟩
  have hb2' := hb1.trans (hb2.mono hb1.size)
  have H2 := Lib.hid (Tp.keep h1 hb2)
  clear h1 hb2 hb1
  go_wp2_with fail
  go_loop [24] (fun i => i = .int .i64 0) (fun _ => 0)
  case atStart => exact rfl
  case round =>
    obtain rfl := hrel
    go_wp2_with fail
    refine (tpNone H2.out).mono ?_
    rintro e w3 ⟨rfl, rfl⟩
    go_wp2_with fail
    refine (tpHead hb2'.size H2.out).mono ?_
    rintro e w3 ⟨rfl, h3, hb3⟩
    clear h3
    go_wp2
    go_ret
    exact ⟨rfl, hb2'.trans hb3⟩

theorem pieces_far (a0 : Option Addr) (len cap : Nat) (w : World) (ht : Tabs w) (hl : 30 < len) :
    Calls Tryd.prog 12 #[.slice a0 len cap] w fun e w' => e = .returned (.bool true) ∧ Below w.heap.size w w' := by
  have hsz := ht.size
  have hl' : (30 : Int) < len := by omega
  clear hl
  go_enter Tryd.func12, Tryd.ntmps12
  go_wp2_with fail
  refine (tpNew w.heap.size w (Nat.le_refl _)).mono ?_
  rintro e w1 ⟨b, rfl, h1, hb1⟩
  clear h1
  go_wp2_with fail
  refine (awake21_any w1 (ht.keep hb1 hsz)).mono ?_
  rintro e w2 ⟨rfl, hb2⟩
  have hb2' := hb1.trans (hb2.mono hb1.size)
  go_wp2_with fail
  refine (awake21_any w2 (ht.keep hb2' hsz)).mono ?_
  rintro e w3 ⟨rfl, hb3⟩
  go_wp2
  go_ret
  exact ⟨rfl, hb2'.trans (hb3.mono hb2'.size)⟩

set_option maxHeartbeats 1000000 in
theorem pieces_near (b0 off len cap : Nat) (ss : List ByteArray) (w : World) (ht : Tabs w) (hb0 : b0 < w.heap.size) (hl : len ≤ 30) (hc : ∀ i, i < len → w.cell? ⟨b0, off + i, none⟩ = some (.string (ss.getD i ByteArray.empty))) :
    Calls Tryd.prog 12 #[.slice (some ⟨b0, off, none⟩) len cap] w fun e w' => e = .returned (.bool true) ∧ Below w.heap.size w w' := by
  have hsz := ht.size
  have hl' : (len : Int) ≤ 30 := by omega
  have HC : Hid (∀ W, Below w.heap.size w W → ∀ i, i < len → W.cell? ⟨b0, off + i, none⟩ = some (.string (ss.getD i ByteArray.empty))) := show ∀ W, Below w.heap.size w W → ∀ i, i < len → W.cell? ⟨b0, off + i, none⟩ = some (.string (ss.getD i ByteArray.empty)) from fun W hW i hi => by rw [hW.cell (p := ⟨b0, off + i, none⟩) hb0]; exact hc i hi
  have hpu : ∀ (b : Nat) (hd : List UInt8) (pt : Option (List UInt8)) (on : Bool) (c : UInt8) (W : World), hd.length ≤ 10000 → (pt.getD []).length ≤ 10000 → Below w.heap.size w W → Tp W w.heap.size b hd pt on →
      Calls Tryd.prog 27 #[.pointer (some ⟨b, 0, none⟩), .int .u8 (c.toNat : Int)] W fun e w' => e = .returned (.tuple #[]) ∧ Tp w' w.heap.size b (hd ++ [c]) (partPush on pt c) on ∧ Below w.heap.size W w' := fun b hd pt on c W h1 h2 hW h =>
    tpPush c (ht.keep hW hsz) hsz hW.size h (by omega) (by omega)
  have HL := Lib.hid hl
  clear hc hl
  go_enter Tryd.func12, Tryd.ntmps12
  go_wp2_with fail
  refine (tpNew w.heap.size w (Nat.le_refl _)).mono ?_
  rintro e w1 ⟨b, rfl, h1, hb1⟩
  go_wp2_with fail
  refine (awake21_any w1 (ht.keep hb1 hsz)).mono ?_
  rintro e w2 ⟨rfl, hb2⟩
  have hb2' := hb1.trans (hb2.mono hb1.size)
  have H2 : Hid (Tp w2 w.heap.size b [] none (decide (2 ≤ 0))) := Tp.keep h1 hb2
  clear h1 hb2 hb1
  go_wp2_with fail
  go_loopw [24] (fun vi wr => ∃ (k : Nat) (pt : Option (List UInt8)), k ≤ len ∧ vi = .int .i64 k ∧ pt.isSome = decide (2 ≤ k) ∧ (pt.getD []).length ≤ 100 * k ∧ Tp wr w.heap.size b [] pt (decide (2 ≤ k)) ∧ Below w.heap.size w wr) (fun vi _ => len - (intOf vi).toNat)
  case atStart => exact ⟨0, none, by omega, rfl, rfl, by simp, H2.out, hb2'⟩
  case round =>
    clear H2 hb2'
    obtain ⟨k, pt, hk, rfl, hpt, hpl, h1, hb⟩ := hrel
    obtain ⟨on, hon⟩ : ∃ on, on = decide (2 ≤ k) := ⟨_, rfl⟩
    rw [← hon] at h1 hpt
    have H1 := Lib.hid h1
    have HPT := Lib.hid hpt
    have HPL := Lib.hid hpl
    have HON := Lib.hid hon
    clear h1 hpt hpl hon
    by_cases hlt : k < len
    · have c := HC.out wr hb k hlt
      generalize ss.getD k ByteArray.empty = s at *
      by_cases hs : (100 : Int) < s.size
      · go_wp2
        go_ret
        exact ⟨rfl, hb⟩
      · have H1' : Hid (Tp wr w.heap.size b (s.data.toList.take 0) (partAdd on pt (s.data.toList.take 0)) on) := by rw [List.take_zero, partAdd_nil]; exact H1.out
        clear H1
        go_wp2_with fail
        go_loopw [34] (fun vi wr => ∃ i : Nat, i ≤ s.size ∧ vi = .int .i64 i ∧ Tp wr w.heap.size b (s.data.toList.take i) (partAdd on pt (s.data.toList.take i)) on ∧ Below w.heap.size w wr) (fun vi _ => s.size - (intOf vi).toNat)
        case atStart => exact ⟨0, by omega, rfl, H1'.out, hb⟩
        case round =>
          clear H1' hb c
          obtain ⟨i, hi, rfl, h1, hb⟩ := hrel
          have H1 := Lib.hid h1
          clear h1
          by_cases hli : i < s.size
          · have HN := Lib.hid (byteI s i hli)
            go_wp2_with fail
            refine (hpu b _ _ on s[i] wr (by simp; omega) (by have := partAdd_len on pt (s.data.toList.take i); have := HPL.out; have := HL.out; have : (s.data.toList.take i).length ≤ i := List.length_take_le _ _; omega) hb H1.out).mono ?_
            rintro e w3 ⟨rfl, h3, hb3⟩
            rw [partAdd_push, ← HN.out] at h3
            have H3 := Lib.hid h3
            have hb3' := hb.trans hb3
            clear h3
            go_wp2
            go_roundw
            case rel => exact ⟨i + 1, by omega, by go_num, H3.out, hb3'⟩
            case measure => simp [intOf]; omega
          · obtain rfl : i = s.size := by omega
            have HT : Hid (Tp wr w.heap.size b s.data.toList (partAdd on pt s.data.toList) on) := by
              have h := H1.out
              rwa [List.take_of_length_le (by simp)] at h
            clear H1 hli hi
            have hhd := tpHead hb.size HT.out
            rw [show (⟨s.data.toList.toArray⟩ : ByteArray) = s from by apply ByteArray.ext; simp] at hhd
            go_wp2_with fail
            refine hhd.mono ?_
            rintro e w3 ⟨rfl, h3, hb3⟩
            have H3 := Lib.hid h3
            have hb3' := hb.trans hb3
            clear h3 hhd HT hb
            by_cases hk1 : k = 1
            · subst hk1
              go_wp2_with fail
              refine (tpBegin s (ht.keep hb3' hsz) hsz hb3'.size H3.out (by omega)).mono ?_
              rintro e w4 ⟨rfl, h4, hb4⟩
              have H4 := Lib.hid h4
              have hb4' := hb3'.trans hb4
              clear h4 H3
              go_wp2
              go_roundw
              case rel => exact ⟨2, some s.data.toList, by omega, rfl, rfl, by simp; omega, H4.out, hb4'⟩
              case measure => simp [intOf]; omega
            · have hk1' : ((k : Int) == 1) = false := by simp; omega
              have hon2 : on = decide (2 ≤ k + 1) := by
                rw [HON.out]
                have : (2 ≤ k) ↔ (2 ≤ k + 1) := by omega
                simp [this]
              have HON2 := Lib.hid hon2
              clear hon2
              go_wp2
              go_roundw
              case rel =>
                refine ⟨k + 1, partAdd on pt s.data.toList, by omega, by go_num, by rw [partAdd_some, HPT.out]; exact HON2.out, ?_, by rw [← HON2.out]; exact H3.out, hb3'⟩
                have h1 := partAdd_len on pt s.data.toList
                have h2 := HPL.out
                simp at h1
                omega
              case measure => simp [intOf]; omega
    · obtain rfl : k = len := by omega
      clear hlt
      cases pt with
      | none =>
        have hk1 : k ≤ 1 := by
          have := HPT.out
          rw [HON.out] at this
          simp at this; omega
        have hk1' : decide ((1 : Int) < (k : Int)) = false := by simp; omega
        go_wp2_with fail
        refine (tpNone H1.out).mono ?_
        rintro e w3 ⟨rfl, rfl⟩
        go_wp2_with fail
        refine (tpHead hb.size H1.out).mono ?_
        rintro e w3 ⟨rfl, h3, hb3⟩
        clear h3
        go_wp2
        go_ret
        exact ⟨rfl, hb.trans hb3⟩
      | some m =>
        have hk1 : 2 ≤ k := by
          have := HPT.out
          rw [HON.out] at this
          simp at this; omega
        have hk1' : decide ((1 : Int) < (k : Int)) = true := by simp; omega
        go_wp2_with fail
        refine (tpSum (ht.keep hb hsz) hsz H1.out (by have h1 := HPL.out; have h2 := HL.out; simp only [Option.getD_some] at h1; omega)).mono ?_
        rintro e w3 ⟨rfl, hb3⟩
        have hb3' := hb.trans (hb3.mono hb.size)
        have H3 := Lib.hid (Tp.keep H1.out hb3)
        go_wp2_with fail
        refine (tpHead hb3'.size H3.out).mono ?_
        rintro e w4 ⟨rfl, h4, hb4⟩
        clear h4
        go_wp2
        go_ret
        exact ⟨rfl, hb3'.trans hb4⟩

theorem pieces_any (b off len cap : Nat) (ss : List ByteArray) (w : World) (ht : Tabs w) (hb : b < w.heap.size) (hc : ∀ i, i < len → w.cell? ⟨b, off + i, none⟩ = some (.string (ss.getD i ByteArray.empty))) :
    Calls Tryd.prog 12 #[.slice (some ⟨b, off, none⟩) len cap] w fun e w' => e = .returned (.bool true) ∧ Below w.heap.size w w' := by
  rcases Nat.lt_or_ge 30 len with h | h
  · exact pieces_far _ len cap w ht h
  · exact pieces_near b off len cap ss w ht hb h hc
#print axioms pieces_any
end Go.Proofs.YtdiccgpgmddbdaaDoor
