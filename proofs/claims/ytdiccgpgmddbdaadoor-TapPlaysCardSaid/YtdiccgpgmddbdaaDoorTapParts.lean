/- The walk of gantletlaw21.TapParts: whatever three texts, it answers true. Condition: the two package tables lie as laid. -/
import Derived.Test.YtdiccgpgmddbdaaDoorTapUse
namespace Go.Proofs.YtdiccgpgmddbdaaDoor
open Go.RowKit

theorem tapParts_far (a p c : ByteArray) (w : World) (ht : Tabs w) (h : 200 < a.size ∨ (a.size ≤ 200 ∧ 200 < p.size) ∨ (a.size ≤ 200 ∧ p.size ≤ 200 ∧ 200 < c.size)) :
    Calls Tryd.prog 10 #[.string a, .string p, .string c] w fun e w' => e = .returned (.bool true) ∧ Below w.heap.size w w' := by
  have hsz := ht.size
  rcases h with h | ⟨h1, h⟩ | ⟨h1, h2, h⟩
  all_goals
    try have ia : (a.size : Int) ≤ 200 := by omega
    try have ib : (p.size : Int) ≤ 200 := by omega
    try have ja : (200 : Int) < a.size := by omega
    try have jb : (200 : Int) < p.size := by omega
    try have jc : (200 : Int) < c.size := by omega
    go_enter Tryd.func10, Tryd.ntmps10
    go_wp2_with fail
    refine (tpNew w.heap.size w (Nat.le_refl _)).mono ?_
    rintro e w1 ⟨b, rfl, h1, hb1⟩
    clear h1
    go_wp2_with fail
    refine (awake21_any w1 (ht.keep hb1 hsz)).mono ?_
    rintro e w2 ⟨rfl, hb2⟩
    have hb2' := hb1.trans (hb2.mono hb1.size)
    go_wp2_with fail
    refine (awake21_any w2 (ht.keep hb2' hsz)).mono ?_
    rintro e w3 ⟨rfl, hb3⟩
    go_wp2
    go_ret
    exact ⟨rfl, hb2'.trans (hb3.mono hb2'.size)⟩

theorem byteI (s : ByteArray) (i : Nat) (h : i < s.size) : s.data.toList.take (i + 1) = s.data.toList.take i ++ [s[i]] := by
  rw [List.take_succ_eq_append_getElem (by simpa using h)]; rfl

set_option maxHeartbeats 1000000 in
theorem tapParts_near (a p c : ByteArray) (w : World) (ht : Tabs w) (ha : a.size ≤ 200) (hp : p.size ≤ 200) (hc : c.size ≤ 200) :
    Calls Tryd.prog 10 #[.string a, .string p, .string c] w fun e w' => e = .returned (.bool true) ∧ Below w.heap.size w w' := by
  have hsz := ht.size
  have ia : (a.size : Int) ≤ 200 := by omega
  have ib : (p.size : Int) ≤ 200 := by omega
  have ic : (c.size : Int) ≤ 200 := by omega
  obtain ⟨A, hA⟩ : ∃ A : ByteArray, A = ⟨(Sha.sum p.data.toList).toArray⟩ := ⟨_, rfl⟩
  have hs2 : ∀ W : World, Calls Tryd.prog 15 #[.string p] W fun e w' => e = .returned (.string A) ∧ Below W.heap.size W w' := fun W => by
    rw [hA]; exact sum02_any p W (by omega)
  have hs1 : ∀ (b : Nat) (hd : List UInt8) (on : Bool) (W : World), Below w.heap.size w W → Tp W w.heap.size b hd (some p.data.toList) on → Calls Tryd.prog 33 #[.pointer (some ⟨b, 0, none⟩)] W fun e w' => e = .returned (.tuple #[.string A, .bool true]) ∧ Below W.heap.size W w' := fun b hd on W hW h => by
    rw [hA]; exact tpSum (ht.keep hW hsz) hsz h (by simp; omega)
  have hs3 : ∀ (b : Nat) (hd m : List UInt8) (on : Bool) (W : World), m.length ≤ 1000 → Below w.heap.size w W → Tp W w.heap.size b hd (some m) on → Calls Tryd.prog 33 #[.pointer (some ⟨b, 0, none⟩)] W fun e w' => e = .returned (.tuple #[.string ⟨(Sha.sum m).toArray⟩, .bool true]) ∧ Below W.heap.size W w' := fun b hd m on W hm hW h =>
    tpSum (ht.keep hW hsz) hsz h (by omega)
  have hpu : ∀ (b : Nat) (hd : List UInt8) (pt : Option (List UInt8)) (on : Bool) (c : UInt8) (W : World), hd.length ≤ 1000 → (pt.getD []).length ≤ 1000 → Below w.heap.size w W → Tp W w.heap.size b hd pt on →
      Calls Tryd.prog 27 #[.pointer (some ⟨b, 0, none⟩), .int .u8 (c.toNat : Int)] W fun e w' => e = .returned (.tuple #[]) ∧ Tp w' w.heap.size b (hd ++ [c]) (partPush on pt c) on ∧ Below w.heap.size W w' := fun b hd pt on c W h1 h2 hW h =>
    tpPush c (ht.keep hW hsz) hsz hW.size h (by omega) (by omega)
  have HA := Lib.hid hA
  clear hA
  go_enter Tryd.func10, Tryd.ntmps10
  go_wp2_with fail
  refine (tpNew w.heap.size w (Nat.le_refl _)).mono ?_
  rintro e w1 ⟨b, rfl, h1, hb1⟩
  go_wp2_with fail
  refine (awake21_any w1 (ht.keep hb1 hsz)).mono ?_
  rintro e w2 ⟨rfl, hb2⟩
  have hb2' := hb1.trans (hb2.mono hb1.size)
  have H2 := Lib.hid (Tp.keep h1 hb2)
  clear h1 hb2 hb1
  go_wp2_with fail
  go_loopw [40] (fun vi wr => ∃ i : Nat, i ≤ a.size ∧ vi = .int .i64 i ∧ Tp wr w.heap.size b (a.data.toList.take i) none false ∧ Below w.heap.size w wr) (fun vi _ => a.size - (intOf vi).toNat)
  case atStart => exact ⟨0, by omega, rfl, H2.out, hb2'⟩
  case round =>
    clear H2 hb2'
    obtain ⟨i, hi, rfl, h1, hb⟩ := hrel
    have H1 := Lib.hid h1
    clear h1
    by_cases hlt : i < a.size
    · have HN := Lib.hid (byteI a i hlt)
      go_wp2_with fail
      refine (hpu b _ none false a[i] wr (by simp; omega) (by simp) hb H1.out).mono ?_
      rintro e w3 ⟨rfl, h3, hb3⟩
      have H3 := Lib.hid h3
      have hb3' := hb.trans hb3
      clear h3
      go_wp2
      go_roundw
      case rel => exact ⟨i + 1, by omega, by go_num, by rw [HN.out]; exact H3.out, hb3'⟩
      case measure => simp [intOf]; omega
    · obtain rfl : i = a.size := by omega
      have HT : Hid (Tp wr w.heap.size b a.data.toList none false) := by
        have h := H1.out
        rwa [List.take_of_length_le (by simp)] at h
      clear H1 hlt hi
      have hhd := tpHead hb.size HT.out
      rw [show (⟨a.data.toList.toArray⟩ : ByteArray) = a from by apply ByteArray.ext; simp] at hhd
      go_wp2_with fail
      refine hhd.mono ?_
      rintro e w3 ⟨rfl, h3, hb3⟩
      have H3 := Lib.hid h3
      have hb3' := hb.trans hb3
      clear h3 hhd
      go_wp2_with fail
      refine (tpBegin ⟨#[]⟩ (ht.keep hb3' hsz) hsz hb3'.size H3.out (by decide)).mono ?_
      rintro e w4 ⟨rfl, h4, hb4⟩
      have H4 : Hid (Tp w4 w.heap.size b (p.data.toList.take 0) (some (p.data.toList.take 0)) true) := h4
      have hb4' := hb3'.trans hb4
      clear h4 hb3 hb4 H3 hb3' hb
      go_wp2_with fail
      go_loopw [57] (fun vi wr => ∃ i : Nat, i ≤ p.size ∧ vi = .int .i64 i ∧ Tp wr w.heap.size b (p.data.toList.take i) (some (p.data.toList.take i)) true ∧ Below w.heap.size w wr) (fun vi _ => p.size - (intOf vi).toNat)
      case atStart => exact ⟨0, by omega, rfl, H4.out, hb4'⟩
      case round =>
        clear H4 hb4'
        obtain ⟨i, hi, rfl, h1, hb⟩ := hrel
        have H1 := Lib.hid h1
        clear h1
        by_cases hlt : i < p.size
        · have HN := Lib.hid (byteI p i hlt)
          go_wp2_with fail
          refine (hpu b _ _ true p[i] wr (by simp; omega) (by simp; omega) hb H1.out).mono ?_
          rintro e w3 ⟨rfl, h3, hb3⟩
          have H3 : Hid (Tp w3 w.heap.size b (p.data.toList.take (i + 1)) (some (p.data.toList.take (i + 1))) true) := by rw [HN.out]; exact h3
          have hb3' := hb.trans hb3
          clear h3
          go_wp2_with fail
          refine (hs3 b _ _ true w3 (by simp; omega) hb3' H3.out).mono ?_
          rintro e w4 ⟨rfl, hb4⟩
          have H4 := Lib.hid (Tp.keep H3.out hb4)
          have hb4' := hb3'.trans (hb4.mono hb3'.size)
          go_wp2
          go_roundw
          case rel => exact ⟨i + 1, by omega, by go_num, H4.out, hb4'⟩
          case measure => simp [intOf]; omega
        · obtain rfl : i = p.size := by omega
          have HT : Hid (Tp wr w.heap.size b p.data.toList (some p.data.toList) true) := by
            have h := H1.out
            rwa [List.take_of_length_le (by simp)] at h
          clear H1 hlt hi
          go_wp2_with fail
          refine (tpEnd hb.size HT.out).mono ?_
          rintro e w3 ⟨rfl, h3, hb3⟩
          have H3 := Lib.hid h3
          have hb3' := hb.trans hb3
          clear h3
          go_wp2_with fail
          refine (hs1 b _ false w3 hb3' H3.out).mono ?_
          rintro e w4 ⟨rfl, hb4⟩
          have H4 : Hid (Tp w4 w.heap.size b (p.data.toList ++ c.data.toList.take 0) (some p.data.toList) false) := by rw [List.take_zero, List.append_nil]; exact Tp.keep H3.out hb4
          have hb4' := hb3'.trans (hb4.mono hb3'.size)
          clear hb3 hb4 H3 hb3' hb HT
          go_wp2_with fail
          go_loopw [77] (fun vi wr => ∃ i : Nat, i ≤ c.size ∧ vi = .int .i64 i ∧ Tp wr w.heap.size b (p.data.toList ++ c.data.toList.take i) (some p.data.toList) false ∧ Below w.heap.size w wr) (fun vi _ => c.size - (intOf vi).toNat)
          case atStart => exact ⟨0, by omega, rfl, H4.out, hb4'⟩
          case round =>
            clear H4 hb4'
            obtain ⟨i, hi, rfl, h1, hb⟩ := hrel
            have H1 := Lib.hid h1
            clear h1
            by_cases hlt : i < c.size
            · have HN := Lib.hid (byteI c i hlt)
              go_wp2_with fail
              refine (hpu b _ _ false c[i] wr (by simp; omega) (by simp; omega) hb H1.out).mono ?_
              rintro e w3 ⟨rfl, h3, hb3⟩
              have H3 : Hid (Tp w3 w.heap.size b (p.data.toList ++ c.data.toList.take (i + 1)) (some p.data.toList) false) := by rw [HN.out, ← List.append_assoc]; exact h3
              have hb3' := hb.trans hb3
              clear h3
              go_wp2
              go_roundw
              case rel => exact ⟨i + 1, by omega, by go_num, H3.out, hb3'⟩
              case measure => simp [intOf]; omega
            · obtain rfl : i = c.size := by omega
              have HT : Hid (Tp wr w.heap.size b (p.data.toList ++ c.data.toList) (some p.data.toList) false) := by
                have h := H1.out
                rwa [List.take_of_length_le (l := c.data.toList) (by simp)] at h
              clear H1 hlt hi
              go_wp2_with fail
              refine (hs1 b _ false wr hb HT.out).mono ?_
              rintro e w3 ⟨rfl, hb3⟩
              have H3 := Lib.hid (Tp.keep HT.out hb3)
              have hb3' := hb.trans (hb3.mono hb.size)
              go_wp2_with fail
              refine (hs2 w3).mono ?_
              rintro e w4 ⟨rfl, hb4⟩
              have H4 := Lib.hid (Tp.keep H3.out hb4)
              have hb4' := hb3'.trans (hb4.mono hb3'.size)
              have hhd := tpHead hb4'.size H4.out
              rw [show (⟨(p.data.toList ++ c.data.toList).toArray⟩ : ByteArray) = p ++ c from by apply ByteArray.ext; simp] at hhd
              go_wp2_with fail
              refine hhd.mono ?_
              rintro e w5 ⟨rfl, h5, hb5⟩
              clear h5 hhd
              go_wp2
              go_ret
              exact ⟨rfl, hb4'.trans hb5⟩

theorem tapParts_any (a p c : ByteArray) (w : World) (ht : Tabs w) :
    Calls Tryd.prog 10 #[.string a, .string p, .string c] w fun e w' => e = .returned (.bool true) ∧ Below w.heap.size w w' := by
  by_cases h : 200 < a.size ∨ (a.size ≤ 200 ∧ 200 < p.size) ∨ (a.size ≤ 200 ∧ p.size ≤ 200 ∧ 200 < c.size)
  · exact tapParts_far a p c w ht h
  · exact tapParts_near a p c w ht (by omega) (by omega) (by omega)
#print axioms tapParts_any
end Go.Proofs.YtdiccgpgmddbdaaDoor
