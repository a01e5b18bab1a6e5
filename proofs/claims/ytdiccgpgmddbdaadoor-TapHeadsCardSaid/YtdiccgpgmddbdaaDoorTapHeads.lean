/- The walk of gantletlaw21.TapHeads: whatever three texts, it answers true. Condition: the two package tables lie as laid. -/
import Derived.Test.YtdiccgpgmddbdaaDoorTapParts
namespace Go.Proofs.YtdiccgpgmddbdaaDoor
open Go.RowKit

/-- Two Taps of the call's own, apart from each other. -/
def Pair (B : Nat) (w : World) (a : Nat) (ha : List UInt8) (pa : Option (List UInt8)) (oa : Bool) (b : Nat) (hb : List UInt8) (pb : Option (List UInt8)) (ob : Bool) : Prop :=
  ∃ Sa Sb : Nat → Prop, TapAt w Sa a ha pa oa ∧ TapAt w Sb b hb pb ob ∧ (∀ k, Sa k → ¬ Sb k) ∧ (∀ k, Sa k → B ≤ k ∧ k < w.heap.size) ∧ (∀ k, Sb k → B ≤ k ∧ k < w.heap.size)
theorem Pair.swap {B : Nat} {w : World} {a b : Nat} {ha hb : List UInt8} {pa pb : Option (List UInt8)} {oa ob : Bool} (h : Pair B w a ha pa oa b hb pb ob) : Pair B w b hb pb ob a ha pa oa := by
  obtain ⟨Sa, Sb, h1, h2, h3, h4, h5⟩ := h
  exact ⟨Sb, Sa, h2, h1, fun k hk hk2 => h3 k hk2 hk, h5, h4⟩
theorem Pair.keep {B : Nat} {w w' : World} {a b : Nat} {ha hb : List UInt8} {pa pb : Option (List UInt8)} {oa ob : Bool} (h : Pair B w a ha pa oa b hb pb ob) (hw : Below w.heap.size w w') : Pair B w' a ha pa oa b hb pb ob := by
  obtain ⟨Sa, Sb, h1, h2, h3, h4, h5⟩ := h
  exact ⟨Sa, Sb, h1.keep (fun k hk => hw.block k (h4 k hk).2), h2.keep (fun k hk => hw.block k (h5 k hk).2), h3, fun k hk => ⟨(h4 k hk).1, Nat.lt_of_lt_of_le (h4 k hk).2 hw.size⟩, fun k hk => ⟨(h5 k hk).1, Nat.lt_of_lt_of_le (h5 k hk).2 hw.size⟩⟩
/-- A call on the first of them. -/
theorem Pair.on {B : Nat} {w : World} {a b : Nat} {ha hb ha' : List UInt8} {pa pb pa' : Option (List UInt8)} {oa ob oa' : Bool} {f : FuncId} {args : Array Value} {R : Ending → Prop} (h : Pair B w a ha pa oa b hb pb ob) (hB : B ≤ w.heap.size)
    (hop : ∀ S : Nat → Prop, (∀ k, S k → B ≤ k) → TapAt w S a ha pa oa → Calls Tryd.prog f args w fun e w' => R e ∧ TapAt w' (grow S w w') a ha' pa' oa' ∧ Only S w w') :
    Calls Tryd.prog f args w fun e w' => R e ∧ Pair B w' a ha' pa' oa' b hb pb ob ∧ Below B w w' := by
  obtain ⟨Sa, Sb, h1, h2, h3, h4, h5⟩ := h
  refine (hop Sa (fun k hk => (h4 k hk).1) h1).mono fun e w' ⟨he, ht, ho⟩ => ⟨he, ⟨grow Sa w w', Sb, ht, h2.keep (fun k hk => ho.block k (h5 k hk).2 (fun hs => h3 k hs hk)), fun k hk hk2 => ?_, fun k hk => ?_, fun k hk => ⟨(h5 k hk).1, Nat.lt_of_lt_of_le (h5 k hk).2 ho.size⟩⟩, ho.below hB (fun k hk hs => by have := (h4 k hs).1; omega)⟩
  · rcases hk with hk | hk
    · exact h3 k hk hk2
    · have := (h5 k hk2).2; omega
  · rcases hk with hk | hk
    · exact ⟨(h4 k hk).1, Nat.lt_of_lt_of_le (h4 k hk).2 ho.size⟩
    · exact ⟨by omega, hk.2⟩

section
variable {B a b : Nat} {w : World} {ha hb : List UInt8} {pa pb : Option (List UInt8)} {oa ob : Bool}
theorem prHead (hB : B ≤ w.heap.size) (h : Pair B w a ha pa oa b hb pb ob) :
    Calls Tryd.prog 29 #[.pointer (some ⟨a, 0, none⟩)] w fun e w' => e = .returned (.string ⟨ha.toArray⟩) ∧ Pair B w' a [] pa oa b hb pb ob ∧ Below B w w' :=
  h.on (R := fun e => e = .returned (.string ⟨ha.toArray⟩)) hB fun S _ ht => (tapHead_any S a ha pa oa w ht).mono fun _ _ ⟨he, h1, h2⟩ => ⟨he, h1.mono (fun _ hk => .inl hk), h2⟩
theorem prBegin (s : ByteArray) (ht : Tabs w) (hG : 2 ≤ B) (hB : B ≤ w.heap.size) (h : Pair B w a ha pa oa b hb pb ob) (hs : s.size < 4611686018427387904) :
    Calls Tryd.prog 30 #[.pointer (some ⟨a, 0, none⟩), .string s] w fun e w' => e = .returned (.tuple #[]) ∧ Pair B w' a ha (some s.data.toList) true b hb pb ob ∧ Below B w w' :=
  h.on (R := fun e => e = .returned (.tuple #[])) hB fun S hS h1 => tapBegin_any S a ha pa oa s w ht (fun k hk => Nat.le_trans hG (hS k hk)) h1 hs
theorem prPush (c : UInt8) (ht : Tabs w) (hG : 2 ≤ B) (hB : B ≤ w.heap.size) (h : Pair B w a ha pa oa b hb pb ob) (hl : ha.length < 1099511627776) (hm : (pa.getD []).length < 1099511627776) :
    Calls Tryd.prog 27 #[.pointer (some ⟨a, 0, none⟩), .int .u8 (c.toNat : Int)] w fun e w' => e = .returned (.tuple #[]) ∧ Pair B w' a (ha ++ [c]) (partPush oa pa c) oa b hb pb ob ∧ Below B w w' :=
  h.on (R := fun e => e = .returned (.tuple #[])) hB fun S hS h1 => tapPush_any S a ha pa oa c w ht (fun k hk => Nat.le_trans hG (hS k hk)) h1 hl hm
theorem prSum {m : List UInt8} (ht : Tabs w) (hG : 2 ≤ B) (h : Pair B w a ha (some m) oa b hb pb ob) (hl : m.length < 1152921504606846976) :
    Calls Tryd.prog 33 #[.pointer (some ⟨a, 0, none⟩)] w fun e w' => e = .returned (.tuple #[.string ⟨(Sha.sum m).toArray⟩, .bool true]) ∧ Below w.heap.size w w' := by
  obtain ⟨Sa, Sb, h1, h2, h3, h4, h5⟩ := h
  exact tapSum_some Sa a ha m oa w ht (fun k hk => Nat.le_trans hG (h4 k hk).1) h1 hl
end
theorem prNew {B a : Nat} {w : World} {ha : List UInt8} {pa : Option (List UInt8)} {oa : Bool} {S : Nat → Prop} (hB : B ≤ w.heap.size) (h : TapAt w S a ha pa oa) (hS : ∀ k, S k → B ≤ k ∧ k < w.heap.size) :
    Calls Tryd.prog 25 #[] w fun e w' => ∃ b, e = .returned (.pointer (some ⟨b, 0, none⟩)) ∧ Pair B w' a ha pa oa b [] none false ∧ Below B w w' :=
  (tapNew_any w).mono fun _ w' ⟨b, he, ht, hb⟩ => ⟨b, he, ⟨S, _, h.keep (fun k hk => hb.block k (hS k hk).2), ht, fun k hk hk2 => hk2.elim (fun h => h) (fun h => by have := (hS k hk).2; omega), fun k hk => ⟨(hS k hk).1, Nat.lt_of_lt_of_le (hS k hk).2 hb.size⟩,
    fun k hk => hk.elim False.elim (fun h => ⟨Nat.le_trans hB h.1, h.2⟩)⟩, hb.mono hB⟩

theorem tapHeads_far (a p c : ByteArray) (w : World) (ht : Tabs w) (h : 200 < a.size ∨ (a.size ≤ 200 ∧ 200 < p.size) ∨ (a.size ≤ 200 ∧ p.size ≤ 200 ∧ 200 < c.size)) :
    Calls Tryd.prog 11 #[.string a, .string p, .string c] w fun e w' => e = .returned (.bool true) ∧ Below w.heap.size w w' := by
  have hsz := ht.size
  rcases h with h | ⟨h1, h⟩ | ⟨h1, h2, h⟩
  all_goals
    try have ia : (a.size : Int) ≤ 200 := by omega
    try have ib : (p.size : Int) ≤ 200 := by omega
    try have ja : (200 : Int) < a.size := by omega
    try have jb : (200 : Int) < p.size := by omega
    try have jc : (200 : Int) < c.size := by omega
    go_enter Tryd.func11, Tryd.ntmps11
    go_wp2_with fail
    refine (tpNew w.heap.size w (Nat.le_refl _)).mono ?_
    rintro e w1 ⟨x, rfl, h1, hb1⟩
    clear h1
    go_wp2_with fail
    refine (tpNew w.heap.size w1 hb1.size).mono ?_
    rintro e w2 ⟨y, rfl, h2, hb2⟩
    clear h2
    have hb2' := hb1.trans hb2
    go_wp2_with fail
    refine (awake21_any w2 (ht.keep hb2' hsz)).mono ?_
    rintro e w3 ⟨rfl, hb3⟩
    have hb3' := hb2'.trans (hb3.mono hb2'.size)
    go_wp2_with fail
    refine (awake21_any w3 (ht.keep hb3' hsz)).mono ?_
    rintro e w4 ⟨rfl, hb4⟩
    go_wp2
    go_ret
    exact ⟨rfl, hb3'.trans (hb4.mono hb3'.size)⟩

set_option maxHeartbeats 1000000 in
theorem tapHeads_near (a p c : ByteArray) (w : World) (ht : Tabs w) (ha : a.size ≤ 200) (hp : p.size ≤ 200) (hc : c.size ≤ 200) :
    Calls Tryd.prog 11 #[.string a, .string p, .string c] w fun e w' => e = .returned (.bool true) ∧ Below w.heap.size w w' := by
  have hsz := ht.size
  have ia : (a.size : Int) ≤ 200 := by omega
  have ib : (p.size : Int) ≤ 200 := by omega
  have ic : (c.size : Int) ≤ 200 := by omega
  obtain ⟨A, hA⟩ : ∃ A : ByteArray, A = ⟨(Sha.sum (a.data.toList ++ p.data.toList)).toArray⟩ := ⟨_, rfl⟩
  have hs2 : ∀ W : World, Calls Tryd.prog 15 #[.string (a ++ p)] W fun e w' => e = .returned (.string A) ∧ Below W.heap.size W w' := fun W => by
    have h := sum02_any (a ++ p) W (by simp; omega)
    rw [hA]
    have e : (a ++ p).data.toList = a.data.toList ++ p.data.toList := by simp
    rwa [e] at h
  have hs1 : ∀ (x y : Nat) (hx hy : List UInt8) (py : Option (List UInt8)) (ox oy : Bool) (W : World), Below w.heap.size w W → Pair w.heap.size W x hx (some (a.data.toList ++ p.data.toList)) ox y hy py oy →
      Calls Tryd.prog 33 #[.pointer (some ⟨x, 0, none⟩)] W fun e w' => e = .returned (.tuple #[.string A, .bool true]) ∧ Below W.heap.size W w' := fun x y hx hy py ox oy W hW h => by
    rw [hA]; exact prSum (ht.keep hW hsz) hsz h (by simp; omega)
  have hpu : ∀ (x y : Nat) (hx hy : List UInt8) (px py : Option (List UInt8)) (ox oy : Bool) (c : UInt8) (W : World), hx.length ≤ 1000 → (px.getD []).length ≤ 1000 → Below w.heap.size w W → Pair w.heap.size W x hx px ox y hy py oy →
      Calls Tryd.prog 27 #[.pointer (some ⟨x, 0, none⟩), .int .u8 (c.toNat : Int)] W fun e w' => e = .returned (.tuple #[]) ∧ Pair w.heap.size w' x (hx ++ [c]) (partPush ox px c) ox y hy py oy ∧ Below w.heap.size W w' := fun x y hx hy px py ox oy c W h1 h2 hW h =>
    prPush c (ht.keep hW hsz) hsz hW.size h (by omega) (by omega)
  have HA := Lib.hid hA
  clear hA
  go_enter Tryd.func11, Tryd.ntmps11
  go_wp2_with fail
  refine (tapNew_any w).mono ?_
  rintro e w1 ⟨x, rfl, h1, hb1⟩
  have H1 := Lib.hid h1
  clear h1
  go_wp2_with fail
  refine (prNew (B := w.heap.size) hb1.size H1.out (fun k hk => hk.elim False.elim (fun h => h))).mono ?_
  rintro e w2 ⟨y, rfl, h2, hb2⟩
  have H2 := Lib.hid h2
  have hb2' := hb1.trans hb2
  clear h2 H1
  go_wp2_with fail
  refine (awake21_any w2 (ht.keep hb2' hsz)).mono ?_
  rintro e w3 ⟨rfl, hb3⟩
  have H3 := Lib.hid (H2.out.keep hb3)
  have hb3' := hb2'.trans (hb3.mono hb2'.size)
  clear H2
  go_wp2_with fail
  refine (prBegin c (ht.keep hb3' hsz) hsz hb3'.size H3.out (by omega)).mono ?_
  rintro e w4 ⟨rfl, h4, hb4⟩
  have H4 := Lib.hid h4
  have hb4' := hb3'.trans hb4
  clear h4 H3
  go_wp2_with fail
  refine (prBegin a (ht.keep hb4' hsz) hsz hb4'.size H4.out (by omega)).mono ?_
  rintro e w5 ⟨rfl, h5, hb5⟩
  have H5 := Lib.hid h5
  have hb5' := hb4'.trans hb5
  clear h5 H4
  go_wp2_with fail
  refine (prBegin ⟨#[]⟩ (ht.keep hb5' hsz) hsz hb5'.size H5.out.swap (by decide)).mono ?_
  rintro e w6 ⟨rfl, h6, hb6⟩
  have H6 : Hid (Pair w.heap.size w6 y (a.data.toList.take 0) (some (a.data.toList.take 0)) true x [] (some a.data.toList) true) := h6
  have hb6' := hb5'.trans hb6
  clear h6 H5 hb1 hb2 hb2' hb3 hb3' hb4 hb4' hb5 hb5' hb6
  go_wp2_with fail
  go_loopw [53] (fun vi wr => ∃ i : Nat, i ≤ a.size ∧ vi = .int .i64 i ∧ Pair w.heap.size wr y (a.data.toList.take i) (some (a.data.toList.take i)) true x [] (some a.data.toList) true ∧ Below w.heap.size w wr) (fun vi _ => a.size - (intOf vi).toNat)
  case atStart => exact ⟨0, by omega, rfl, H6.out, hb6'⟩
  case round =>
    clear H6 hb6'
    obtain ⟨i, hi, rfl, h1, hb⟩ := hrel
    have H1 := Lib.hid h1
    clear h1
    by_cases hlt : i < a.size
    · have HN := Lib.hid (byteI a i hlt)
      go_wp2_with fail
      refine (hpu y x _ _ _ _ true true a[i] wr (by simp; omega) (by simp; omega) hb H1.out).mono ?_
      rintro e w3 ⟨rfl, h3, hb3⟩
      have H3 : Hid (Pair w.heap.size w3 y (a.data.toList.take (i + 1)) (some (a.data.toList.take (i + 1))) true x [] (some a.data.toList) true) := by rw [HN.out]; exact h3
      have hb3' := hb.trans hb3
      clear h3
      go_wp2
      go_roundw
      case rel => exact ⟨i + 1, by omega, by go_num, H3.out, hb3'⟩
      case measure => simp [intOf]; omega
    · obtain rfl : i = a.size := by omega
      have H2 : Hid (Pair w.heap.size wr y (a.data.toList ++ p.data.toList.take 0) (some (a.data.toList ++ p.data.toList.take 0)) true x (p.data.toList.take 0) (some (a.data.toList ++ p.data.toList.take 0)) true) := by
        have h := H1.out
        rw [List.take_of_length_le (by simp)] at h
        rw [List.take_zero, List.append_nil]
        exact h
      clear H1 hlt hi
      go_wp2_with fail
      go_loopw [64] (fun vi wr => ∃ i : Nat, i ≤ p.size ∧ vi = .int .i64 i ∧ Pair w.heap.size wr y (a.data.toList ++ p.data.toList.take i) (some (a.data.toList ++ p.data.toList.take i)) true x (p.data.toList.take i) (some (a.data.toList ++ p.data.toList.take i)) true ∧ Below w.heap.size w wr) (fun vi _ => p.size - (intOf vi).toNat)
      case atStart => exact ⟨0, by omega, rfl, H2.out, hb⟩
      case round =>
        clear H2 hb
        obtain ⟨i, hi, rfl, h1, hb⟩ := hrel
        have H1 := Lib.hid h1
        clear h1
        by_cases hlt : i < p.size
        · have HN := Lib.hid (byteI p i hlt)
          go_wp2_with fail
          refine (hpu x y _ _ _ _ true true p[i] wr (by simp; omega) (by simp; omega) hb H1.out.swap).mono ?_
          rintro e w3 ⟨rfl, h3, hb3⟩
          have H3 := Lib.hid h3
          have hb3' := hb.trans hb3
          clear h3
          go_wp2_with fail
          refine (hpu y x _ _ _ _ true true p[i] w3 (by simp; omega) (by simp; omega) hb3' H3.out.swap).mono ?_
          rintro e w4 ⟨rfl, h4, hb4⟩
          have H4 : Hid (Pair w.heap.size w4 y (a.data.toList ++ p.data.toList.take (i + 1)) (some (a.data.toList ++ p.data.toList.take (i + 1))) true x (p.data.toList.take (i + 1)) (some (a.data.toList ++ p.data.toList.take (i + 1))) true) := by
            rw [HN.out, ← List.append_assoc]; exact h4
          have hb4' := hb3'.trans hb4
          clear h4
          go_wp2
          go_roundw
          case rel => exact ⟨i + 1, by omega, by go_num, H4.out, hb4'⟩
          case measure => simp [intOf]; omega
        · obtain rfl : i = p.size := by omega
          have H2 : Hid (Pair w.heap.size wr y (a.data.toList ++ p.data.toList) (some (a.data.toList ++ p.data.toList)) true x p.data.toList (some (a.data.toList ++ p.data.toList)) true) := by
            have h := H1.out
            rwa [List.take_of_length_le (l := p.data.toList) (by simp)] at h
          clear H1 hlt hi
          go_wp2_with fail
          refine (hs1 x y _ _ _ true true wr hb H2.out.swap).mono ?_
          rintro e w3 ⟨rfl, hb3⟩
          have H3 := Lib.hid (H2.out.keep hb3)
          have hb3' := hb.trans (hb3.mono hb.size)
          go_wp2_with fail
          refine (hs1 y x _ _ _ true true w3 hb3' H3.out).mono ?_
          rintro e w4 ⟨rfl, hb4⟩
          have H4 := Lib.hid (H3.out.keep hb4)
          have hb4' := hb3'.trans (hb4.mono hb3'.size)
          go_wp2_with fail
          refine (hs2 w4).mono ?_
          rintro e w5 ⟨rfl, hb5⟩
          have H5 := Lib.hid (H4.out.keep hb5)
          have hb5' := hb4'.trans (hb5.mono hb4'.size)
          have hhd := prHead hb5'.size H5.out.swap
          rw [show (⟨p.data.toList.toArray⟩ : ByteArray) = p from by apply ByteArray.ext; simp] at hhd
          go_wp2_with fail
          refine hhd.mono ?_
          rintro e w6 ⟨rfl, h6, hb6⟩
          have H6 := Lib.hid h6
          have hb6' := hb5'.trans hb6
          clear h6 hhd
          have hhe := prHead hb6'.size H6.out.swap
          rw [show (⟨(a.data.toList ++ p.data.toList).toArray⟩ : ByteArray) = a ++ p from by apply ByteArray.ext; simp] at hhe
          go_wp2_with fail
          refine hhe.mono ?_
          rintro e w7 ⟨rfl, h7, hb7⟩
          clear h7 hhe
          go_wp2
          go_ret
          exact ⟨rfl, hb6'.trans hb7⟩

theorem tapHeads_any (a p c : ByteArray) (w : World) (ht : Tabs w) :
    Calls Tryd.prog 11 #[.string a, .string p, .string c] w fun e w' => e = .returned (.bool true) ∧ Below w.heap.size w w' := by
  by_cases h : 200 < a.size ∨ (a.size ≤ 200 ∧ 200 < p.size) ∨ (a.size ≤ 200 ∧ p.size ≤ 200 ∧ 200 < c.size)
  · exact tapHeads_far a p c w ht h
  · exact tapHeads_near a p c w ht (by omega) (by omega) (by omega)
#print axioms tapHeads_any
end Go.Proofs.YtdiccgpgmddbdaaDoor
