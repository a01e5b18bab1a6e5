/- The walks of package tap: the bytes since the last head, and the part's digest. -/
import Derived.Test.YtdiccgpgmddbdaaDoorOwn
import Derived.Outline
namespace Go.Proofs.YtdiccgpgmddbdaaDoor
open Go.RowKit

/-- The block b is a Tap: hd came since the last head; pt: the part's bytes, if one was begun. All its blocks are in S. -/
def TapAt (w : World) (S : Nat → Prop) (b : Nat) (hd : List UInt8) (pt : Option (List UInt8)) (on : Bool) : Prop :=
  ∃ (v : Value) (hp : Option Addr), w.heap[b]? = some (.cells #[v, .pointer hp, .bool on] 72 (0, 0)) ∧ S b ∧ w.ownsRow 0 5 1 v hd.length (u8s hd) ∧ (∀ k, v.ownBlock = some k → S k ∧ k ≠ b) ∧
    (∀ m, pt = some m → ∃ h, hp = some ⟨h, 0, none⟩ ∧ S h ∧ h ≠ b ∧ v.ownBlock ≠ some h ∧ HashAt w h m) ∧ (pt = none → hp = none ∧ on = false)

theorem TapAt.keep {w w' : World} {S : Nat → Prop} {b : Nat} {hd : List UInt8} {pt : Option (List UInt8)} {on : Bool} (h : TapAt w S b hd pt on) (hk : ∀ k, S k → w'.heap[k]? = w.heap[k]?) : TapAt w' S b hd pt on := by
  obtain ⟨v, hp, h1, h2, h3, h4, h5, h6⟩ := h
  refine ⟨v, hp, (hk b h2).trans h1, h2, own_of_heap h3 (fun k e => hk k (h4 k e).1), h4, fun m hm => ?_, h6⟩
  obtain ⟨h, e, hs, h7, h8, h9⟩ := h5 m hm
  exact ⟨h, e, hs, h7, h8, h9.keep (hk h hs)⟩
theorem TapAt.mono {w : World} {S T : Nat → Prop} {b : Nat} {hd : List UInt8} {pt : Option (List UInt8)} {on : Bool} (h : TapAt w S b hd pt on) (hST : ∀ k, S k → T k) : TapAt w T b hd pt on := by
  obtain ⟨v, hp, h1, h2, h3, h4, h5, h6⟩ := h
  refine ⟨v, hp, h1, hST _ h2, h3, fun k e => ⟨hST _ (h4 k e).1, (h4 k e).2⟩, fun m hm => ?_, h6⟩
  obtain ⟨h, e, hs, h7, h8, h9⟩ := h5 m hm
  exact ⟨h, e, hST _ hs, h7, h8, h9⟩

theorem tapNew_any (w : World) :
    Calls Tryd.prog 25 #[] w fun e w' => ∃ b, e = .returned (.pointer (some ⟨b, 0, none⟩)) ∧ TapAt w' (grow (fun _ => False) w w') b [] none false ∧ Below w.heap.size w w' := by
  go_enter Tryd.func25, Tryd.ntmps25
  go_wp2
  go_ret
  refine ⟨_, rfl, ⟨.slice none 0 0, none, heap_alloc_last _ _, .inr ⟨Nat.le_refl _, by simp⟩, World.ownsRow_nil _ _ _ _, (fun k e => by cases e), (fun m e => by cases e), fun _ => ⟨rfl, rfl⟩⟩, (Below.refl _ _).alloc (Nat.le_refl _) _⟩

theorem tapEnd_any (S : Nat → Prop) (b : Nat) (hd : List UInt8) (pt : Option (List UInt8)) (on : Bool) (w : World) (h : TapAt w S b hd pt on) :
    Calls Tryd.prog 32 #[.pointer (some ⟨b, 0, none⟩)] w fun e w' => e = .returned (.tuple #[]) ∧ TapAt w' S b hd pt false ∧ Only S w w' := by
  obtain ⟨v, hp, h1, h2, h3, h4, h5, h6⟩ := h
  have c2 := heap_cell (j := 2) h1 rfl
  have f2 := heap_free (j := 2) h1
  go_enter Tryd.func32, Tryd.ntmps32
  go_wp2
  go_end0
  have hh := heap_set (j := 2) h1 (.bool false)
  refine ⟨rfl, ⟨v, hp, hh, h2, own_of_heap h3 (fun k e => Below.heap_setCell _ _ _ _ (h4 k e).2), h4, fun m hm => ?_, fun e => ⟨(h6 e).1, rfl⟩⟩, Only.set h2 _⟩
  obtain ⟨h, e, hs, h7, h8, h9⟩ := h5 m hm
  exact ⟨h, e, hs, h7, h8, h9.keep (Below.heap_setCell _ _ _ _ h7)⟩

theorem tapHead_any (S : Nat → Prop) (b : Nat) (hd : List UInt8) (pt : Option (List UInt8)) (on : Bool) (w : World) (h : TapAt w S b hd pt on) :
    Calls Tryd.prog 29 #[.pointer (some ⟨b, 0, none⟩)] w fun e w' => e = .returned (.string ⟨hd.toArray⟩) ∧ TapAt w' S b [] pt on ∧ Only S w w' := by
  obtain ⟨v, hp, h1, h2, h3, h4, h5, h6⟩ := h
  have c0 := heap_cell (j := 0) h1 rfl
  have f0 := heap_free (j := 0) h1
  have hcv := own_string h3
  have h5' : ∀ (u : Value) m, pt = some m → ∃ h, hp = some ⟨h, 0, none⟩ ∧ S h ∧ h ≠ b ∧ v.ownBlock ≠ some h ∧ HashAt (w.setCell ⟨b, 0, none⟩ u) h m := fun u m hm => by
    obtain ⟨h, e, hs, h7, h8, h9⟩ := h5 m hm
    exact ⟨h, e, hs, h7, h8, h9.keep (Below.heap_setCell _ _ _ _ h7)⟩
  rcases h3.2 with ⟨rfl, h0⟩ | ⟨g, cap, cur, rfl, hb, hg, hn, hm, hs, hxs⟩
  · go_enter Tryd.func29, Tryd.ntmps29
    go_wp2
    go_ret
    exact ⟨rfl, ⟨.slice none 0 0, hp, heap_set (j := 0) h1 _, h2, World.ownsRow_nil _ _ _ _, (fun k e => by cases e), h5' _, h6⟩, Only.set h2 _⟩
  · have hcap : (0 : Int) ≤ (cap : Int) := by omega
    have hcm : (cap : Int) ≤ 9223372036854775807 := by unfold maxLen at hm; omega
    have H3 := Lib.hid h3
    have HG := Lib.hid hg
    clear h3 hg hxs hs
    go_enter Tryd.func29, Tryd.ntmps29
    go_wp2
    go_ret
    exact ⟨rfl, ⟨.slice (some ⟨g, 0, none⟩) 0 cap, hp, heap_set (j := 0) h1 _, h2, own_of_heap (own_none H3.out) (fun k e => Below.heap_setCell _ _ _ _ (h4 k e).2), h4, h5' _, h6⟩, Only.set h2 _⟩

theorem tapBegin_any (S : Nat → Prop) (b : Nat) (hd : List UInt8) (pt : Option (List UInt8)) (on : Bool) (s : ByteArray) (w : World) (ht : Tabs w) (hS : ∀ k, S k → 2 ≤ k) (h : TapAt w S b hd pt on) (hl : s.size < 4611686018427387904) :
    Calls Tryd.prog 30 #[.pointer (some ⟨b, 0, none⟩), .string s] w fun e w' => e = .returned (.tuple #[]) ∧ TapAt w' (grow S w w') b hd (some s.data.toList) true ∧ Only S w w' := by
  obtain ⟨v, hp, h1, h2, h3, h4, h5, h6⟩ := h
  have hsz := ht.size
  have hbs := hS b h2
  have hblt := heap_lt h1
  have H3 := Lib.hid h3
  clear h3
  go_enter Tryd.func30, Tryd.ntmps30
  go_wp2_with fail
  refine (new_any _ ht).mono ?_
  rintro e w1 ⟨k, rfl, hk, hk1, hb1⟩
  have hr1 : w1.heap[b]? = some (.cells #[v, .pointer hp, .bool on] 72 (0, 0)) := (hb1.block b hblt).trans h1
  have c1 := heap_cell (j := 1) hr1 rfl
  have f1 := heap_free (j := 1) hr1
  have c2 := heap_cell (j := 2) hr1 rfl
  have f2 := heap_free (j := 2) hr1
  have hkb : k ≠ b := by omega
  have hkl := hk1.lt
  go_wp2_with fail
  have hb2 : Only S w ((w1.setCell ⟨b, 1, none⟩ (.pointer (some ⟨k, 0, none⟩))).setCell ⟨b, 2, none⟩ (.bool true)) := ((Only.of_below hb1).trans (Only.set h2 _)).trans (Only.set h2 _)
  have hr2 := heap_set (j := 2) (heap_set (j := 1) hr1 (.pointer (some ⟨k, 0, none⟩))) (.bool true)
  have hk2 : HashAt ((w1.setCell ⟨b, 1, none⟩ (.pointer (some ⟨k, 0, none⟩))).setCell ⟨b, 2, none⟩ (.bool true)) k [] :=
    (hk1.keep (Below.heap_setCell _ _ _ _ hkb)).keep (Below.heap_setCell _ _ _ _ hkb)
  have ho2 := own_of_heap H3.out (w' := (w1.setCell ⟨b, 1, none⟩ (.pointer (some ⟨k, 0, none⟩))).setCell ⟨b, 2, none⟩ (.bool true)) (fun j e => by
    rw [Below.heap_setCell _ _ _ _ (h4 j e).2, Below.heap_setCell _ _ _ _ (h4 j e).2]
    exact hb1.block j (H3.out.lt j e).2)
  have hz2 : ((w1.setCell ⟨b, 1, none⟩ (.pointer (some ⟨k, 0, none⟩))).setCell ⟨b, 2, none⟩ (.bool true)).heap.size = w1.heap.size := by simp
  generalize ((w1.setCell ⟨b, 1, none⟩ (.pointer (some ⟨k, 0, none⟩))).setCell ⟨b, 2, none⟩ (.bool true)) = w2 at *
  have ht2 : Tabs w2 := ht.only hb2 (fun e => by have := hS _ e; simp at this) (fun e => by have := hS _ e; simp at this)
  refine (write_any k [] s w2 ht2 (by omega) hk2 (by simp; omega)).mono ?_
  rintro e w3 ⟨rfl, hk3, ho3⟩
  go_wp2
  go_end0
  have hb3 : w3.heap.size ≥ w2.heap.size := ho3.size
  refine ⟨rfl, ⟨v, _, (ho3.block b (by omega) (fun e => hkb e.symm)).trans hr2, .inl h2, own_of_heap ho2 (fun j e => ho3.block j (by have := (H3.out.lt j e).2; have := hb1.size; omega) (fun ej => by have := (H3.out.lt j e).2; omega)), fun j e => ⟨.inl (h4 j e).1, (h4 j e).2⟩,
    fun m hm => ⟨k, rfl, .inr ⟨hk, by omega⟩, hkb, fun e => by have := (H3.out.lt k e).2; omega, ?_⟩, fun e => by cases e⟩, hb2.after ho3 (fun i hi e => by omega)⟩
  cases hm
  exact hk3

theorem tapSum_none (S : Nat → Prop) (b : Nat) (hd : List UInt8) (on : Bool) (w : World) (h : TapAt w S b hd none on) :
    Calls Tryd.prog 33 #[.pointer (some ⟨b, 0, none⟩)] w fun e w' => e = .returned (.tuple #[.string ⟨#[]⟩, .bool false]) ∧ w = w' := by
  obtain ⟨v, hp, h1, h2, h3, h4, h5, h6⟩ := h
  obtain ⟨rfl, rfl⟩ := h6 rfl
  have c1 := heap_cell (j := 1) h1 rfl
  clear h3 h5 h6
  go_enter Tryd.func33, Tryd.ntmps33
  go_wp2
  go_ret2
  exact ⟨rfl, rfl⟩
theorem tapSum_some (S : Nat → Prop) (b : Nat) (hd : List UInt8) (m : List UInt8) (on : Bool) (w : World) (ht : Tabs w) (hS : ∀ k, S k → 2 ≤ k) (h : TapAt w S b hd (some m) on) (hl : m.length < 1152921504606846976) :
    Calls Tryd.prog 33 #[.pointer (some ⟨b, 0, none⟩)] w fun e w' => e = .returned (.tuple #[.string ⟨(Sha.sum m).toArray⟩, .bool true]) ∧ Below w.heap.size w w' := by
  obtain ⟨v, hp, h1, h2, h3, h4, h5, h6⟩ := h
  obtain ⟨k, rfl, hsk, hkb, hvk, hk⟩ := h5 m rfl
  have c1 := heap_cell (j := 1) h1 rfl
  have hk2 := hS k hsk
  have HK := Lib.hid hk
  have HL := Lib.hid hl
  clear h3 h5 h6 hk hl
  go_enter Tryd.func33, Tryd.ntmps33
  go_wp2_with (go_at_call 19; refine (sum_any k m _ ht hk2 HK.out HL.out).mono ?_; rintro e w1 ⟨rfl, hb1⟩)
  go_ret2
  exact ⟨rfl, hb1⟩

set_option maxHeartbeats 1000000 in
theorem tapPush_off (S : Nat → Prop) (b : Nat) (hd : List UInt8) (pt : Option (List UInt8)) (c : UInt8) (w : World) (h : TapAt w S b hd pt false) (hl : hd.length < 1099511627776) :
    Calls Tryd.prog 27 #[.pointer (some ⟨b, 0, none⟩), .int .u8 (c.toNat : Int)] w fun e w' => e = .returned (.tuple #[]) ∧ TapAt w' (grow S w w') b (hd ++ [c]) pt false ∧ Only S w w' := by
  obtain ⟨i0, hi, hz0, hz1, hz2⟩ := info_parts info_u8
  obtain ⟨v, hp, h1, h2, h3, h4, h5, h6⟩ := h
  have hblt := heap_lt h1
  have c0 := heap_cell (j := 0) h1 rfl
  have hvl := fun k e => (h3.lt k e).2
  have H3 := Lib.hid h3
  have H1 := Lib.hid h1
  have HL := Lib.hid hl
  clear h3 h1 hl
  go_enter Tryd.func27, Tryd.ntmps27
  go_wp2_with (at_builtin; refine wpList_append_mine rfl _ _ 70 rfl 0 5 i0 (.int .u8 0) 1 1 Tryd.underlying70 hi hz0 hz1 hz2 rfl (by decide) v hd.length (u8s hd) rfl (H3.out.alloc _) ⟨w.heap.size, 0, none⟩ 1 1 [.int .u8 (c.toNat : Int)] rfl rfl (cells_new _ [.int .u8 (c.toNat : Int)] _) (fun x hx => by simp at hx; subst hx; rfl) (by omega) (by have := HL.out; unfold maxLen; omega) (by have := HL.out; omega) (by omega) ?grow)
  intro g cap' w1 hown1 hgrow1 hg1 hg2
  clear hg2 c0
  have hb1 : Only S w w1 := (Only.alloc _).trans (Only.of_grown hgrow1 (fun k e => (h4 k e).1))
  have hr1 : w1.heap[b]? = some (.cells #[v, .pointer hp, .bool false] 72 (0, 0)) := by
    rw [hgrow1.block b (by simp; omega) (fun e => (h4 b e.symm).2 rfl), heap_alloc_old _ _ hblt]; exact H1.out
  have c0 := heap_cell (j := 0) hr1 rfl
  have f0 := heap_free (j := 0) hr1
  have c2 := heap_cell (j := 2) hr1 rfl
  have hz1 : w.heap.size + 1 ≤ w1.heap.size := by have := hgrow1.size; simp at this; omega
  have hgl := (hown1.lt g rfl).2
  have hgb : g ≠ b := by
    intro e
    subst e
    rcases hg1 with h | h
    · exact (h4 _ h).2 rfl
    · omega
  go_wp2
  go_end0
  have hr2 := heap_set (j := 0) hr1 (.slice (some ⟨g, 0, none⟩) (hd.length + 1) cap')
  refine ⟨rfl, ⟨.slice (some ⟨g, 0, none⟩) (hd.length + 1) cap', hp, hr2, .inl h2, ?_, fun k e => ?_, fun m hm => ?_, fun e => ⟨(h6 e).1, rfl⟩⟩, hb1.trans (Only.set h2 _)⟩
  · have h := own_of_heap hown1 (w' := w1.setCell ⟨b, 0, none⟩ (.slice (some ⟨g, 0, none⟩) (hd.length + 1) cap')) (fun k e => Below.heap_setCell _ _ _ _ (by cases e; exact hgb))
    rw [u8s_snoc] at h
    simpa using h
  · obtain rfl : g = k := by simpa [Value.ownBlock] using e
    refine ⟨?_, hgb⟩
    rcases hg1 with h | h
    · exact .inl (h4 _ h).1
    · exact .inr ⟨by omega, by simpa using hgl⟩
  · obtain ⟨k, e, hs, h7, h8, h9⟩ := h5 m hm
    have hkl := h9.lt
    refine ⟨k, e, .inl hs, h7, fun e => ?_, (h9.keep ?_).keep (Below.heap_setCell _ _ _ _ h7)⟩
    · obtain rfl : g = k := by simpa [Value.ownBlock] using e
      rcases hg1 with h | h
      · exact h8 h
      · omega
    · rw [hgrow1.block k (by simp; omega) (fun e => h8 e.symm), heap_alloc_old _ _ hkl]

set_option maxHeartbeats 1000000 in
theorem tapPush_on (S : Nat → Prop) (b : Nat) (hd m : List UInt8) (c : UInt8) (w : World) (ht : Tabs w) (hS : ∀ k, S k → 2 ≤ k) (h : TapAt w S b hd (some m) true) (hl : hd.length < 1099511627776) (hml : m.length < 1099511627776) :
    Calls Tryd.prog 27 #[.pointer (some ⟨b, 0, none⟩), .int .u8 (c.toNat : Int)] w fun e w' => e = .returned (.tuple #[]) ∧ TapAt w' (grow S w w') b (hd ++ [c]) (some (m ++ [c])) true ∧ Only S w w' := by
  obtain ⟨i0, hi, hz0, hz1, hz2⟩ := info_parts info_u8
  obtain ⟨v, hp, h1, h2, h3, h4, h5, h6⟩ := h
  obtain ⟨k, rfl, hsk, hkb, hvk, hk⟩ := h5 m rfl
  have hblt := heap_lt h1
  have hkl := hk.lt
  have c0 := heap_cell (j := 0) h1 rfl
  have H3 := Lib.hid h3
  have H1 := Lib.hid h1
  have HL := Lib.hid hl
  have HML := Lib.hid hml
  clear h3 h1 h5 h6 hl hml
  go_enter Tryd.func27, Tryd.ntmps27
  go_wp2_with (at_builtin; refine wpList_append_mine rfl _ _ 70 rfl 0 5 i0 (.int .u8 0) 1 1 Tryd.underlying70 hi hz0 hz1 hz2 rfl (by decide) v hd.length (u8s hd) rfl (H3.out.alloc _) ⟨w.heap.size, 0, none⟩ 1 1 [.int .u8 (c.toNat : Int)] rfl rfl (cells_new _ [.int .u8 (c.toNat : Int)] _) (fun x hx => by simp at hx; subst hx; rfl) (by omega) (by have := HL.out; unfold maxLen; omega) (by have := HL.out; omega) (by omega) ?grow)
  intro g cap' w1 hown1 hgrow1 hg1 hg2
  clear hg2 c0
  have hb1 : Only S w w1 := (Only.alloc _).trans (Only.of_grown hgrow1 (fun k e => (h4 k e).1))
  have hr1 : w1.heap[b]? = some (.cells #[v, .pointer (some ⟨k, 0, none⟩), .bool true] 72 (0, 0)) := by
    rw [hgrow1.block b (by simp; omega) (fun e => (h4 b e.symm).2 rfl), heap_alloc_old _ _ hblt]; exact H1.out
  have hk1 : HashAt w1 k m := hk.keep (by rw [hgrow1.block k (by simp; omega) (fun e => hvk e.symm), heap_alloc_old _ _ hkl])
  have c0 := heap_cell (j := 0) hr1 rfl
  have f0 := heap_free (j := 0) hr1
  have c2 := heap_cell (j := 2) hr1 rfl
  have hz1 : w.heap.size + 1 ≤ w1.heap.size := by have := hgrow1.size; simp at this; omega
  have hgl := (hown1.lt g rfl).2
  have hgb : g ≠ b := by
    intro e
    subst e
    rcases hg1 with h | h
    · exact (h4 _ h).2 rfl
    · omega
  have hgk : g ≠ k := by
    intro e
    subst e
    rcases hg1 with h | h
    · exact hvk h
    · omega
  go_wp2_with fail
  have hr2 := heap_set (j := 0) hr1 (.slice (some ⟨g, 0, none⟩) (hd.length + 1) cap')
  have hk2 := hk1.keep (w' := w1.setCell ⟨b, 0, none⟩ (.slice (some ⟨g, 0, none⟩) (hd.length + 1) cap')) (Below.heap_setCell _ _ _ _ hkb)
  have hb2 : Only S w (w1.setCell ⟨b, 0, none⟩ (.slice (some ⟨g, 0, none⟩) (hd.length + 1) cap')) := hb1.trans (Only.set h2 _)
  have ho2 := own_of_heap hown1 (w' := w1.setCell ⟨b, 0, none⟩ (.slice (some ⟨g, 0, none⟩) (hd.length + 1) cap')) (fun k e => Below.heap_setCell _ _ _ _ (by cases e; exact hgb))
  have hz2' : (w1.setCell ⟨b, 0, none⟩ (.slice (some ⟨g, 0, none⟩) (hd.length + 1) cap')).heap.size = w1.heap.size := by simp
  have hsl : Hid (∃ W, W = w1.setCell ⟨b, 0, none⟩ (.slice (some ⟨g, 0, none⟩) (hd.length + 1) cap')) := show ∃ W, _ from ⟨_, rfl⟩
  clear c0 f0 c2
  generalize (w1.setCell ⟨b, 0, none⟩ (.slice (some ⟨g, 0, none⟩) (hd.length + 1) cap')) = w2 at *
  have c1 := heap_cell (j := 1) hr2 rfl
  have HR2 := Lib.hid hr2
  have HK2 := Lib.hid hk2
  have ht2 : Tabs w2 := ht.only hb2 (fun e => by have := hS _ e; simp at this) (fun e => by have := hS _ e; simp at this)
  have hk2s := hS k hsk
  clear hr2 hk2 hr1 hk1
  have HT2 := Lib.hid ht2
  have hcall : ∀ W : World, Below w2.heap.size w2 W → Calls Tryd.prog 18 #[.pointer (some ⟨k, 0, none⟩), .string ⟨#[c]⟩] W fun e w' => e = .returned (.tuple #[]) ∧ HashAt w' k (m ++ [c]) ∧ Only (· = k) w2 w' := fun W hW =>
    (write_any k m ⟨#[c]⟩ W (HT2.out.keep hW HT2.out.size) hk2s (HK2.out.keep (hW.block k HK2.out.lt)) (by have := HML.out; show m.length + 1 < _; omega)).mono fun e w' ⟨h1, h2, h3⟩ => ⟨h1, h2, (Only.of_below hW).trans h3⟩
  have H4 := Lib.hid h4
  have HS := Lib.hid hS
  have HG := Lib.hid hgrow1
  have HG1 := Lib.hid hg1
  have HO2 := Lib.hid ho2
  have HZ2 := Lib.hid hz2'
  clear hz2' ht ht2 h4 hS hgrow1 hg1 hown1 ho2 hvk hsl
  have hcv := conv1d c w2
  have hbl2 : b < w2.heap.size := by have := HZ2.out; omega
  go_region_with (go_at_call 18; refine (hcall _ ?_).mono ?_; exact ((Below.refl _ _).drew).alloc (Nat.le_refl _) _; rintro e w3 ⟨rfl, hk3, ho3⟩)
  all_goals
    go_wp2
    go_end0
    have hs3 := ho3.size
    have hz2 := HZ2.out
    refine ⟨rfl, ⟨.slice (some ⟨g, 0, none⟩) (hd.length + 1) cap', some ⟨k, 0, none⟩, (ho3.block b hbl2 (fun e => hkb e.symm)).trans HR2.out, .inl h2, ?_, fun j e => ?_, fun m' hm => ⟨k, rfl, .inl hsk, hkb, fun e => ?_, ?_⟩, fun e => by cases e⟩, hb2.trans (ho3.mono (fun i _ e => e ▸ hsk))⟩
    · have h := own_of_heap HO2.out (w' := w3) (fun j e => by
        obtain rfl : g = j := by simpa [Value.ownBlock] using e
        exact ho3.block g (by omega) hgk)
      rw [u8s_snoc] at h
      simpa using h
    · obtain rfl : g = j := by simpa [Value.ownBlock] using e
      refine ⟨?_, hgb⟩
      rcases HG1.out with h | h
      · exact .inl (H4.out _ h).1
      · exact .inr ⟨by omega, by omega⟩
    · exact hgk (by simpa [Value.ownBlock] using e)
    · cases hm
      exact hk3

/-- The part behind a byte. -/
def partPush (on : Bool) (pt : Option (List UInt8)) (c : UInt8) : Option (List UInt8) := if on then pt.map (· ++ [c]) else pt
theorem tapPush_any (S : Nat → Prop) (b : Nat) (hd : List UInt8) (pt : Option (List UInt8)) (on : Bool) (c : UInt8) (w : World) (ht : Tabs w) (hS : ∀ k, S k → 2 ≤ k) (h : TapAt w S b hd pt on) (hl : hd.length < 1099511627776) (hml : (pt.getD []).length < 1099511627776) :
    Calls Tryd.prog 27 #[.pointer (some ⟨b, 0, none⟩), .int .u8 (c.toNat : Int)] w fun e w' => e = .returned (.tuple #[]) ∧ TapAt w' (grow S w w') b (hd ++ [c]) (partPush on pt c) on ∧ Only S w w' := by
  cases on with
  | false => exact tapPush_off S b hd pt c w h hl
  | true =>
    cases pt with
    | none =>
      obtain ⟨v, hp, h1, h2, h3, h4, h5, h6⟩ := h
      cases (h6 rfl).2
    | some m => exact tapPush_on S b hd m c w ht hS h hl hml
#print axioms tapPush_any
end Go.Proofs.YtdiccgpgmddbdaaDoor
