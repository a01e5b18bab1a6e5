/- A Tap of the call's own: its contracts with one bound for all its blocks; the walk of gantletlaw21.awake. -/
import Derived.Test.YtdiccgpgmddbdaaDoorTap
import Derived.Test.YtdiccgpgmddbdaaDoorRefSum
namespace Go.Proofs.YtdiccgpgmddbdaaDoor
open Go.RowKit

/-- A Tap all of whose blocks are new since a world of B blocks. -/
abbrev Tp (w : World) (B b : Nat) (hd : List UInt8) (pt : Option (List UInt8)) (on : Bool) : Prop := TapAt w (fun k => B ≤ k) b hd pt on
theorem Tp.of_grow {w w' : World} {B b : Nat} {hd : List UInt8} {pt : Option (List UInt8)} {on : Bool} (h : TapAt w' (grow (fun k => B ≤ k) w w') b hd pt on) (hB : B ≤ w.heap.size) : Tp w' B b hd pt on :=
  h.mono fun k hk => by
    rcases hk with hk | hk
    · exact hk
    · exact Nat.le_trans hB hk.1
theorem Only.own {B : Nat} {w w' : World} (h : Only (fun k => B ≤ k) w w') (hB : B ≤ w.heap.size) : Below B w w' := h.below hB (fun k hk e => by omega)
theorem Tp.keep {w w' : World} {B b : Nat} {hd : List UInt8} {pt : Option (List UInt8)} {on : Bool} (h : Tp w B b hd pt on) (hb : Below w.heap.size w w') : Tp w' B b hd pt on := by
  obtain ⟨v, hp, h1, h2, h3, h4, h5, h6⟩ := h
  refine ⟨v, hp, (hb.block b (heap_lt h1)).trans h1, h2, own_of_heap h3 (fun k e => hb.block k (h3.lt k e).2), h4, fun m hm => ?_, h6⟩
  obtain ⟨h, e, hs, h7, h8, h9⟩ := h5 m hm
  exact ⟨h, e, hs, h7, h8, h9.keep (hb.block _ h9.lt)⟩

theorem tpNew (B : Nat) (w : World) (hB : B ≤ w.heap.size) :
    Calls Tryd.prog 25 #[] w fun e w' => ∃ b, e = .returned (.pointer (some ⟨b, 0, none⟩)) ∧ Tp w' B b [] none false ∧ Below B w w' :=
  (tapNew_any w).mono fun _ _ ⟨b, he, ht, hb⟩ => ⟨b, he, ht.mono fun _ hk => hk.elim False.elim (fun h => Nat.le_trans hB h.1), hb.mono hB⟩
theorem tpEnd {B b : Nat} {hd : List UInt8} {pt : Option (List UInt8)} {on : Bool} {w : World} (hB : B ≤ w.heap.size) (h : Tp w B b hd pt on) :
    Calls Tryd.prog 32 #[.pointer (some ⟨b, 0, none⟩)] w fun e w' => e = .returned (.tuple #[]) ∧ Tp w' B b hd pt false ∧ Below B w w' :=
  (tapEnd_any _ b hd pt on w h).mono fun _ _ ⟨he, ht, ho⟩ => ⟨he, ht, ho.own hB⟩
theorem tpHead {B b : Nat} {hd : List UInt8} {pt : Option (List UInt8)} {on : Bool} {w : World} (hB : B ≤ w.heap.size) (h : Tp w B b hd pt on) :
    Calls Tryd.prog 29 #[.pointer (some ⟨b, 0, none⟩)] w fun e w' => e = .returned (.string ⟨hd.toArray⟩) ∧ Tp w' B b [] pt on ∧ Below B w w' :=
  (tapHead_any _ b hd pt on w h).mono fun _ _ ⟨he, ht, ho⟩ => ⟨he, ht, ho.own hB⟩
theorem tpBegin {B b : Nat} {hd : List UInt8} {pt : Option (List UInt8)} {on : Bool} {w : World} (s : ByteArray) (ht : Tabs w) (hG : 2 ≤ B) (hB : B ≤ w.heap.size) (h : Tp w B b hd pt on) (hs : s.size < 4611686018427387904) :
    Calls Tryd.prog 30 #[.pointer (some ⟨b, 0, none⟩), .string s] w fun e w' => e = .returned (.tuple #[]) ∧ Tp w' B b hd (some s.data.toList) true ∧ Below B w w' :=
  (tapBegin_any _ b hd pt on s w ht (fun _ hk => Nat.le_trans hG hk) h hs).mono fun _ _ ⟨he, ht, ho⟩ => ⟨he, Tp.of_grow ht hB, ho.own hB⟩
theorem tpPush {B b : Nat} {hd : List UInt8} {pt : Option (List UInt8)} {on : Bool} {w : World} (c : UInt8) (ht : Tabs w) (hG : 2 ≤ B) (hB : B ≤ w.heap.size) (h : Tp w B b hd pt on) (hl : hd.length < 1099511627776) (hm : (pt.getD []).length < 1099511627776) :
    Calls Tryd.prog 27 #[.pointer (some ⟨b, 0, none⟩), .int .u8 (c.toNat : Int)] w fun e w' => e = .returned (.tuple #[]) ∧ Tp w' B b (hd ++ [c]) (partPush on pt c) on ∧ Below B w w' :=
  (tapPush_any _ b hd pt on c w ht (fun _ hk => Nat.le_trans hG hk) h hl hm).mono fun _ _ ⟨he, ht, ho⟩ => ⟨he, Tp.of_grow ht hB, ho.own hB⟩
theorem tpNone {B b : Nat} {hd : List UInt8} {on : Bool} {w : World} (h : Tp w B b hd none on) :
    Calls Tryd.prog 33 #[.pointer (some ⟨b, 0, none⟩)] w fun e w' => e = .returned (.tuple #[.string ⟨#[]⟩, .bool false]) ∧ w = w' := tapSum_none _ b hd on w h
theorem tpSum {B b : Nat} {hd m : List UInt8} {on : Bool} {w : World} (ht : Tabs w) (hG : 2 ≤ B) (h : Tp w B b hd (some m) on) (hl : m.length < 1152921504606846976) :
    Calls Tryd.prog 33 #[.pointer (some ⟨b, 0, none⟩)] w fun e w' => e = .returned (.tuple #[.string ⟨(Sha.sum m).toArray⟩, .bool true]) ∧ Below w.heap.size w w' :=
  tapSum_some _ b hd m on w ht (fun _ hk => Nat.le_trans hG hk) h hl

theorem awake21_any (w : World) (ht : Tabs w) :
    Calls Tryd.prog 26 #[] w fun e w' => e = .returned (.bool true) ∧ Below w.heap.size w w' := by
  have hsz := ht.size
  obtain ⟨A, hA⟩ : ∃ A : ByteArray, A = ⟨(Sha.sum [48, 0, 5]).toArray⟩ := ⟨_, rfl⟩
  have hs2 : ∀ W : World, Calls Tryd.prog 15 #[.string ⟨#[48, 0, 5]⟩] W fun e w' => e = .returned (.string A) ∧ Below W.heap.size W w' := fun W => by
    rw [hA]; exact sum02_any ⟨#[48, 0, 5]⟩ W (by decide)
  have hs1 : ∀ (b : Nat) (hd : List UInt8) (on : Bool) (W : World), Below w.heap.size w W → Tp W w.heap.size b hd (some [48, 0, 5]) on → Calls Tryd.prog 33 #[.pointer (some ⟨b, 0, none⟩)] W fun e w' => e = .returned (.tuple #[.string A, .bool true]) ∧ Below W.heap.size W w' := fun b hd on W hW h => by
    rw [hA]; exact tpSum (ht.keep hW hsz) hsz h (by decide)
  have hpu : ∀ (b : Nat) (hd : List UInt8) (pt : Option (List UInt8)) (on : Bool) (c : UInt8) (W : World), Below w.heap.size w W → Tp W w.heap.size b hd pt on → hd.length < 10 → (pt.getD []).length < 10 →
      Calls Tryd.prog 27 #[.pointer (some ⟨b, 0, none⟩), .int .u8 (c.toNat : Int)] W fun e w' => e = .returned (.tuple #[]) ∧ Tp w' w.heap.size b (hd ++ [c]) (partPush on pt c) on ∧ Below w.heap.size W w' := fun b hd pt on c W hW h h1 h2 =>
    tpPush c (ht.keep hW hsz) hsz hW.size h (by omega) (by omega)
  have HA := Lib.hid hA
  clear hA
  go_enter Tryd.func26, Tryd.ntmps26
  go_wp2_with fail
  refine (tpNew w.heap.size w (Nat.le_refl _)).mono ?_
  rintro e w1 ⟨b, rfl, h1, hb1⟩
  go_wp2_with fail
  refine (tpNone h1).mono ?_
  rintro e w2 ⟨rfl, rfl⟩
  go_wp2_with fail
  refine (hpu b [] none false 48 w1 hb1 h1 (by decide) (by decide)).mono ?_
  rintro e w2 ⟨rfl, h2, hb2⟩
  have hb2' := hb1.trans hb2
  go_wp2_with fail
  refine (hpu b _ none false 0 w2 hb2' h2 (by decide) (by decide)).mono ?_
  rintro e w3 ⟨rfl, h3, hb3⟩
  have hb3' := hb2'.trans hb3
  go_wp2_with fail
  refine (tpHead hb3'.size h3).mono ?_
  rintro e w4 ⟨rfl, h4, hb4⟩
  have hb4' := hb3'.trans hb4
  go_wp2_with fail
  refine (tpBegin ⟨#[48, 0]⟩ (ht.keep hb4' hsz) hsz hb4'.size h4 (by decide)).mono ?_
  rintro e w5 ⟨rfl, h5, hb5⟩
  have hb5' := hb4'.trans hb5
  go_wp2_with fail
  refine (hpu b _ _ true 5 w5 hb5' h5 (by decide) (by decide)).mono ?_
  rintro e w6 ⟨rfl, h6, hb6⟩
  have hb6' := hb5'.trans hb6
  go_wp2_with fail
  refine (tpEnd hb6'.size h6).mono ?_
  rintro e w7 ⟨rfl, h7, hb7⟩
  have hb7' := hb6'.trans hb7
  go_wp2_with fail
  refine (hpu b _ _ false 6 w7 hb7' h7 (by decide) (by decide)).mono ?_
  rintro e w8 ⟨rfl, h8, hb8⟩
  have hb8' := hb7'.trans hb8
  go_wp2_with fail
  refine (hs1 b _ false w8 hb8' h8).mono ?_
  rintro e w9 ⟨rfl, hb9⟩
  have hb9' := hb8'.trans (hb9.mono hb8'.size)
  have h9 := Tp.keep h8 hb9
  go_wp2_with fail
  refine (hs2 w9).mono ?_
  rintro e w10 ⟨rfl, hb10⟩
  have hb10' := hb9'.trans (hb10.mono hb9'.size)
  have h10 := Tp.keep h9 hb10
  go_wp2_with fail
  refine (tpHead hb10'.size h10).mono ?_
  rintro e w11 ⟨rfl, h11, hb11⟩
  have hb11' := hb10'.trans hb11
  go_wp2_with fail
  refine (tpHead hb11'.size h11).mono ?_
  rintro e w12 ⟨rfl, h12, hb12⟩
  go_wp2
  go_ret
  exact ⟨rfl, hb11'.trans hb12⟩
#print axioms awake21_any
end Go.Proofs.YtdiccgpgmddbdaaDoor
