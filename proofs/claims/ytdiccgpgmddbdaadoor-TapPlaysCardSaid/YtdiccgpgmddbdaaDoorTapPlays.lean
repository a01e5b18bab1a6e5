/- The walk of gantletlaw21.TapPlays: whatever list of calls, it answers true. Condition: the two package tables lie as laid. -/
import Derived.Test.YtdiccgpgmddbdaaDoorTapRef
namespace Go.Proofs.YtdiccgpgmddbdaaDoor
open Go.RowKit

theorem refPush (c : Nat) (hd pt : List UInt8) (bg on : Bool) (x : UInt8) (w : World) (h : RefAt w c hd pt bg on) (hl : hd.length < 1000000) (hp : pt.length < 1000000) :
    Calls Tryd.prog 28 #[.pointer (some ⟨c, 0, none⟩), .int .u8 (x.toNat : Int)] w fun e w' => e = .returned (.tuple #[]) ∧ RefAt w' c (hd ++ [x]) (if on then pt ++ [x] else pt) bg on ∧ Only (· = c) w w' := by
  cases on with
  | false => exact refPush_off c hd pt bg x w h hl
  | true => exact refPush_on c hd pt bg x w h hl hp

/-- The program's Tap and the document's, side by side: what each of them holds. -/
structure Duo (B c b : Nat) (D : Nat → Option Obj) (w : World) (hd : List UInt8) (pt : Option (List UInt8)) (on : Bool) (rh rp : List UInt8) (rb ro : Bool) : Prop where
  tap : TapAt w (fun k => B ≤ k ∧ k ≠ c ∧ D k = none) b hd pt on
  ref : RefAt w c rh rp rb ro
  own : B ≤ c
  kept : ∀ k o, D k = some o → w.heap[k]? = some o ∧ k ≠ c ∧ B ≤ k

section
variable {B c b : Nat} {D : Nat → Option Obj} {w : World} {hd : List UInt8} {pt : Option (List UInt8)} {on : Bool} {rh rp : List UInt8} {rb ro : Bool}
theorem Duo.keep {w' : World} (h : Duo B c b D w hd pt on rh rp rb ro) (hw : Below w.heap.size w w') : Duo B c b D w' hd pt on rh rp rb ro := by
  refine ⟨?_, h.ref.keep (hw.block c (heap_lt h.ref)), h.own, fun k o hk => ⟨(hw.block k (heap_lt (h.kept k o hk).1)).trans (h.kept k o hk).1, (h.kept k o hk).2⟩⟩
  obtain ⟨v, hp, h1, h2, h3, h4, h5, h6⟩ := h.tap
  refine ⟨v, hp, (hw.block b (heap_lt h1)).trans h1, h2, own_of_heap h3 (fun k e => hw.block k (h3.lt k e).2), h4, fun m hm => ?_, h6⟩
  obtain ⟨h, e, hs, h7, h8, h9⟩ := h5 m hm
  exact ⟨h, e, hs, h7, h8, h9.keep (hw.block _ h9.lt)⟩
/-- A call on the program's Tap. -/
theorem Duo.onT {hd' : List UInt8} {pt' : Option (List UInt8)} {on' : Bool} {f : FuncId} {args : Array Value} {R : Ending → Prop} (h : Duo B c b D w hd pt on rh rp rb ro) (hB : B ≤ w.heap.size)
    (hop : ∀ S : Nat → Prop, (∀ k, S k → B ≤ k) → TapAt w S b hd pt on → Calls Tryd.prog f args w fun e w' => R e ∧ TapAt w' (grow S w w') b hd' pt' on' ∧ Only S w w') :
    Calls Tryd.prog f args w fun e w' => R e ∧ Duo B c b D w' hd' pt' on' rh rp rb ro ∧ Below B w w' := by
  have hc := heap_lt h.ref
  refine (hop _ (fun k hk => hk.1) h.tap).mono fun e w' ⟨he, ht, ho⟩ => ⟨he, ⟨ht.mono fun k hk => ?_, h.ref.keep (ho.block c hc (fun hs => hs.2.1 rfl)), h.own, fun k o hk => ⟨(ho.block k (heap_lt (h.kept k o hk).1) (fun hs => by rw [hk] at hs; cases hs.2.2)).trans (h.kept k o hk).1, (h.kept k o hk).2⟩⟩, ho.below hB (fun k hk hs => by have := hs.1; omega)⟩
  rcases hk with hk | hk
  · exact hk
  · refine ⟨by omega, by omega, ?_⟩
    cases e : D k with
    | none => rfl
    | some o => have := heap_lt (h.kept k o e).1; omega
/-- A turn of the document's. -/
theorem Duo.onR {rh' rp' : List UInt8} {rb' ro' : Bool} {w' : World} (h : Duo B c b D w hd pt on rh rp rb ro) (hr : RefAt w' c rh' rp' rb' ro') (ho : Only (· = c) w w') : Duo B c b D w' hd pt on rh' rp' rb' ro' := by
  refine ⟨?_, hr, h.own, fun k o e => ⟨(ho.block k (heap_lt (h.kept k o e).1) (h.kept k o e).2.1).trans (h.kept k o e).1, (h.kept k o e).2⟩⟩
  have hk : ∀ k, k < w.heap.size → k ≠ c → w'.heap[k]? = w.heap[k]? := fun k hk hn => ho.block k hk hn
  obtain ⟨v, hp, h1, h2, h3, h4, h5, h6⟩ := h.tap
  refine ⟨v, hp, (hk b (heap_lt h1) h2.2.1).trans h1, h2, own_of_heap h3 (fun k e => hk k (h3.lt k e).2 (h4 k e).1.2.1), h4, fun m hm => ?_, h6⟩
  obtain ⟨h, e, hs, h7, h8, h9⟩ := h5 m hm
  exact ⟨h, e, hs, h7, h8, h9.keep (hk _ h9.lt hs.2.1)⟩
theorem Duo.only {w' : World} (h : Duo B c b D w hd pt on rh rp rb ro) (hB : B ≤ w.heap.size) (ho : Only (· = c) w w') : Below B w w' := ho.below hB (fun k hk e => by have := h.own; omega)

theorem duPush (x : UInt8) (ht : Tabs w) (hG : 2 ≤ B) (hB : B ≤ w.heap.size) (h : Duo B c b D w hd pt on rh rp rb ro) (hl : hd.length < 1099511627776) (hm : (pt.getD []).length < 1099511627776) :
    Calls Tryd.prog 27 #[.pointer (some ⟨b, 0, none⟩), .int .u8 (x.toNat : Int)] w fun e w' => e = .returned (.tuple #[]) ∧ Duo B c b D w' (hd ++ [x]) (partPush on pt x) on rh rp rb ro ∧ Below B w w' :=
  h.onT (R := fun e => e = .returned (.tuple #[])) hB fun S hS h1 => tapPush_any S b hd pt on x w ht (fun k hk => Nat.le_trans hG (hS k hk)) h1 hl hm
theorem duPushR (x : UInt8) (hB : B ≤ w.heap.size) (h : Duo B c b D w hd pt on rh rp rb ro) (hl : rh.length < 1000000) (hp : rp.length < 1000000) :
    Calls Tryd.prog 28 #[.pointer (some ⟨c, 0, none⟩), .int .u8 (x.toNat : Int)] w fun e w' => e = .returned (.tuple #[]) ∧ Duo B c b D w' hd pt on (rh ++ [x]) (if ro then rp ++ [x] else rp) rb ro ∧ Below B w w' :=
  (refPush c rh rp rb ro x w h.ref hl hp).mono fun _ _ ⟨he, hr, ho⟩ => ⟨he, h.onR hr ho, h.only hB ho⟩
theorem duHead (hB : B ≤ w.heap.size) (h : Duo B c b D w hd pt on rh rp rb ro) :
    Calls Tryd.prog 29 #[.pointer (some ⟨b, 0, none⟩)] w fun e w' => e = .returned (.string ⟨hd.toArray⟩) ∧ Duo B c b D w' [] pt on rh rp rb ro ∧ Below B w w' :=
  h.onT (R := fun e => e = .returned (.string ⟨hd.toArray⟩)) hB fun S _ h1 => (tapHead_any S b hd pt on w h1).mono fun _ _ ⟨he, h1, h2⟩ => ⟨he, h1.mono (fun _ hk => .inl hk), h2⟩
theorem duBegin (s : ByteArray) (ht : Tabs w) (hG : 2 ≤ B) (hB : B ≤ w.heap.size) (h : Duo B c b D w hd pt on rh rp rb ro) (hs : s.size < 4611686018427387904) :
    Calls Tryd.prog 30 #[.pointer (some ⟨b, 0, none⟩), .string s] w fun e w' => e = .returned (.tuple #[]) ∧ Duo B c b D w' hd (some s.data.toList) true rh rp rb ro ∧ Below B w w' :=
  h.onT (R := fun e => e = .returned (.tuple #[])) hB fun S hS h1 => tapBegin_any S b hd pt on s w ht (fun k hk => Nat.le_trans hG (hS k hk)) h1 hs
theorem duBeginR (s : ByteArray) (hB : B ≤ w.heap.size) (h : Duo B c b D w hd pt on rh rp rb ro) :
    Calls Tryd.prog 31 #[.pointer (some ⟨c, 0, none⟩), .string s] w fun e w' => e = .returned (.tuple #[]) ∧ Duo B c b D w' hd pt on rh s.data.toList true true ∧ Below B w w' :=
  (refBegin c rh rp rb ro s w h.ref).mono fun _ _ ⟨he, hr, ho⟩ => ⟨he, h.onR hr ho, h.only hB ho⟩
theorem duEnd (hB : B ≤ w.heap.size) (h : Duo B c b D w hd pt on rh rp rb ro) :
    Calls Tryd.prog 32 #[.pointer (some ⟨b, 0, none⟩)] w fun e w' => e = .returned (.tuple #[]) ∧ Duo B c b D w' hd pt false rh rp rb ro ∧ Below B w w' :=
  h.onT (R := fun e => e = .returned (.tuple #[])) hB fun S _ h1 => (tapEnd_any S b hd pt on w h1).mono fun _ _ ⟨he, h1, h2⟩ => ⟨he, h1.mono (fun _ hk => .inl hk), h2⟩
theorem duSum {m : List UInt8} (ht : Tabs w) (hG : 2 ≤ B) (h : Duo B c b D w hd (some m) on rh rp rb ro) (hl : m.length < 1152921504606846976) :
    Calls Tryd.prog 33 #[.pointer (some ⟨b, 0, none⟩)] w fun e w' => e = .returned (.tuple #[.string ⟨(Sha.sum m).toArray⟩, .bool true]) ∧ Below w.heap.size w w' :=
  tapSum_some _ b hd m on w ht (fun k hk => Nat.le_trans hG hk.1) h.tap hl
theorem duNone (h : Duo B c b D w hd none on rh rp rb ro) :
    Calls Tryd.prog 33 #[.pointer (some ⟨b, 0, none⟩)] w fun e w' => e = .returned (.tuple #[.string ⟨#[]⟩, .bool false]) ∧ w = w' := tapSum_none _ b hd on w h.tap
theorem Duo.off (h : Duo B c b D w hd pt on rh rp rb ro) (e : pt = none) : on = false := by
  obtain ⟨v, hp, h1, h2, h3, h4, h5, h6⟩ := h.tap
  exact (h6 e).2
end

/-- A block more that nobody writes. -/
def one (d : Nat) (o : Obj) : Nat → Option Obj := fun k => if k = d then some o else none
theorem TapAt.cut {w : World} {S : Nat → Prop} {b : Nat} {hd : List UInt8} {pt : Option (List UInt8)} {on : Bool} (h : TapAt w S b hd pt on) : TapAt w (fun k => S k ∧ k < w.heap.size) b hd pt on := by
  obtain ⟨v, hp, h1, h2, h3, h4, h5, h6⟩ := h
  refine ⟨v, hp, h1, ⟨h2, heap_lt h1⟩, h3, fun k e => ⟨⟨(h4 k e).1, (h3.lt k e).2⟩, (h4 k e).2⟩, fun m hm => ?_, h6⟩
  obtain ⟨h, e, hs, h7, h8, h9⟩ := h5 m hm
  exact ⟨h, e, ⟨hs, h9.lt⟩, h7, h8, h9⟩
theorem Duo.enter {B c b d : Nat} {o : Obj} {w w' : World} {hd : List UInt8} {pt : Option (List UInt8)} {on : Bool} {rh rp : List UInt8} {rb ro : Bool} (h : Duo B c b (fun _ => none) w hd pt on rh rp rb ro) (hw : Below w.heap.size w w') (hB : B ≤ w.heap.size) (hd' : w.heap.size ≤ d) (ho : w'.heap[d]? = some o) :
    Duo B c b (one d o) w' hd pt on rh rp rb ro := by
  have h1 := h.tap.cut.keep (w' := w') (fun k hk => hw.block k hk.2)
  have hc := heap_lt h.ref
  refine ⟨h1.mono fun k hk => ⟨hk.1.1, hk.1.2.1, ?_⟩, h.ref.keep (hw.block c hc), h.own, fun k o' e => ?_⟩
  · unfold one; rw [if_neg (by have := hk.2; omega)]
  · unfold one at e
    split at e
    · next ek => cases e; subst ek; exact ⟨ho, by omega, by omega⟩
    · cases e
theorem Duo.leave {B c b : Nat} {D : Nat → Option Obj} {w : World} {hd : List UInt8} {pt : Option (List UInt8)} {on : Bool} {rh rp : List UInt8} {rb ro : Bool} (h : Duo B c b D w hd pt on rh rp rb ro) :
    Duo B c b (fun _ => none) w hd pt on rh rp rb ro := ⟨h.tap.mono fun _ hk => ⟨hk.1, hk.2.1, rfl⟩, h.ref, h.own, fun _ _ e => by cases e⟩

theorem one_self (d : Nat) (o : Obj) : one d o d = some o := by simp [one]
theorem part_ref (on : Bool) (q : Option (List UInt8)) (x : UInt8) (h : q = none → on = false) : (if on then q.getD [] ++ [x] else q.getD []) = (partPush on q x).getD [] := by
  cases q with
  | none => rw [h rfl]; rfl
  | some m => cases on <;> rfl
/-- The two hold the same. -/
abbrev Same (B c b : Nat) (w : World) (hd : List UInt8) (pt : Option (List UInt8)) (on : Bool) : Prop := Duo B c b (fun _ => none) w hd pt on hd (pt.getD []) pt.isSome on

theorem plays_far (a0 : Option Addr) (len cap : Nat) (w : World) (ht : Tabs w) (hl : 40 < len) :
    Calls Tryd.prog 9 #[.slice a0 len cap] w fun e w' => e = .returned (.bool true) ∧ Below w.heap.size w w' := by
  have hsz := ht.size
  have hl' : (40 : Int) < len := by omega
  clear hl
  go_enter Tryd.func9, Tryd.ntmps9
  go_wp2_with fail
  refine (tpNew w.heap.size w (Nat.le_refl _)).mono ?_
  rintro e w1 ⟨b, rfl, h1, hb1⟩
  clear h1
  have hb1' := hb1.alloc hb1.size (.cells #[.string ⟨#[]⟩, .string ⟨#[]⟩, .bool false, .bool false] 49)
  go_wp2_with fail
  refine (awake21_any _ (ht.keep hb1' hsz)).mono ?_
  rintro e w2 ⟨rfl, hb2⟩
  have hb2' := hb1'.trans (hb2.mono hb1'.size)
  go_wp2_with fail
  refine (awake21_any w2 (ht.keep hb2' hsz)).mono ?_
  rintro e w3 ⟨rfl, hb3⟩
  go_wp2
  go_ret
  exact ⟨rfl, hb2'.trans (hb3.mono hb2'.size)⟩
theorem plays_none (a0 : Option Addr) (cap : Nat) (w : World) (ht : Tabs w) :
    Calls Tryd.prog 9 #[.slice a0 0 cap] w fun e w' => e = .returned (.bool true) ∧ Below w.heap.size w w' := by
  have hsz := ht.size
  go_enter Tryd.func9, Tryd.ntmps9
  go_wp2_with fail
  refine (tapNew_any w).mono ?_
  rintro e w1 ⟨b, rfl, h1, hb1⟩
  have hD : Same w.heap.size w1.heap.size b (w1.alloc (.cells #[.string ⟨#[]⟩, .string ⟨#[]⟩, .bool false, .bool false] 49)) [] none false :=
    ⟨(h1.keep (fun k hk => heap_alloc_old _ _ (hk.elim False.elim (fun h => h.2)))).mono (fun k hk => hk.elim False.elim (fun h => ⟨h.1, by omega, rfl⟩)), heap_alloc_last w1 _, hb1.size, fun _ _ e => by cases e⟩
  have hb1' := hb1.alloc hb1.size (.cells #[.string ⟨#[]⟩, .string ⟨#[]⟩, .bool false, .bool false] 49)
  have HD := Lib.hid hD
  clear h1 hD
  go_wp2_with fail
  refine (awake21_any _ (ht.keep hb1' hsz)).mono ?_
  rintro e w2 ⟨rfl, hb2⟩
  have hb2' := hb1'.trans (hb2.mono hb1'.size)
  have HD2 := Lib.hid (HD.out.keep hb2)
  obtain ⟨c, hcc⟩ : ∃ c, c = w1.heap.size := ⟨_, rfl⟩
  rw [← hcc] at HD2
  have c2 := heap_cell (j := 2) HD2.out.ref rfl
  have HCC := Lib.hid hcc
  go_wp2_with fail
  rw [← hcc]
  clear hcc HD hb2 hb1' hb1
  go_loop [27] (fun i => i = .int .i64 0) (fun _ => 0)
  case atStart => exact rfl
  case round =>
    obtain rfl := hrel
    go_wp2_with fail
    refine (duNone HD2.out).mono ?_
    rintro e w3 ⟨rfl, rfl⟩
    go_wp2
    go_ret
    exact ⟨rfl, hb2'⟩
set_option maxRecDepth 100000 in
set_option maxHeartbeats 4000000 in
theorem plays_near (b0 off len cap : Nat) (K : Nat → Int) (S : Nat → ByteArray) (w : World) (ht : Tabs w) (hb0 : b0 < w.heap.size) (hl : len ≤ 40)
    (hc0 : ∀ i, i < len → w.cell? ⟨b0, off + i * 2, none⟩ = some (.int .i64 (K i))) (hc1 : ∀ i, i < len → w.cell? ⟨b0, off + i * 2 + 1, none⟩ = some (.string (S i))) :
    Calls Tryd.prog 9 #[.slice (some ⟨b0, off, none⟩) len cap] w fun e w' => e = .returned (.bool true) ∧ Below w.heap.size w w' := by
  have hsz := ht.size
  have hl' : (len : Int) ≤ 40 := by omega
  have HC0 : Hid (∀ W, Below w.heap.size w W → ∀ i, i < len → W.cell? ⟨b0, off + i * 2, none⟩ = some (.int .i64 (K i))) := show ∀ W, Below w.heap.size w W → ∀ i, i < len → W.cell? ⟨b0, off + i * 2, none⟩ = some (.int .i64 (K i)) from fun W hW i hi => by rw [hW.cell (p := ⟨b0, off + i * 2, none⟩) hb0]; exact hc0 i hi
  have HC1 : Hid (∀ W, Below w.heap.size w W → ∀ i, i < len → W.cell? ⟨b0, off + i * 2 + 1, none⟩ = some (.string (S i))) := show ∀ W, Below w.heap.size w W → ∀ i, i < len → W.cell? ⟨b0, off + i * 2 + 1, none⟩ = some (.string (S i)) from fun W hW i hi => by rw [hW.cell (p := ⟨b0, off + i * 2 + 1, none⟩) hb0]; exact hc1 i hi
  have HL := Lib.hid hl
  clear hc0 hc1 hl
  go_enter Tryd.func9, Tryd.ntmps9
  go_wp2_with fail
  refine (tapNew_any w).mono ?_
  rintro e w1 ⟨b, rfl, h1, hb1⟩
  have hD : Same w.heap.size w1.heap.size b (w1.alloc (.cells #[.string ⟨#[]⟩, .string ⟨#[]⟩, .bool false, .bool false] 49)) [] none false :=
    ⟨(h1.keep (fun k hk => heap_alloc_old _ _ (hk.elim False.elim (fun h => h.2)))).mono (fun k hk => hk.elim False.elim (fun h => ⟨h.1, by omega, rfl⟩)), heap_alloc_last w1 _, hb1.size, fun _ _ e => by cases e⟩
  have hb1' := hb1.alloc hb1.size (.cells #[.string ⟨#[]⟩, .string ⟨#[]⟩, .bool false, .bool false] 49)
  have HD := Lib.hid hD
  clear h1 hD
  go_wp2_with fail
  refine (awake21_any _ (ht.keep hb1' hsz)).mono ?_
  rintro e w2 ⟨rfl, hb2⟩
  have hb2' := hb1'.trans (hb2.mono hb1'.size)
  have HD2 := Lib.hid (HD.out.keep hb2)
  obtain ⟨c, hcc⟩ : ∃ c, c = w1.heap.size := ⟨_, rfl⟩
  rw [← hcc] at HD2
  have HCC := Lib.hid hcc
  go_wp2_with fail
  rw [← hcc]
  clear hcc HD hb2 hb1' hb1
  go_loopw [27] (fun vi wr => ∃ (k : Nat) (hd : List UInt8) (pt : Option (List UInt8)) (on : Bool), k ≤ len ∧ vi = .int .i64 k ∧ hd.length ≤ 100 * k ∧ (pt.getD []).length ≤ 100 * k ∧ Same w.heap.size c b wr hd pt on ∧ Below w.heap.size w wr) (fun vi _ => len - (intOf vi).toNat)
  case atStart => exact ⟨0, [], none, false, by omega, rfl, by simp, by simp, HD2.out, hb2'⟩
  case round =>
    clear HD2 hb2'
    obtain ⟨k, hd, pt, on, hk, rfl, hhl, hpl, hD, hb⟩ := hrel
    have HD := Lib.hid hD
    have HHL := Lib.hid hhl
    have HPL := Lib.hid hpl
    have hbs := hb.size
    clear hD hhl hpl
    by_cases hlt : k < len
    · have c0 := HC0.out wr hb k hlt
      have c1 := HC1.out wr hb k hlt
      generalize K k = kind at *
      generalize S k = s at *
      by_cases hz : s.size ≤ 100
      · have hz' : (s.size : Int) ≤ 100 := by omega
        have hlen : ∀ i, i ≤ s.size → (hd ++ s.data.toList.take i).length < 5000 ∧ ((partAdd on pt (s.data.toList.take i)).getD []).length < 5000 := fun i hi => by
          have h1 := HHL.out
          have h2 := HPL.out
          have h3 := HL.out
          have h4 := partAdd_len on pt (s.data.toList.take i)
          have h5 : (s.data.toList.take i).length ≤ i := List.length_take_le _ _
          simp only [List.length_append]
          omega
        have HLEN : Hid (∀ i, i ≤ s.size → (hd ++ s.data.toList.take i).length < 5000 ∧ ((partAdd on pt (s.data.toList.take i)).getD []).length < 5000) := Lib.hid hlen
        have hE := HD.out.enter (w' := wr.alloc (.cells #[.int .i64 kind, .string s] 51)) ((Below.refl _ _).alloc (Nat.le_refl _) _) hbs (Nat.le_refl _) (heap_alloc_last wr _)
        have hbE := hb.alloc hbs (.cells #[.int .i64 kind, .string s] 51)
        have HE := Lib.hid hE
        clear hlen hE HD
        by_cases k1 : kind = 1
        · subst k1
          go_wp2_with fail
          go_loopw [42] (fun vi W => ∃ i : Nat, i ≤ s.size ∧ vi = .int .i64 i ∧ Duo w.heap.size c b (one wr.heap.size (.cells #[.int .i64 1, .string s] 51)) W (hd ++ s.data.toList.take i) (partAdd on pt (s.data.toList.take i)) on (hd ++ s.data.toList.take i) ((partAdd on pt (s.data.toList.take i)).getD []) pt.isSome on ∧ Below w.heap.size w W) (fun vi _ => s.size - (intOf vi).toNat)
          case atStart => exact ⟨0, by omega, rfl, by rw [List.take_zero, List.append_nil, partAdd_nil]; exact HE.out, hbE⟩
          case round =>
            clear HE hbE c0 c1
            obtain ⟨i, hi, rfl, h1, hbW⟩ := hrel
            rename_i W _
            have cW := heap_cell (j := 1) (h1.kept _ _ (one_self _ _)).1 rfl
            have H1 := Lib.hid h1
            clear h1
            by_cases hli : i < s.size
            · have HN := Lib.hid (byteI s i hli)
              have hle := HLEN.out i hi
              go_wp2_with fail
              refine (duPush s[i] (ht.keep hbW hsz) hsz hbW.size H1.out (by omega) (by omega)).mono ?_
              rintro e w3 ⟨rfl, h3, hb3⟩
              have c3 := heap_cell (j := 1) (h3.kept _ _ (one_self _ _)).1 rfl
              have H3 := Lib.hid h3
              have hb3' := hbW.trans hb3
              clear h3 cW
              go_wp2_with fail
              refine (duPushR s[i] hb3'.size H3.out (by omega) (by omega)).mono ?_
              rintro e w4 ⟨rfl, h4, hb4⟩
              have e1 : hd ++ s.data.toList.take i ++ [s[i]] = hd ++ s.data.toList.take (i + 1) := by rw [HN.out, List.append_assoc]
              have e2 : partPush on (partAdd on pt (s.data.toList.take i)) s[i] = partAdd on pt (s.data.toList.take (i + 1)) := by rw [HN.out, partAdd_push]
              have e3 : (if on then (partAdd on pt (s.data.toList.take i)).getD [] ++ [s[i]] else (partAdd on pt (s.data.toList.take i)).getD []) = (partAdd on pt (s.data.toList.take (i + 1))).getD [] := by
                rw [part_ref on _ s[i] H1.out.off, e2]
              rw [e1, e2, e3] at h4
              have H4 := Lib.hid h4
              have hb4' := hb3'.trans hb4
              clear h4 e1 e2 e3 hle c3 H3
              go_wp2
              go_roundw
              case rel => exact ⟨i + 1, by omega, by go_num, H4.out, hb4'⟩
              case measure => simp [intOf]; omega
            · obtain rfl : i = s.size := by omega
              have hle := HLEN.out s.size (Nat.le_refl _)
              have h := H1.out.leave
              rw [List.take_of_length_le (by simp)] at h hle
              have H := Lib.hid h
              have HLE := Lib.hid hle
              clear h hle H1
              go_wp2
              go_roundw
              case rel =>
                refine ⟨k + 1, hd ++ s.data.toList, partAdd on pt s.data.toList, on, by omega, by go_num, ?_, ?_, ?_, hbW⟩
                · have h1 := HHL.out; simp only [List.length_append]; simp; omega
                · have h1 := partAdd_len on pt s.data.toList; have h2 := HPL.out; simp at h1; omega
                · have h1 := H.out; rw [← partAdd_some on pt s.data.toList] at h1; exact h1
              case measure => simp [intOf]; omega
        · by_cases k2 : kind = 2
          · subst k2
            obtain ⟨H, hH⟩ : ∃ H : ByteArray, H = ⟨hd.toArray⟩ := ⟨_, rfl⟩
            have cE : (wr.alloc (.cells #[.int .i64 2, .string s] 51)).cell? ⟨c, 0, none⟩ = some (.string H) := by rw [hH]; exact heap_cell (j := 0) HE.out.ref rfl
            have hcall : ∀ W : World, Below (wr.alloc (.cells #[.int .i64 2, .string s] 51)).heap.size (wr.alloc (.cells #[.int .i64 2, .string s] 51)) W →
                Calls Tryd.prog 29 #[.pointer (some ⟨b, 0, none⟩)] W fun e w' => e = .returned (.string H) ∧ Duo w.heap.size c b (one wr.heap.size (.cells #[.int .i64 2, .string s] 51)) w' [] pt on hd (pt.getD []) pt.isSome on ∧ w'.cell? ⟨c, 0, none⟩ = some (.string H) ∧ w'.frozen? ⟨c, 0, none⟩ = false ∧ Below w.heap.size w w' := fun W hW => by
              have hbW := hbE.trans (hW.mono hbE.size)
              refine (duHead hbW.size (HE.out.keep hW)).mono ?_
              rintro e w' ⟨rfl, h3, hb3⟩
              exact ⟨by rw [hH], h3, by rw [hH]; exact heap_cell (j := 0) h3.ref rfl, heap_free (j := 0) h3.ref, hbW.trans hb3⟩
            clear hH
            go_wp2_with fail
            clear c0 c1
            go_region_with (go_at_call 29; refine (hcall _ ?_).mono ?_; exact (Below.refl _ _).drew; rintro e w3 ⟨rfl, h3, c3, f3, hb3⟩)
            all_goals
              have hr := heap_set (j := 0) h3.ref (.string ⟨#[]⟩)
              have h4 := (h3.onR (w' := w3.setCell ⟨c, 0, none⟩ (.string ⟨#[]⟩)) (rh' := []) hr (Only.set1 _)).leave
              have hb4' := hb3.trans (h3.only (w' := w3.setCell ⟨c, 0, none⟩ (.string ⟨#[]⟩)) hb3.size (Only.set1 _))
              have H4 := Lib.hid h4
              clear h4 h3 hr hcall
              go_wp2
              go_roundw
              case rel => exact ⟨k + 1, [], pt, on, by omega, by go_num, by simp, by have := HPL.out; omega, H4.out, hb4'⟩
              case measure => simp [intOf]; omega
          · by_cases k3 : kind = 3
            · subst k3
              go_wp2_with fail
              refine (duBegin s (ht.keep hbE hsz) hsz hbE.size HE.out (by omega)).mono ?_
              rintro e w3 ⟨rfl, h3, hb3⟩
              have c3 := heap_cell (j := 1) (h3.kept _ _ (one_self _ _)).1 rfl
              have H3 := Lib.hid h3
              have hb3' := hbE.trans hb3
              clear h3 HE
              go_wp2_with fail
              refine (duBeginR s hb3'.size H3.out).mono ?_
              rintro e w4 ⟨rfl, h4, hb4⟩
              have H4 := Lib.hid h4.leave
              have hb4' := hb3'.trans hb4
              clear h4 H3
              go_wp2
              go_roundw
              case rel => exact ⟨k + 1, hd, some s.data.toList, true, by omega, by go_num, by have := HHL.out; omega, by simp; omega, H4.out, hb4'⟩
              case measure => simp [intOf]; omega
            · by_cases k4 : kind = 4
              · subst k4
                go_wp2_with fail
                refine (duEnd hbE.size HE.out).mono ?_
                rintro e w3 ⟨rfl, h3, hb3⟩
                have c3 := heap_cell (j := 3) h3.ref rfl
                have f3 := heap_free (j := 3) h3.ref
                have hr := heap_set (j := 3) h3.ref (.bool false)
                have h4 := (h3.onR (w' := w3.setCell ⟨c, 3, none⟩ (.bool false)) (ro' := false) hr (Only.set1 _)).leave
                have hb4' := hbE.trans (hb3.trans (h3.only (w' := w3.setCell ⟨c, 3, none⟩ (.bool false)) (hbE.trans hb3).size (Only.set1 _)))
                have H4 := Lib.hid h4
                clear h4 h3 HE hr
                go_wp2
                go_roundw
                case rel => exact ⟨k + 1, hd, pt, false, by omega, by go_num, by have := HHL.out; omega, by have := HPL.out; omega, H4.out, hb4'⟩
                case measure => simp [intOf]; omega
              · have H4 := Lib.hid HE.out.leave
                clear HE
                go_wp2
                go_roundw
                case rel => exact ⟨k + 1, hd, pt, on, by omega, by go_num, by have := HHL.out; omega, by have := HPL.out; omega, H4.out, hbE⟩
                case measure => simp [intOf]; omega
      · have hz' : (100 : Int) < s.size := by omega
        go_wp2
        go_ret
        exact ⟨rfl, hb.alloc hbs _⟩
    · obtain rfl : k = len := by omega
      clear hlt
      have hrc := HD.out.ref
      have c1 := heap_cell (j := 1) hrc rfl
      have c2 := heap_cell (j := 2) hrc rfl
      cases pt with
      | none =>
        clear hrc
        go_wp2_with fail
        refine (duNone HD.out).mono ?_
        rintro e w3 ⟨rfl, rfl⟩
        go_wp2
        go_ret
        exact ⟨rfl, hb⟩
      | some m =>
        obtain ⟨A, hA⟩ : ∃ A : ByteArray, A = ⟨(Sha.sum m).toArray⟩ := ⟨_, rfl⟩
        obtain ⟨M, hM⟩ : ∃ M : ByteArray, M = ⟨m.toArray⟩ := ⟨_, rfl⟩
        have hml : m.length ≤ 4000 := by have h1 := HPL.out; have h2 := HL.out; simp only [Option.getD_some] at h1; omega
        have hs1 : Calls Tryd.prog 33 #[.pointer (some ⟨b, 0, none⟩)] wr fun e w' => e = .returned (.tuple #[.string A, .bool true]) ∧ Below wr.heap.size wr w' := by
          rw [hA]; exact duSum (ht.keep hb hsz) hsz HD.out (by omega)
        have hs2 : ∀ W : World, Calls Tryd.prog 15 #[.string M] W fun e w' => e = .returned (.string A) ∧ Below W.heap.size W w' := fun W => by
          have h := sum02_any M W (by rw [hM]; show m.toArray.size ≤ _; simp; omega)
          have e : M.data.toList = m := by rw [hM]
          rw [e] at h
          rw [hA]; exact h
        have hrM : ∀ W, Below wr.heap.size wr W → W.heap[c]? = some (.cells #[.string ⟨hd.toArray⟩, .string M, .bool true, .bool on] 49 (0, 0)) := fun W hW => by
          rw [hW.block c (heap_lt hrc), hM]; exact hrc
        have HA := Lib.hid hA
        have HMM := Lib.hid hM
        have HRM : Hid (∀ W, Below wr.heap.size wr W → W.heap[c]? = some (.cells #[.string ⟨hd.toArray⟩, .string M, .bool true, .bool on] 49 (0, 0))) := Lib.hid hrM
        clear hrc hA hM hml c1 c2 hrM
        go_wp2_with fail
        refine hs1.mono ?_
        rintro e w3 ⟨rfl, hb3⟩
        have hr3 := HRM.out w3 hb3
        have c1 := heap_cell (j := 1) hr3 rfl
        have c2 := heap_cell (j := 2) hr3 rfl
        have hb3' := hb.trans (hb3.mono hbs)
        clear hr3 hs1
        go_wp2_with fail
        refine (hs2 w3).mono ?_
        rintro e w4 ⟨rfl, hb4⟩
        go_wp2
        go_ret
        exact ⟨rfl, hb3'.trans (hb4.mono hb3'.size)⟩
theorem plays_any (b off len cap : Nat) (K : Nat → Int) (S : Nat → ByteArray) (w : World) (ht : Tabs w) (hb : b < w.heap.size)
    (hc0 : ∀ i, i < len → w.cell? ⟨b, off + i * 2, none⟩ = some (.int .i64 (K i))) (hc1 : ∀ i, i < len → w.cell? ⟨b, off + i * 2 + 1, none⟩ = some (.string (S i))) :
    Calls Tryd.prog 9 #[.slice (some ⟨b, off, none⟩) len cap] w fun e w' => e = .returned (.bool true) ∧ Below w.heap.size w w' := by
  rcases Nat.lt_or_ge 40 len with h | h
  · exact plays_far _ len cap w ht h
  · exact plays_near b off len cap K S w ht hb h hc0 hc1
#print axioms plays_any
end Go.Proofs.YtdiccgpgmddbdaaDoor
