/- The walks of the references' Tap (package gantletref21). -/
import Derived.Test.YtdiccgpgmddbdaaDoorTapPieces
namespace Go.Proofs.YtdiccgpgmddbdaaDoor
open Go.RowKit

/-- The block c is the document's Tap. -/
def RefAt (w : World) (c : Nat) (hd pt : List UInt8) (bg on : Bool) : Prop :=
  w.heap[c]? = some (.cells #[.string ⟨hd.toArray⟩, .string ⟨pt.toArray⟩, .bool bg, .bool on] 49 (0, 0))
theorem RefAt.keep {w w' : World} {c : Nat} {hd pt : List UInt8} {bg on : Bool} (h : RefAt w c hd pt bg on) (e : w'.heap[c]? = w.heap[c]?) : RefAt w' c hd pt bg on := e.trans h

theorem str_snoc (l : List UInt8) (x : UInt8) : (⟨l.toArray⟩ : ByteArray) ++ ⟨#[x]⟩ = ⟨(l ++ [x]).toArray⟩ := by apply ByteArray.ext; simp

/-- What a push leaves: the store, then the new block. -/
theorem ref_world {w : World} {c j : Nat} {C D : Array Value} {v : Value} {o : Obj} (h : w.heap[c]? = some (.cells C 49 (0, 0))) (hD : C.setIfInBounds j v = D) : ((w.setCell ⟨c, j, none⟩ v).alloc o).drew.heap[c]? = some (.cells D 49 (0, 0)) := by
  have h1 := heap_set (j := j) h v
  rw [hD] at h1
  have h2 := heap_alloc_old (w.setCell ⟨c, j, none⟩ v) o (by simpa using heap_lt h)
  rw [h1] at h2
  exact h2
theorem ref_only (w : World) (c j : Nat) (v : Value) (o : Obj) : Only (· = c) w ((w.setCell ⟨c, j, none⟩ v).alloc o).drew := (Only.set1 _).trans ((Only.alloc _).trans (Only.drew 1))

theorem refBegin (c : Nat) (hd pt : List UInt8) (bg on : Bool) (s : ByteArray) (w : World) (h : RefAt w c hd pt bg on) :
    Calls Tryd.prog 31 #[.pointer (some ⟨c, 0, none⟩), .string s] w fun e w' => e = .returned (.tuple #[]) ∧ RefAt w' c hd s.data.toList true true ∧ Only (· = c) w w' := by
  have c1 := heap_cell (j := 1) h rfl
  have c2 := heap_cell (j := 2) h rfl
  have c3 := heap_cell (j := 3) h rfl
  have f1 := heap_free (j := 1) h
  have f2 := heap_free (j := 2) h
  have f3 := heap_free (j := 3) h
  have HH := Lib.hid h
  clear h
  go_enter Tryd.func31, Tryd.ntmps31
  go_wp2
  go_end0
  have e : s = ⟨s.data.toList.toArray⟩ := by apply ByteArray.ext; simp
  have h3 := heap_set (j := 3) (heap_set (j := 2) (heap_set (j := 1) HH.out (.string s)) (.bool true)) (.bool true)
  refine ⟨rfl, ?_, ((Only.set1 _).trans (Only.set1 _)).trans (Only.set1 _)⟩
  show _ = some (Obj.cells #[_, .string ⟨s.data.toList.toArray⟩, _, _] _ _)
  rw [← e]
  exact h3

set_option maxHeartbeats 400000 in
theorem refPush_off (c : Nat) (hd pt : List UInt8) (bg : Bool) (x : UInt8) (w : World) (h : RefAt w c hd pt bg false) (hl : hd.length < 1000000) :
    Calls Tryd.prog 28 #[.pointer (some ⟨c, 0, none⟩), .int .u8 (x.toNat : Int)] w fun e w' => e = .returned (.tuple #[]) ∧ RefAt w' c (hd ++ [x]) pt bg false ∧ Only (· = c) w w' := by
  have hlt := heap_lt h
  have hne : c ≠ w.heap.size := by omega
  obtain ⟨H, hH⟩ : ∃ H : ByteArray, H = ⟨hd.toArray⟩ := ⟨_, rfl⟩
  have hz : (H.size : Int) ≤ 1000000 := by rw [hH]; show ((hd.toArray.size : Nat) : Int) ≤ _; simp; omega
  unfold RefAt at h
  rw [← hH] at h
  have c0 := heap_cell (j := 0) h rfl
  have f0 := heap_free (j := 0) h
  have c3 := heap_cell (j := 3) h rfl
  have HH := Lib.hid h
  have HS := Lib.hid hH
  have hcv := conv1d x w
  clear h hH hl
  go_enter Tryd.func28, Tryd.ntmps28
  go_wp2_with fail
  go_region_with (fail)
  all_goals
    go_wp2
    go_end0
    refine ⟨rfl, ?_, ref_only _ _ _ _ _⟩
    unfold RefAt
    rw [← str_snoc, ← HS.out]
    exact ref_world HH.out rfl

set_option maxHeartbeats 800000 in
theorem refPush_on (c : Nat) (hd pt : List UInt8) (bg : Bool) (x : UInt8) (w : World) (h : RefAt w c hd pt bg true) (hl : hd.length < 1000000) (hp : pt.length < 1000000) :
    Calls Tryd.prog 28 #[.pointer (some ⟨c, 0, none⟩), .int .u8 (x.toNat : Int)] w fun e w' => e = .returned (.tuple #[]) ∧ RefAt w' c (hd ++ [x]) (pt ++ [x]) bg true ∧ Only (· = c) w w' := by
  have hlt := heap_lt h
  obtain ⟨H, hH⟩ : ∃ H : ByteArray, H = ⟨hd.toArray⟩ := ⟨_, rfl⟩
  obtain ⟨Q, hQ⟩ : ∃ Q : ByteArray, Q = ⟨pt.toArray⟩ := ⟨_, rfl⟩
  have hz : (H.size : Int) ≤ 1000000 := by rw [hH]; show ((hd.toArray.size : Nat) : Int) ≤ _; simp; omega
  have hy : (Q.size : Int) ≤ 1000000 := by rw [hQ]; show ((pt.toArray.size : Nat) : Int) ≤ _; simp; omega
  unfold RefAt at h
  rw [← hH, ← hQ] at h
  have c0 := heap_cell (j := 0) h rfl
  have f0 := heap_free (j := 0) h
  have c3 := heap_cell (j := 3) h rfl
  have HH := Lib.hid h
  have HS := Lib.hid hH
  have HQ := Lib.hid hQ
  have hcv := conv1d x w
  clear h hH hQ hl hp
  go_enter Tryd.func28, Tryd.ntmps28
  go_wp2_with fail
  go_region_with (fail)
  all_goals
    go_wp2_with fail
    have h1 : ((w.setCell ⟨c, 0, none⟩ (.string (H ++ ⟨#[x]⟩))).alloc (.cells #[.int .u8 (x.toNat : Int)] 5)).drew.heap[c]? = some (.cells #[.string (H ++ ⟨#[x]⟩), .string Q, .bool bg, .bool true] 49 (0, 0)) := ref_world HH.out rfl
    have ho := ref_only w c 0 (.string (H ++ ⟨#[x]⟩)) (.cells #[.int .u8 (x.toNat : Int)] 5)
    have HO := Lib.hid ho
    clear ho c0 f0 c3 hcv
    generalize ((w.setCell ⟨c, 0, none⟩ (.string (H ++ ⟨#[x]⟩))).alloc (.cells #[.int .u8 (x.toNat : Int)] 5)).drew = w2 at *
    have hlt2 := heap_lt h1
    have c1 := heap_cell (j := 1) h1 rfl
    have f1 := heap_free (j := 1) h1
    have H1 := Lib.hid h1
    have hcv := conv1d x w2
    clear h1
    go_region_with (fail)
    all_goals
      go_wp2
      go_end0
      refine ⟨rfl, ?_, HO.out.trans (ref_only _ _ _ _ _)⟩
      unfold RefAt
      rw [← str_snoc, ← str_snoc, ← HS.out, ← HQ.out]
      exact ref_world H1.out rfl
#print axioms refPush_on
end Go.Proofs.YtdiccgpgmddbdaaDoor
