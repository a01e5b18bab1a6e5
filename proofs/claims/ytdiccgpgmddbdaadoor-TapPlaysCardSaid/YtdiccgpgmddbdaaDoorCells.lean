/- Small laws on rows of words in a block: reading, writing, and what a block holds behind a store. -/
import Derived.Test.YtdiccgpgmddbdaaDoorWord
import Derived.WalkSmall
import Derived.Deep.MidRow
import Derived.Lib.Hide
namespace Go.Proofs.YtdiccgpgmddbdaaDoor
open Go.RowKit

/-- Words as cells. -/
def u32s (l : List Nat) : List Value := l.map fun n : Nat => Value.int .u32 n
/-- Some words, and zeros behind them, n cells in all. -/
def arr (l : List Nat) (n : Nat) : Array Value := (u32s (l ++ List.replicate (n - l.length) 0)).toArray

theorem arr_size {l : List Nat} {n : Nat} (h : l.length ≤ n) : (arr l n).size = n := by simp [arr, u32s]; omega
theorem arr_get {l : List Nat} {n j : Nat} (h : l.length ≤ n) (hj : j < n) : (arr l n)[j]? = some (.int .u32 (l.getD j 0 : Nat)) := by
  simp only [arr, u32s, List.getElem?_toArray, List.getElem?_map]
  by_cases h1 : j < l.length
  · rw [List.getElem?_append_left h1, List.getElem?_eq_getElem h1, List.getD_eq_getElem?_getD, List.getElem?_eq_getElem h1]; rfl
  · rw [List.getElem?_append_right (by omega), List.getElem?_replicate, if_pos (by omega), List.getD_eq_getElem?_getD, List.getElem?_eq_none (by omega)]; rfl
theorem arr_set {l : List Nat} {n x : Nat} (h : l.length < n) : (arr l n).setIfInBounds l.length (.int .u32 x) = arr (l ++ [x]) n := by
  have e : List.replicate (n - l.length) 0 = 0 :: List.replicate (n - (l.length + 1)) 0 := by
    rw [show n - l.length = (n - (l.length + 1)) + 1 by omega, List.replicate_succ]
  have e2 : l.length + 1 = (l ++ [x]).length := by simp
  unfold arr u32s
  rw [e, List.setIfInBounds_toArray, List.map_append, List.map_cons, List.set_append_right _ _ (by simp), ← e2]
  simp
theorem arr_full {l : List Nat} {n : Nat} (h : l.length = n) : arr l n = (u32s l).toArray := by
  unfold arr; rw [h]; simp

/-- What a block holds behind a store into it. -/
theorem heap_set {w : World} {b j : Nat} {c : Array Value} {t : TypeId} {fr : Nat × Nat} (h : w.heap[b]? = some (.cells c t fr)) (v : Value) :
    (w.setCell ⟨b, j, none⟩ v).heap[b]? = some (.cells (c.setIfInBounds j v) t fr) := by
  simp only [World.setCell, Array.getElem?_modify, if_pos, h]
  rfl
theorem heap_free {w : World} {b j : Nat} {c : Array Value} {t : TypeId} (h : w.heap[b]? = some (.cells c t (0, 0))) : w.frozen? ⟨b, j, none⟩ = false := by
  simp [World.frozen?, h]
theorem heap_cell {w : World} {b j : Nat} {c : Array Value} {t : TypeId} {fr : Nat × Nat} {v : Value} (h : w.heap[b]? = some (.cells c t fr)) (hj : c[j]? = some v) : w.cell? ⟨b, j, none⟩ = some v := by
  rw [cell_of_row w b j c t fr h]; exact hj
theorem heap_lt {w : World} {b : Nat} {o : Obj} (h : w.heap[b]? = some o) : b < w.heap.size := by
  rcases Nat.lt_or_ge b w.heap.size with h1 | h1
  · exact h1
  · rw [Array.getElem?_eq_none h1] at h; cases h
end Go.Proofs.YtdiccgpgmddbdaaDoor
