/- The walk of gantletlaw02.ShaSums: whatever text, it answers true. Condition: the two package tables lie as laid. -/
import Derived.Test.YtdiccgpgmddbdaaDoorShaAwake
import Derived.Test.YtdiccgpgmddbdaaDoorRefSum
namespace Go.Proofs.YtdiccgpgmddbdaaDoor
open Go.RowKit

theorem sums_any (b : ByteArray) (w : World) (ht : Tabs w) :
    Calls Tryd.prog 3 #[.string b] w fun e w' => e = .returned (.bool true) ∧ Below w.heap.size w w' := by
  have hsz := ht.size
  by_cases h : 600 < b.size
  · have h' : (600 : Int) < b.size := by omega
    clear h
    go_enter Tryd.func3, Tryd.ntmps3
    go_wp2_with fail
    refine (awake_any w ht).mono ?_
    rintro e w1 ⟨rfl, hb1⟩
    go_wp2_with fail
    refine (awake_any w1 (ht.keep hb1 hsz)).mono ?_
    rintro e w2 ⟨rfl, hb2⟩
    go_wp2
    go_ret
    exact ⟨rfl, hb1.trans (hb2.mono hb1.size)⟩
  · have h' : (b.size : Int) ≤ 600 := by omega
    obtain ⟨A, hA⟩ : ∃ A : ByteArray, A = ⟨(Sha.sum b.data.toList).toArray⟩ := ⟨_, rfl⟩
    have hs1 : ∀ W : World, Below w.heap.size w W → Calls Tryd.prog 14 #[.string b] W fun e w' => e = .returned (.string A) ∧ Below W.heap.size W w' := fun W hW => by
      rw [hA]; exact sumOf_any b W (ht.keep hW hsz) (by omega)
    have hs2 : ∀ W : World, Calls Tryd.prog 15 #[.string b] W fun e w' => e = .returned (.string A) ∧ Below W.heap.size W w' := fun W => by
      rw [hA]; exact sum02_any b W (by omega)
    have HA := Lib.hid hA
    clear hA h
    go_enter Tryd.func3, Tryd.ntmps3
    go_wp2_with fail
    refine (awake_any w ht).mono ?_
    rintro e w1 ⟨rfl, hb1⟩
    go_wp2_with fail
    refine (hs1 w1 hb1).mono ?_
    rintro e w2 ⟨rfl, hb2⟩
    have hb2' := hb1.trans (hb2.mono hb1.size)
    go_wp2_with fail
    refine (hs2 w2).mono ?_
    rintro e w3 ⟨rfl, hb3⟩
    go_wp2
    go_ret
    exact ⟨rfl, hb2'.trans (hb3.mono hb2'.size)⟩
#print axioms sums_any
end Go.Proofs.YtdiccgpgmddbdaaDoor
