/- The walk of (*sha.Hash).Len. -/
import Derived.Test.YtdiccgpgmddbdaaDoorShaObj
namespace Go.Proofs.YtdiccgpgmddbdaaDoor
open Go.RowKit

theorem len_any (b : Nat) (m : List UInt8) (w : World) (h : HashAt w b m) :
    Calls Tryd.prog 20 #[.pointer (some ⟨b, 0, none⟩)] w fun e w' => e = .returned (.int .u64 (m.length : Int)) ∧ w = w' := by
  obtain ⟨c, r, h1, h2, h3, h4⟩ := h
  have c9 := heap_cell (j := 9) h4 rfl
  clear h1 h2 h3 h4
  go_enter Tryd.func20, Tryd.ntmps20
  go_wp2
  go_ret
  exact ⟨rfl, rfl⟩
end Go.Proofs.YtdiccgpgmddbdaaDoor
