/- The walk of sha.Sum: a text's digest. -/
import Derived.Test.YtdiccgpgmddbdaaDoorShaSum
namespace Go.Proofs.YtdiccgpgmddbdaaDoor
open Go.RowKit

theorem sumOf_any (s : ByteArray) (w : World) (ht : Tabs w) (hlen : s.size < 1152921504606846976) :
    Calls Tryd.prog 14 #[.string s] w fun e w' => e = .returned (.string ⟨(Sha.sum s.data.toList).toArray⟩) ∧ Below w.heap.size w w' := by
  have hsz := ht.size
  have HLEN := Lib.hid hlen
  clear hlen
  go_enter Tryd.func14, Tryd.ntmps14
  go_wp2_with (go_at_call 17; refine (new_any _ ht).mono ?_; rintro e w1 ⟨b, rfl, hb, h1, hb1⟩)
  refine (write_any b [] s w1 (ht.keep hb1 hsz) (by omega) h1 (by have := HLEN.out; simp; omega)).mono ?_
  rintro e w2 ⟨rfl, h2, ho2⟩
  have hb2 : Below w.heap.size w w2 := hb1.trans (ho2.below hb1.size (fun k hk e => by omega))
  go_wp2_with (go_at_call 19; refine (sum_any b _ w2 (ht.keep hb2 hsz) (by omega) h2 (by have := HLEN.out; simp; omega)).mono ?_; rintro e w3 ⟨rfl, hb3⟩)
  go_ret
  exact ⟨rfl, hb2.trans (hb3.mono hb2.size)⟩
#print axioms sumOf_any
end Go.Proofs.YtdiccgpgmddbdaaDoor
