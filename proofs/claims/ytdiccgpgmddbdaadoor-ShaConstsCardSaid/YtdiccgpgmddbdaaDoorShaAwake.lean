/- The walk of gantletlaw02.awake: the answers that the document fixes. Condition: the two package tables lie as laid. -/
import Derived.Test.YtdiccgpgmddbdaaDoorShaSumOf
import Derived.Test.YtdiccgpgmddbdaaDoorShaLen
namespace Go.Proofs.YtdiccgpgmddbdaaDoor
open Go.RowKit

set_option maxRecDepth 100000 in
theorem sum_abc : Sha.sum [97, 98, 99] = [186, 120, 22, 191, 143, 1, 207, 234, 65, 65, 64, 222, 93, 174, 34, 35, 176, 3, 97, 163, 150, 23, 122, 156, 180, 16, 255, 97, 242, 0, 21, 173] := by decide +kernel
set_option maxRecDepth 100000 in
theorem sum_none : (Sha.sum []).take 4 = [227, 176, 196, 66] := by decide +kernel

theorem awake_any (w : World) (ht : Tabs w) :
    Calls Tryd.prog 13 #[] w fun e w' => e = .returned (.bool true) ∧ Below w.heap.size w w' := by
  have hsz := ht.size
  go_enter Tryd.func13, Tryd.ntmps13
  go_wp2_with (go_at_call 17; refine (new_any _ ht).mono ?_; rintro e w1 ⟨b, rfl, hb, h1, hb1⟩)
  refine (write_any b [] ⟨#[97]⟩ w1 (ht.keep hb1 hsz) (by omega) h1 (by decide)).mono ?_
  rintro e w2 ⟨rfl, h2, ho2⟩
  have hb2 : Below w.heap.size w w2 := hb1.trans (ho2.below hb1.size (fun k hk e => by omega))
  go_wp2_with fail
  refine (write_any b _ ⟨#[98, 99]⟩ w2 (ht.keep hb2 hsz) (by omega) h2 (by decide)).mono ?_
  rintro e w3 ⟨rfl, h3, ho3⟩
  have hb3 : Below w.heap.size w w3 := hb2.trans (ho3.below hb2.size (fun k hk e => by omega))
  change HashAt w3 b [97, 98, 99] at h3
  have hs3 : Calls Tryd.prog 19 #[.pointer (some ⟨b, 0, none⟩)] w3 fun e w' => e = .returned (.string ⟨#[186, 120, 22, 191, 143, 1, 207, 234, 65, 65, 64, 222, 93, 174, 34, 35, 176, 3, 97, 163, 150, 23, 122, 156, 180, 16, 255, 97, 242, 0, 21, 173]⟩) ∧ Below w3.heap.size w3 w' := by
    have h := sum_any b _ w3 (ht.keep hb3 hsz) (by omega) h3 (by decide)
    rw [sum_abc] at h
    exact h
  go_wp2_with (go_at_call 19; refine hs3.mono ?_; rintro e w4 ⟨rfl, hb4⟩)
  have hb4' : Below w.heap.size w w4 := hb3.trans (hb4.mono hb3.size)
  have h4 : HashAt w4 b [97, 98, 99] := h3.keep (hb4.block _ h3.lt)
  refine (len_any b _ w4 h4).mono ?_
  rintro e w5 ⟨rfl, rfl⟩
  obtain ⟨E, hE⟩ : ∃ E : ByteArray, E = ⟨(Sha.sum []).toArray⟩ := ⟨_, rfl⟩
  have hE1 : E.size = 32 := by rw [hE]; rfl
  have hE2 : E.extract 0 4 = ⟨#[227, 176, 196, 66]⟩ := by
    apply ByteArray.ext
    apply Array.toList_inj.1
    rw [hE, extract0]
    exact sum_none
  have hs0 : ∀ W : World, Below w.heap.size w W → Calls Tryd.prog 14 #[.string ⟨#[]⟩] W fun e w' => e = .returned (.string E) ∧ Below W.heap.size W w' := fun W hW => by
    rw [hE]; exact sumOf_any ⟨#[]⟩ W (ht.keep hW hsz) (by decide)
  clear hE
  go_wp2_with fail
  refine (hs0 _ hb4').mono ?_
  rintro e w5 ⟨rfl, hb5⟩
  have hb5' : Below w.heap.size w w5 := hb4'.trans (hb5.mono hb4'.size)
  go_wp2_with fail
  refine (hs0 _ hb5').mono ?_
  rintro e w6 ⟨rfl, hb6⟩
  have hb6' : Below w.heap.size w w6 := hb5'.trans (hb6.mono hb5'.size)
  go_wp2
  go_ret
  exact ⟨rfl, hb6'⟩
#print axioms awake_any
end Go.Proofs.YtdiccgpgmddbdaaDoor
