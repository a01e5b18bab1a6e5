/- TapPlays holds for every list of calls. Condition: the two package-level tables read as the program's text lays them (the card ties them). -/
import Derived.Test.YtdiccgpgmddbdaaDoorLaid
import Derived.Test.YtdiccgpgmddbdaaDoorTapPlays
import Derived.Deep.SlicePairs
import Derived.Carry
import Derived.SevenTiedAt
import Derived.Test.YtdiccgpgmddbdaaDoorTie
import Derived.Test.YtdiccgpgmddbdaaDoorCards
namespace Go.Proofs.YtdiccgpgmddbdaaDoor.lawTapPlays
open Go.ChangeShapes Go.WideShapes Go.ChangeAt Go.RowKit
open Go.ChangeMaps (open_string shut_string)
open Go.Deep
set_option linter.unusedVariables false

theorem laidOut : laidOutB Tryd.prog = true := by kernel_rfl
theorem cellsS : Tryd.prog.cellsOf 9 = 1 := by kernel_rfl
theorem cellsI : Tryd.prog.cellsOf 3 = 1 := by kernel_rfl
theorem cellsAct : Tryd.prog.cellsOf 51 = 2 := by kernel_rfl
def kindOf : Value → Int
  | .int _ n => n
  | _ => 0
def textOf : Value → ByteArray
  | .string s => s
  | _ => ByteArray.empty

set_option maxRecDepth 100000 in
theorem lifted (os : Os) (started : os.Started) (H : Type) (enc : TypeId × Value → H) :
    ReturnsInHanded {} Tryd.checked os 9 .any (fun w args => (Rows.tapPlaysSpec.pre enc Tryd.prog Tryd.f9 [] false w args ∧ laidMetH Tryd.prog laid2 w) ∧ sizedMet enc Tryd.prog Tryd.f9 (OpenSpec.ofChange Rows.tapPlaysSpec) false w args)
      (Rows.tapPlaysSpec.post enc Tryd.prog Tryd.f9 false true false false) := by
  refine returnsInHanded_of_change_and (C := Tryd.checked) (X := fun w _ => laidMetH Tryd.prog laid2 w) (fun _ _ _ hh h => h.of_heap hh) own started (by kernel_rfl) Tryd.func9
    (ChangeSpec.witness_shaped (enc := enc) (C := Tryd.checked) (os := os) (X := fun w _ => laidMetH Tryd.prog laid2 w) false (World.doorLaid Tryd.prog 400 os) #[.slice none 0 0] 8 rfl (World.shaped_of_RefB (by kernel_rfl) (by kernel_rfl)) (by kernel_rfl) (by kernel_rfl) (by kernel_rfl) (door_met os _)) ?_
  intro W base args ds gs before hval0 hW _ _ hL _
  have hval : ∀ (j : Nat) t v, Tryd.f9.params[j]? = some t → args[j]? = some v → Value.okWide Tryd.prog W .any base t v := hval0
  have hW' := hW
  obtain ⟨p, q, hA0, hV, rfl, hfz, hnd⟩ := hW
  have hA : DataW.TrodAll enc Tryd.prog W 0 (fun _ => true) true Tryd.f9.params.toList args.toList ds p := hA0
  rw [Tryd.params9] at hA hval
  obtain ⟨v0, vs0, d0, ds0, p0, q0, hargs, rfl, rfl, h0, r0⟩ := trodAll_cons hA
  obtain ⟨rfl, rfl, rfl⟩ := trodAll_nil r0
  obtain rfl : args = #[v0] := by cases args; simp_all
  obtain ⟨rfl, rfl⟩ := trodVars_none hV
  obtain ⟨a0, len, cap, rfl⟩ := okWide_slice Tryd.underlying44 (hval 0 44 v0 rfl rfl)
  have ht := tabs_of_laid hL
  have h0k := h0
  obtain ⟨fuel, hf⟩ := h0
  clear hA0 hval0
  simp only [List.append_nil] at hW'
  have hlt : ∀ x ∈ p0, x.block < W.heap.size := fun x hx => by simpa using hW'.lt x (by simpa using hx)
  have fin : ∀ (e : Ending) (W' : World), e = .returned (.bool true) ∧ Below W.heap.size W W' → ∃ v, e = Ending.returned v ∧ Rows.tapPlaysSpec.post enc Tryd.checked.prog Tryd.f9 false true false false W #[.slice a0 len cap] v W' := by
    rintro e W' ⟨rfl, bel⟩
    exact ⟨_, rfl, _, _, _, [], _, [], hW', trodAll_mk1 (shut_bool Tryd.underlying4 _), trodAll_mk1 (Below.trod laidOut (by kernel_rfl) (of_decide_eq_true (by kernel_rfl)) h0k bel hlt), rfl, bel.frame _, fun h => by cases h⟩
  rcases open_slice_pairs Tryd.underlying44 Tryd.underlying51 cellsAct rfl rfl cellsI cellsS hf with ⟨hcs, hx⟩ | ⟨a, len', cap', m, n, V0, V1, D0, D1, P0, P1, hcs, _, hl, hm, hmm, hx, hall⟩
  · simp [Value.cells] at hcs
    obtain ⟨rfl, rfl, rfl⟩ := hcs
    exact (plays_none none 0 W ht).mono fin
  · simp [Value.cells] at hcs
    obtain ⟨rfl, rfl, rfl⟩ := hcs
    by_cases hl0 : len = 0
    · subst hl0
      exact (plays_none _ cap W ht).mono fin
    · simp only [if_true] at hmm
      subst hmm
      obtain ⟨b, off, spot⟩ := a
      have hspot : spot = none := by simpa [Addr.add] using World.cell?_spot (hall 0 (by omega)).1
      subst hspot
      have hb : b < W.heap.size := World.block_lt_of_cell? W _ (hall 0 (by omega)).1
      refine (plays_any b off len m (fun i => kindOf (V0 i)) (fun i => textOf (V1 i)) W ht hb (fun j hj => ?_) (fun j hj => ?_)).mono fin
      · obtain ⟨N, h1, _, _⟩ := DataW.trod_int Tryd.underlying3 (hall j (by omega)).2.2.1
        simp only [List.cons.injEq, and_true] at h1
        have h2 := (hall j (by omega)).1
        rw [add_plain, h1] at h2
        rw [h2, h1]; rfl
      · obtain ⟨s, h1, _, _⟩ := DataW.trod_string Tryd.underlying9 (hall j (by omega)).2.2.2
        simp only [List.cons.injEq, and_true] at h1
        have h2 := (hall j (by omega)).2.1
        rw [add_plain, h1] at h2
        rw [← Nat.add_assoc] at h2
        rw [h2, h1]; rfl

theorem over : Rows.TapPlaysSaid :=
  OpenClaim.holds_of_wide 9 Tryd.f9 rfl rfl rfl rfl rfl rfl rfl ⟨rfl, rfl, rfl, rfl, rfl⟩ rfl rfl rfl rfl rfl (by kernel_rfl) Tryd.func9 (by kernel_rfl)
    (of_decide_eq_true (by kernel_rfl)) (by unfold Func.isWrapper; first | (rw [if_pos (by decide +kernel)]; kernel_rfl) | (rw [if_neg (by decide +kernel)]; exact ⟨rfl, rfl⟩))
    (fun os started H enc _ => lifted os started H enc)

theorem proved : Rows.TapPlaysCardSaid :=
  Claim7.holds_tied_plain_at .later [] [.data, .data] true Rows.tapPlaysCard.stood.harness false
    over (fun _ h => by cases h) (by kernel_rfl) (fun _ h => by cases h) tapPlays_row_tie rfl ⟨rfl, rfl⟩ (by kernel_rfl) rfl
    (fun f fn hf hfn => by
      obtain rfl : f = 9 := Option.some.inj ((show Tryd.prog.funcNamed "gantlet/gantletlaw21.TapPlays" = some 9 by kernel_rfl).symm.trans hf) |>.symm
      obtain rfl : fn = Tryd.f9 := (Option.some.inj (Tryd.func9.symm.trans hfn)).symm
      exact ⟨by kernel_rfl, fun j t ht => by
        rw [Tryd.params9] at ht
        have hm : t ∈ [44] := by simpa using Array.mem_of_getElem? ht
        have hall : ([44].all fun u => !Tryd.prog.wantsStandIn u) = true := by kernel_rfl
        exact (show Tryd.prog.wantsStandIn t = false by simpa using List.all_eq_true.1 hall t hm)⟩)
    (by kernel_rfl)
#print axioms proved
end Go.Proofs.YtdiccgpgmddbdaaDoor.lawTapPlays
