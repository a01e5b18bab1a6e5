/- What a row's condition gives a walk: the two package-level tables of sha. And: the door's own heap meets it. -/
import Derived.Test.YtdiccgpgmddbdaaDoorRows
import Derived.Test.YtdiccgpgmddbdaaDoorShaConst
import Derived.ProofKit
import Derived.LaidMore
import Derived.OpenShut
import Derived.ShutString
import Derived.Stop.Joined
import Derived.Stop.LaidErr
import Derived.Lib.LaidTab
namespace Go.Proofs.YtdiccgpgmddbdaaDoor
open Go.ChangeShapes Go.WideShapes Go.ChangeAt Go.RowKit
set_option maxRecDepth 100000

theorem own : ownKnob Tryd.prog.godebug = none := by kernel_rfl
abbrev laid2 : List (String × DataW Unit) := [("gantlet/sha.first", Rows.laid_gantlet_sha_first), ("gantlet/sha.rounds", Rows.laid_gantlet_sha_rounds)]
theorem gFirst : Tryd.prog.globalNamed "gantlet/sha.first" = some 0 := by kernel_rfl
theorem gRounds : Tryd.prog.globalNamed "gantlet/sha.rounds" = some 1 := by kernel_rfl

theorem door_met (os : Os) (args : Array Value) : laidMetH Tryd.prog laid2 ((World.doorLaid Tryd.prog 400 os).forCall (fun _ _ => 0) ⟨#[], args, []⟩).memory :=
  laidMetH_of_parts3 (fuel := 8) (laidMet_of_run' 8 (by kernel_rfl) (by kernel_rfl)) (by kernel_rfl) (by kernel_rfl)

theorem tab_range {W : World} {name : String} {g : Nat} {ns : List Nat} (hg : Tryd.prog.globalNamed name = some g)
    (h : Lib.TabIs Tryd.prog W name .u32 (ns.map fun (n : Nat) => (n : Int))) : W.rangeAt g 0 (u32s ns) := by
  intro j v hv
  have hc := World.var?_cell hg h j
  rw [Nat.zero_add, hc, ← hv]
  simp only [u32s, List.map_map, List.getElem?_toArray]; rfl

theorem tabs_of_laid {W : World} (h : laidMetH Tryd.prog laid2 W) : Tabs W := by
  rw [MakeChecks.laidMetH_plain _ _ _ (by kernel_rfl)] at h
  have h1 : laidMet Tryd.prog (("gantlet/sha.first", Lib.tabData .u32 (Sha.first.l.map fun (n : Nat) => (n : Int))) :: [("gantlet/sha.rounds", Rows.laid_gantlet_sha_rounds)]) W := h
  have h2 : laidMet Tryd.prog (("gantlet/sha.rounds", Lib.tabData .u32 (Sha.rounds.map fun (n : Nat) => (n : Int))) :: []) W := h.tail
  exact ⟨tab_range gFirst (Lib.tabIs_of_head (t := 35) (e := 34) (n := 8) gFirst (by kernel_rfl) (by kernel_rfl) (by kernel_rfl) (by kernel_rfl) (by kernel_rfl) h1),
    tab_range gRounds (Lib.tabIs_of_head (t := 36) (e := 34) (n := 64) gRounds (by kernel_rfl) (by kernel_rfl) (by kernel_rfl) (by kernel_rfl) (by kernel_rfl) h2)⟩
#print axioms tabs_of_laid
end Go.Proofs.YtdiccgpgmddbdaaDoor
