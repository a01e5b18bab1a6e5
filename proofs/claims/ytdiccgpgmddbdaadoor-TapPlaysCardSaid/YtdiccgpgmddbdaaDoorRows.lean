/-
  NARROWER THAN 'FOR EVERY INPUT', by the rows' own cells (each row's printed sentence says how): ShaSums: laid · ShaParts: laid · ShaCopies: laid · ShaConsts: laid · ShaBlocks: laid · ShaAsked: laid · TapPlays: laid · TapParts: laid · TapHeads: laid · TapPieces: laid.
  DERIVED. THE GIVEN ROWS OF THIS SEAT. 10 by the template 'for every input the law returns true; each argument reads behind the call as it read before'; 0 by the template 'total and deterministic' (their statements: YtdiccgpgmddbdaaDoorTotals.lean).
  GIVEN WITH THE SEED: the statements are not yours to turn. If you find one false, say at which input.
  Laid BY PROGRAM, IN A SANDBOX (cutbox-rows.mjs): the forced cells as the released guide's own fill.sh prints them over the translation f7ed76c38fa10136… (all of the seat's roots in one cut). By AI agents, Wed Nov 11 2026. No macro, syntax, notation, axiom, sorry.
-/
import Derived.Test.YtdiccgpgmddbdaaDoorChecked
import GoSem.Claim
import GoSem.ClaimJoined
import GoSem.ClaimMapViews
import Derived.JoinedTies
import Derived.KernelRfl
namespace Go.Proofs.YtdiccgpgmddbdaaDoor
/- THE CELL 'sum', in the pinned program and in every row, IS THE sha256 OF THE DUMP (.gsa) THAT YtdiccgpgmddbdaaDoorProg.lean LOADS. Nothing in Lean hashes anything: it is a label: what it is worth is what the hold of that sum in a sandbox is worth. -/
noncomputable def Tryd.pinned : Pinned := { name := "ytdiccgpgmddbdaadoor", sum := "f7ed76c38fa101367c501bb5729705c8b815a9ad42770588bc2daf37cab5b059", checked := Tryd.checked }
namespace Rows
def none {H : Type} : Left H := { results := [], args := [] }

/- WHAT THE LISTED PACKAGE-LEVEL VARIABLES READ AS WHEN THE CALL BEGINS. Each datum BY PROGRAM (the guide's laid-datum.mjs) off the statement by which the dump's own 'gosem.cut.vars' lays the variable. In a bare row this is a premise. The card (YtdiccgpgmddbdaaDoorCards.lean) ties it to the program's text. -/
def laid_gantlet_sha_first {H : Type} : DataW H := .agg [.lit (.int .u32 1779033703), .lit (.int .u32 3144134277), .lit (.int .u32 1013904242), .lit (.int .u32 2773480762), .lit (.int .u32 1359893119), .lit (.int .u32 2600822924), .lit (.int .u32 528734635), .lit (.int .u32 1541459225)]
def laid_gantlet_sha_rounds {H : Type} : DataW H := .agg [.lit (.int .u32 1116352408), .lit (.int .u32 1899447441), .lit (.int .u32 3049323471), .lit (.int .u32 3921009573), .lit (.int .u32 961987163), .lit (.int .u32 1508970993), .lit (.int .u32 2453635748), .lit (.int .u32 2870763221), .lit (.int .u32 3624381080), .lit (.int .u32 310598401), .lit (.int .u32 607225278), .lit (.int .u32 1426881987), .lit (.int .u32 1925078388), .lit (.int .u32 2162078206), .lit (.int .u32 2614888103), .lit (.int .u32 3248222580), .lit (.int .u32 3835390401), .lit (.int .u32 4022224774), .lit (.int .u32 264347078), .lit (.int .u32 604807628), .lit (.int .u32 770255983), .lit (.int .u32 1249150122), .lit (.int .u32 1555081692), .lit (.int .u32 1996064986), .lit (.int .u32 2554220882), .lit (.int .u32 2821834349), .lit (.int .u32 2952996808), .lit (.int .u32 3210313671), .lit (.int .u32 3336571891), .lit (.int .u32 3584528711), .lit (.int .u32 113926993), .lit (.int .u32 338241895), .lit (.int .u32 666307205), .lit (.int .u32 773529912), .lit (.int .u32 1294757372), .lit (.int .u32 1396182291), .lit (.int .u32 1695183700), .lit (.int .u32 1986661051), .lit (.int .u32 2177026350), .lit (.int .u32 2456956037), .lit (.int .u32 2730485921), .lit (.int .u32 2820302411), .lit (.int .u32 3259730800), .lit (.int .u32 3345764771), .lit (.int .u32 3516065817), .lit (.int .u32 3600352804), .lit (.int .u32 4094571909), .lit (.int .u32 275423344), .lit (.int .u32 430227734), .lit (.int .u32 506948616), .lit (.int .u32 659060556), .lit (.int .u32 883997877), .lit (.int .u32 958139571), .lit (.int .u32 1322822218), .lit (.int .u32 1537002063), .lit (.int .u32 1747873779), .lit (.int .u32 1955562222), .lit (.int .u32 2024104815), .lit (.int .u32 2227730452), .lit (.int .u32 2361852424), .lit (.int .u32 2428436474), .lit (.int .u32 2756734187), .lit (.int .u32 3204031479), .lit (.int .u32 3329325298)]

/-- 'gantletlaw02.ShaSums': WHATEVER THE INPUT: true; the input reads as it did. -/
def shaSumsSpec : ChangeSpec := { name := "shaSums", fn := fun _ => fun
  | [d] => { results := [.lit (.bool true)], args := [d] }
  | _ => none }
def shaSumsRow : OpenClaim := { program := "ytdiccgpgmddbdaadoor", sum := "f7ed76c38fa101367c501bb5729705c8b815a9ad42770588bc2daf37cab5b059", func := "gantlet/gantletlaw02.ShaSums", spec := "shaSums", named := ["gantlet/sha.first", "gantlet/sha.rounds"], apart := false, laid := [("gantlet/sha.first", laid_gantlet_sha_first), ("gantlet/sha.rounds", laid_gantlet_sha_rounds)] }
def ShaSumsSaid : Prop := shaSumsRow.holds Tryd.pinned (OpenSpec.ofChange shaSumsSpec)

/-- ITS FALSE NEIGHBOUR: 'it returns false'. Refute it at one input. -/
def shaSumsWrong : ChangeSpec := { name := "shaSums", fn := fun _ => fun
  | [d] => { results := [.lit (.bool false)], args := [d] }
  | _ => none }
def ShaSumsWrongFalsely : Prop := shaSumsRow.holds Tryd.pinned (OpenSpec.ofChange shaSumsWrong)

/-- 'gantletlaw02.ShaParts': WHATEVER THE INPUT: true; the input reads as it did. -/
def shaPartsSpec : ChangeSpec := { name := "shaParts", fn := fun _ => fun
  | [d] => { results := [.lit (.bool true)], args := [d] }
  | _ => none }
def shaPartsRow : OpenClaim := { program := "ytdiccgpgmddbdaadoor", sum := "f7ed76c38fa101367c501bb5729705c8b815a9ad42770588bc2daf37cab5b059", func := "gantlet/gantletlaw02.ShaParts", spec := "shaParts", named := ["gantlet/sha.first", "gantlet/sha.rounds"], apart := false, laid := [("gantlet/sha.first", laid_gantlet_sha_first), ("gantlet/sha.rounds", laid_gantlet_sha_rounds)] }
def ShaPartsSaid : Prop := shaPartsRow.holds Tryd.pinned (OpenSpec.ofChange shaPartsSpec)

/-- ITS FALSE NEIGHBOUR: 'it returns false'. Refute it at one input. -/
def shaPartsWrong : ChangeSpec := { name := "shaParts", fn := fun _ => fun
  | [d] => { results := [.lit (.bool false)], args := [d] }
  | _ => none }
def ShaPartsWrongFalsely : Prop := shaPartsRow.holds Tryd.pinned (OpenSpec.ofChange shaPartsWrong)

/-- 'gantletlaw02.ShaCopies': WHATEVER THE INPUT: true; the input reads as it did. -/
def shaCopiesSpec : ChangeSpec := { name := "shaCopies", fn := fun _ => fun
  | [d1, d2, d3] => { results := [.lit (.bool true)], args := [d1, d2, d3] }
  | _ => none }
def shaCopiesRow : OpenClaim := { program := "ytdiccgpgmddbdaadoor", sum := "f7ed76c38fa101367c501bb5729705c8b815a9ad42770588bc2daf37cab5b059", func := "gantlet/gantletlaw02.ShaCopies", spec := "shaCopies", named := ["gantlet/sha.first", "gantlet/sha.rounds"], apart := false, laid := [("gantlet/sha.first", laid_gantlet_sha_first), ("gantlet/sha.rounds", laid_gantlet_sha_rounds)] }
def ShaCopiesSaid : Prop := shaCopiesRow.holds Tryd.pinned (OpenSpec.ofChange shaCopiesSpec)

/-- ITS FALSE NEIGHBOUR: 'it returns false'. Refute it at one input. -/
def shaCopiesWrong : ChangeSpec := { name := "shaCopies", fn := fun _ => fun
  | [d1, d2, d3] => { results := [.lit (.bool false)], args := [d1, d2, d3] }
  | _ => none }
def ShaCopiesWrongFalsely : Prop := shaCopiesRow.holds Tryd.pinned (OpenSpec.ofChange shaCopiesWrong)

/-- 'gantletlaw02.ShaConsts': WHATEVER THE INPUT: true; the input reads as it did. -/
def shaConstsSpec : ChangeSpec := { name := "shaConsts", fn := fun _ => fun
  | [d] => { results := [.lit (.bool true)], args := [d] }
  | _ => none }
def shaConstsRow : OpenClaim := { program := "ytdiccgpgmddbdaadoor", sum := "f7ed76c38fa101367c501bb5729705c8b815a9ad42770588bc2daf37cab5b059", func := "gantlet/gantletlaw02.ShaConsts", spec := "shaConsts", named := ["gantlet/sha.first", "gantlet/sha.rounds"], apart := false, laid := [("gantlet/sha.first", laid_gantlet_sha_first), ("gantlet/sha.rounds", laid_gantlet_sha_rounds)] }
def ShaConstsSaid : Prop := shaConstsRow.holds Tryd.pinned (OpenSpec.ofChange shaConstsSpec)

/-- ITS FALSE NEIGHBOUR: 'it returns false'. Refute it at one input. -/
def shaConstsWrong : ChangeSpec := { name := "shaConsts", fn := fun _ => fun
  | [d] => { results := [.lit (.bool false)], args := [d] }
  | _ => none }
def ShaConstsWrongFalsely : Prop := shaConstsRow.holds Tryd.pinned (OpenSpec.ofChange shaConstsWrong)

/-- 'gantletlaw02.ShaBlocks': WHATEVER THE INPUT: true; the input reads as it did. -/
def shaBlocksSpec : ChangeSpec := { name := "shaBlocks", fn := fun _ => fun
  | [d1, d2] => { results := [.lit (.bool true)], args := [d1, d2] }
  | _ => none }
def shaBlocksRow : OpenClaim := { program := "ytdiccgpgmddbdaadoor", sum := "f7ed76c38fa101367c501bb5729705c8b815a9ad42770588bc2daf37cab5b059", func := "gantlet/gantletlaw02.ShaBlocks", spec := "shaBlocks", named := ["gantlet/sha.first", "gantlet/sha.rounds"], apart := false, laid := [("gantlet/sha.first", laid_gantlet_sha_first), ("gantlet/sha.rounds", laid_gantlet_sha_rounds)] }
def ShaBlocksSaid : Prop := shaBlocksRow.holds Tryd.pinned (OpenSpec.ofChange shaBlocksSpec)

/-- ITS FALSE NEIGHBOUR: 'it returns false'. Refute it at one input. -/
def shaBlocksWrong : ChangeSpec := { name := "shaBlocks", fn := fun _ => fun
  | [d1, d2] => { results := [.lit (.bool false)], args := [d1, d2] }
  | _ => none }
def ShaBlocksWrongFalsely : Prop := shaBlocksRow.holds Tryd.pinned (OpenSpec.ofChange shaBlocksWrong)

/-- 'gantletlaw02.ShaAsked': WHATEVER THE INPUT: true; the input reads as it did. -/
def shaAskedSpec : ChangeSpec := { name := "shaAsked", fn := fun _ => fun
  | [d1, d2] => { results := [.lit (.bool true)], args := [d1, d2] }
  | _ => none }
def shaAskedRow : OpenClaim := { program := "ytdiccgpgmddbdaadoor", sum := "f7ed76c38fa101367c501bb5729705c8b815a9ad42770588bc2daf37cab5b059", func := "gantlet/gantletlaw02.ShaAsked", spec := "shaAsked", named := ["gantlet/sha.first", "gantlet/sha.rounds"], apart := false, laid := [("gantlet/sha.first", laid_gantlet_sha_first), ("gantlet/sha.rounds", laid_gantlet_sha_rounds)] }
def ShaAskedSaid : Prop := shaAskedRow.holds Tryd.pinned (OpenSpec.ofChange shaAskedSpec)

/-- ITS FALSE NEIGHBOUR: 'it returns false'. Refute it at one input. -/
def shaAskedWrong : ChangeSpec := { name := "shaAsked", fn := fun _ => fun
  | [d1, d2] => { results := [.lit (.bool false)], args := [d1, d2] }
  | _ => none }
def ShaAskedWrongFalsely : Prop := shaAskedRow.holds Tryd.pinned (OpenSpec.ofChange shaAskedWrong)

/-- 'gantletlaw21.TapPlays': WHATEVER THE INPUT: true; the input reads as it did. -/
def tapPlaysSpec : ChangeSpec := { name := "tapPlays", fn := fun _ => fun
  | [d] => { results := [.lit (.bool true)], args := [d] }
  | _ => none }
def tapPlaysRow : OpenClaim := { program := "ytdiccgpgmddbdaadoor", sum := "f7ed76c38fa101367c501bb5729705c8b815a9ad42770588bc2daf37cab5b059", func := "gantlet/gantletlaw21.TapPlays", spec := "tapPlays", named := ["gantlet/sha.first", "gantlet/sha.rounds"], apart := false, laid := [("gantlet/sha.first", laid_gantlet_sha_first), ("gantlet/sha.rounds", laid_gantlet_sha_rounds)] }
def TapPlaysSaid : Prop := tapPlaysRow.holds Tryd.pinned (OpenSpec.ofChange tapPlaysSpec)

/-- ITS FALSE NEIGHBOUR: 'it returns false'. Refute it at one input. -/
def tapPlaysWrong : ChangeSpec := { name := "tapPlays", fn := fun _ => fun
  | [d] => { results := [.lit (.bool false)], args := [d] }
  | _ => none }
def TapPlaysWrongFalsely : Prop := tapPlaysRow.holds Tryd.pinned (OpenSpec.ofChange tapPlaysWrong)

/-- 'gantletlaw21.TapParts': WHATEVER THE INPUT: true; the input reads as it did. -/
def tapPartsSpec : ChangeSpec := { name := "tapParts", fn := fun _ => fun
  | [d1, d2, d3] => { results := [.lit (.bool true)], args := [d1, d2, d3] }
  | _ => none }
def tapPartsRow : OpenClaim := { program := "ytdiccgpgmddbdaadoor", sum := "f7ed76c38fa101367c501bb5729705c8b815a9ad42770588bc2daf37cab5b059", func := "gantlet/gantletlaw21.TapParts", spec := "tapParts", named := ["gantlet/sha.first", "gantlet/sha.rounds"], apart := false, laid := [("gantlet/sha.first", laid_gantlet_sha_first), ("gantlet/sha.rounds", laid_gantlet_sha_rounds)] }
def TapPartsSaid : Prop := tapPartsRow.holds Tryd.pinned (OpenSpec.ofChange tapPartsSpec)

/-- ITS FALSE NEIGHBOUR: 'it returns false'. Refute it at one input. -/
def tapPartsWrong : ChangeSpec := { name := "tapParts", fn := fun _ => fun
  | [d1, d2, d3] => { results := [.lit (.bool false)], args := [d1, d2, d3] }
  | _ => none }
def TapPartsWrongFalsely : Prop := tapPartsRow.holds Tryd.pinned (OpenSpec.ofChange tapPartsWrong)

/-- 'gantletlaw21.TapHeads': WHATEVER THE INPUT: true; the input reads as it did. -/
def tapHeadsSpec : ChangeSpec := { name := "tapHeads", fn := fun _ => fun
  | [d1, d2, d3] => { results := [.lit (.bool true)], args := [d1, d2, d3] }
  | _ => none }
def tapHeadsRow : OpenClaim := { program := "ytdiccgpgmddbdaadoor", sum := "f7ed76c38fa101367c501bb5729705c8b815a9ad42770588bc2daf37cab5b059", func := "gantlet/gantletlaw21.TapHeads", spec := "tapHeads", named := ["gantlet/sha.first", "gantlet/sha.rounds"], apart := false, laid := [("gantlet/sha.first", laid_gantlet_sha_first), ("gantlet/sha.rounds", laid_gantlet_sha_rounds)] }
def TapHeadsSaid : Prop := tapHeadsRow.holds Tryd.pinned (OpenSpec.ofChange tapHeadsSpec)

/-- ITS FALSE NEIGHBOUR: 'it returns false'. Refute it at one input. -/
def tapHeadsWrong : ChangeSpec := { name := "tapHeads", fn := fun _ => fun
  | [d1, d2, d3] => { results := [.lit (.bool false)], args := [d1, d2, d3] }
  | _ => none }
def TapHeadsWrongFalsely : Prop := tapHeadsRow.holds Tryd.pinned (OpenSpec.ofChange tapHeadsWrong)

/-- 'gantletlaw21.TapPieces': WHATEVER THE INPUT: true; the input reads as it did. -/
def tapPiecesSpec : ChangeSpec := { name := "tapPieces", fn := fun _ => fun
  | [d] => { results := [.lit (.bool true)], args := [d] }
  | _ => none }
def tapPiecesRow : OpenClaim := { program := "ytdiccgpgmddbdaadoor", sum := "f7ed76c38fa101367c501bb5729705c8b815a9ad42770588bc2daf37cab5b059", func := "gantlet/gantletlaw21.TapPieces", spec := "tapPieces", named := ["gantlet/sha.first", "gantlet/sha.rounds"], apart := false, laid := [("gantlet/sha.first", laid_gantlet_sha_first), ("gantlet/sha.rounds", laid_gantlet_sha_rounds)] }
def TapPiecesSaid : Prop := tapPiecesRow.holds Tryd.pinned (OpenSpec.ofChange tapPiecesSpec)

/-- ITS FALSE NEIGHBOUR: 'it returns false'. Refute it at one input. -/
def tapPiecesWrong : ChangeSpec := { name := "tapPieces", fn := fun _ => fun
  | [d] => { results := [.lit (.bool false)], args := [d] }
  | _ => none }
def TapPiecesWrongFalsely : Prop := tapPiecesRow.holds Tryd.pinned (OpenSpec.ofChange tapPiecesWrong)

/- THE SECOND FORM. 'bulk': how many values and letters a reading holds, each counted each time it is reached (what is shared counts as often as it is met; a slice's spare places count too). A statement '..UptoSaid' is the law's where the arguments, and the package variables that the reading takes, are together of bulk at most 1048576: NARROWER than '..Said'. Prove '..Said' where nothing that the law and all that it calls make is longer than what came in: it says more and counts as full. Else prove '..UptoSaid'. A law counts once. -/
mutual
def uptoBulk {H : Type} : DataW H → Nat
  | .lit (.string bytes) => bytes.length + 1
  | .lit _ => 1
  | .nil => 1
  | .ptr d => uptoBulk d + 1
  | .slice elems spare => uptoBulkAll elems + uptoBulkAll spare + 1
  | .agg parts => uptoBulkAll parts + 1
  | .iface _ d => uptoBulk d + 1
  | .map entries => uptoBulkEntries entries + 1
  | .held _ => 1
def uptoBulkAll {H : Type} : List (DataW H) → Nat
  | [] => 0
  | d :: r => uptoBulk d + uptoBulkAll r
def uptoBulkEntries {H : Type} : List (Lit × DataW H) → Nat
  | [] => 0
  | x :: r => uptoBulkEntry x + uptoBulkEntries r
def uptoBulkEntry {H : Type} : Lit × DataW H → Nat
  | (.string bytes, d) => bytes.length + uptoBulk d + 1
  | (_, d) => uptoBulk d + 1
 end
def uptoSmall : (H : Type) → List (DataW H) → Bool := fun _ ds => decide (uptoBulkAll ds ≤ 1048576)
def OpenSpec.upto (s : _root_.Go.ChangeSpec) : _root_.Go.OpenSpec := { _root_.Go.OpenSpec.ofChange s with cond := some uptoSmall }

/-- 'gantletlaw02.ShaSums', WHERE WHAT IT READS IS OF BULK AT MOST 1048576: true; the input reads as it did. -/
def shaSumsUptoRow : OpenClaim := { program := "ytdiccgpgmddbdaadoor", sum := "f7ed76c38fa101367c501bb5729705c8b815a9ad42770588bc2daf37cab5b059", func := "gantlet/gantletlaw02.ShaSums", spec := "shaSums", named := ["gantlet/sha.first", "gantlet/sha.rounds"], apart := false, laid := [("gantlet/sha.first", laid_gantlet_sha_first), ("gantlet/sha.rounds", laid_gantlet_sha_rounds)], narrowed := true }
def ShaSumsUptoSaid : Prop := shaSumsUptoRow.holds Tryd.pinned (OpenSpec.upto shaSumsSpec)

/-- 'gantletlaw02.ShaParts', WHERE WHAT IT READS IS OF BULK AT MOST 1048576: true; the input reads as it did. -/
def shaPartsUptoRow : OpenClaim := { program := "ytdiccgpgmddbdaadoor", sum := "f7ed76c38fa101367c501bb5729705c8b815a9ad42770588bc2daf37cab5b059", func := "gantlet/gantletlaw02.ShaParts", spec := "shaParts", named := ["gantlet/sha.first", "gantlet/sha.rounds"], apart := false, laid := [("gantlet/sha.first", laid_gantlet_sha_first), ("gantlet/sha.rounds", laid_gantlet_sha_rounds)], narrowed := true }
def ShaPartsUptoSaid : Prop := shaPartsUptoRow.holds Tryd.pinned (OpenSpec.upto shaPartsSpec)

/-- 'gantletlaw02.ShaCopies', WHERE WHAT IT READS IS OF BULK AT MOST 1048576: true; the input reads as it did. -/
def shaCopiesUptoRow : OpenClaim := { program := "ytdiccgpgmddbdaadoor", sum := "f7ed76c38fa101367c501bb5729705c8b815a9ad42770588bc2daf37cab5b059", func := "gantlet/gantletlaw02.ShaCopies", spec := "shaCopies", named := ["gantlet/sha.first", "gantlet/sha.rounds"], apart := false, laid := [("gantlet/sha.first", laid_gantlet_sha_first), ("gantlet/sha.rounds", laid_gantlet_sha_rounds)], narrowed := true }
def ShaCopiesUptoSaid : Prop := shaCopiesUptoRow.holds Tryd.pinned (OpenSpec.upto shaCopiesSpec)

/-- 'gantletlaw02.ShaConsts', WHERE WHAT IT READS IS OF BULK AT MOST 1048576: true; the input reads as it did. -/
def shaConstsUptoRow : OpenClaim := { program := "ytdiccgpgmddbdaadoor", sum := "f7ed76c38fa101367c501bb5729705c8b815a9ad42770588bc2daf37cab5b059", func := "gantlet/gantletlaw02.ShaConsts", spec := "shaConsts", named := ["gantlet/sha.first", "gantlet/sha.rounds"], apart := false, laid := [("gantlet/sha.first", laid_gantlet_sha_first), ("gantlet/sha.rounds", laid_gantlet_sha_rounds)], narrowed := true }
def ShaConstsUptoSaid : Prop := shaConstsUptoRow.holds Tryd.pinned (OpenSpec.upto shaConstsSpec)

/-- 'gantletlaw02.ShaBlocks', WHERE WHAT IT READS IS OF BULK AT MOST 1048576: true; the input reads as it did. -/
def shaBlocksUptoRow : OpenClaim := { program := "ytdiccgpgmddbdaadoor", sum := "f7ed76c38fa101367c501bb5729705c8b815a9ad42770588bc2daf37cab5b059", func := "gantlet/gantletlaw02.ShaBlocks", spec := "shaBlocks", named := ["gantlet/sha.first", "gantlet/sha.rounds"], apart := false, laid := [("gantlet/sha.first", laid_gantlet_sha_first), ("gantlet/sha.rounds", laid_gantlet_sha_rounds)], narrowed := true }
def ShaBlocksUptoSaid : Prop := shaBlocksUptoRow.holds Tryd.pinned (OpenSpec.upto shaBlocksSpec)

/-- 'gantletlaw02.ShaAsked', WHERE WHAT IT READS IS OF BULK AT MOST 1048576: true; the input reads as it did. -/
def shaAskedUptoRow : OpenClaim := { program := "ytdiccgpgmddbdaadoor", sum := "f7ed76c38fa101367c501bb5729705c8b815a9ad42770588bc2daf37cab5b059", func := "gantlet/gantletlaw02.ShaAsked", spec := "shaAsked", named := ["gantlet/sha.first", "gantlet/sha.rounds"], apart := false, laid := [("gantlet/sha.first", laid_gantlet_sha_first), ("gantlet/sha.rounds", laid_gantlet_sha_rounds)], narrowed := true }
def ShaAskedUptoSaid : Prop := shaAskedUptoRow.holds Tryd.pinned (OpenSpec.upto shaAskedSpec)

/-- 'gantletlaw21.TapPlays', WHERE WHAT IT READS IS OF BULK AT MOST 1048576: true; the input reads as it did. -/
def tapPlaysUptoRow : OpenClaim := { program := "ytdiccgpgmddbdaadoor", sum := "f7ed76c38fa101367c501bb5729705c8b815a9ad42770588bc2daf37cab5b059", func := "gantlet/gantletlaw21.TapPlays", spec := "tapPlays", named := ["gantlet/sha.first", "gantlet/sha.rounds"], apart := false, laid := [("gantlet/sha.first", laid_gantlet_sha_first), ("gantlet/sha.rounds", laid_gantlet_sha_rounds)], narrowed := true }
def TapPlaysUptoSaid : Prop := tapPlaysUptoRow.holds Tryd.pinned (OpenSpec.upto tapPlaysSpec)

/-- 'gantletlaw21.TapParts', WHERE WHAT IT READS IS OF BULK AT MOST 1048576: true; the input reads as it did. -/
def tapPartsUptoRow : OpenClaim := { program := "ytdiccgpgmddbdaadoor", sum := "f7ed76c38fa101367c501bb5729705c8b815a9ad42770588bc2daf37cab5b059", func := "gantlet/gantletlaw21.TapParts", spec := "tapParts", named := ["gantlet/sha.first", "gantlet/sha.rounds"], apart := false, laid := [("gantlet/sha.first", laid_gantlet_sha_first), ("gantlet/sha.rounds", laid_gantlet_sha_rounds)], narrowed := true }
def TapPartsUptoSaid : Prop := tapPartsUptoRow.holds Tryd.pinned (OpenSpec.upto tapPartsSpec)

/-- 'gantletlaw21.TapHeads', WHERE WHAT IT READS IS OF BULK AT MOST 1048576: true; the input reads as it did. -/
def tapHeadsUptoRow : OpenClaim := { program := "ytdiccgpgmddbdaadoor", sum := "f7ed76c38fa101367c501bb5729705c8b815a9ad42770588bc2daf37cab5b059", func := "gantlet/gantletlaw21.TapHeads", spec := "tapHeads", named := ["gantlet/sha.first", "gantlet/sha.rounds"], apart := false, laid := [("gantlet/sha.first", laid_gantlet_sha_first), ("gantlet/sha.rounds", laid_gantlet_sha_rounds)], narrowed := true }
def TapHeadsUptoSaid : Prop := tapHeadsUptoRow.holds Tryd.pinned (OpenSpec.upto tapHeadsSpec)

/-- 'gantletlaw21.TapPieces', WHERE WHAT IT READS IS OF BULK AT MOST 1048576: true; the input reads as it did. -/
def tapPiecesUptoRow : OpenClaim := { program := "ytdiccgpgmddbdaadoor", sum := "f7ed76c38fa101367c501bb5729705c8b815a9ad42770588bc2daf37cab5b059", func := "gantlet/gantletlaw21.TapPieces", spec := "tapPieces", named := ["gantlet/sha.first", "gantlet/sha.rounds"], apart := false, laid := [("gantlet/sha.first", laid_gantlet_sha_first), ("gantlet/sha.rounds", laid_gantlet_sha_rounds)], narrowed := true }
def TapPiecesUptoSaid : Prop := tapPiecesUptoRow.holds Tryd.pinned (OpenSpec.upto tapPiecesSpec)

end Rows
end Go.Proofs.YtdiccgpgmddbdaaDoor
