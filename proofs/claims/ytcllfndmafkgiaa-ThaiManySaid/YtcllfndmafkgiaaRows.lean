/-
  No cell of these rows narrows 'for every input' (looked for: loops, veiled, ifaces, maps, wideKeys, modest, calm, conditions, laid).
  DERIVED. THE GIVEN ROWS OF THIS SEAT. 12 by the template 'for every input the law returns true; each argument reads behind the call as it read before'; 0 by the template 'total and deterministic' (their statements: YtcllfndmafkgiaaTotals.lean).
  GIVEN WITH THE SEED: the statements are not yours to turn. If you find one false, say at which input.
  Laid BY PROGRAM, IN A SANDBOX (cutbox-rows.mjs): the forced cells as the released guide's own fill.sh prints them over the translation 2ea374e0fd79eca6… (all of the seat's roots in one cut). By AI agents, Wed Nov 11 2026. No macro, syntax, notation, axiom, sorry.
-/
import Derived.Test.YtcllfndmafkgiaaChecked
import GoSem.Claim
import GoSem.ClaimJoined
import GoSem.ClaimMapViews
import Derived.JoinedTies
import Derived.KernelRfl
namespace Go.Proofs.Ytcllfndmafkgiaa
/- THE CELL 'sum', in the pinned program and in every row, IS THE sha256 OF THE DUMP (.gsa) THAT YtcllfndmafkgiaaProg.lean LOADS. Nothing in Lean hashes anything: it is a label: what it is worth is what the hold of that sum in a sandbox is worth. -/
noncomputable def Try.pinned : Pinned := { name := "ytcllfndmafkgiaa", sum := "2ea374e0fd79eca692704d5274a6902ed1756b9c2f6ff89c4703c84e9d85f808", checked := Try.checked }
namespace Rows
def none {H : Type} : Left H := { results := [], args := [] }

/-- 'lontarlaw07.ThaiDecode': WHATEVER THE INPUT: true; the input reads as it did. -/
def thaiDecodeSpec : ChangeSpec := { name := "thaiDecode", fn := fun _ => fun
  | [d] => { results := [.lit (.bool true)], args := [d] }
  | _ => none }
def thaiDecodeRow : OpenClaim := { program := "ytcllfndmafkgiaa", sum := "2ea374e0fd79eca692704d5274a6902ed1756b9c2f6ff89c4703c84e9d85f808", func := "lontar/lontarlaw07.ThaiDecode", spec := "thaiDecode", apart := false }
def ThaiDecodeSaid : Prop := thaiDecodeRow.holds Try.pinned (OpenSpec.ofChange thaiDecodeSpec)

/-- ITS FALSE NEIGHBOUR: 'it returns false'. Refute it at one input. -/
def thaiDecodeWrong : ChangeSpec := { name := "thaiDecode", fn := fun _ => fun
  | [d] => { results := [.lit (.bool false)], args := [d] }
  | _ => none }
def ThaiDecodeWrongFalsely : Prop := thaiDecodeRow.holds Try.pinned (OpenSpec.ofChange thaiDecodeWrong)

/-- 'lontarlaw07.ThaiEncode': WHATEVER THE INPUT: true; the input reads as it did. -/
def thaiEncodeSpec : ChangeSpec := { name := "thaiEncode", fn := fun _ => fun
  | [d1, d2] => { results := [.lit (.bool true)], args := [d1, d2] }
  | _ => none }
def thaiEncodeRow : OpenClaim := { program := "ytcllfndmafkgiaa", sum := "2ea374e0fd79eca692704d5274a6902ed1756b9c2f6ff89c4703c84e9d85f808", func := "lontar/lontarlaw07.ThaiEncode", spec := "thaiEncode", apart := false }
def ThaiEncodeSaid : Prop := thaiEncodeRow.holds Try.pinned (OpenSpec.ofChange thaiEncodeSpec)

/-- ITS FALSE NEIGHBOUR: 'it returns false'. Refute it at one input. -/
def thaiEncodeWrong : ChangeSpec := { name := "thaiEncode", fn := fun _ => fun
  | [d1, d2] => { results := [.lit (.bool false)], args := [d1, d2] }
  | _ => none }
def ThaiEncodeWrongFalsely : Prop := thaiEncodeRow.holds Try.pinned (OpenSpec.ofChange thaiEncodeWrong)

/-- 'lontarlaw07.ThaiClass': WHATEVER THE INPUT: true; the input reads as it did. -/
def thaiClassSpec : ChangeSpec := { name := "thaiClass", fn := fun _ => fun
  | [d] => { results := [.lit (.bool true)], args := [d] }
  | _ => none }
def thaiClassRow : OpenClaim := { program := "ytcllfndmafkgiaa", sum := "2ea374e0fd79eca692704d5274a6902ed1756b9c2f6ff89c4703c84e9d85f808", func := "lontar/lontarlaw07.ThaiClass", spec := "thaiClass", apart := false }
def ThaiClassSaid : Prop := thaiClassRow.holds Try.pinned (OpenSpec.ofChange thaiClassSpec)

/-- ITS FALSE NEIGHBOUR: 'it returns false'. Refute it at one input. -/
def thaiClassWrong : ChangeSpec := { name := "thaiClass", fn := fun _ => fun
  | [d] => { results := [.lit (.bool false)], args := [d] }
  | _ => none }
def ThaiClassWrongFalsely : Prop := thaiClassRow.holds Try.pinned (OpenSpec.ofChange thaiClassWrong)

/-- 'lontarlaw07.ThaiRound': WHATEVER THE INPUT: true; the input reads as it did. -/
def thaiRoundSpec : ChangeSpec := { name := "thaiRound", fn := fun _ => fun
  | [d1, d2] => { results := [.lit (.bool true)], args := [d1, d2] }
  | _ => none }
def thaiRoundRow : OpenClaim := { program := "ytcllfndmafkgiaa", sum := "2ea374e0fd79eca692704d5274a6902ed1756b9c2f6ff89c4703c84e9d85f808", func := "lontar/lontarlaw07.ThaiRound", spec := "thaiRound", apart := false }
def ThaiRoundSaid : Prop := thaiRoundRow.holds Try.pinned (OpenSpec.ofChange thaiRoundSpec)

/-- ITS FALSE NEIGHBOUR: 'it returns false'. Refute it at one input. -/
def thaiRoundWrong : ChangeSpec := { name := "thaiRound", fn := fun _ => fun
  | [d1, d2] => { results := [.lit (.bool false)], args := [d1, d2] }
  | _ => none }
def ThaiRoundWrongFalsely : Prop := thaiRoundRow.holds Try.pinned (OpenSpec.ofChange thaiRoundWrong)

/-- 'lontarlaw07.ThaiMany': WHATEVER THE INPUT: true; the input reads as it did. -/
def thaiManySpec : ChangeSpec := { name := "thaiMany", fn := fun _ => fun
  | [d] => { results := [.lit (.bool true)], args := [d] }
  | _ => none }
def thaiManyRow : OpenClaim := { program := "ytcllfndmafkgiaa", sum := "2ea374e0fd79eca692704d5274a6902ed1756b9c2f6ff89c4703c84e9d85f808", func := "lontar/lontarlaw07.ThaiMany", spec := "thaiMany", apart := false }
def ThaiManySaid : Prop := thaiManyRow.holds Try.pinned (OpenSpec.ofChange thaiManySpec)

/-- ITS FALSE NEIGHBOUR: 'it returns false'. Refute it at one input. -/
def thaiManyWrong : ChangeSpec := { name := "thaiMany", fn := fun _ => fun
  | [d] => { results := [.lit (.bool false)], args := [d] }
  | _ => none }
def ThaiManyWrongFalsely : Prop := thaiManyRow.holds Try.pinned (OpenSpec.ofChange thaiManyWrong)

/-- 'lontarlaw08.WttKind': WHATEVER THE INPUT: true; the input reads as it did. -/
def wttKindSpec : ChangeSpec := { name := "wttKind", fn := fun _ => fun
  | [d1, d2, d3, d4] => { results := [.lit (.bool true)], args := [d1, d2, d3, d4] }
  | _ => none }
def wttKindRow : OpenClaim := { program := "ytcllfndmafkgiaa", sum := "2ea374e0fd79eca692704d5274a6902ed1756b9c2f6ff89c4703c84e9d85f808", func := "lontar/lontarlaw08.WttKind", spec := "wttKind", apart := false }
def WttKindSaid : Prop := wttKindRow.holds Try.pinned (OpenSpec.ofChange wttKindSpec)

/-- ITS FALSE NEIGHBOUR: 'it returns false'. Refute it at one input. -/
def wttKindWrong : ChangeSpec := { name := "wttKind", fn := fun _ => fun
  | [d1, d2, d3, d4] => { results := [.lit (.bool false)], args := [d1, d2, d3, d4] }
  | _ => none }
def WttKindWrongFalsely : Prop := wttKindRow.holds Try.pinned (OpenSpec.ofChange wttKindWrong)

/-- 'lontarlaw08.WttMay': WHATEVER THE INPUT: true; the input reads as it did. -/
def wttMaySpec : ChangeSpec := { name := "wttMay", fn := fun _ => fun
  | [d1, d2, d3] => { results := [.lit (.bool true)], args := [d1, d2, d3] }
  | _ => none }
def wttMayRow : OpenClaim := { program := "ytcllfndmafkgiaa", sum := "2ea374e0fd79eca692704d5274a6902ed1756b9c2f6ff89c4703c84e9d85f808", func := "lontar/lontarlaw08.WttMay", spec := "wttMay", apart := false }
def WttMaySaid : Prop := wttMayRow.holds Try.pinned (OpenSpec.ofChange wttMaySpec)

/-- ITS FALSE NEIGHBOUR: 'it returns false'. Refute it at one input. -/
def wttMayWrong : ChangeSpec := { name := "wttMay", fn := fun _ => fun
  | [d1, d2, d3] => { results := [.lit (.bool false)], args := [d1, d2, d3] }
  | _ => none }
def WttMayWrongFalsely : Prop := wttMayRow.holds Try.pinned (OpenSpec.ofChange wttMayWrong)

/-- 'lontarlaw08.WttCheck': WHATEVER THE INPUT: true; the input reads as it did. -/
def wttCheckSpec : ChangeSpec := { name := "wttCheck", fn := fun _ => fun
  | [d1, d2] => { results := [.lit (.bool true)], args := [d1, d2] }
  | _ => none }
def wttCheckRow : OpenClaim := { program := "ytcllfndmafkgiaa", sum := "2ea374e0fd79eca692704d5274a6902ed1756b9c2f6ff89c4703c84e9d85f808", func := "lontar/lontarlaw08.WttCheck", spec := "wttCheck", apart := false }
def WttCheckSaid : Prop := wttCheckRow.holds Try.pinned (OpenSpec.ofChange wttCheckSpec)

/-- ITS FALSE NEIGHBOUR: 'it returns false'. Refute it at one input. -/
def wttCheckWrong : ChangeSpec := { name := "wttCheck", fn := fun _ => fun
  | [d1, d2] => { results := [.lit (.bool false)], args := [d1, d2] }
  | _ => none }
def WttCheckWrongFalsely : Prop := wttCheckRow.holds Try.pinned (OpenSpec.ofChange wttCheckWrong)

/-- 'lontarlaw08.WttChecker': WHATEVER THE INPUT: true; the input reads as it did. -/
def wttCheckerSpec : ChangeSpec := { name := "wttChecker", fn := fun _ => fun
  | [d1, d2] => { results := [.lit (.bool true)], args := [d1, d2] }
  | _ => none }
def wttCheckerRow : OpenClaim := { program := "ytcllfndmafkgiaa", sum := "2ea374e0fd79eca692704d5274a6902ed1756b9c2f6ff89c4703c84e9d85f808", func := "lontar/lontarlaw08.WttChecker", spec := "wttChecker", apart := false }
def WttCheckerSaid : Prop := wttCheckerRow.holds Try.pinned (OpenSpec.ofChange wttCheckerSpec)

/-- ITS FALSE NEIGHBOUR: 'it returns false'. Refute it at one input. -/
def wttCheckerWrong : ChangeSpec := { name := "wttChecker", fn := fun _ => fun
  | [d1, d2] => { results := [.lit (.bool false)], args := [d1, d2] }
  | _ => none }
def WttCheckerWrongFalsely : Prop := wttCheckerRow.holds Try.pinned (OpenSpec.ofChange wttCheckerWrong)

/-- 'lontarlaw08.WttParts': WHATEVER THE INPUT: true; the input reads as it did. -/
def wttPartsSpec : ChangeSpec := { name := "wttParts", fn := fun _ => fun
  | [d1, d2, d3] => { results := [.lit (.bool true)], args := [d1, d2, d3] }
  | _ => none }
def wttPartsRow : OpenClaim := { program := "ytcllfndmafkgiaa", sum := "2ea374e0fd79eca692704d5274a6902ed1756b9c2f6ff89c4703c84e9d85f808", func := "lontar/lontarlaw08.WttParts", spec := "wttParts", apart := false }
def WttPartsSaid : Prop := wttPartsRow.holds Try.pinned (OpenSpec.ofChange wttPartsSpec)

/-- ITS FALSE NEIGHBOUR: 'it returns false'. Refute it at one input. -/
def wttPartsWrong : ChangeSpec := { name := "wttParts", fn := fun _ => fun
  | [d1, d2, d3] => { results := [.lit (.bool false)], args := [d1, d2, d3] }
  | _ => none }
def WttPartsWrongFalsely : Prop := wttPartsRow.holds Try.pinned (OpenSpec.ofChange wttPartsWrong)

/-- 'lontarlaw08.WttLevels': WHATEVER THE INPUT: true; the input reads as it did. -/
def wttLevelsSpec : ChangeSpec := { name := "wttLevels", fn := fun _ => fun
  | [d] => { results := [.lit (.bool true)], args := [d] }
  | _ => none }
def wttLevelsRow : OpenClaim := { program := "ytcllfndmafkgiaa", sum := "2ea374e0fd79eca692704d5274a6902ed1756b9c2f6ff89c4703c84e9d85f808", func := "lontar/lontarlaw08.WttLevels", spec := "wttLevels", apart := false }
def WttLevelsSaid : Prop := wttLevelsRow.holds Try.pinned (OpenSpec.ofChange wttLevelsSpec)

/-- ITS FALSE NEIGHBOUR: 'it returns false'. Refute it at one input. -/
def wttLevelsWrong : ChangeSpec := { name := "wttLevels", fn := fun _ => fun
  | [d] => { results := [.lit (.bool false)], args := [d] }
  | _ => none }
def WttLevelsWrongFalsely : Prop := wttLevelsRow.holds Try.pinned (OpenSpec.ofChange wttLevelsWrong)

/-- 'lontarlaw08.WttGrows': WHATEVER THE INPUT: true; the input reads as it did. -/
def wttGrowsSpec : ChangeSpec := { name := "wttGrows", fn := fun _ => fun
  | [d1, d2, d3] => { results := [.lit (.bool true)], args := [d1, d2, d3] }
  | _ => none }
def wttGrowsRow : OpenClaim := { program := "ytcllfndmafkgiaa", sum := "2ea374e0fd79eca692704d5274a6902ed1756b9c2f6ff89c4703c84e9d85f808", func := "lontar/lontarlaw08.WttGrows", spec := "wttGrows", apart := false }
def WttGrowsSaid : Prop := wttGrowsRow.holds Try.pinned (OpenSpec.ofChange wttGrowsSpec)

/-- ITS FALSE NEIGHBOUR: 'it returns false'. Refute it at one input. -/
def wttGrowsWrong : ChangeSpec := { name := "wttGrows", fn := fun _ => fun
  | [d1, d2, d3] => { results := [.lit (.bool false)], args := [d1, d2, d3] }
  | _ => none }
def WttGrowsWrongFalsely : Prop := wttGrowsRow.holds Try.pinned (OpenSpec.ofChange wttGrowsWrong)

/- THE SECOND FORM. 'bulk': how many values and letters a reading holds, each counted each time it is reached (what is shared counts as often as it is met; a slice's spare places count too). A statement '..UptoSaid' is the law's where the arguments, and the package variables that the reading takes, are together of bulk at most 1048576: NARROWER than '..Said'. Prove '..Said' where nothing that the law and all that it calls make is longer than what came in: it says more and counts as full. Else prove '..UptoSaid'. A law counts once. -/
mutual
def uptoBulk {H : Type} : DataW H → Nat
  | .lit (.string bytes) => bytes.length + 1
  | .lit _ => 1
  | .nil => 1
  | .ptr d => uptoBulk d + 1
  | .slice elems spare => uptoBulkAll elems + uptoBulkAll spare + 1
  | .agg parts => uptoBulkAll parts + 1
  | .iface _ d => uptoBulk d + 1
  | .map entries => uptoBulkEntries entries + 1
  | .held _ => 1
def uptoBulkAll {H : Type} : List (DataW H) → Nat
  | [] => 0
  | d :: r => uptoBulk d + uptoBulkAll r
def uptoBulkEntries {H : Type} : List (Lit × DataW H) → Nat
  | [] => 0
  | x :: r => uptoBulkEntry x + uptoBulkEntries r
def uptoBulkEntry {H : Type} : Lit × DataW H → Nat
  | (.string bytes, d) => bytes.length + uptoBulk d + 1
  | (_, d) => uptoBulk d + 1
 end
def uptoSmall : (H : Type) → List (DataW H) → Bool := fun _ ds => decide (uptoBulkAll ds ≤ 1048576)
def OpenSpec.upto (s : _root_.Go.ChangeSpec) : _root_.Go.OpenSpec := { _root_.Go.OpenSpec.ofChange s with cond := some uptoSmall }

/-- 'lontarlaw07.ThaiDecode', WHERE WHAT IT READS IS OF BULK AT MOST 1048576: true; the input reads as it did. -/
def thaiDecodeUptoRow : OpenClaim := { program := "ytcllfndmafkgiaa", sum := "2ea374e0fd79eca692704d5274a6902ed1756b9c2f6ff89c4703c84e9d85f808", func := "lontar/lontarlaw07.ThaiDecode", spec := "thaiDecode", apart := false, narrowed := true }
def ThaiDecodeUptoSaid : Prop := thaiDecodeUptoRow.holds Try.pinned (OpenSpec.upto thaiDecodeSpec)

/-- 'lontarlaw07.ThaiEncode', WHERE WHAT IT READS IS OF BULK AT MOST 1048576: true; the input reads as it did. -/
def thaiEncodeUptoRow : OpenClaim := { program := "ytcllfndmafkgiaa", sum := "2ea374e0fd79eca692704d5274a6902ed1756b9c2f6ff89c4703c84e9d85f808", func := "lontar/lontarlaw07.ThaiEncode", spec := "thaiEncode", apart := false, narrowed := true }
def ThaiEncodeUptoSaid : Prop := thaiEncodeUptoRow.holds Try.pinned (OpenSpec.upto thaiEncodeSpec)

/-- 'lontarlaw07.ThaiClass', WHERE WHAT IT READS IS OF BULK AT MOST 1048576: true; the input reads as it did. -/
def thaiClassUptoRow : OpenClaim := { program := "ytcllfndmafkgiaa", sum := "2ea374e0fd79eca692704d5274a6902ed1756b9c2f6ff89c4703c84e9d85f808", func := "lontar/lontarlaw07.ThaiClass", spec := "thaiClass", apart := false, narrowed := true }
def ThaiClassUptoSaid : Prop := thaiClassUptoRow.holds Try.pinned (OpenSpec.upto thaiClassSpec)

/-- 'lontarlaw07.ThaiRound', WHERE WHAT IT READS IS OF BULK AT MOST 1048576: true; the input reads as it did. -/
def thaiRoundUptoRow : OpenClaim := { program := "ytcllfndmafkgiaa", sum := "2ea374e0fd79eca692704d5274a6902ed1756b9c2f6ff89c4703c84e9d85f808", func := "lontar/lontarlaw07.ThaiRound", spec := "thaiRound", apart := false, narrowed := true }
def ThaiRoundUptoSaid : Prop := thaiRoundUptoRow.holds Try.pinned (OpenSpec.upto thaiRoundSpec)

/-- 'lontarlaw07.ThaiMany', WHERE WHAT IT READS IS OF BULK AT MOST 1048576: true; the input reads as it did. -/
def thaiManyUptoRow : OpenClaim := { program := "ytcllfndmafkgiaa", sum := "2ea374e0fd79eca692704d5274a6902ed1756b9c2f6ff89c4703c84e9d85f808", func := "lontar/lontarlaw07.ThaiMany", spec := "thaiMany", apart := false, narrowed := true }
def ThaiManyUptoSaid : Prop := thaiManyUptoRow.holds Try.pinned (OpenSpec.upto thaiManySpec)

/-- 'lontarlaw08.WttKind', WHERE WHAT IT READS IS OF BULK AT MOST 1048576: true; the input reads as it did. -/
def wttKindUptoRow : OpenClaim := { program := "ytcllfndmafkgiaa", sum := "2ea374e0fd79eca692704d5274a6902ed1756b9c2f6ff89c4703c84e9d85f808", func := "lontar/lontarlaw08.WttKind", spec := "wttKind", apart := false, narrowed := true }
def WttKindUptoSaid : Prop := wttKindUptoRow.holds Try.pinned (OpenSpec.upto wttKindSpec)

/-- 'lontarlaw08.WttMay', WHERE WHAT IT READS IS OF BULK AT MOST 1048576: true; the input reads as it did. -/
def wttMayUptoRow : OpenClaim := { program := "ytcllfndmafkgiaa", sum := "2ea374e0fd79eca692704d5274a6902ed1756b9c2f6ff89c4703c84e9d85f808", func := "lontar/lontarlaw08.WttMay", spec := "wttMay", apart := false, narrowed := true }
def WttMayUptoSaid : Prop := wttMayUptoRow.holds Try.pinned (OpenSpec.upto wttMaySpec)

/-- 'lontarlaw08.WttCheck', WHERE WHAT IT READS IS OF BULK AT MOST 1048576: true; the input reads as it did. -/
def wttCheckUptoRow : OpenClaim := { program := "ytcllfndmafkgiaa", sum := "2ea374e0fd79eca692704d5274a6902ed1756b9c2f6ff89c4703c84e9d85f808", func := "lontar/lontarlaw08.WttCheck", spec := "wttCheck", apart := false, narrowed := true }
def WttCheckUptoSaid : Prop := wttCheckUptoRow.holds Try.pinned (OpenSpec.upto wttCheckSpec)

/-- 'lontarlaw08.WttChecker', WHERE WHAT IT READS IS OF BULK AT MOST 1048576: true; the input reads as it did. -/
def wttCheckerUptoRow : OpenClaim := { program := "ytcllfndmafkgiaa", sum := "2ea374e0fd79eca692704d5274a6902ed1756b9c2f6ff89c4703c84e9d85f808", func := "lontar/lontarlaw08.WttChecker", spec := "wttChecker", apart := false, narrowed := true }
def WttCheckerUptoSaid : Prop := wttCheckerUptoRow.holds Try.pinned (OpenSpec.upto wttCheckerSpec)

/-- 'lontarlaw08.WttParts', WHERE WHAT IT READS IS OF BULK AT MOST 1048576: true; the input reads as it did. -/
def wttPartsUptoRow : OpenClaim := { program := "ytcllfndmafkgiaa", sum := "2ea374e0fd79eca692704d5274a6902ed1756b9c2f6ff89c4703c84e9d85f808", func := "lontar/lontarlaw08.WttParts", spec := "wttParts", apart := false, narrowed := true }
def WttPartsUptoSaid : Prop := wttPartsUptoRow.holds Try.pinned (OpenSpec.upto wttPartsSpec)

/-- 'lontarlaw08.WttLevels', WHERE WHAT IT READS IS OF BULK AT MOST 1048576: true; the input reads as it did. -/
def wttLevelsUptoRow : OpenClaim := { program := "ytcllfndmafkgiaa", sum := "2ea374e0fd79eca692704d5274a6902ed1756b9c2f6ff89c4703c84e9d85f808", func := "lontar/lontarlaw08.WttLevels", spec := "wttLevels", apart := false, narrowed := true }
def WttLevelsUptoSaid : Prop := wttLevelsUptoRow.holds Try.pinned (OpenSpec.upto wttLevelsSpec)

/-- 'lontarlaw08.WttGrows', WHERE WHAT IT READS IS OF BULK AT MOST 1048576: true; the input reads as it did. -/
def wttGrowsUptoRow : OpenClaim := { program := "ytcllfndmafkgiaa", sum := "2ea374e0fd79eca692704d5274a6902ed1756b9c2f6ff89c4703c84e9d85f808", func := "lontar/lontarlaw08.WttGrows", spec := "wttGrows", apart := false, narrowed := true }
def WttGrowsUptoSaid : Prop := wttGrowsUptoRow.holds Try.pinned (OpenSpec.upto wttGrowsSpec)

end Rows
end Go.Proofs.Ytcllfndmafkgiaa
