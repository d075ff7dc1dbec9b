/-
  No cell of these rows narrows 'for every input' (looked for: loops, veiled, ifaces, maps, wideKeys, modest, calm, conditions, laid).
  DERIVED. THE GIVEN ROWS OF THIS SEAT. 12 by the template 'for every input the law returns true; each argument reads behind the call as it read before'; 0 by the template 'total and deterministic' (their statements: YtdhpldiahgajcaaTotals.lean).
  GIVEN WITH THE SEED: the statements are not yours to turn. If you find one false, say at which input.
  Laid BY PROGRAM, IN A SANDBOX (cutbox-rows.mjs): the forced cells as the released guide's own fill.sh prints them over the translation 4a69fdaf2dbfc8ff… (all of the seat's roots in one cut). By AI agents, Wed Nov 11 2026. No macro, syntax, notation, axiom, sorry.
-/
import Derived.Test.YtdhpldiahgajcaaChecked
import GoSem.Claim
import GoSem.ClaimJoined
import GoSem.ClaimMapViews
import Derived.JoinedTies
import Derived.KernelRfl
namespace Go.Proofs.Ytdhpldiahgajcaa
/- THE CELL 'sum', in the pinned program and in every row, IS THE sha256 OF THE DUMP (.gsa) THAT YtdhpldiahgajcaaProg.lean LOADS. Nothing in Lean hashes anything: it is a label: what it is worth is what the hold of that sum in a sandbox is worth. -/
noncomputable def Try.pinned : Pinned := { name := "ytdhpldiahgajcaa", sum := "4a69fdaf2dbfc8ff37b78587e00084f1798527629465401c9e3d3bc930599659", checked := Try.checked }
namespace Rows
def none {H : Type} : Left H := { results := [], args := [] }

/-- 'lontarlaw02.CarryHeld': WHATEVER THE INPUT: true; the input reads as it did. -/
def carryHeldSpec : ChangeSpec := { name := "carryHeld", fn := fun _ => fun
  | [d] => { results := [.lit (.bool true)], args := [d] }
  | _ => none }
def carryHeldRow : OpenClaim := { program := "ytdhpldiahgajcaa", sum := "4a69fdaf2dbfc8ff37b78587e00084f1798527629465401c9e3d3bc930599659", func := "lontar/lontarlaw02.CarryHeld", spec := "carryHeld", apart := false }
def CarryHeldSaid : Prop := carryHeldRow.holds Try.pinned (OpenSpec.ofChange carryHeldSpec)

/-- ITS FALSE NEIGHBOUR: 'it returns false'. Refute it at one input. -/
def carryHeldWrong : ChangeSpec := { name := "carryHeld", fn := fun _ => fun
  | [d] => { results := [.lit (.bool false)], args := [d] }
  | _ => none }
def CarryHeldWrongFalsely : Prop := carryHeldRow.holds Try.pinned (OpenSpec.ofChange carryHeldWrong)

/-- 'lontarlaw01.UtfOne': WHATEVER THE INPUT: true; the input reads as it did. -/
def utfOneSpec : ChangeSpec := { name := "utfOne", fn := fun _ => fun
  | [d1, d2, d3] => { results := [.lit (.bool true)], args := [d1, d2, d3] }
  | _ => none }
def utfOneRow : OpenClaim := { program := "ytdhpldiahgajcaa", sum := "4a69fdaf2dbfc8ff37b78587e00084f1798527629465401c9e3d3bc930599659", func := "lontar/lontarlaw01.UtfOne", spec := "utfOne", recurses := true, apart := false }
def UtfOneSaid : Prop := utfOneRow.holds Try.pinned (OpenSpec.ofChange utfOneSpec)

/-- ITS FALSE NEIGHBOUR: 'it returns false'. Refute it at one input. -/
def utfOneWrong : ChangeSpec := { name := "utfOne", fn := fun _ => fun
  | [d1, d2, d3] => { results := [.lit (.bool false)], args := [d1, d2, d3] }
  | _ => none }
def UtfOneWrongFalsely : Prop := utfOneRow.holds Try.pinned (OpenSpec.ofChange utfOneWrong)

/-- 'lontarlaw01.UtfRound': WHATEVER THE INPUT: true; the input reads as it did. -/
def utfRoundSpec : ChangeSpec := { name := "utfRound", fn := fun _ => fun
  | [d1, d2] => { results := [.lit (.bool true)], args := [d1, d2] }
  | _ => none }
def utfRoundRow : OpenClaim := { program := "ytdhpldiahgajcaa", sum := "4a69fdaf2dbfc8ff37b78587e00084f1798527629465401c9e3d3bc930599659", func := "lontar/lontarlaw01.UtfRound", spec := "utfRound", recurses := true, apart := false }
def UtfRoundSaid : Prop := utfRoundRow.holds Try.pinned (OpenSpec.ofChange utfRoundSpec)

/-- ITS FALSE NEIGHBOUR: 'it returns false'. Refute it at one input. -/
def utfRoundWrong : ChangeSpec := { name := "utfRound", fn := fun _ => fun
  | [d1, d2] => { results := [.lit (.bool false)], args := [d1, d2] }
  | _ => none }
def UtfRoundWrongFalsely : Prop := utfRoundRow.holds Try.pinned (OpenSpec.ofChange utfRoundWrong)

/-- 'lontarlaw02.CarryPut': WHATEVER THE INPUT: true; the input reads as it did. -/
def carryPutSpec : ChangeSpec := { name := "carryPut", fn := fun _ => fun
  | [d] => { results := [.lit (.bool true)], args := [d] }
  | _ => none }
def carryPutRow : OpenClaim := { program := "ytdhpldiahgajcaa", sum := "4a69fdaf2dbfc8ff37b78587e00084f1798527629465401c9e3d3bc930599659", func := "lontar/lontarlaw02.CarryPut", spec := "carryPut", apart := false }
def CarryPutSaid : Prop := carryPutRow.holds Try.pinned (OpenSpec.ofChange carryPutSpec)

/-- ITS FALSE NEIGHBOUR: 'it returns false'. Refute it at one input. -/
def carryPutWrong : ChangeSpec := { name := "carryPut", fn := fun _ => fun
  | [d] => { results := [.lit (.bool false)], args := [d] }
  | _ => none }
def CarryPutWrongFalsely : Prop := carryPutRow.holds Try.pinned (OpenSpec.ofChange carryPutWrong)

/-- 'lontarlaw02.CarryTwice': WHATEVER THE INPUT: true; the input reads as it did. -/
def carryTwiceSpec : ChangeSpec := { name := "carryTwice", fn := fun _ => fun
  | [d1, d2] => { results := [.lit (.bool true)], args := [d1, d2] }
  | _ => none }
def carryTwiceRow : OpenClaim := { program := "ytdhpldiahgajcaa", sum := "4a69fdaf2dbfc8ff37b78587e00084f1798527629465401c9e3d3bc930599659", func := "lontar/lontarlaw02.CarryTwice", spec := "carryTwice", apart := false }
def CarryTwiceSaid : Prop := carryTwiceRow.holds Try.pinned (OpenSpec.ofChange carryTwiceSpec)

/-- ITS FALSE NEIGHBOUR: 'it returns false'. Refute it at one input. -/
def carryTwiceWrong : ChangeSpec := { name := "carryTwice", fn := fun _ => fun
  | [d1, d2] => { results := [.lit (.bool false)], args := [d1, d2] }
  | _ => none }
def CarryTwiceWrongFalsely : Prop := carryTwiceRow.holds Try.pinned (OpenSpec.ofChange carryTwiceWrong)

/-- 'lontarlaw01.UtfCover': WHATEVER THE INPUT: true; the input reads as it did. -/
def utfCoverSpec : ChangeSpec := { name := "utfCover", fn := fun _ => fun
  | [d] => { results := [.lit (.bool true)], args := [d] }
  | _ => none }
def utfCoverRow : OpenClaim := { program := "ytdhpldiahgajcaa", sum := "4a69fdaf2dbfc8ff37b78587e00084f1798527629465401c9e3d3bc930599659", func := "lontar/lontarlaw01.UtfCover", spec := "utfCover", recurses := true, apart := false }
def UtfCoverSaid : Prop := utfCoverRow.holds Try.pinned (OpenSpec.ofChange utfCoverSpec)

/-- ITS FALSE NEIGHBOUR: 'it returns false'. Refute it at one input. -/
def utfCoverWrong : ChangeSpec := { name := "utfCover", fn := fun _ => fun
  | [d] => { results := [.lit (.bool false)], args := [d] }
  | _ => none }
def UtfCoverWrongFalsely : Prop := utfCoverRow.holds Try.pinned (OpenSpec.ofChange utfCoverWrong)

/-- 'lontarlaw01.UtfParts': WHATEVER THE INPUT: true; the input reads as it did. -/
def utfPartsSpec : ChangeSpec := { name := "utfParts", fn := fun _ => fun
  | [d1, d2] => { results := [.lit (.bool true)], args := [d1, d2] }
  | _ => none }
def utfPartsRow : OpenClaim := { program := "ytdhpldiahgajcaa", sum := "4a69fdaf2dbfc8ff37b78587e00084f1798527629465401c9e3d3bc930599659", func := "lontar/lontarlaw01.UtfParts", spec := "utfParts", recurses := true, apart := false }
def UtfPartsSaid : Prop := utfPartsRow.holds Try.pinned (OpenSpec.ofChange utfPartsSpec)

/-- ITS FALSE NEIGHBOUR: 'it returns false'. Refute it at one input. -/
def utfPartsWrong : ChangeSpec := { name := "utfParts", fn := fun _ => fun
  | [d1, d2] => { results := [.lit (.bool false)], args := [d1, d2] }
  | _ => none }
def UtfPartsWrongFalsely : Prop := utfPartsRow.holds Try.pinned (OpenSpec.ofChange utfPartsWrong)

/-- 'lontarlaw02.CarryEnd': WHATEVER THE INPUT: true; the input reads as it did. -/
def carryEndSpec : ChangeSpec := { name := "carryEnd", fn := fun _ => fun
  | [d1, d2] => { results := [.lit (.bool true)], args := [d1, d2] }
  | _ => none }
def carryEndRow : OpenClaim := { program := "ytdhpldiahgajcaa", sum := "4a69fdaf2dbfc8ff37b78587e00084f1798527629465401c9e3d3bc930599659", func := "lontar/lontarlaw02.CarryEnd", spec := "carryEnd", apart := false }
def CarryEndSaid : Prop := carryEndRow.holds Try.pinned (OpenSpec.ofChange carryEndSpec)

/-- ITS FALSE NEIGHBOUR: 'it returns false'. Refute it at one input. -/
def carryEndWrong : ChangeSpec := { name := "carryEnd", fn := fun _ => fun
  | [d1, d2] => { results := [.lit (.bool false)], args := [d1, d2] }
  | _ => none }
def CarryEndWrongFalsely : Prop := carryEndRow.holds Try.pinned (OpenSpec.ofChange carryEndWrong)

/-- 'lontarlaw01.UtfAll': WHATEVER THE INPUT: true; the input reads as it did. -/
def utfAllSpec : ChangeSpec := { name := "utfAll", fn := fun _ => fun
  | [d1, d2] => { results := [.lit (.bool true)], args := [d1, d2] }
  | _ => none }
def utfAllRow : OpenClaim := { program := "ytdhpldiahgajcaa", sum := "4a69fdaf2dbfc8ff37b78587e00084f1798527629465401c9e3d3bc930599659", func := "lontar/lontarlaw01.UtfAll", spec := "utfAll", recurses := true, apart := false }
def UtfAllSaid : Prop := utfAllRow.holds Try.pinned (OpenSpec.ofChange utfAllSpec)

/-- ITS FALSE NEIGHBOUR: 'it returns false'. Refute it at one input. -/
def utfAllWrong : ChangeSpec := { name := "utfAll", fn := fun _ => fun
  | [d1, d2] => { results := [.lit (.bool false)], args := [d1, d2] }
  | _ => none }
def UtfAllWrongFalsely : Prop := utfAllRow.holds Try.pinned (OpenSpec.ofChange utfAllWrong)

/-- 'lontarlaw01.UtfBytes': WHATEVER THE INPUT: true; the input reads as it did. -/
def utfBytesSpec : ChangeSpec := { name := "utfBytes", fn := fun _ => fun
  | [d1, d2] => { results := [.lit (.bool true)], args := [d1, d2] }
  | _ => none }
def utfBytesRow : OpenClaim := { program := "ytdhpldiahgajcaa", sum := "4a69fdaf2dbfc8ff37b78587e00084f1798527629465401c9e3d3bc930599659", func := "lontar/lontarlaw01.UtfBytes", spec := "utfBytes", recurses := true, apart := false }
def UtfBytesSaid : Prop := utfBytesRow.holds Try.pinned (OpenSpec.ofChange utfBytesSpec)

/-- ITS FALSE NEIGHBOUR: 'it returns false'. Refute it at one input. -/
def utfBytesWrong : ChangeSpec := { name := "utfBytes", fn := fun _ => fun
  | [d1, d2] => { results := [.lit (.bool false)], args := [d1, d2] }
  | _ => none }
def UtfBytesWrongFalsely : Prop := utfBytesRow.holds Try.pinned (OpenSpec.ofChange utfBytesWrong)

/-- 'lontarlaw02.CarrySoon': WHATEVER THE INPUT: true; the input reads as it did. -/
def carrySoonSpec : ChangeSpec := { name := "carrySoon", fn := fun _ => fun
  | [d] => { results := [.lit (.bool true)], args := [d] }
  | _ => none }
def carrySoonRow : OpenClaim := { program := "ytdhpldiahgajcaa", sum := "4a69fdaf2dbfc8ff37b78587e00084f1798527629465401c9e3d3bc930599659", func := "lontar/lontarlaw02.CarrySoon", spec := "carrySoon", recurses := true, apart := false }
def CarrySoonSaid : Prop := carrySoonRow.holds Try.pinned (OpenSpec.ofChange carrySoonSpec)

/-- ITS FALSE NEIGHBOUR: 'it returns false'. Refute it at one input. -/
def carrySoonWrong : ChangeSpec := { name := "carrySoon", fn := fun _ => fun
  | [d] => { results := [.lit (.bool false)], args := [d] }
  | _ => none }
def CarrySoonWrongFalsely : Prop := carrySoonRow.holds Try.pinned (OpenSpec.ofChange carrySoonWrong)

/-- 'lontarlaw02.CarryFeed': WHATEVER THE INPUT: true; the input reads as it did. -/
def carryFeedSpec : ChangeSpec := { name := "carryFeed", fn := fun _ => fun
  | [d1, d2, d3] => { results := [.lit (.bool true)], args := [d1, d2, d3] }
  | _ => none }
def carryFeedRow : OpenClaim := { program := "ytdhpldiahgajcaa", sum := "4a69fdaf2dbfc8ff37b78587e00084f1798527629465401c9e3d3bc930599659", func := "lontar/lontarlaw02.CarryFeed", spec := "carryFeed", recurses := true, apart := false }
def CarryFeedSaid : Prop := carryFeedRow.holds Try.pinned (OpenSpec.ofChange carryFeedSpec)

/-- ITS FALSE NEIGHBOUR: 'it returns false'. Refute it at one input. -/
def carryFeedWrong : ChangeSpec := { name := "carryFeed", fn := fun _ => fun
  | [d1, d2, d3] => { results := [.lit (.bool false)], args := [d1, d2, d3] }
  | _ => none }
def CarryFeedWrongFalsely : Prop := carryFeedRow.holds Try.pinned (OpenSpec.ofChange carryFeedWrong)

/- THE SECOND FORM. 'bulk': how many values and letters a reading holds, each counted each time it is reached (what is shared counts as often as it is met; a slice's spare places count too). A statement '..UptoSaid' is the law's where the arguments, and the package variables that the reading takes, are together of bulk at most 1048576: NARROWER than '..Said'. Prove '..Said' where nothing that the law and all that it calls make is longer than what came in: it says more and counts as full. Else prove '..UptoSaid'. A law counts once. -/
mutual
def uptoBulk {H : Type} : DataW H → Nat
  | .lit (.string bytes) => bytes.length + 1
  | .lit _ => 1
  | .nil => 1
  | .ptr d => uptoBulk d + 1
  | .slice elems spare => uptoBulkAll elems + uptoBulkAll spare + 1
  | .agg parts => uptoBulkAll parts + 1
  | .iface _ d => uptoBulk d + 1
  | .map entries => uptoBulkEntries entries + 1
  | .held _ => 1
def uptoBulkAll {H : Type} : List (DataW H) → Nat
  | [] => 0
  | d :: r => uptoBulk d + uptoBulkAll r
def uptoBulkEntries {H : Type} : List (Lit × DataW H) → Nat
  | [] => 0
  | x :: r => uptoBulkEntry x + uptoBulkEntries r
def uptoBulkEntry {H : Type} : Lit × DataW H → Nat
  | (.string bytes, d) => bytes.length + uptoBulk d + 1
  | (_, d) => uptoBulk d + 1
 end
def uptoSmall : (H : Type) → List (DataW H) → Bool := fun _ ds => decide (uptoBulkAll ds ≤ 1048576)
def OpenSpec.upto (s : _root_.Go.ChangeSpec) : _root_.Go.OpenSpec := { _root_.Go.OpenSpec.ofChange s with cond := some uptoSmall }

/-- 'lontarlaw02.CarryHeld', WHERE WHAT IT READS IS OF BULK AT MOST 1048576: true; the input reads as it did. -/
def carryHeldUptoRow : OpenClaim := { program := "ytdhpldiahgajcaa", sum := "4a69fdaf2dbfc8ff37b78587e00084f1798527629465401c9e3d3bc930599659", func := "lontar/lontarlaw02.CarryHeld", spec := "carryHeld", apart := false, narrowed := true }
def CarryHeldUptoSaid : Prop := carryHeldUptoRow.holds Try.pinned (OpenSpec.upto carryHeldSpec)

/-- 'lontarlaw01.UtfOne', WHERE WHAT IT READS IS OF BULK AT MOST 1048576: true; the input reads as it did. -/
def utfOneUptoRow : OpenClaim := { program := "ytdhpldiahgajcaa", sum := "4a69fdaf2dbfc8ff37b78587e00084f1798527629465401c9e3d3bc930599659", func := "lontar/lontarlaw01.UtfOne", spec := "utfOne", recurses := true, apart := false, narrowed := true }
def UtfOneUptoSaid : Prop := utfOneUptoRow.holds Try.pinned (OpenSpec.upto utfOneSpec)

/-- 'lontarlaw01.UtfRound', WHERE WHAT IT READS IS OF BULK AT MOST 1048576: true; the input reads as it did. -/
def utfRoundUptoRow : OpenClaim := { program := "ytdhpldiahgajcaa", sum := "4a69fdaf2dbfc8ff37b78587e00084f1798527629465401c9e3d3bc930599659", func := "lontar/lontarlaw01.UtfRound", spec := "utfRound", recurses := true, apart := false, narrowed := true }
def UtfRoundUptoSaid : Prop := utfRoundUptoRow.holds Try.pinned (OpenSpec.upto utfRoundSpec)

/-- 'lontarlaw02.CarryPut', WHERE WHAT IT READS IS OF BULK AT MOST 1048576: true; the input reads as it did. -/
def carryPutUptoRow : OpenClaim := { program := "ytdhpldiahgajcaa", sum := "4a69fdaf2dbfc8ff37b78587e00084f1798527629465401c9e3d3bc930599659", func := "lontar/lontarlaw02.CarryPut", spec := "carryPut", apart := false, narrowed := true }
def CarryPutUptoSaid : Prop := carryPutUptoRow.holds Try.pinned (OpenSpec.upto carryPutSpec)

/-- 'lontarlaw02.CarryTwice', WHERE WHAT IT READS IS OF BULK AT MOST 1048576: true; the input reads as it did. -/
def carryTwiceUptoRow : OpenClaim := { program := "ytdhpldiahgajcaa", sum := "4a69fdaf2dbfc8ff37b78587e00084f1798527629465401c9e3d3bc930599659", func := "lontar/lontarlaw02.CarryTwice", spec := "carryTwice", apart := false, narrowed := true }
def CarryTwiceUptoSaid : Prop := carryTwiceUptoRow.holds Try.pinned (OpenSpec.upto carryTwiceSpec)

/-- 'lontarlaw01.UtfCover', WHERE WHAT IT READS IS OF BULK AT MOST 1048576: true; the input reads as it did. -/
def utfCoverUptoRow : OpenClaim := { program := "ytdhpldiahgajcaa", sum := "4a69fdaf2dbfc8ff37b78587e00084f1798527629465401c9e3d3bc930599659", func := "lontar/lontarlaw01.UtfCover", spec := "utfCover", recurses := true, apart := false, narrowed := true }
def UtfCoverUptoSaid : Prop := utfCoverUptoRow.holds Try.pinned (OpenSpec.upto utfCoverSpec)

/-- 'lontarlaw01.UtfParts', WHERE WHAT IT READS IS OF BULK AT MOST 1048576: true; the input reads as it did. -/
def utfPartsUptoRow : OpenClaim := { program := "ytdhpldiahgajcaa", sum := "4a69fdaf2dbfc8ff37b78587e00084f1798527629465401c9e3d3bc930599659", func := "lontar/lontarlaw01.UtfParts", spec := "utfParts", recurses := true, apart := false, narrowed := true }
def UtfPartsUptoSaid : Prop := utfPartsUptoRow.holds Try.pinned (OpenSpec.upto utfPartsSpec)

/-- 'lontarlaw02.CarryEnd', WHERE WHAT IT READS IS OF BULK AT MOST 1048576: true; the input reads as it did. -/
def carryEndUptoRow : OpenClaim := { program := "ytdhpldiahgajcaa", sum := "4a69fdaf2dbfc8ff37b78587e00084f1798527629465401c9e3d3bc930599659", func := "lontar/lontarlaw02.CarryEnd", spec := "carryEnd", apart := false, narrowed := true }
def CarryEndUptoSaid : Prop := carryEndUptoRow.holds Try.pinned (OpenSpec.upto carryEndSpec)

/-- 'lontarlaw01.UtfAll', WHERE WHAT IT READS IS OF BULK AT MOST 1048576: true; the input reads as it did. -/
def utfAllUptoRow : OpenClaim := { program := "ytdhpldiahgajcaa", sum := "4a69fdaf2dbfc8ff37b78587e00084f1798527629465401c9e3d3bc930599659", func := "lontar/lontarlaw01.UtfAll", spec := "utfAll", recurses := true, apart := false, narrowed := true }
def UtfAllUptoSaid : Prop := utfAllUptoRow.holds Try.pinned (OpenSpec.upto utfAllSpec)

/-- 'lontarlaw01.UtfBytes', WHERE WHAT IT READS IS OF BULK AT MOST 1048576: true; the input reads as it did. -/
def utfBytesUptoRow : OpenClaim := { program := "ytdhpldiahgajcaa", sum := "4a69fdaf2dbfc8ff37b78587e00084f1798527629465401c9e3d3bc930599659", func := "lontar/lontarlaw01.UtfBytes", spec := "utfBytes", recurses := true, apart := false, narrowed := true }
def UtfBytesUptoSaid : Prop := utfBytesUptoRow.holds Try.pinned (OpenSpec.upto utfBytesSpec)

/-- 'lontarlaw02.CarrySoon', WHERE WHAT IT READS IS OF BULK AT MOST 1048576: true; the input reads as it did. -/
def carrySoonUptoRow : OpenClaim := { program := "ytdhpldiahgajcaa", sum := "4a69fdaf2dbfc8ff37b78587e00084f1798527629465401c9e3d3bc930599659", func := "lontar/lontarlaw02.CarrySoon", spec := "carrySoon", recurses := true, apart := false, narrowed := true }
def CarrySoonUptoSaid : Prop := carrySoonUptoRow.holds Try.pinned (OpenSpec.upto carrySoonSpec)

/-- 'lontarlaw02.CarryFeed', WHERE WHAT IT READS IS OF BULK AT MOST 1048576: true; the input reads as it did. -/
def carryFeedUptoRow : OpenClaim := { program := "ytdhpldiahgajcaa", sum := "4a69fdaf2dbfc8ff37b78587e00084f1798527629465401c9e3d3bc930599659", func := "lontar/lontarlaw02.CarryFeed", spec := "carryFeed", recurses := true, apart := false, narrowed := true }
def CarryFeedUptoSaid : Prop := carryFeedUptoRow.holds Try.pinned (OpenSpec.upto carryFeedSpec)

end Rows
end Go.Proofs.Ytdhpldiahgajcaa
