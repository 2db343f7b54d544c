/-
  No cell of these rows narrows 'for every input' (looked for: loops, veiled, ifaces, maps, wideKeys, modest, calm, conditions, laid).
  DERIVED. THE GIVEN ROWS OF THIS SEAT. 18 by the template 'for every input the law returns true; each argument reads behind the call as it read before'; 0 by the template 'total and deterministic' (their statements: YtlhbikiggmdolaaTotals.lean).
  GIVEN WITH THE SEED: the statements are not yours to turn. If you find one false, say at which input.
  Laid BY PROGRAM, IN A SANDBOX (cutbox-rows.mjs): the forced cells as the released guide's own fill.sh prints them over the translation 3ce7215bece0cea7… (all of the seat's roots in one cut). By AI agents, Wed Nov 11 2026. No macro, syntax, notation, axiom, sorry.
-/
import Derived.Test.YtlhbikiggmdolaaChecked
import GoSem.Claim
import GoSem.ClaimJoined
import GoSem.ClaimMapViews
import Derived.JoinedTies
import Derived.KernelRfl
namespace Go.Proofs.Ytlhbikiggmdolaa
/- THE CELL 'sum', in the pinned program and in every row, IS THE sha256 OF THE DUMP (.gsa) THAT YtlhbikiggmdolaaProg.lean LOADS. Nothing in Lean hashes anything: it is a label: what it is worth is what the hold of that sum in a sandbox is worth. -/
noncomputable def Try.pinned : Pinned := { name := "ytlhbikiggmdolaa", sum := "3ce7215bece0cea72251a535fb9bce507ff1fad2d6c2d27f28502403ccafafcb", checked := Try.checked }
namespace Rows
def none {H : Type} : Left H := { results := [], args := [] }

/-- 'bodegalaw7.LayoutApart': WHATEVER THE INPUT: true; the input reads as it did. -/
def layoutApartSpec : ChangeSpec := { name := "layoutApart", fn := fun _ => fun
  | [] => { results := [.lit (.bool true)], args := [] }
  | _ => none }
def layoutApartRow : OpenClaim := { program := "ytlhbikiggmdolaa", sum := "3ce7215bece0cea72251a535fb9bce507ff1fad2d6c2d27f28502403ccafafcb", func := "bodega/bodegalaw7.LayoutApart", spec := "layoutApart", unfollowed := true, recurses := true, apart := false }
def LayoutApartSaid : Prop := layoutApartRow.holds Try.pinned (OpenSpec.ofChange layoutApartSpec)

/-- ITS FALSE NEIGHBOUR: 'it returns false'. Refute it at one input. -/
def layoutApartWrong : ChangeSpec := { name := "layoutApart", fn := fun _ => fun
  | [] => { results := [.lit (.bool false)], args := [] }
  | _ => none }
def LayoutApartWrongFalsely : Prop := layoutApartRow.holds Try.pinned (OpenSpec.ofChange layoutApartWrong)

/-- 'bodegalaw3.MemnodeNew': WHATEVER THE INPUT: true; the input reads as it did. -/
def memnodeNewSpec : ChangeSpec := { name := "memnodeNew", fn := fun _ => fun
  | [d] => { results := [.lit (.bool true)], args := [d] }
  | _ => none }
def memnodeNewRow : OpenClaim := { program := "ytlhbikiggmdolaa", sum := "3ce7215bece0cea72251a535fb9bce507ff1fad2d6c2d27f28502403ccafafcb", func := "bodega/bodegalaw3.MemnodeNew", spec := "memnodeNew", apart := false }
def MemnodeNewSaid : Prop := memnodeNewRow.holds Try.pinned (OpenSpec.ofChange memnodeNewSpec)

/-- ITS FALSE NEIGHBOUR: 'it returns false'. Refute it at one input. -/
def memnodeNewWrong : ChangeSpec := { name := "memnodeNew", fn := fun _ => fun
  | [d] => { results := [.lit (.bool false)], args := [d] }
  | _ => none }
def MemnodeNewWrongFalsely : Prop := memnodeNewRow.holds Try.pinned (OpenSpec.ofChange memnodeNewWrong)

/-- 'bodegalaw7.LayoutAddresses': WHATEVER THE INPUT: true; the input reads as it did. -/
def layoutAddressesSpec : ChangeSpec := { name := "layoutAddresses", fn := fun _ => fun
  | [d1, d2, d3, d4, d5, d6] => { results := [.lit (.bool true)], args := [d1, d2, d3, d4, d5, d6] }
  | _ => none }
def layoutAddressesRow : OpenClaim := { program := "ytlhbikiggmdolaa", sum := "3ce7215bece0cea72251a535fb9bce507ff1fad2d6c2d27f28502403ccafafcb", func := "bodega/bodegalaw7.LayoutAddresses", spec := "layoutAddresses", unfollowed := true, recurses := true, apart := false }
def LayoutAddressesSaid : Prop := layoutAddressesRow.holds Try.pinned (OpenSpec.ofChange layoutAddressesSpec)

/-- ITS FALSE NEIGHBOUR: 'it returns false'. Refute it at one input. -/
def layoutAddressesWrong : ChangeSpec := { name := "layoutAddresses", fn := fun _ => fun
  | [d1, d2, d3, d4, d5, d6] => { results := [.lit (.bool false)], args := [d1, d2, d3, d4, d5, d6] }
  | _ => none }
def LayoutAddressesWrongFalsely : Prop := layoutAddressesRow.holds Try.pinned (OpenSpec.ofChange layoutAddressesWrong)

/-- 'bodegalaw3.MemnodeReturns': WHATEVER THE INPUT: true; the input reads as it did. -/
def memnodeReturnsSpec : ChangeSpec := { name := "memnodeReturns", fn := fun _ => fun
  | [d1, d2] => { results := [.lit (.bool true)], args := [d1, d2] }
  | _ => none }
def memnodeReturnsRow : OpenClaim := { program := "ytlhbikiggmdolaa", sum := "3ce7215bece0cea72251a535fb9bce507ff1fad2d6c2d27f28502403ccafafcb", func := "bodega/bodegalaw3.MemnodeReturns", spec := "memnodeReturns", apart := false }
def MemnodeReturnsSaid : Prop := memnodeReturnsRow.holds Try.pinned (OpenSpec.ofChange memnodeReturnsSpec)

/-- ITS FALSE NEIGHBOUR: 'it returns false'. Refute it at one input. -/
def memnodeReturnsWrong : ChangeSpec := { name := "memnodeReturns", fn := fun _ => fun
  | [d1, d2] => { results := [.lit (.bool false)], args := [d1, d2] }
  | _ => none }
def MemnodeReturnsWrongFalsely : Prop := memnodeReturnsRow.holds Try.pinned (OpenSpec.ofChange memnodeReturnsWrong)

/-- 'bodegalaw4.VerbFits': WHATEVER THE INPUT: true; the input reads as it did. -/
def verbFitsSpec : ChangeSpec := { name := "verbFits", fn := fun _ => fun
  | [d1, d2, d3] => { results := [.lit (.bool true)], args := [d1, d2, d3] }
  | _ => none }
def verbFitsRow : OpenClaim := { program := "ytlhbikiggmdolaa", sum := "3ce7215bece0cea72251a535fb9bce507ff1fad2d6c2d27f28502403ccafafcb", func := "bodega/bodegalaw4.VerbFits", spec := "verbFits", unfollowed := true, recurses := true, apart := false }
def VerbFitsSaid : Prop := verbFitsRow.holds Try.pinned (OpenSpec.ofChange verbFitsSpec)

/-- ITS FALSE NEIGHBOUR: 'it returns false'. Refute it at one input. -/
def verbFitsWrong : ChangeSpec := { name := "verbFits", fn := fun _ => fun
  | [d1, d2, d3] => { results := [.lit (.bool false)], args := [d1, d2, d3] }
  | _ => none }
def VerbFitsWrongFalsely : Prop := verbFitsRow.holds Try.pinned (OpenSpec.ofChange verbFitsWrong)

/-- 'bodegalaw6.FabricApart': WHATEVER THE INPUT: true; the input reads as it did. -/
def fabricApartSpec : ChangeSpec := { name := "fabricApart", fn := fun _ => fun
  | [d1, d2] => { results := [.lit (.bool true)], args := [d1, d2] }
  | _ => none }
def fabricApartRow : OpenClaim := { program := "ytlhbikiggmdolaa", sum := "3ce7215bece0cea72251a535fb9bce507ff1fad2d6c2d27f28502403ccafafcb", func := "bodega/bodegalaw6.FabricApart", spec := "fabricApart", unfollowed := true, recurses := true, apart := false }
def FabricApartSaid : Prop := fabricApartRow.holds Try.pinned (OpenSpec.ofChange fabricApartSpec)

/-- ITS FALSE NEIGHBOUR: 'it returns false'. Refute it at one input. -/
def fabricApartWrong : ChangeSpec := { name := "fabricApart", fn := fun _ => fun
  | [d1, d2] => { results := [.lit (.bool false)], args := [d1, d2] }
  | _ => none }
def FabricApartWrongFalsely : Prop := fabricApartRow.holds Try.pinned (OpenSpec.ofChange fabricApartWrong)

/-- 'bodegalaw3.MemnodePlays': WHATEVER THE INPUT: true; the input reads as it did. -/
def memnodePlaysSpec : ChangeSpec := { name := "memnodePlays", fn := fun _ => fun
  | [d1, d2] => { results := [.lit (.bool true)], args := [d1, d2] }
  | _ => none }
def memnodePlaysRow : OpenClaim := { program := "ytlhbikiggmdolaa", sum := "3ce7215bece0cea72251a535fb9bce507ff1fad2d6c2d27f28502403ccafafcb", func := "bodega/bodegalaw3.MemnodePlays", spec := "memnodePlays", apart := false }
def MemnodePlaysSaid : Prop := memnodePlaysRow.holds Try.pinned (OpenSpec.ofChange memnodePlaysSpec)

/-- ITS FALSE NEIGHBOUR: 'it returns false'. Refute it at one input. -/
def memnodePlaysWrong : ChangeSpec := { name := "memnodePlays", fn := fun _ => fun
  | [d1, d2] => { results := [.lit (.bool false)], args := [d1, d2] }
  | _ => none }
def MemnodePlaysWrongFalsely : Prop := memnodePlaysRow.holds Try.pinned (OpenSpec.ofChange memnodePlaysWrong)

/-- 'bodegalaw3.MemnodeCopies': WHATEVER THE INPUT: true; the input reads as it did. -/
def memnodeCopiesSpec : ChangeSpec := { name := "memnodeCopies", fn := fun _ => fun
  | [d1, d2, d3] => { results := [.lit (.bool true)], args := [d1, d2, d3] }
  | _ => none }
def memnodeCopiesRow : OpenClaim := { program := "ytlhbikiggmdolaa", sum := "3ce7215bece0cea72251a535fb9bce507ff1fad2d6c2d27f28502403ccafafcb", func := "bodega/bodegalaw3.MemnodeCopies", spec := "memnodeCopies", apart := false }
def MemnodeCopiesSaid : Prop := memnodeCopiesRow.holds Try.pinned (OpenSpec.ofChange memnodeCopiesSpec)

/-- ITS FALSE NEIGHBOUR: 'it returns false'. Refute it at one input. -/
def memnodeCopiesWrong : ChangeSpec := { name := "memnodeCopies", fn := fun _ => fun
  | [d1, d2, d3] => { results := [.lit (.bool false)], args := [d1, d2, d3] }
  | _ => none }
def MemnodeCopiesWrongFalsely : Prop := memnodeCopiesRow.holds Try.pinned (OpenSpec.ofChange memnodeCopiesWrong)

/-- 'bodegalaw3.MemnodeImages': WHATEVER THE INPUT: true; the input reads as it did. -/
def memnodeImagesSpec : ChangeSpec := { name := "memnodeImages", fn := fun _ => fun
  | [d1, d2, d3, d4, d5] => { results := [.lit (.bool true)], args := [d1, d2, d3, d4, d5] }
  | _ => none }
def memnodeImagesRow : OpenClaim := { program := "ytlhbikiggmdolaa", sum := "3ce7215bece0cea72251a535fb9bce507ff1fad2d6c2d27f28502403ccafafcb", func := "bodega/bodegalaw3.MemnodeImages", spec := "memnodeImages", apart := false }
def MemnodeImagesSaid : Prop := memnodeImagesRow.holds Try.pinned (OpenSpec.ofChange memnodeImagesSpec)

/-- ITS FALSE NEIGHBOUR: 'it returns false'. Refute it at one input. -/
def memnodeImagesWrong : ChangeSpec := { name := "memnodeImages", fn := fun _ => fun
  | [d1, d2, d3, d4, d5] => { results := [.lit (.bool false)], args := [d1, d2, d3, d4, d5] }
  | _ => none }
def MemnodeImagesWrongFalsely : Prop := memnodeImagesRow.holds Try.pinned (OpenSpec.ofChange memnodeImagesWrong)

/-- 'bodegalaw7.LayoutFormats': WHATEVER THE INPUT: true; the input reads as it did. -/
def layoutFormatsSpec : ChangeSpec := { name := "layoutFormats", fn := fun _ => fun
  | [d1, d2, d3, d4] => { results := [.lit (.bool true)], args := [d1, d2, d3, d4] }
  | _ => none }
def layoutFormatsRow : OpenClaim := { program := "ytlhbikiggmdolaa", sum := "3ce7215bece0cea72251a535fb9bce507ff1fad2d6c2d27f28502403ccafafcb", func := "bodega/bodegalaw7.LayoutFormats", spec := "layoutFormats", unfollowed := true, recurses := true, apart := false }
def LayoutFormatsSaid : Prop := layoutFormatsRow.holds Try.pinned (OpenSpec.ofChange layoutFormatsSpec)

/-- ITS FALSE NEIGHBOUR: 'it returns false'. Refute it at one input. -/
def layoutFormatsWrong : ChangeSpec := { name := "layoutFormats", fn := fun _ => fun
  | [d1, d2, d3, d4] => { results := [.lit (.bool false)], args := [d1, d2, d3, d4] }
  | _ => none }
def LayoutFormatsWrongFalsely : Prop := layoutFormatsRow.holds Try.pinned (OpenSpec.ofChange layoutFormatsWrong)

/-- 'bodegalaw7.LayoutFormatsAll': WHATEVER THE INPUT: true; the input reads as it did. -/
def layoutFormatsAllSpec : ChangeSpec := { name := "layoutFormatsAll", fn := fun _ => fun
  | [d1, d2] => { results := [.lit (.bool true)], args := [d1, d2] }
  | _ => none }
def layoutFormatsAllRow : OpenClaim := { program := "ytlhbikiggmdolaa", sum := "3ce7215bece0cea72251a535fb9bce507ff1fad2d6c2d27f28502403ccafafcb", func := "bodega/bodegalaw7.LayoutFormatsAll", spec := "layoutFormatsAll", unfollowed := true, recurses := true, apart := false }
def LayoutFormatsAllSaid : Prop := layoutFormatsAllRow.holds Try.pinned (OpenSpec.ofChange layoutFormatsAllSpec)

/-- ITS FALSE NEIGHBOUR: 'it returns false'. Refute it at one input. -/
def layoutFormatsAllWrong : ChangeSpec := { name := "layoutFormatsAll", fn := fun _ => fun
  | [d1, d2] => { results := [.lit (.bool false)], args := [d1, d2] }
  | _ => none }
def LayoutFormatsAllWrongFalsely : Prop := layoutFormatsAllRow.holds Try.pinned (OpenSpec.ofChange layoutFormatsAllWrong)

/-- 'bodegalaw5.QueuepairOrder': WHATEVER THE INPUT: true; the input reads as it did. -/
def queuepairOrderSpec : ChangeSpec := { name := "queuepairOrder", fn := fun _ => fun
  | [d1, d2] => { results := [.lit (.bool true)], args := [d1, d2] }
  | _ => none }
def queuepairOrderRow : OpenClaim := { program := "ytlhbikiggmdolaa", sum := "3ce7215bece0cea72251a535fb9bce507ff1fad2d6c2d27f28502403ccafafcb", func := "bodega/bodegalaw5.QueuepairOrder", spec := "queuepairOrder", unfollowed := true, recurses := true, apart := false }
def QueuepairOrderSaid : Prop := queuepairOrderRow.holds Try.pinned (OpenSpec.ofChange queuepairOrderSpec)

/-- ITS FALSE NEIGHBOUR: 'it returns false'. Refute it at one input. -/
def queuepairOrderWrong : ChangeSpec := { name := "queuepairOrder", fn := fun _ => fun
  | [d1, d2] => { results := [.lit (.bool false)], args := [d1, d2] }
  | _ => none }
def QueuepairOrderWrongFalsely : Prop := queuepairOrderRow.holds Try.pinned (OpenSpec.ofChange queuepairOrderWrong)

/-- 'bodegalaw5.QueuepairNew': WHATEVER THE INPUT: true; the input reads as it did. -/
def queuepairNewSpec : ChangeSpec := { name := "queuepairNew", fn := fun _ => fun
  | [d1, d2, d3, d4] => { results := [.lit (.bool true)], args := [d1, d2, d3, d4] }
  | _ => none }
def queuepairNewRow : OpenClaim := { program := "ytlhbikiggmdolaa", sum := "3ce7215bece0cea72251a535fb9bce507ff1fad2d6c2d27f28502403ccafafcb", func := "bodega/bodegalaw5.QueuepairNew", spec := "queuepairNew", unfollowed := true, recurses := true, apart := false }
def QueuepairNewSaid : Prop := queuepairNewRow.holds Try.pinned (OpenSpec.ofChange queuepairNewSpec)

/-- ITS FALSE NEIGHBOUR: 'it returns false'. Refute it at one input. -/
def queuepairNewWrong : ChangeSpec := { name := "queuepairNew", fn := fun _ => fun
  | [d1, d2, d3, d4] => { results := [.lit (.bool false)], args := [d1, d2, d3, d4] }
  | _ => none }
def QueuepairNewWrongFalsely : Prop := queuepairNewRow.holds Try.pinned (OpenSpec.ofChange queuepairNewWrong)

/-- 'bodegalaw5.QueuepairTorn': WHATEVER THE INPUT: true; the input reads as it did. -/
def queuepairTornSpec : ChangeSpec := { name := "queuepairTorn", fn := fun _ => fun
  | [d1, d2, d3, d4] => { results := [.lit (.bool true)], args := [d1, d2, d3, d4] }
  | _ => none }
def queuepairTornRow : OpenClaim := { program := "ytlhbikiggmdolaa", sum := "3ce7215bece0cea72251a535fb9bce507ff1fad2d6c2d27f28502403ccafafcb", func := "bodega/bodegalaw5.QueuepairTorn", spec := "queuepairTorn", unfollowed := true, recurses := true, apart := false }
def QueuepairTornSaid : Prop := queuepairTornRow.holds Try.pinned (OpenSpec.ofChange queuepairTornSpec)

/-- ITS FALSE NEIGHBOUR: 'it returns false'. Refute it at one input. -/
def queuepairTornWrong : ChangeSpec := { name := "queuepairTorn", fn := fun _ => fun
  | [d1, d2, d3, d4] => { results := [.lit (.bool false)], args := [d1, d2, d3, d4] }
  | _ => none }
def QueuepairTornWrongFalsely : Prop := queuepairTornRow.holds Try.pinned (OpenSpec.ofChange queuepairTornWrong)

/-- 'bodegalaw5.QueuepairPlays': WHATEVER THE INPUT: true; the input reads as it did. -/
def queuepairPlaysSpec : ChangeSpec := { name := "queuepairPlays", fn := fun _ => fun
  | [d1, d2, d3] => { results := [.lit (.bool true)], args := [d1, d2, d3] }
  | _ => none }
def queuepairPlaysRow : OpenClaim := { program := "ytlhbikiggmdolaa", sum := "3ce7215bece0cea72251a535fb9bce507ff1fad2d6c2d27f28502403ccafafcb", func := "bodega/bodegalaw5.QueuepairPlays", spec := "queuepairPlays", unfollowed := true, recurses := true, apart := false }
def QueuepairPlaysSaid : Prop := queuepairPlaysRow.holds Try.pinned (OpenSpec.ofChange queuepairPlaysSpec)

/-- ITS FALSE NEIGHBOUR: 'it returns false'. Refute it at one input. -/
def queuepairPlaysWrong : ChangeSpec := { name := "queuepairPlays", fn := fun _ => fun
  | [d1, d2, d3] => { results := [.lit (.bool false)], args := [d1, d2, d3] }
  | _ => none }
def QueuepairPlaysWrongFalsely : Prop := queuepairPlaysRow.holds Try.pinned (OpenSpec.ofChange queuepairPlaysWrong)

/-- 'bodegalaw5.QueuepairCopies': WHATEVER THE INPUT: true; the input reads as it did. -/
def queuepairCopiesSpec : ChangeSpec := { name := "queuepairCopies", fn := fun _ => fun
  | [d1, d2, d3] => { results := [.lit (.bool true)], args := [d1, d2, d3] }
  | _ => none }
def queuepairCopiesRow : OpenClaim := { program := "ytlhbikiggmdolaa", sum := "3ce7215bece0cea72251a535fb9bce507ff1fad2d6c2d27f28502403ccafafcb", func := "bodega/bodegalaw5.QueuepairCopies", spec := "queuepairCopies", unfollowed := true, recurses := true, apart := false }
def QueuepairCopiesSaid : Prop := queuepairCopiesRow.holds Try.pinned (OpenSpec.ofChange queuepairCopiesSpec)

/-- ITS FALSE NEIGHBOUR: 'it returns false'. Refute it at one input. -/
def queuepairCopiesWrong : ChangeSpec := { name := "queuepairCopies", fn := fun _ => fun
  | [d1, d2, d3] => { results := [.lit (.bool false)], args := [d1, d2, d3] }
  | _ => none }
def QueuepairCopiesWrongFalsely : Prop := queuepairCopiesRow.holds Try.pinned (OpenSpec.ofChange queuepairCopiesWrong)

/-- 'bodegalaw6.FabricNew': WHATEVER THE INPUT: true; the input reads as it did. -/
def fabricNewSpec : ChangeSpec := { name := "fabricNew", fn := fun _ => fun
  | [d1, d2, d3, d4] => { results := [.lit (.bool true)], args := [d1, d2, d3, d4] }
  | _ => none }
def fabricNewRow : OpenClaim := { program := "ytlhbikiggmdolaa", sum := "3ce7215bece0cea72251a535fb9bce507ff1fad2d6c2d27f28502403ccafafcb", func := "bodega/bodegalaw6.FabricNew", spec := "fabricNew", unfollowed := true, recurses := true, apart := false }
def FabricNewSaid : Prop := fabricNewRow.holds Try.pinned (OpenSpec.ofChange fabricNewSpec)

/-- ITS FALSE NEIGHBOUR: 'it returns false'. Refute it at one input. -/
def fabricNewWrong : ChangeSpec := { name := "fabricNew", fn := fun _ => fun
  | [d1, d2, d3, d4] => { results := [.lit (.bool false)], args := [d1, d2, d3, d4] }
  | _ => none }
def FabricNewWrongFalsely : Prop := fabricNewRow.holds Try.pinned (OpenSpec.ofChange fabricNewWrong)

/-- 'bodegalaw6.FabricDead': WHATEVER THE INPUT: true; the input reads as it did. -/
def fabricDeadSpec : ChangeSpec := { name := "fabricDead", fn := fun _ => fun
  | [d1, d2, d3] => { results := [.lit (.bool true)], args := [d1, d2, d3] }
  | _ => none }
def fabricDeadRow : OpenClaim := { program := "ytlhbikiggmdolaa", sum := "3ce7215bece0cea72251a535fb9bce507ff1fad2d6c2d27f28502403ccafafcb", func := "bodega/bodegalaw6.FabricDead", spec := "fabricDead", unfollowed := true, recurses := true, apart := false }
def FabricDeadSaid : Prop := fabricDeadRow.holds Try.pinned (OpenSpec.ofChange fabricDeadSpec)

/-- ITS FALSE NEIGHBOUR: 'it returns false'. Refute it at one input. -/
def fabricDeadWrong : ChangeSpec := { name := "fabricDead", fn := fun _ => fun
  | [d1, d2, d3] => { results := [.lit (.bool false)], args := [d1, d2, d3] }
  | _ => none }
def FabricDeadWrongFalsely : Prop := fabricDeadRow.holds Try.pinned (OpenSpec.ofChange fabricDeadWrong)

/- THE SECOND FORM. 'bulk': how many values and letters a reading holds, each counted each time it is reached (what is shared counts as often as it is met; a slice's spare places count too). A statement '..UptoSaid' is the law's where the arguments, and the package variables that the reading takes, are together of bulk at most 1048576: NARROWER than '..Said'. Prove '..Said' where nothing that the law and all that it calls make is longer than what came in: it says more and counts as full. Else prove '..UptoSaid'. A law counts once. -/
mutual
def uptoBulk {H : Type} : DataW H → Nat
  | .lit (.string bytes) => bytes.length + 1
  | .lit _ => 1
  | .nil => 1
  | .ptr d => uptoBulk d + 1
  | .slice elems spare => uptoBulkAll elems + uptoBulkAll spare + 1
  | .agg parts => uptoBulkAll parts + 1
  | .iface _ d => uptoBulk d + 1
  | .map entries => uptoBulkEntries entries + 1
  | .held _ => 1
def uptoBulkAll {H : Type} : List (DataW H) → Nat
  | [] => 0
  | d :: r => uptoBulk d + uptoBulkAll r
def uptoBulkEntries {H : Type} : List (Lit × DataW H) → Nat
  | [] => 0
  | x :: r => uptoBulkEntry x + uptoBulkEntries r
def uptoBulkEntry {H : Type} : Lit × DataW H → Nat
  | (.string bytes, d) => bytes.length + uptoBulk d + 1
  | (_, d) => uptoBulk d + 1
 end
def uptoSmall : (H : Type) → List (DataW H) → Bool := fun _ ds => decide (uptoBulkAll ds ≤ 1048576)
def OpenSpec.upto (s : _root_.Go.ChangeSpec) : _root_.Go.OpenSpec := { _root_.Go.OpenSpec.ofChange s with cond := some uptoSmall }

/-- 'bodegalaw7.LayoutApart', WHERE WHAT IT READS IS OF BULK AT MOST 1048576: true; the input reads as it did. -/
def layoutApartUptoRow : OpenClaim := { program := "ytlhbikiggmdolaa", sum := "3ce7215bece0cea72251a535fb9bce507ff1fad2d6c2d27f28502403ccafafcb", func := "bodega/bodegalaw7.LayoutApart", spec := "layoutApart", unfollowed := true, recurses := true, apart := false, narrowed := true }
def LayoutApartUptoSaid : Prop := layoutApartUptoRow.holds Try.pinned (OpenSpec.upto layoutApartSpec)

/-- 'bodegalaw3.MemnodeNew', WHERE WHAT IT READS IS OF BULK AT MOST 1048576: true; the input reads as it did. -/
def memnodeNewUptoRow : OpenClaim := { program := "ytlhbikiggmdolaa", sum := "3ce7215bece0cea72251a535fb9bce507ff1fad2d6c2d27f28502403ccafafcb", func := "bodega/bodegalaw3.MemnodeNew", spec := "memnodeNew", apart := false, narrowed := true }
def MemnodeNewUptoSaid : Prop := memnodeNewUptoRow.holds Try.pinned (OpenSpec.upto memnodeNewSpec)

/-- 'bodegalaw7.LayoutAddresses', WHERE WHAT IT READS IS OF BULK AT MOST 1048576: true; the input reads as it did. -/
def layoutAddressesUptoRow : OpenClaim := { program := "ytlhbikiggmdolaa", sum := "3ce7215bece0cea72251a535fb9bce507ff1fad2d6c2d27f28502403ccafafcb", func := "bodega/bodegalaw7.LayoutAddresses", spec := "layoutAddresses", unfollowed := true, recurses := true, apart := false, narrowed := true }
def LayoutAddressesUptoSaid : Prop := layoutAddressesUptoRow.holds Try.pinned (OpenSpec.upto layoutAddressesSpec)

/-- 'bodegalaw3.MemnodeReturns', WHERE WHAT IT READS IS OF BULK AT MOST 1048576: true; the input reads as it did. -/
def memnodeReturnsUptoRow : OpenClaim := { program := "ytlhbikiggmdolaa", sum := "3ce7215bece0cea72251a535fb9bce507ff1fad2d6c2d27f28502403ccafafcb", func := "bodega/bodegalaw3.MemnodeReturns", spec := "memnodeReturns", apart := false, narrowed := true }
def MemnodeReturnsUptoSaid : Prop := memnodeReturnsUptoRow.holds Try.pinned (OpenSpec.upto memnodeReturnsSpec)

/-- 'bodegalaw4.VerbFits', WHERE WHAT IT READS IS OF BULK AT MOST 1048576: true; the input reads as it did. -/
def verbFitsUptoRow : OpenClaim := { program := "ytlhbikiggmdolaa", sum := "3ce7215bece0cea72251a535fb9bce507ff1fad2d6c2d27f28502403ccafafcb", func := "bodega/bodegalaw4.VerbFits", spec := "verbFits", unfollowed := true, recurses := true, apart := false, narrowed := true }
def VerbFitsUptoSaid : Prop := verbFitsUptoRow.holds Try.pinned (OpenSpec.upto verbFitsSpec)

/-- 'bodegalaw6.FabricApart', WHERE WHAT IT READS IS OF BULK AT MOST 1048576: true; the input reads as it did. -/
def fabricApartUptoRow : OpenClaim := { program := "ytlhbikiggmdolaa", sum := "3ce7215bece0cea72251a535fb9bce507ff1fad2d6c2d27f28502403ccafafcb", func := "bodega/bodegalaw6.FabricApart", spec := "fabricApart", unfollowed := true, recurses := true, apart := false, narrowed := true }
def FabricApartUptoSaid : Prop := fabricApartUptoRow.holds Try.pinned (OpenSpec.upto fabricApartSpec)

/-- 'bodegalaw3.MemnodePlays', WHERE WHAT IT READS IS OF BULK AT MOST 1048576: true; the input reads as it did. -/
def memnodePlaysUptoRow : OpenClaim := { program := "ytlhbikiggmdolaa", sum := "3ce7215bece0cea72251a535fb9bce507ff1fad2d6c2d27f28502403ccafafcb", func := "bodega/bodegalaw3.MemnodePlays", spec := "memnodePlays", apart := false, narrowed := true }
def MemnodePlaysUptoSaid : Prop := memnodePlaysUptoRow.holds Try.pinned (OpenSpec.upto memnodePlaysSpec)

/-- 'bodegalaw3.MemnodeCopies', WHERE WHAT IT READS IS OF BULK AT MOST 1048576: true; the input reads as it did. -/
def memnodeCopiesUptoRow : OpenClaim := { program := "ytlhbikiggmdolaa", sum := "3ce7215bece0cea72251a535fb9bce507ff1fad2d6c2d27f28502403ccafafcb", func := "bodega/bodegalaw3.MemnodeCopies", spec := "memnodeCopies", apart := false, narrowed := true }
def MemnodeCopiesUptoSaid : Prop := memnodeCopiesUptoRow.holds Try.pinned (OpenSpec.upto memnodeCopiesSpec)

/-- 'bodegalaw3.MemnodeImages', WHERE WHAT IT READS IS OF BULK AT MOST 1048576: true; the input reads as it did. -/
def memnodeImagesUptoRow : OpenClaim := { program := "ytlhbikiggmdolaa", sum := "3ce7215bece0cea72251a535fb9bce507ff1fad2d6c2d27f28502403ccafafcb", func := "bodega/bodegalaw3.MemnodeImages", spec := "memnodeImages", apart := false, narrowed := true }
def MemnodeImagesUptoSaid : Prop := memnodeImagesUptoRow.holds Try.pinned (OpenSpec.upto memnodeImagesSpec)

/-- 'bodegalaw7.LayoutFormats', WHERE WHAT IT READS IS OF BULK AT MOST 1048576: true; the input reads as it did. -/
def layoutFormatsUptoRow : OpenClaim := { program := "ytlhbikiggmdolaa", sum := "3ce7215bece0cea72251a535fb9bce507ff1fad2d6c2d27f28502403ccafafcb", func := "bodega/bodegalaw7.LayoutFormats", spec := "layoutFormats", unfollowed := true, recurses := true, apart := false, narrowed := true }
def LayoutFormatsUptoSaid : Prop := layoutFormatsUptoRow.holds Try.pinned (OpenSpec.upto layoutFormatsSpec)

/-- 'bodegalaw7.LayoutFormatsAll', WHERE WHAT IT READS IS OF BULK AT MOST 1048576: true; the input reads as it did. -/
def layoutFormatsAllUptoRow : OpenClaim := { program := "ytlhbikiggmdolaa", sum := "3ce7215bece0cea72251a535fb9bce507ff1fad2d6c2d27f28502403ccafafcb", func := "bodega/bodegalaw7.LayoutFormatsAll", spec := "layoutFormatsAll", unfollowed := true, recurses := true, apart := false, narrowed := true }
def LayoutFormatsAllUptoSaid : Prop := layoutFormatsAllUptoRow.holds Try.pinned (OpenSpec.upto layoutFormatsAllSpec)

/-- 'bodegalaw5.QueuepairOrder', WHERE WHAT IT READS IS OF BULK AT MOST 1048576: true; the input reads as it did. -/
def queuepairOrderUptoRow : OpenClaim := { program := "ytlhbikiggmdolaa", sum := "3ce7215bece0cea72251a535fb9bce507ff1fad2d6c2d27f28502403ccafafcb", func := "bodega/bodegalaw5.QueuepairOrder", spec := "queuepairOrder", unfollowed := true, recurses := true, apart := false, narrowed := true }
def QueuepairOrderUptoSaid : Prop := queuepairOrderUptoRow.holds Try.pinned (OpenSpec.upto queuepairOrderSpec)

/-- 'bodegalaw5.QueuepairNew', WHERE WHAT IT READS IS OF BULK AT MOST 1048576: true; the input reads as it did. -/
def queuepairNewUptoRow : OpenClaim := { program := "ytlhbikiggmdolaa", sum := "3ce7215bece0cea72251a535fb9bce507ff1fad2d6c2d27f28502403ccafafcb", func := "bodega/bodegalaw5.QueuepairNew", spec := "queuepairNew", unfollowed := true, recurses := true, apart := false, narrowed := true }
def QueuepairNewUptoSaid : Prop := queuepairNewUptoRow.holds Try.pinned (OpenSpec.upto queuepairNewSpec)

/-- 'bodegalaw5.QueuepairTorn', WHERE WHAT IT READS IS OF BULK AT MOST 1048576: true; the input reads as it did. -/
def queuepairTornUptoRow : OpenClaim := { program := "ytlhbikiggmdolaa", sum := "3ce7215bece0cea72251a535fb9bce507ff1fad2d6c2d27f28502403ccafafcb", func := "bodega/bodegalaw5.QueuepairTorn", spec := "queuepairTorn", unfollowed := true, recurses := true, apart := false, narrowed := true }
def QueuepairTornUptoSaid : Prop := queuepairTornUptoRow.holds Try.pinned (OpenSpec.upto queuepairTornSpec)

/-- 'bodegalaw5.QueuepairPlays', WHERE WHAT IT READS IS OF BULK AT MOST 1048576: true; the input reads as it did. -/
def queuepairPlaysUptoRow : OpenClaim := { program := "ytlhbikiggmdolaa", sum := "3ce7215bece0cea72251a535fb9bce507ff1fad2d6c2d27f28502403ccafafcb", func := "bodega/bodegalaw5.QueuepairPlays", spec := "queuepairPlays", unfollowed := true, recurses := true, apart := false, narrowed := true }
def QueuepairPlaysUptoSaid : Prop := queuepairPlaysUptoRow.holds Try.pinned (OpenSpec.upto queuepairPlaysSpec)

/-- 'bodegalaw5.QueuepairCopies', WHERE WHAT IT READS IS OF BULK AT MOST 1048576: true; the input reads as it did. -/
def queuepairCopiesUptoRow : OpenClaim := { program := "ytlhbikiggmdolaa", sum := "3ce7215bece0cea72251a535fb9bce507ff1fad2d6c2d27f28502403ccafafcb", func := "bodega/bodegalaw5.QueuepairCopies", spec := "queuepairCopies", unfollowed := true, recurses := true, apart := false, narrowed := true }
def QueuepairCopiesUptoSaid : Prop := queuepairCopiesUptoRow.holds Try.pinned (OpenSpec.upto queuepairCopiesSpec)

/-- 'bodegalaw6.FabricNew', WHERE WHAT IT READS IS OF BULK AT MOST 1048576: true; the input reads as it did. -/
def fabricNewUptoRow : OpenClaim := { program := "ytlhbikiggmdolaa", sum := "3ce7215bece0cea72251a535fb9bce507ff1fad2d6c2d27f28502403ccafafcb", func := "bodega/bodegalaw6.FabricNew", spec := "fabricNew", unfollowed := true, recurses := true, apart := false, narrowed := true }
def FabricNewUptoSaid : Prop := fabricNewUptoRow.holds Try.pinned (OpenSpec.upto fabricNewSpec)

/-- 'bodegalaw6.FabricDead', WHERE WHAT IT READS IS OF BULK AT MOST 1048576: true; the input reads as it did. -/
def fabricDeadUptoRow : OpenClaim := { program := "ytlhbikiggmdolaa", sum := "3ce7215bece0cea72251a535fb9bce507ff1fad2d6c2d27f28502403ccafafcb", func := "bodega/bodegalaw6.FabricDead", spec := "fabricDead", unfollowed := true, recurses := true, apart := false, narrowed := true }
def FabricDeadUptoSaid : Prop := fabricDeadUptoRow.holds Try.pinned (OpenSpec.upto fabricDeadSpec)

end Rows
end Go.Proofs.Ytlhbikiggmdolaa
