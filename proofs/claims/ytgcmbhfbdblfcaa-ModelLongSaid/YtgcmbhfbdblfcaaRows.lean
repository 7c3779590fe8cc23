/-
  No cell of these rows narrows 'for every input' (looked for: loops, veiled, ifaces, maps, wideKeys, modest, calm, conditions, laid).
  DERIVED. THE GIVEN ROWS OF THIS SEAT. 20 by the template 'for every input the law returns true; each argument reads behind the call as it read before'; 0 by the template 'total and deterministic' (their statements: YtgcmbhfbdblfcaaTotals.lean).
  GIVEN WITH THE SEED: the statements are not yours to turn. If you find one false, say at which input.
  Laid BY PROGRAM, IN A SANDBOX (cutbox-rows.mjs): the forced cells as the released guide's own fill.sh prints them over the translation 10fb986cabef75d2… (all of the seat's roots in one cut). By AI agents, Wed Nov 11 2026. No macro, syntax, notation, axiom, sorry.
-/
import Derived.Test.YtgcmbhfbdblfcaaChecked
import GoSem.Claim
import GoSem.ClaimJoined
import GoSem.ClaimMapViews
import Derived.JoinedTies
import Derived.KernelRfl
namespace Go.Proofs.Ytgcmbhfbdblfcaa
/- THE CELL 'sum', in the pinned program and in every row, IS THE sha256 OF THE DUMP (.gsa) THAT YtgcmbhfbdblfcaaProg.lean LOADS. Nothing in Lean hashes anything: it is a label: what it is worth is what the hold of that sum in a sandbox is worth. -/
noncomputable def Try.pinned : Pinned := { name := "ytgcmbhfbdblfcaa", sum := "10fb986cabef75d2a36c80fa7909ea471e827866159d2e268d3b55d99a93ad91", checked := Try.checked }
namespace Rows
def none {H : Type} : Left H := { results := [], args := [] }

/-- 'quiltlaw11.MemPlays': WHATEVER THE INPUT: true; the input reads as it did. -/
def memPlaysSpec : ChangeSpec := { name := "memPlays", fn := fun _ => fun
  | [d1, d2] => { results := [.lit (.bool true)], args := [d1, d2] }
  | _ => none }
def memPlaysRow : OpenClaim := { program := "ytgcmbhfbdblfcaa", sum := "10fb986cabef75d2a36c80fa7909ea471e827866159d2e268d3b55d99a93ad91", func := "quilt/quiltlaw11.MemPlays", spec := "memPlays", apart := false }
def MemPlaysSaid : Prop := memPlaysRow.holds Try.pinned (OpenSpec.ofChange memPlaysSpec)

/-- ITS FALSE NEIGHBOUR: 'it returns false'. Refute it at one input. -/
def memPlaysWrong : ChangeSpec := { name := "memPlays", fn := fun _ => fun
  | [d1, d2] => { results := [.lit (.bool false)], args := [d1, d2] }
  | _ => none }
def MemPlaysWrongFalsely : Prop := memPlaysRow.holds Try.pinned (OpenSpec.ofChange memPlaysWrong)

/-- 'quiltlaw04.ModelLong': WHATEVER THE INPUT: true; the input reads as it did. -/
def modelLongSpec : ChangeSpec := { name := "modelLong", fn := fun _ => fun
  | [d] => { results := [.lit (.bool true)], args := [d] }
  | _ => none }
def modelLongRow : OpenClaim := { program := "ytgcmbhfbdblfcaa", sum := "10fb986cabef75d2a36c80fa7909ea471e827866159d2e268d3b55d99a93ad91", func := "quilt/quiltlaw04.ModelLong", spec := "modelLong", unfollowed := true, recurses := true, apart := false }
def ModelLongSaid : Prop := modelLongRow.holds Try.pinned (OpenSpec.ofChange modelLongSpec)

/-- ITS FALSE NEIGHBOUR: 'it returns false'. Refute it at one input. -/
def modelLongWrong : ChangeSpec := { name := "modelLong", fn := fun _ => fun
  | [d] => { results := [.lit (.bool false)], args := [d] }
  | _ => none }
def ModelLongWrongFalsely : Prop := modelLongRow.holds Try.pinned (OpenSpec.ofChange modelLongWrong)

/-- 'quiltlaw04.ModelOnce': WHATEVER THE INPUT: true; the input reads as it did. -/
def modelOnceSpec : ChangeSpec := { name := "modelOnce", fn := fun _ => fun
  | [d1, d2, d3] => { results := [.lit (.bool true)], args := [d1, d2, d3] }
  | _ => none }
def modelOnceRow : OpenClaim := { program := "ytgcmbhfbdblfcaa", sum := "10fb986cabef75d2a36c80fa7909ea471e827866159d2e268d3b55d99a93ad91", func := "quilt/quiltlaw04.ModelOnce", spec := "modelOnce", unfollowed := true, recurses := true, apart := false }
def ModelOnceSaid : Prop := modelOnceRow.holds Try.pinned (OpenSpec.ofChange modelOnceSpec)

/-- ITS FALSE NEIGHBOUR: 'it returns false'. Refute it at one input. -/
def modelOnceWrong : ChangeSpec := { name := "modelOnce", fn := fun _ => fun
  | [d1, d2, d3] => { results := [.lit (.bool false)], args := [d1, d2, d3] }
  | _ => none }
def ModelOnceWrongFalsely : Prop := modelOnceRow.holds Try.pinned (OpenSpec.ofChange modelOnceWrong)

/-- 'quiltlaw04.ModelTakes': WHATEVER THE INPUT: true; the input reads as it did. -/
def modelTakesSpec : ChangeSpec := { name := "modelTakes", fn := fun _ => fun
  | [d] => { results := [.lit (.bool true)], args := [d] }
  | _ => none }
def modelTakesRow : OpenClaim := { program := "ytgcmbhfbdblfcaa", sum := "10fb986cabef75d2a36c80fa7909ea471e827866159d2e268d3b55d99a93ad91", func := "quilt/quiltlaw04.ModelTakes", spec := "modelTakes", unfollowed := true, recurses := true, apart := false }
def ModelTakesSaid : Prop := modelTakesRow.holds Try.pinned (OpenSpec.ofChange modelTakesSpec)

/-- ITS FALSE NEIGHBOUR: 'it returns false'. Refute it at one input. -/
def modelTakesWrong : ChangeSpec := { name := "modelTakes", fn := fun _ => fun
  | [d] => { results := [.lit (.bool false)], args := [d] }
  | _ => none }
def ModelTakesWrongFalsely : Prop := modelTakesRow.holds Try.pinned (OpenSpec.ofChange modelTakesWrong)

/-- 'quiltlaw04.ModelBack': WHATEVER THE INPUT: true; the input reads as it did. -/
def modelBackSpec : ChangeSpec := { name := "modelBack", fn := fun _ => fun
  | [d1, d2] => { results := [.lit (.bool true)], args := [d1, d2] }
  | _ => none }
def modelBackRow : OpenClaim := { program := "ytgcmbhfbdblfcaa", sum := "10fb986cabef75d2a36c80fa7909ea471e827866159d2e268d3b55d99a93ad91", func := "quilt/quiltlaw04.ModelBack", spec := "modelBack", unfollowed := true, recurses := true, apart := false }
def ModelBackSaid : Prop := modelBackRow.holds Try.pinned (OpenSpec.ofChange modelBackSpec)

/-- ITS FALSE NEIGHBOUR: 'it returns false'. Refute it at one input. -/
def modelBackWrong : ChangeSpec := { name := "modelBack", fn := fun _ => fun
  | [d1, d2] => { results := [.lit (.bool false)], args := [d1, d2] }
  | _ => none }
def ModelBackWrongFalsely : Prop := modelBackRow.holds Try.pinned (OpenSpec.ofChange modelBackWrong)

/-- 'quiltlaw04.ModelRows': WHATEVER THE INPUT: true; the input reads as it did. -/
def modelRowsSpec : ChangeSpec := { name := "modelRows", fn := fun _ => fun
  | [d1, d2] => { results := [.lit (.bool true)], args := [d1, d2] }
  | _ => none }
def modelRowsRow : OpenClaim := { program := "ytgcmbhfbdblfcaa", sum := "10fb986cabef75d2a36c80fa7909ea471e827866159d2e268d3b55d99a93ad91", func := "quilt/quiltlaw04.ModelRows", spec := "modelRows", unfollowed := true, recurses := true, apart := false }
def ModelRowsSaid : Prop := modelRowsRow.holds Try.pinned (OpenSpec.ofChange modelRowsSpec)

/-- ITS FALSE NEIGHBOUR: 'it returns false'. Refute it at one input. -/
def modelRowsWrong : ChangeSpec := { name := "modelRows", fn := fun _ => fun
  | [d1, d2] => { results := [.lit (.bool false)], args := [d1, d2] }
  | _ => none }
def ModelRowsWrongFalsely : Prop := modelRowsRow.holds Try.pinned (OpenSpec.ofChange modelRowsWrong)

/-- 'quiltlaw12.RegionOf': WHATEVER THE INPUT: true; the input reads as it did. -/
def regionOfSpec : ChangeSpec := { name := "regionOf", fn := fun _ => fun
  | [d1, d2] => { results := [.lit (.bool true)], args := [d1, d2] }
  | _ => none }
def regionOfRow : OpenClaim := { program := "ytgcmbhfbdblfcaa", sum := "10fb986cabef75d2a36c80fa7909ea471e827866159d2e268d3b55d99a93ad91", func := "quilt/quiltlaw12.RegionOf", spec := "regionOf", unfollowed := true, recurses := true, apart := false }
def RegionOfSaid : Prop := regionOfRow.holds Try.pinned (OpenSpec.ofChange regionOfSpec)

/-- ITS FALSE NEIGHBOUR: 'it returns false'. Refute it at one input. -/
def regionOfWrong : ChangeSpec := { name := "regionOf", fn := fun _ => fun
  | [d1, d2] => { results := [.lit (.bool false)], args := [d1, d2] }
  | _ => none }
def RegionOfWrongFalsely : Prop := regionOfRow.holds Try.pinned (OpenSpec.ofChange regionOfWrong)

/-- 'quiltlaw12.RegionNodes': WHATEVER THE INPUT: true; the input reads as it did. -/
def regionNodesSpec : ChangeSpec := { name := "regionNodes", fn := fun _ => fun
  | [d1, d2] => { results := [.lit (.bool true)], args := [d1, d2] }
  | _ => none }
def regionNodesRow : OpenClaim := { program := "ytgcmbhfbdblfcaa", sum := "10fb986cabef75d2a36c80fa7909ea471e827866159d2e268d3b55d99a93ad91", func := "quilt/quiltlaw12.RegionNodes", spec := "regionNodes", unfollowed := true, recurses := true, apart := false }
def RegionNodesSaid : Prop := regionNodesRow.holds Try.pinned (OpenSpec.ofChange regionNodesSpec)

/-- ITS FALSE NEIGHBOUR: 'it returns false'. Refute it at one input. -/
def regionNodesWrong : ChangeSpec := { name := "regionNodes", fn := fun _ => fun
  | [d1, d2] => { results := [.lit (.bool false)], args := [d1, d2] }
  | _ => none }
def RegionNodesWrongFalsely : Prop := regionNodesRow.holds Try.pinned (OpenSpec.ofChange regionNodesWrong)

/-- 'quiltlaw09.ImagePlaces': WHATEVER THE INPUT: true; the input reads as it did. -/
def imagePlacesSpec : ChangeSpec := { name := "imagePlaces", fn := fun _ => fun
  | [d1, d2] => { results := [.lit (.bool true)], args := [d1, d2] }
  | _ => none }
def imagePlacesRow : OpenClaim := { program := "ytgcmbhfbdblfcaa", sum := "10fb986cabef75d2a36c80fa7909ea471e827866159d2e268d3b55d99a93ad91", func := "quilt/quiltlaw09.ImagePlaces", spec := "imagePlaces", unfollowed := true, recurses := true, apart := false }
def ImagePlacesSaid : Prop := imagePlacesRow.holds Try.pinned (OpenSpec.ofChange imagePlacesSpec)

/-- ITS FALSE NEIGHBOUR: 'it returns false'. Refute it at one input. -/
def imagePlacesWrong : ChangeSpec := { name := "imagePlaces", fn := fun _ => fun
  | [d1, d2] => { results := [.lit (.bool false)], args := [d1, d2] }
  | _ => none }
def ImagePlacesWrongFalsely : Prop := imagePlacesRow.holds Try.pinned (OpenSpec.ofChange imagePlacesWrong)

/-- 'quiltlaw09.ImageStreams': WHATEVER THE INPUT: true; the input reads as it did. -/
def imageStreamsSpec : ChangeSpec := { name := "imageStreams", fn := fun _ => fun
  | [d1, d2, d3] => { results := [.lit (.bool true)], args := [d1, d2, d3] }
  | _ => none }
def imageStreamsRow : OpenClaim := { program := "ytgcmbhfbdblfcaa", sum := "10fb986cabef75d2a36c80fa7909ea471e827866159d2e268d3b55d99a93ad91", func := "quilt/quiltlaw09.ImageStreams", spec := "imageStreams", unfollowed := true, recurses := true, apart := false }
def ImageStreamsSaid : Prop := imageStreamsRow.holds Try.pinned (OpenSpec.ofChange imageStreamsSpec)

/-- ITS FALSE NEIGHBOUR: 'it returns false'. Refute it at one input. -/
def imageStreamsWrong : ChangeSpec := { name := "imageStreams", fn := fun _ => fun
  | [d1, d2, d3] => { results := [.lit (.bool false)], args := [d1, d2, d3] }
  | _ => none }
def ImageStreamsWrongFalsely : Prop := imageStreamsRow.holds Try.pinned (OpenSpec.ofChange imageStreamsWrong)

/-- 'quiltlaw09.ImageParts': WHATEVER THE INPUT: true; the input reads as it did. -/
def imagePartsSpec : ChangeSpec := { name := "imageParts", fn := fun _ => fun
  | [d1, d2] => { results := [.lit (.bool true)], args := [d1, d2] }
  | _ => none }
def imagePartsRow : OpenClaim := { program := "ytgcmbhfbdblfcaa", sum := "10fb986cabef75d2a36c80fa7909ea471e827866159d2e268d3b55d99a93ad91", func := "quilt/quiltlaw09.ImageParts", spec := "imageParts", unfollowed := true, recurses := true, apart := false }
def ImagePartsSaid : Prop := imagePartsRow.holds Try.pinned (OpenSpec.ofChange imagePartsSpec)

/-- ITS FALSE NEIGHBOUR: 'it returns false'. Refute it at one input. -/
def imagePartsWrong : ChangeSpec := { name := "imageParts", fn := fun _ => fun
  | [d1, d2] => { results := [.lit (.bool false)], args := [d1, d2] }
  | _ => none }
def ImagePartsWrongFalsely : Prop := imagePartsRow.holds Try.pinned (OpenSpec.ofChange imagePartsWrong)

/-- 'quiltlaw18.EmitTurns': WHATEVER THE INPUT: true; the input reads as it did. -/
def emitTurnsSpec : ChangeSpec := { name := "emitTurns", fn := fun _ => fun
  | [d1, d2] => { results := [.lit (.bool true)], args := [d1, d2] }
  | _ => none }
def emitTurnsRow : OpenClaim := { program := "ytgcmbhfbdblfcaa", sum := "10fb986cabef75d2a36c80fa7909ea471e827866159d2e268d3b55d99a93ad91", func := "quilt/quiltlaw18.EmitTurns", spec := "emitTurns", unfollowed := true, recurses := true, apart := false }
def EmitTurnsSaid : Prop := emitTurnsRow.holds Try.pinned (OpenSpec.ofChange emitTurnsSpec)

/-- ITS FALSE NEIGHBOUR: 'it returns false'. Refute it at one input. -/
def emitTurnsWrong : ChangeSpec := { name := "emitTurns", fn := fun _ => fun
  | [d1, d2] => { results := [.lit (.bool false)], args := [d1, d2] }
  | _ => none }
def EmitTurnsWrongFalsely : Prop := emitTurnsRow.holds Try.pinned (OpenSpec.ofChange emitTurnsWrong)

/-- 'quiltlaw18.EmitMay': WHATEVER THE INPUT: true; the input reads as it did. -/
def emitMaySpec : ChangeSpec := { name := "emitMay", fn := fun _ => fun
  | [d1, d2] => { results := [.lit (.bool true)], args := [d1, d2] }
  | _ => none }
def emitMayRow : OpenClaim := { program := "ytgcmbhfbdblfcaa", sum := "10fb986cabef75d2a36c80fa7909ea471e827866159d2e268d3b55d99a93ad91", func := "quilt/quiltlaw18.EmitMay", spec := "emitMay", unfollowed := true, recurses := true, apart := false }
def EmitMaySaid : Prop := emitMayRow.holds Try.pinned (OpenSpec.ofChange emitMaySpec)

/-- ITS FALSE NEIGHBOUR: 'it returns false'. Refute it at one input. -/
def emitMayWrong : ChangeSpec := { name := "emitMay", fn := fun _ => fun
  | [d1, d2] => { results := [.lit (.bool false)], args := [d1, d2] }
  | _ => none }
def EmitMayWrongFalsely : Prop := emitMayRow.holds Try.pinned (OpenSpec.ofChange emitMayWrong)

/-- 'quiltlaw18.EmitRows': WHATEVER THE INPUT: true; the input reads as it did. -/
def emitRowsSpec : ChangeSpec := { name := "emitRows", fn := fun _ => fun
  | [d1, d2] => { results := [.lit (.bool true)], args := [d1, d2] }
  | _ => none }
def emitRowsRow : OpenClaim := { program := "ytgcmbhfbdblfcaa", sum := "10fb986cabef75d2a36c80fa7909ea471e827866159d2e268d3b55d99a93ad91", func := "quilt/quiltlaw18.EmitRows", spec := "emitRows", unfollowed := true, recurses := true, apart := false }
def EmitRowsSaid : Prop := emitRowsRow.holds Try.pinned (OpenSpec.ofChange emitRowsSpec)

/-- ITS FALSE NEIGHBOUR: 'it returns false'. Refute it at one input. -/
def emitRowsWrong : ChangeSpec := { name := "emitRows", fn := fun _ => fun
  | [d1, d2] => { results := [.lit (.bool false)], args := [d1, d2] }
  | _ => none }
def EmitRowsWrongFalsely : Prop := emitRowsRow.holds Try.pinned (OpenSpec.ofChange emitRowsWrong)

/-- 'quiltlaw18.EmitPairs': WHATEVER THE INPUT: true; the input reads as it did. -/
def emitPairsSpec : ChangeSpec := { name := "emitPairs", fn := fun _ => fun
  | [d1, d2] => { results := [.lit (.bool true)], args := [d1, d2] }
  | _ => none }
def emitPairsRow : OpenClaim := { program := "ytgcmbhfbdblfcaa", sum := "10fb986cabef75d2a36c80fa7909ea471e827866159d2e268d3b55d99a93ad91", func := "quilt/quiltlaw18.EmitPairs", spec := "emitPairs", unfollowed := true, recurses := true, apart := false }
def EmitPairsSaid : Prop := emitPairsRow.holds Try.pinned (OpenSpec.ofChange emitPairsSpec)

/-- ITS FALSE NEIGHBOUR: 'it returns false'. Refute it at one input. -/
def emitPairsWrong : ChangeSpec := { name := "emitPairs", fn := fun _ => fun
  | [d1, d2] => { results := [.lit (.bool false)], args := [d1, d2] }
  | _ => none }
def EmitPairsWrongFalsely : Prop := emitPairsRow.holds Try.pinned (OpenSpec.ofChange emitPairsWrong)

/-- 'quiltlaw18.EmitAll': WHATEVER THE INPUT: true; the input reads as it did. -/
def emitAllSpec : ChangeSpec := { name := "emitAll", fn := fun _ => fun
  | [d1, d2] => { results := [.lit (.bool true)], args := [d1, d2] }
  | _ => none }
def emitAllRow : OpenClaim := { program := "ytgcmbhfbdblfcaa", sum := "10fb986cabef75d2a36c80fa7909ea471e827866159d2e268d3b55d99a93ad91", func := "quilt/quiltlaw18.EmitAll", spec := "emitAll", unfollowed := true, recurses := true, apart := false }
def EmitAllSaid : Prop := emitAllRow.holds Try.pinned (OpenSpec.ofChange emitAllSpec)

/-- ITS FALSE NEIGHBOUR: 'it returns false'. Refute it at one input. -/
def emitAllWrong : ChangeSpec := { name := "emitAll", fn := fun _ => fun
  | [d1, d2] => { results := [.lit (.bool false)], args := [d1, d2] }
  | _ => none }
def EmitAllWrongFalsely : Prop := emitAllRow.holds Try.pinned (OpenSpec.ofChange emitAllWrong)

/-- 'quiltlaw20.VerifyAll': WHATEVER THE INPUT: true; the input reads as it did. -/
def verifyAllSpec : ChangeSpec := { name := "verifyAll", fn := fun _ => fun
  | [d] => { results := [.lit (.bool true)], args := [d] }
  | _ => none }
def verifyAllRow : OpenClaim := { program := "ytgcmbhfbdblfcaa", sum := "10fb986cabef75d2a36c80fa7909ea471e827866159d2e268d3b55d99a93ad91", func := "quilt/quiltlaw20.VerifyAll", spec := "verifyAll", unfollowed := true, recurses := true, apart := false }
def VerifyAllSaid : Prop := verifyAllRow.holds Try.pinned (OpenSpec.ofChange verifyAllSpec)

/-- ITS FALSE NEIGHBOUR: 'it returns false'. Refute it at one input. -/
def verifyAllWrong : ChangeSpec := { name := "verifyAll", fn := fun _ => fun
  | [d] => { results := [.lit (.bool false)], args := [d] }
  | _ => none }
def VerifyAllWrongFalsely : Prop := verifyAllRow.holds Try.pinned (OpenSpec.ofChange verifyAllWrong)

/-- 'quiltlaw20.VerifyBuilt': WHATEVER THE INPUT: true; the input reads as it did. -/
def verifyBuiltSpec : ChangeSpec := { name := "verifyBuilt", fn := fun _ => fun
  | [d] => { results := [.lit (.bool true)], args := [d] }
  | _ => none }
def verifyBuiltRow : OpenClaim := { program := "ytgcmbhfbdblfcaa", sum := "10fb986cabef75d2a36c80fa7909ea471e827866159d2e268d3b55d99a93ad91", func := "quilt/quiltlaw20.VerifyBuilt", spec := "verifyBuilt", unfollowed := true, recurses := true, apart := false }
def VerifyBuiltSaid : Prop := verifyBuiltRow.holds Try.pinned (OpenSpec.ofChange verifyBuiltSpec)

/-- ITS FALSE NEIGHBOUR: 'it returns false'. Refute it at one input. -/
def verifyBuiltWrong : ChangeSpec := { name := "verifyBuilt", fn := fun _ => fun
  | [d] => { results := [.lit (.bool false)], args := [d] }
  | _ => none }
def VerifyBuiltWrongFalsely : Prop := verifyBuiltRow.holds Try.pinned (OpenSpec.ofChange verifyBuiltWrong)

/-- 'quiltlaw20.VerifyTurned': WHATEVER THE INPUT: true; the input reads as it did. -/
def verifyTurnedSpec : ChangeSpec := { name := "verifyTurned", fn := fun _ => fun
  | [d1, d2, d3] => { results := [.lit (.bool true)], args := [d1, d2, d3] }
  | _ => none }
def verifyTurnedRow : OpenClaim := { program := "ytgcmbhfbdblfcaa", sum := "10fb986cabef75d2a36c80fa7909ea471e827866159d2e268d3b55d99a93ad91", func := "quilt/quiltlaw20.VerifyTurned", spec := "verifyTurned", unfollowed := true, recurses := true, apart := false }
def VerifyTurnedSaid : Prop := verifyTurnedRow.holds Try.pinned (OpenSpec.ofChange verifyTurnedSpec)

/-- ITS FALSE NEIGHBOUR: 'it returns false'. Refute it at one input. -/
def verifyTurnedWrong : ChangeSpec := { name := "verifyTurned", fn := fun _ => fun
  | [d1, d2, d3] => { results := [.lit (.bool false)], args := [d1, d2, d3] }
  | _ => none }
def VerifyTurnedWrongFalsely : Prop := verifyTurnedRow.holds Try.pinned (OpenSpec.ofChange verifyTurnedWrong)

/-- 'quiltlaw20.VerifyCounts': WHATEVER THE INPUT: true; the input reads as it did. -/
def verifyCountsSpec : ChangeSpec := { name := "verifyCounts", fn := fun _ => fun
  | [d1, d2] => { results := [.lit (.bool true)], args := [d1, d2] }
  | _ => none }
def verifyCountsRow : OpenClaim := { program := "ytgcmbhfbdblfcaa", sum := "10fb986cabef75d2a36c80fa7909ea471e827866159d2e268d3b55d99a93ad91", func := "quilt/quiltlaw20.VerifyCounts", spec := "verifyCounts", unfollowed := true, recurses := true, apart := false }
def VerifyCountsSaid : Prop := verifyCountsRow.holds Try.pinned (OpenSpec.ofChange verifyCountsSpec)

/-- ITS FALSE NEIGHBOUR: 'it returns false'. Refute it at one input. -/
def verifyCountsWrong : ChangeSpec := { name := "verifyCounts", fn := fun _ => fun
  | [d1, d2] => { results := [.lit (.bool false)], args := [d1, d2] }
  | _ => none }
def VerifyCountsWrongFalsely : Prop := verifyCountsRow.holds Try.pinned (OpenSpec.ofChange verifyCountsWrong)

/- THE SECOND FORM. 'bulk': how many values and letters a reading holds, each counted each time it is reached (what is shared counts as often as it is met; a slice's spare places count too). A statement '..UptoSaid' is the law's where the arguments, and the package variables that the reading takes, are together of bulk at most 1048576: NARROWER than '..Said'. Prove '..Said' where nothing that the law and all that it calls make is longer than what came in: it says more and counts as full. Else prove '..UptoSaid'. A law counts once. -/
mutual
def uptoBulk {H : Type} : DataW H → Nat
  | .lit (.string bytes) => bytes.length + 1
  | .lit _ => 1
  | .nil => 1
  | .ptr d => uptoBulk d + 1
  | .slice elems spare => uptoBulkAll elems + uptoBulkAll spare + 1
  | .agg parts => uptoBulkAll parts + 1
  | .iface _ d => uptoBulk d + 1
  | .map entries => uptoBulkEntries entries + 1
  | .held _ => 1
def uptoBulkAll {H : Type} : List (DataW H) → Nat
  | [] => 0
  | d :: r => uptoBulk d + uptoBulkAll r
def uptoBulkEntries {H : Type} : List (Lit × DataW H) → Nat
  | [] => 0
  | x :: r => uptoBulkEntry x + uptoBulkEntries r
def uptoBulkEntry {H : Type} : Lit × DataW H → Nat
  | (.string bytes, d) => bytes.length + uptoBulk d + 1
  | (_, d) => uptoBulk d + 1
 end
def uptoSmall : (H : Type) → List (DataW H) → Bool := fun _ ds => decide (uptoBulkAll ds ≤ 1048576)
def OpenSpec.upto (s : _root_.Go.ChangeSpec) : _root_.Go.OpenSpec := { _root_.Go.OpenSpec.ofChange s with cond := some uptoSmall }

/-- 'quiltlaw11.MemPlays', WHERE WHAT IT READS IS OF BULK AT MOST 1048576: true; the input reads as it did. -/
def memPlaysUptoRow : OpenClaim := { program := "ytgcmbhfbdblfcaa", sum := "10fb986cabef75d2a36c80fa7909ea471e827866159d2e268d3b55d99a93ad91", func := "quilt/quiltlaw11.MemPlays", spec := "memPlays", apart := false, narrowed := true }
def MemPlaysUptoSaid : Prop := memPlaysUptoRow.holds Try.pinned (OpenSpec.upto memPlaysSpec)

/-- 'quiltlaw04.ModelLong', WHERE WHAT IT READS IS OF BULK AT MOST 1048576: true; the input reads as it did. -/
def modelLongUptoRow : OpenClaim := { program := "ytgcmbhfbdblfcaa", sum := "10fb986cabef75d2a36c80fa7909ea471e827866159d2e268d3b55d99a93ad91", func := "quilt/quiltlaw04.ModelLong", spec := "modelLong", unfollowed := true, recurses := true, apart := false, narrowed := true }
def ModelLongUptoSaid : Prop := modelLongUptoRow.holds Try.pinned (OpenSpec.upto modelLongSpec)

/-- 'quiltlaw04.ModelOnce', WHERE WHAT IT READS IS OF BULK AT MOST 1048576: true; the input reads as it did. -/
def modelOnceUptoRow : OpenClaim := { program := "ytgcmbhfbdblfcaa", sum := "10fb986cabef75d2a36c80fa7909ea471e827866159d2e268d3b55d99a93ad91", func := "quilt/quiltlaw04.ModelOnce", spec := "modelOnce", unfollowed := true, recurses := true, apart := false, narrowed := true }
def ModelOnceUptoSaid : Prop := modelOnceUptoRow.holds Try.pinned (OpenSpec.upto modelOnceSpec)

/-- 'quiltlaw04.ModelTakes', WHERE WHAT IT READS IS OF BULK AT MOST 1048576: true; the input reads as it did. -/
def modelTakesUptoRow : OpenClaim := { program := "ytgcmbhfbdblfcaa", sum := "10fb986cabef75d2a36c80fa7909ea471e827866159d2e268d3b55d99a93ad91", func := "quilt/quiltlaw04.ModelTakes", spec := "modelTakes", unfollowed := true, recurses := true, apart := false, narrowed := true }
def ModelTakesUptoSaid : Prop := modelTakesUptoRow.holds Try.pinned (OpenSpec.upto modelTakesSpec)

/-- 'quiltlaw04.ModelBack', WHERE WHAT IT READS IS OF BULK AT MOST 1048576: true; the input reads as it did. -/
def modelBackUptoRow : OpenClaim := { program := "ytgcmbhfbdblfcaa", sum := "10fb986cabef75d2a36c80fa7909ea471e827866159d2e268d3b55d99a93ad91", func := "quilt/quiltlaw04.ModelBack", spec := "modelBack", unfollowed := true, recurses := true, apart := false, narrowed := true }
def ModelBackUptoSaid : Prop := modelBackUptoRow.holds Try.pinned (OpenSpec.upto modelBackSpec)

/-- 'quiltlaw04.ModelRows', WHERE WHAT IT READS IS OF BULK AT MOST 1048576: true; the input reads as it did. -/
def modelRowsUptoRow : OpenClaim := { program := "ytgcmbhfbdblfcaa", sum := "10fb986cabef75d2a36c80fa7909ea471e827866159d2e268d3b55d99a93ad91", func := "quilt/quiltlaw04.ModelRows", spec := "modelRows", unfollowed := true, recurses := true, apart := false, narrowed := true }
def ModelRowsUptoSaid : Prop := modelRowsUptoRow.holds Try.pinned (OpenSpec.upto modelRowsSpec)

/-- 'quiltlaw12.RegionOf', WHERE WHAT IT READS IS OF BULK AT MOST 1048576: true; the input reads as it did. -/
def regionOfUptoRow : OpenClaim := { program := "ytgcmbhfbdblfcaa", sum := "10fb986cabef75d2a36c80fa7909ea471e827866159d2e268d3b55d99a93ad91", func := "quilt/quiltlaw12.RegionOf", spec := "regionOf", unfollowed := true, recurses := true, apart := false, narrowed := true }
def RegionOfUptoSaid : Prop := regionOfUptoRow.holds Try.pinned (OpenSpec.upto regionOfSpec)

/-- 'quiltlaw12.RegionNodes', WHERE WHAT IT READS IS OF BULK AT MOST 1048576: true; the input reads as it did. -/
def regionNodesUptoRow : OpenClaim := { program := "ytgcmbhfbdblfcaa", sum := "10fb986cabef75d2a36c80fa7909ea471e827866159d2e268d3b55d99a93ad91", func := "quilt/quiltlaw12.RegionNodes", spec := "regionNodes", unfollowed := true, recurses := true, apart := false, narrowed := true }
def RegionNodesUptoSaid : Prop := regionNodesUptoRow.holds Try.pinned (OpenSpec.upto regionNodesSpec)

/-- 'quiltlaw09.ImagePlaces', WHERE WHAT IT READS IS OF BULK AT MOST 1048576: true; the input reads as it did. -/
def imagePlacesUptoRow : OpenClaim := { program := "ytgcmbhfbdblfcaa", sum := "10fb986cabef75d2a36c80fa7909ea471e827866159d2e268d3b55d99a93ad91", func := "quilt/quiltlaw09.ImagePlaces", spec := "imagePlaces", unfollowed := true, recurses := true, apart := false, narrowed := true }
def ImagePlacesUptoSaid : Prop := imagePlacesUptoRow.holds Try.pinned (OpenSpec.upto imagePlacesSpec)

/-- 'quiltlaw09.ImageStreams', WHERE WHAT IT READS IS OF BULK AT MOST 1048576: true; the input reads as it did. -/
def imageStreamsUptoRow : OpenClaim := { program := "ytgcmbhfbdblfcaa", sum := "10fb986cabef75d2a36c80fa7909ea471e827866159d2e268d3b55d99a93ad91", func := "quilt/quiltlaw09.ImageStreams", spec := "imageStreams", unfollowed := true, recurses := true, apart := false, narrowed := true }
def ImageStreamsUptoSaid : Prop := imageStreamsUptoRow.holds Try.pinned (OpenSpec.upto imageStreamsSpec)

/-- 'quiltlaw09.ImageParts', WHERE WHAT IT READS IS OF BULK AT MOST 1048576: true; the input reads as it did. -/
def imagePartsUptoRow : OpenClaim := { program := "ytgcmbhfbdblfcaa", sum := "10fb986cabef75d2a36c80fa7909ea471e827866159d2e268d3b55d99a93ad91", func := "quilt/quiltlaw09.ImageParts", spec := "imageParts", unfollowed := true, recurses := true, apart := false, narrowed := true }
def ImagePartsUptoSaid : Prop := imagePartsUptoRow.holds Try.pinned (OpenSpec.upto imagePartsSpec)

/-- 'quiltlaw18.EmitTurns', WHERE WHAT IT READS IS OF BULK AT MOST 1048576: true; the input reads as it did. -/
def emitTurnsUptoRow : OpenClaim := { program := "ytgcmbhfbdblfcaa", sum := "10fb986cabef75d2a36c80fa7909ea471e827866159d2e268d3b55d99a93ad91", func := "quilt/quiltlaw18.EmitTurns", spec := "emitTurns", unfollowed := true, recurses := true, apart := false, narrowed := true }
def EmitTurnsUptoSaid : Prop := emitTurnsUptoRow.holds Try.pinned (OpenSpec.upto emitTurnsSpec)

/-- 'quiltlaw18.EmitMay', WHERE WHAT IT READS IS OF BULK AT MOST 1048576: true; the input reads as it did. -/
def emitMayUptoRow : OpenClaim := { program := "ytgcmbhfbdblfcaa", sum := "10fb986cabef75d2a36c80fa7909ea471e827866159d2e268d3b55d99a93ad91", func := "quilt/quiltlaw18.EmitMay", spec := "emitMay", unfollowed := true, recurses := true, apart := false, narrowed := true }
def EmitMayUptoSaid : Prop := emitMayUptoRow.holds Try.pinned (OpenSpec.upto emitMaySpec)

/-- 'quiltlaw18.EmitRows', WHERE WHAT IT READS IS OF BULK AT MOST 1048576: true; the input reads as it did. -/
def emitRowsUptoRow : OpenClaim := { program := "ytgcmbhfbdblfcaa", sum := "10fb986cabef75d2a36c80fa7909ea471e827866159d2e268d3b55d99a93ad91", func := "quilt/quiltlaw18.EmitRows", spec := "emitRows", unfollowed := true, recurses := true, apart := false, narrowed := true }
def EmitRowsUptoSaid : Prop := emitRowsUptoRow.holds Try.pinned (OpenSpec.upto emitRowsSpec)

/-- 'quiltlaw18.EmitPairs', WHERE WHAT IT READS IS OF BULK AT MOST 1048576: true; the input reads as it did. -/
def emitPairsUptoRow : OpenClaim := { program := "ytgcmbhfbdblfcaa", sum := "10fb986cabef75d2a36c80fa7909ea471e827866159d2e268d3b55d99a93ad91", func := "quilt/quiltlaw18.EmitPairs", spec := "emitPairs", unfollowed := true, recurses := true, apart := false, narrowed := true }
def EmitPairsUptoSaid : Prop := emitPairsUptoRow.holds Try.pinned (OpenSpec.upto emitPairsSpec)

/-- 'quiltlaw18.EmitAll', WHERE WHAT IT READS IS OF BULK AT MOST 1048576: true; the input reads as it did. -/
def emitAllUptoRow : OpenClaim := { program := "ytgcmbhfbdblfcaa", sum := "10fb986cabef75d2a36c80fa7909ea471e827866159d2e268d3b55d99a93ad91", func := "quilt/quiltlaw18.EmitAll", spec := "emitAll", unfollowed := true, recurses := true, apart := false, narrowed := true }
def EmitAllUptoSaid : Prop := emitAllUptoRow.holds Try.pinned (OpenSpec.upto emitAllSpec)

/-- 'quiltlaw20.VerifyAll', WHERE WHAT IT READS IS OF BULK AT MOST 1048576: true; the input reads as it did. -/
def verifyAllUptoRow : OpenClaim := { program := "ytgcmbhfbdblfcaa", sum := "10fb986cabef75d2a36c80fa7909ea471e827866159d2e268d3b55d99a93ad91", func := "quilt/quiltlaw20.VerifyAll", spec := "verifyAll", unfollowed := true, recurses := true, apart := false, narrowed := true }
def VerifyAllUptoSaid : Prop := verifyAllUptoRow.holds Try.pinned (OpenSpec.upto verifyAllSpec)

/-- 'quiltlaw20.VerifyBuilt', WHERE WHAT IT READS IS OF BULK AT MOST 1048576: true; the input reads as it did. -/
def verifyBuiltUptoRow : OpenClaim := { program := "ytgcmbhfbdblfcaa", sum := "10fb986cabef75d2a36c80fa7909ea471e827866159d2e268d3b55d99a93ad91", func := "quilt/quiltlaw20.VerifyBuilt", spec := "verifyBuilt", unfollowed := true, recurses := true, apart := false, narrowed := true }
def VerifyBuiltUptoSaid : Prop := verifyBuiltUptoRow.holds Try.pinned (OpenSpec.upto verifyBuiltSpec)

/-- 'quiltlaw20.VerifyTurned', WHERE WHAT IT READS IS OF BULK AT MOST 1048576: true; the input reads as it did. -/
def verifyTurnedUptoRow : OpenClaim := { program := "ytgcmbhfbdblfcaa", sum := "10fb986cabef75d2a36c80fa7909ea471e827866159d2e268d3b55d99a93ad91", func := "quilt/quiltlaw20.VerifyTurned", spec := "verifyTurned", unfollowed := true, recurses := true, apart := false, narrowed := true }
def VerifyTurnedUptoSaid : Prop := verifyTurnedUptoRow.holds Try.pinned (OpenSpec.upto verifyTurnedSpec)

/-- 'quiltlaw20.VerifyCounts', WHERE WHAT IT READS IS OF BULK AT MOST 1048576: true; the input reads as it did. -/
def verifyCountsUptoRow : OpenClaim := { program := "ytgcmbhfbdblfcaa", sum := "10fb986cabef75d2a36c80fa7909ea471e827866159d2e268d3b55d99a93ad91", func := "quilt/quiltlaw20.VerifyCounts", spec := "verifyCounts", unfollowed := true, recurses := true, apart := false, narrowed := true }
def VerifyCountsUptoSaid : Prop := verifyCountsUptoRow.holds Try.pinned (OpenSpec.upto verifyCountsSpec)

end Rows
end Go.Proofs.Ytgcmbhfbdblfcaa
