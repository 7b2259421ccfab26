/-
  NARROWER THAN 'FOR EVERY INPUT', by the rows' own cells (each row's printed sentence says how): ShowProds: loops · ShowParts: loops · ShowUnlike: loops · ShowTurned: loops · ReadBack: loops · ReadSpaces: loops · ReadCuts: loops.
  DERIVED. THE GIVEN ROWS OF THIS SEAT. 18 by the template 'for every input the law returns true; each argument reads behind the call as it read before'; 0 by the template 'total and deterministic' (their statements: YtgeaccoobhigcaaTotals.lean).
  GIVEN WITH THE SEED: the statements are not yours to turn. If you find one false, say at which input.
  Laid BY PROGRAM, IN A SANDBOX (cutbox-rows.mjs): the forced cells as the released guide's own fill.sh prints them over the translation 0d7ee0334a2883e3… (all of the seat's roots in one cut). By AI agents, Wed Nov 11 2026. No macro, syntax, notation, axiom, sorry.
-/
import Derived.Test.YtgeaccoobhigcaaChecked
import GoSem.Claim
import GoSem.ClaimJoined
import GoSem.ClaimMapViews
import Derived.JoinedTies
import Derived.KernelRfl
namespace Go.Proofs.Ytgeaccoobhigcaa
/- THE CELL 'sum', in the pinned program and in every row, IS THE sha256 OF THE DUMP (.gsa) THAT YtgeaccoobhigcaaProg.lean LOADS. Nothing in Lean hashes anything: it is a label: what it is worth is what the hold of that sum in a sandbox is worth. -/
noncomputable def Try.pinned : Pinned := { name := "ytgeaccoobhigcaa", sum := "0d7ee0334a2883e3c66fd7e0cda8265ba3d0083365b258fec8970d256fc9eb62", checked := Try.checked }
namespace Rows
def none {H : Type} : Left H := { results := [], args := [] }

/-- 'ponderlaw05.LexTokens': WHATEVER THE INPUT: true; the input reads as it did. -/
def lexTokensSpec : ChangeSpec := { name := "lexTokens", fn := fun _ => fun
  | [d] => { results := [.lit (.bool true)], args := [d] }
  | _ => none }
def lexTokensRow : OpenClaim := { program := "ytgeaccoobhigcaa", sum := "0d7ee0334a2883e3c66fd7e0cda8265ba3d0083365b258fec8970d256fc9eb62", func := "ponder/ponderlaw05.LexTokens", spec := "lexTokens", unfollowed := true, recurses := true, apart := false }
def LexTokensSaid : Prop := lexTokensRow.holds Try.pinned (OpenSpec.ofChange lexTokensSpec)

/-- ITS FALSE NEIGHBOUR: 'it returns false'. Refute it at one input. -/
def lexTokensWrong : ChangeSpec := { name := "lexTokens", fn := fun _ => fun
  | [d] => { results := [.lit (.bool false)], args := [d] }
  | _ => none }
def LexTokensWrongFalsely : Prop := lexTokensRow.holds Try.pinned (OpenSpec.ofChange lexTokensWrong)

/-- 'ponderlaw05.LexLeft': WHATEVER THE INPUT: true; the input reads as it did. -/
def lexLeftSpec : ChangeSpec := { name := "lexLeft", fn := fun _ => fun
  | [d1, d2] => { results := [.lit (.bool true)], args := [d1, d2] }
  | _ => none }
def lexLeftRow : OpenClaim := { program := "ytgeaccoobhigcaa", sum := "0d7ee0334a2883e3c66fd7e0cda8265ba3d0083365b258fec8970d256fc9eb62", func := "ponder/ponderlaw05.LexLeft", spec := "lexLeft", unfollowed := true, recurses := true, apart := false }
def LexLeftSaid : Prop := lexLeftRow.holds Try.pinned (OpenSpec.ofChange lexLeftSpec)

/-- ITS FALSE NEIGHBOUR: 'it returns false'. Refute it at one input. -/
def lexLeftWrong : ChangeSpec := { name := "lexLeft", fn := fun _ => fun
  | [d1, d2] => { results := [.lit (.bool false)], args := [d1, d2] }
  | _ => none }
def LexLeftWrongFalsely : Prop := lexLeftRow.holds Try.pinned (OpenSpec.ofChange lexLeftWrong)

/-- 'ponderlaw05.LexSpaces': WHATEVER THE INPUT: true; the input reads as it did. -/
def lexSpacesSpec : ChangeSpec := { name := "lexSpaces", fn := fun _ => fun
  | [d1, d2] => { results := [.lit (.bool true)], args := [d1, d2] }
  | _ => none }
def lexSpacesRow : OpenClaim := { program := "ytgeaccoobhigcaa", sum := "0d7ee0334a2883e3c66fd7e0cda8265ba3d0083365b258fec8970d256fc9eb62", func := "ponder/ponderlaw05.LexSpaces", spec := "lexSpaces", unfollowed := true, recurses := true, apart := false }
def LexSpacesSaid : Prop := lexSpacesRow.holds Try.pinned (OpenSpec.ofChange lexSpacesSpec)

/-- ITS FALSE NEIGHBOUR: 'it returns false'. Refute it at one input. -/
def lexSpacesWrong : ChangeSpec := { name := "lexSpaces", fn := fun _ => fun
  | [d1, d2] => { results := [.lit (.bool false)], args := [d1, d2] }
  | _ => none }
def LexSpacesWrongFalsely : Prop := lexSpacesRow.holds Try.pinned (OpenSpec.ofChange lexSpacesWrong)

/-- 'ponderlaw05.LexPlaces': WHATEVER THE INPUT: true; the input reads as it did. -/
def lexPlacesSpec : ChangeSpec := { name := "lexPlaces", fn := fun _ => fun
  | [d] => { results := [.lit (.bool true)], args := [d] }
  | _ => none }
def lexPlacesRow : OpenClaim := { program := "ytgeaccoobhigcaa", sum := "0d7ee0334a2883e3c66fd7e0cda8265ba3d0083365b258fec8970d256fc9eb62", func := "ponder/ponderlaw05.LexPlaces", spec := "lexPlaces", unfollowed := true, recurses := true, apart := false }
def LexPlacesSaid : Prop := lexPlacesRow.holds Try.pinned (OpenSpec.ofChange lexPlacesSpec)

/-- ITS FALSE NEIGHBOUR: 'it returns false'. Refute it at one input. -/
def lexPlacesWrong : ChangeSpec := { name := "lexPlaces", fn := fun _ => fun
  | [d] => { results := [.lit (.bool false)], args := [d] }
  | _ => none }
def LexPlacesWrongFalsely : Prop := lexPlacesRow.holds Try.pinned (OpenSpec.ofChange lexPlacesWrong)

/-- 'ponderlaw05.LexJoins': WHATEVER THE INPUT: true; the input reads as it did. -/
def lexJoinsSpec : ChangeSpec := { name := "lexJoins", fn := fun _ => fun
  | [d1, d2] => { results := [.lit (.bool true)], args := [d1, d2] }
  | _ => none }
def lexJoinsRow : OpenClaim := { program := "ytgeaccoobhigcaa", sum := "0d7ee0334a2883e3c66fd7e0cda8265ba3d0083365b258fec8970d256fc9eb62", func := "ponder/ponderlaw05.LexJoins", spec := "lexJoins", unfollowed := true, recurses := true, apart := false }
def LexJoinsSaid : Prop := lexJoinsRow.holds Try.pinned (OpenSpec.ofChange lexJoinsSpec)

/-- ITS FALSE NEIGHBOUR: 'it returns false'. Refute it at one input. -/
def lexJoinsWrong : ChangeSpec := { name := "lexJoins", fn := fun _ => fun
  | [d1, d2] => { results := [.lit (.bool false)], args := [d1, d2] }
  | _ => none }
def LexJoinsWrongFalsely : Prop := lexJoinsRow.holds Try.pinned (OpenSpec.ofChange lexJoinsWrong)

/-- 'ponderlaw05.LexNames': WHATEVER THE INPUT: true; the input reads as it did. -/
def lexNamesSpec : ChangeSpec := { name := "lexNames", fn := fun _ => fun
  | [d1, d2] => { results := [.lit (.bool true)], args := [d1, d2] }
  | _ => none }
def lexNamesRow : OpenClaim := { program := "ytgeaccoobhigcaa", sum := "0d7ee0334a2883e3c66fd7e0cda8265ba3d0083365b258fec8970d256fc9eb62", func := "ponder/ponderlaw05.LexNames", spec := "lexNames", unfollowed := true, recurses := true, apart := false }
def LexNamesSaid : Prop := lexNamesRow.holds Try.pinned (OpenSpec.ofChange lexNamesSpec)

/-- ITS FALSE NEIGHBOUR: 'it returns false'. Refute it at one input. -/
def lexNamesWrong : ChangeSpec := { name := "lexNames", fn := fun _ => fun
  | [d1, d2] => { results := [.lit (.bool false)], args := [d1, d2] }
  | _ => none }
def LexNamesWrongFalsely : Prop := lexNamesRow.holds Try.pinned (OpenSpec.ofChange lexNamesWrong)

/-- 'ponderlaw07.ShowProds': WHATEVER THE INPUT: true; the input reads as it did. -/
def showProdsSpec : ChangeSpec := { name := "showProds", fn := fun _ => fun
  | [d] => { results := [.lit (.bool true)], args := [d] }
  | _ => none }
def showProdsRow : OpenClaim := { program := "ytgeaccoobhigcaa", sum := "0d7ee0334a2883e3c66fd7e0cda8265ba3d0083365b258fec8970d256fc9eb62", func := "ponder/ponderlaw07.ShowProds", spec := "showProds", unfollowed := true, recurses := true, loops := true, apart := false }
def ShowProdsSaid : Prop := showProdsRow.holds Try.pinned (OpenSpec.ofChange showProdsSpec)

/-- ITS FALSE NEIGHBOUR: 'it returns false'. Refute it at one input. -/
def showProdsWrong : ChangeSpec := { name := "showProds", fn := fun _ => fun
  | [d] => { results := [.lit (.bool false)], args := [d] }
  | _ => none }
def ShowProdsWrongFalsely : Prop := showProdsRow.holds Try.pinned (OpenSpec.ofChange showProdsWrong)

/-- 'ponderlaw07.ShowParts': WHATEVER THE INPUT: true; the input reads as it did. -/
def showPartsSpec : ChangeSpec := { name := "showParts", fn := fun _ => fun
  | [d] => { results := [.lit (.bool true)], args := [d] }
  | _ => none }
def showPartsRow : OpenClaim := { program := "ytgeaccoobhigcaa", sum := "0d7ee0334a2883e3c66fd7e0cda8265ba3d0083365b258fec8970d256fc9eb62", func := "ponder/ponderlaw07.ShowParts", spec := "showParts", unfollowed := true, recurses := true, loops := true, apart := false }
def ShowPartsSaid : Prop := showPartsRow.holds Try.pinned (OpenSpec.ofChange showPartsSpec)

/-- ITS FALSE NEIGHBOUR: 'it returns false'. Refute it at one input. -/
def showPartsWrong : ChangeSpec := { name := "showParts", fn := fun _ => fun
  | [d] => { results := [.lit (.bool false)], args := [d] }
  | _ => none }
def ShowPartsWrongFalsely : Prop := showPartsRow.holds Try.pinned (OpenSpec.ofChange showPartsWrong)

/-- 'ponderlaw07.ShowUnlike': WHATEVER THE INPUT: true; the input reads as it did. -/
def showUnlikeSpec : ChangeSpec := { name := "showUnlike", fn := fun _ => fun
  | [d1, d2] => { results := [.lit (.bool true)], args := [d1, d2] }
  | _ => none }
def showUnlikeRow : OpenClaim := { program := "ytgeaccoobhigcaa", sum := "0d7ee0334a2883e3c66fd7e0cda8265ba3d0083365b258fec8970d256fc9eb62", func := "ponder/ponderlaw07.ShowUnlike", spec := "showUnlike", unfollowed := true, recurses := true, loops := true, apart := false }
def ShowUnlikeSaid : Prop := showUnlikeRow.holds Try.pinned (OpenSpec.ofChange showUnlikeSpec)

/-- ITS FALSE NEIGHBOUR: 'it returns false'. Refute it at one input. -/
def showUnlikeWrong : ChangeSpec := { name := "showUnlike", fn := fun _ => fun
  | [d1, d2] => { results := [.lit (.bool false)], args := [d1, d2] }
  | _ => none }
def ShowUnlikeWrongFalsely : Prop := showUnlikeRow.holds Try.pinned (OpenSpec.ofChange showUnlikeWrong)

/-- 'ponderlaw07.ShowTurned': WHATEVER THE INPUT: true; the input reads as it did. -/
def showTurnedSpec : ChangeSpec := { name := "showTurned", fn := fun _ => fun
  | [d1, d2, d3] => { results := [.lit (.bool true)], args := [d1, d2, d3] }
  | _ => none }
def showTurnedRow : OpenClaim := { program := "ytgeaccoobhigcaa", sum := "0d7ee0334a2883e3c66fd7e0cda8265ba3d0083365b258fec8970d256fc9eb62", func := "ponder/ponderlaw07.ShowTurned", spec := "showTurned", unfollowed := true, recurses := true, loops := true, apart := false }
def ShowTurnedSaid : Prop := showTurnedRow.holds Try.pinned (OpenSpec.ofChange showTurnedSpec)

/-- ITS FALSE NEIGHBOUR: 'it returns false'. Refute it at one input. -/
def showTurnedWrong : ChangeSpec := { name := "showTurned", fn := fun _ => fun
  | [d1, d2, d3] => { results := [.lit (.bool false)], args := [d1, d2, d3] }
  | _ => none }
def ShowTurnedWrongFalsely : Prop := showTurnedRow.holds Try.pinned (OpenSpec.ofChange showTurnedWrong)

/-- 'ponderlaw07.ShowElems': WHATEVER THE INPUT: true; the input reads as it did. -/
def showElemsSpec : ChangeSpec := { name := "showElems", fn := fun _ => fun
  | [d] => { results := [.lit (.bool true)], args := [d] }
  | _ => none }
def showElemsRow : OpenClaim := { program := "ytgeaccoobhigcaa", sum := "0d7ee0334a2883e3c66fd7e0cda8265ba3d0083365b258fec8970d256fc9eb62", func := "ponder/ponderlaw07.ShowElems", spec := "showElems", unfollowed := true, recurses := true, apart := false }
def ShowElemsSaid : Prop := showElemsRow.holds Try.pinned (OpenSpec.ofChange showElemsSpec)

/-- ITS FALSE NEIGHBOUR: 'it returns false'. Refute it at one input. -/
def showElemsWrong : ChangeSpec := { name := "showElems", fn := fun _ => fun
  | [d] => { results := [.lit (.bool false)], args := [d] }
  | _ => none }
def ShowElemsWrongFalsely : Prop := showElemsRow.holds Try.pinned (OpenSpec.ofChange showElemsWrong)

/-- 'ponderlaw07.ShowLines': WHATEVER THE INPUT: true; the input reads as it did. -/
def showLinesSpec : ChangeSpec := { name := "showLines", fn := fun _ => fun
  | [d1, d2] => { results := [.lit (.bool true)], args := [d1, d2] }
  | _ => none }
def showLinesRow : OpenClaim := { program := "ytgeaccoobhigcaa", sum := "0d7ee0334a2883e3c66fd7e0cda8265ba3d0083365b258fec8970d256fc9eb62", func := "ponder/ponderlaw07.ShowLines", spec := "showLines", unfollowed := true, recurses := true, apart := false }
def ShowLinesSaid : Prop := showLinesRow.holds Try.pinned (OpenSpec.ofChange showLinesSpec)

/-- ITS FALSE NEIGHBOUR: 'it returns false'. Refute it at one input. -/
def showLinesWrong : ChangeSpec := { name := "showLines", fn := fun _ => fun
  | [d1, d2] => { results := [.lit (.bool false)], args := [d1, d2] }
  | _ => none }
def ShowLinesWrongFalsely : Prop := showLinesRow.holds Try.pinned (OpenSpec.ofChange showLinesWrong)

/-- 'ponderlaw08.ReadClauses': WHATEVER THE INPUT: true; the input reads as it did. -/
def readClausesSpec : ChangeSpec := { name := "readClauses", fn := fun _ => fun
  | [d1, d2] => { results := [.lit (.bool true)], args := [d1, d2] }
  | _ => none }
def readClausesRow : OpenClaim := { program := "ytgeaccoobhigcaa", sum := "0d7ee0334a2883e3c66fd7e0cda8265ba3d0083365b258fec8970d256fc9eb62", func := "ponder/ponderlaw08.ReadClauses", spec := "readClauses", unfollowed := true, recurses := true, apart := false }
def ReadClausesSaid : Prop := readClausesRow.holds Try.pinned (OpenSpec.ofChange readClausesSpec)

/-- ITS FALSE NEIGHBOUR: 'it returns false'. Refute it at one input. -/
def readClausesWrong : ChangeSpec := { name := "readClauses", fn := fun _ => fun
  | [d1, d2] => { results := [.lit (.bool false)], args := [d1, d2] }
  | _ => none }
def ReadClausesWrongFalsely : Prop := readClausesRow.holds Try.pinned (OpenSpec.ofChange readClausesWrong)

/-- 'ponderlaw08.ReadJoins': WHATEVER THE INPUT: true; the input reads as it did. -/
def readJoinsSpec : ChangeSpec := { name := "readJoins", fn := fun _ => fun
  | [d1, d2] => { results := [.lit (.bool true)], args := [d1, d2] }
  | _ => none }
def readJoinsRow : OpenClaim := { program := "ytgeaccoobhigcaa", sum := "0d7ee0334a2883e3c66fd7e0cda8265ba3d0083365b258fec8970d256fc9eb62", func := "ponder/ponderlaw08.ReadJoins", spec := "readJoins", unfollowed := true, recurses := true, apart := false }
def ReadJoinsSaid : Prop := readJoinsRow.holds Try.pinned (OpenSpec.ofChange readJoinsSpec)

/-- ITS FALSE NEIGHBOUR: 'it returns false'. Refute it at one input. -/
def readJoinsWrong : ChangeSpec := { name := "readJoins", fn := fun _ => fun
  | [d1, d2] => { results := [.lit (.bool false)], args := [d1, d2] }
  | _ => none }
def ReadJoinsWrongFalsely : Prop := readJoinsRow.holds Try.pinned (OpenSpec.ofChange readJoinsWrong)

/-- 'ponderlaw08.ReadBack': WHATEVER THE INPUT: true; the input reads as it did. -/
def readBackSpec : ChangeSpec := { name := "readBack", fn := fun _ => fun
  | [d] => { results := [.lit (.bool true)], args := [d] }
  | _ => none }
def readBackRow : OpenClaim := { program := "ytgeaccoobhigcaa", sum := "0d7ee0334a2883e3c66fd7e0cda8265ba3d0083365b258fec8970d256fc9eb62", func := "ponder/ponderlaw08.ReadBack", spec := "readBack", unfollowed := true, recurses := true, loops := true, apart := false }
def ReadBackSaid : Prop := readBackRow.holds Try.pinned (OpenSpec.ofChange readBackSpec)

/-- ITS FALSE NEIGHBOUR: 'it returns false'. Refute it at one input. -/
def readBackWrong : ChangeSpec := { name := "readBack", fn := fun _ => fun
  | [d] => { results := [.lit (.bool false)], args := [d] }
  | _ => none }
def ReadBackWrongFalsely : Prop := readBackRow.holds Try.pinned (OpenSpec.ofChange readBackWrong)

/-- 'ponderlaw08.ReadSpaces': WHATEVER THE INPUT: true; the input reads as it did. -/
def readSpacesSpec : ChangeSpec := { name := "readSpaces", fn := fun _ => fun
  | [d1, d2] => { results := [.lit (.bool true)], args := [d1, d2] }
  | _ => none }
def readSpacesRow : OpenClaim := { program := "ytgeaccoobhigcaa", sum := "0d7ee0334a2883e3c66fd7e0cda8265ba3d0083365b258fec8970d256fc9eb62", func := "ponder/ponderlaw08.ReadSpaces", spec := "readSpaces", unfollowed := true, recurses := true, loops := true, apart := false }
def ReadSpacesSaid : Prop := readSpacesRow.holds Try.pinned (OpenSpec.ofChange readSpacesSpec)

/-- ITS FALSE NEIGHBOUR: 'it returns false'. Refute it at one input. -/
def readSpacesWrong : ChangeSpec := { name := "readSpaces", fn := fun _ => fun
  | [d1, d2] => { results := [.lit (.bool false)], args := [d1, d2] }
  | _ => none }
def ReadSpacesWrongFalsely : Prop := readSpacesRow.holds Try.pinned (OpenSpec.ofChange readSpacesWrong)

/-- 'ponderlaw08.ReadCuts': WHATEVER THE INPUT: true; the input reads as it did. -/
def readCutsSpec : ChangeSpec := { name := "readCuts", fn := fun _ => fun
  | [d1, d2] => { results := [.lit (.bool true)], args := [d1, d2] }
  | _ => none }
def readCutsRow : OpenClaim := { program := "ytgeaccoobhigcaa", sum := "0d7ee0334a2883e3c66fd7e0cda8265ba3d0083365b258fec8970d256fc9eb62", func := "ponder/ponderlaw08.ReadCuts", spec := "readCuts", unfollowed := true, recurses := true, loops := true, apart := false }
def ReadCutsSaid : Prop := readCutsRow.holds Try.pinned (OpenSpec.ofChange readCutsSpec)

/-- ITS FALSE NEIGHBOUR: 'it returns false'. Refute it at one input. -/
def readCutsWrong : ChangeSpec := { name := "readCuts", fn := fun _ => fun
  | [d1, d2] => { results := [.lit (.bool false)], args := [d1, d2] }
  | _ => none }
def ReadCutsWrongFalsely : Prop := readCutsRow.holds Try.pinned (OpenSpec.ofChange readCutsWrong)

/-- 'ponderlaw08.ReadAgain': WHATEVER THE INPUT: true; the input reads as it did. -/
def readAgainSpec : ChangeSpec := { name := "readAgain", fn := fun _ => fun
  | [d] => { results := [.lit (.bool true)], args := [d] }
  | _ => none }
def readAgainRow : OpenClaim := { program := "ytgeaccoobhigcaa", sum := "0d7ee0334a2883e3c66fd7e0cda8265ba3d0083365b258fec8970d256fc9eb62", func := "ponder/ponderlaw08.ReadAgain", spec := "readAgain", unfollowed := true, recurses := true, apart := false }
def ReadAgainSaid : Prop := readAgainRow.holds Try.pinned (OpenSpec.ofChange readAgainSpec)

/-- ITS FALSE NEIGHBOUR: 'it returns false'. Refute it at one input. -/
def readAgainWrong : ChangeSpec := { name := "readAgain", fn := fun _ => fun
  | [d] => { results := [.lit (.bool false)], args := [d] }
  | _ => none }
def ReadAgainWrongFalsely : Prop := readAgainRow.holds Try.pinned (OpenSpec.ofChange readAgainWrong)

/- THE SECOND FORM. 'bulk': how many values and letters a reading holds, each counted each time it is reached (what is shared counts as often as it is met; a slice's spare places count too). A statement '..UptoSaid' is the law's where the arguments, and the package variables that the reading takes, are together of bulk at most 1048576: NARROWER than '..Said'. Prove '..Said' where nothing that the law and all that it calls make is longer than what came in: it says more and counts as full. Else prove '..UptoSaid'. A law counts once. -/
mutual
def uptoBulk {H : Type} : DataW H → Nat
  | .lit (.string bytes) => bytes.length + 1
  | .lit _ => 1
  | .nil => 1
  | .ptr d => uptoBulk d + 1
  | .slice elems spare => uptoBulkAll elems + uptoBulkAll spare + 1
  | .agg parts => uptoBulkAll parts + 1
  | .iface _ d => uptoBulk d + 1
  | .map entries => uptoBulkEntries entries + 1
  | .held _ => 1
def uptoBulkAll {H : Type} : List (DataW H) → Nat
  | [] => 0
  | d :: r => uptoBulk d + uptoBulkAll r
def uptoBulkEntries {H : Type} : List (Lit × DataW H) → Nat
  | [] => 0
  | x :: r => uptoBulkEntry x + uptoBulkEntries r
def uptoBulkEntry {H : Type} : Lit × DataW H → Nat
  | (.string bytes, d) => bytes.length + uptoBulk d + 1
  | (_, d) => uptoBulk d + 1
 end
def uptoSmall : (H : Type) → List (DataW H) → Bool := fun _ ds => decide (uptoBulkAll ds ≤ 1048576)
def OpenSpec.upto (s : _root_.Go.ChangeSpec) : _root_.Go.OpenSpec := { _root_.Go.OpenSpec.ofChange s with cond := some uptoSmall }

/-- 'ponderlaw05.LexTokens', WHERE WHAT IT READS IS OF BULK AT MOST 1048576: true; the input reads as it did. -/
def lexTokensUptoRow : OpenClaim := { program := "ytgeaccoobhigcaa", sum := "0d7ee0334a2883e3c66fd7e0cda8265ba3d0083365b258fec8970d256fc9eb62", func := "ponder/ponderlaw05.LexTokens", spec := "lexTokens", unfollowed := true, recurses := true, apart := false, narrowed := true }
def LexTokensUptoSaid : Prop := lexTokensUptoRow.holds Try.pinned (OpenSpec.upto lexTokensSpec)

/-- 'ponderlaw05.LexLeft', WHERE WHAT IT READS IS OF BULK AT MOST 1048576: true; the input reads as it did. -/
def lexLeftUptoRow : OpenClaim := { program := "ytgeaccoobhigcaa", sum := "0d7ee0334a2883e3c66fd7e0cda8265ba3d0083365b258fec8970d256fc9eb62", func := "ponder/ponderlaw05.LexLeft", spec := "lexLeft", unfollowed := true, recurses := true, apart := false, narrowed := true }
def LexLeftUptoSaid : Prop := lexLeftUptoRow.holds Try.pinned (OpenSpec.upto lexLeftSpec)

/-- 'ponderlaw05.LexSpaces', WHERE WHAT IT READS IS OF BULK AT MOST 1048576: true; the input reads as it did. -/
def lexSpacesUptoRow : OpenClaim := { program := "ytgeaccoobhigcaa", sum := "0d7ee0334a2883e3c66fd7e0cda8265ba3d0083365b258fec8970d256fc9eb62", func := "ponder/ponderlaw05.LexSpaces", spec := "lexSpaces", unfollowed := true, recurses := true, apart := false, narrowed := true }
def LexSpacesUptoSaid : Prop := lexSpacesUptoRow.holds Try.pinned (OpenSpec.upto lexSpacesSpec)

/-- 'ponderlaw05.LexPlaces', WHERE WHAT IT READS IS OF BULK AT MOST 1048576: true; the input reads as it did. -/
def lexPlacesUptoRow : OpenClaim := { program := "ytgeaccoobhigcaa", sum := "0d7ee0334a2883e3c66fd7e0cda8265ba3d0083365b258fec8970d256fc9eb62", func := "ponder/ponderlaw05.LexPlaces", spec := "lexPlaces", unfollowed := true, recurses := true, apart := false, narrowed := true }
def LexPlacesUptoSaid : Prop := lexPlacesUptoRow.holds Try.pinned (OpenSpec.upto lexPlacesSpec)

/-- 'ponderlaw05.LexJoins', WHERE WHAT IT READS IS OF BULK AT MOST 1048576: true; the input reads as it did. -/
def lexJoinsUptoRow : OpenClaim := { program := "ytgeaccoobhigcaa", sum := "0d7ee0334a2883e3c66fd7e0cda8265ba3d0083365b258fec8970d256fc9eb62", func := "ponder/ponderlaw05.LexJoins", spec := "lexJoins", unfollowed := true, recurses := true, apart := false, narrowed := true }
def LexJoinsUptoSaid : Prop := lexJoinsUptoRow.holds Try.pinned (OpenSpec.upto lexJoinsSpec)

/-- 'ponderlaw05.LexNames', WHERE WHAT IT READS IS OF BULK AT MOST 1048576: true; the input reads as it did. -/
def lexNamesUptoRow : OpenClaim := { program := "ytgeaccoobhigcaa", sum := "0d7ee0334a2883e3c66fd7e0cda8265ba3d0083365b258fec8970d256fc9eb62", func := "ponder/ponderlaw05.LexNames", spec := "lexNames", unfollowed := true, recurses := true, apart := false, narrowed := true }
def LexNamesUptoSaid : Prop := lexNamesUptoRow.holds Try.pinned (OpenSpec.upto lexNamesSpec)

/-- 'ponderlaw07.ShowProds', WHERE WHAT IT READS IS OF BULK AT MOST 1048576: true; the input reads as it did. -/
def showProdsUptoRow : OpenClaim := { program := "ytgeaccoobhigcaa", sum := "0d7ee0334a2883e3c66fd7e0cda8265ba3d0083365b258fec8970d256fc9eb62", func := "ponder/ponderlaw07.ShowProds", spec := "showProds", unfollowed := true, recurses := true, loops := true, apart := false, narrowed := true }
def ShowProdsUptoSaid : Prop := showProdsUptoRow.holds Try.pinned (OpenSpec.upto showProdsSpec)

/-- 'ponderlaw07.ShowParts', WHERE WHAT IT READS IS OF BULK AT MOST 1048576: true; the input reads as it did. -/
def showPartsUptoRow : OpenClaim := { program := "ytgeaccoobhigcaa", sum := "0d7ee0334a2883e3c66fd7e0cda8265ba3d0083365b258fec8970d256fc9eb62", func := "ponder/ponderlaw07.ShowParts", spec := "showParts", unfollowed := true, recurses := true, loops := true, apart := false, narrowed := true }
def ShowPartsUptoSaid : Prop := showPartsUptoRow.holds Try.pinned (OpenSpec.upto showPartsSpec)

/-- 'ponderlaw07.ShowUnlike', WHERE WHAT IT READS IS OF BULK AT MOST 1048576: true; the input reads as it did. -/
def showUnlikeUptoRow : OpenClaim := { program := "ytgeaccoobhigcaa", sum := "0d7ee0334a2883e3c66fd7e0cda8265ba3d0083365b258fec8970d256fc9eb62", func := "ponder/ponderlaw07.ShowUnlike", spec := "showUnlike", unfollowed := true, recurses := true, loops := true, apart := false, narrowed := true }
def ShowUnlikeUptoSaid : Prop := showUnlikeUptoRow.holds Try.pinned (OpenSpec.upto showUnlikeSpec)

/-- 'ponderlaw07.ShowTurned', WHERE WHAT IT READS IS OF BULK AT MOST 1048576: true; the input reads as it did. -/
def showTurnedUptoRow : OpenClaim := { program := "ytgeaccoobhigcaa", sum := "0d7ee0334a2883e3c66fd7e0cda8265ba3d0083365b258fec8970d256fc9eb62", func := "ponder/ponderlaw07.ShowTurned", spec := "showTurned", unfollowed := true, recurses := true, loops := true, apart := false, narrowed := true }
def ShowTurnedUptoSaid : Prop := showTurnedUptoRow.holds Try.pinned (OpenSpec.upto showTurnedSpec)

/-- 'ponderlaw07.ShowElems', WHERE WHAT IT READS IS OF BULK AT MOST 1048576: true; the input reads as it did. -/
def showElemsUptoRow : OpenClaim := { program := "ytgeaccoobhigcaa", sum := "0d7ee0334a2883e3c66fd7e0cda8265ba3d0083365b258fec8970d256fc9eb62", func := "ponder/ponderlaw07.ShowElems", spec := "showElems", unfollowed := true, recurses := true, apart := false, narrowed := true }
def ShowElemsUptoSaid : Prop := showElemsUptoRow.holds Try.pinned (OpenSpec.upto showElemsSpec)

/-- 'ponderlaw07.ShowLines', WHERE WHAT IT READS IS OF BULK AT MOST 1048576: true; the input reads as it did. -/
def showLinesUptoRow : OpenClaim := { program := "ytgeaccoobhigcaa", sum := "0d7ee0334a2883e3c66fd7e0cda8265ba3d0083365b258fec8970d256fc9eb62", func := "ponder/ponderlaw07.ShowLines", spec := "showLines", unfollowed := true, recurses := true, apart := false, narrowed := true }
def ShowLinesUptoSaid : Prop := showLinesUptoRow.holds Try.pinned (OpenSpec.upto showLinesSpec)

/-- 'ponderlaw08.ReadClauses', WHERE WHAT IT READS IS OF BULK AT MOST 1048576: true; the input reads as it did. -/
def readClausesUptoRow : OpenClaim := { program := "ytgeaccoobhigcaa", sum := "0d7ee0334a2883e3c66fd7e0cda8265ba3d0083365b258fec8970d256fc9eb62", func := "ponder/ponderlaw08.ReadClauses", spec := "readClauses", unfollowed := true, recurses := true, apart := false, narrowed := true }
def ReadClausesUptoSaid : Prop := readClausesUptoRow.holds Try.pinned (OpenSpec.upto readClausesSpec)

/-- 'ponderlaw08.ReadJoins', WHERE WHAT IT READS IS OF BULK AT MOST 1048576: true; the input reads as it did. -/
def readJoinsUptoRow : OpenClaim := { program := "ytgeaccoobhigcaa", sum := "0d7ee0334a2883e3c66fd7e0cda8265ba3d0083365b258fec8970d256fc9eb62", func := "ponder/ponderlaw08.ReadJoins", spec := "readJoins", unfollowed := true, recurses := true, apart := false, narrowed := true }
def ReadJoinsUptoSaid : Prop := readJoinsUptoRow.holds Try.pinned (OpenSpec.upto readJoinsSpec)

/-- 'ponderlaw08.ReadBack', WHERE WHAT IT READS IS OF BULK AT MOST 1048576: true; the input reads as it did. -/
def readBackUptoRow : OpenClaim := { program := "ytgeaccoobhigcaa", sum := "0d7ee0334a2883e3c66fd7e0cda8265ba3d0083365b258fec8970d256fc9eb62", func := "ponder/ponderlaw08.ReadBack", spec := "readBack", unfollowed := true, recurses := true, loops := true, apart := false, narrowed := true }
def ReadBackUptoSaid : Prop := readBackUptoRow.holds Try.pinned (OpenSpec.upto readBackSpec)

/-- 'ponderlaw08.ReadSpaces', WHERE WHAT IT READS IS OF BULK AT MOST 1048576: true; the input reads as it did. -/
def readSpacesUptoRow : OpenClaim := { program := "ytgeaccoobhigcaa", sum := "0d7ee0334a2883e3c66fd7e0cda8265ba3d0083365b258fec8970d256fc9eb62", func := "ponder/ponderlaw08.ReadSpaces", spec := "readSpaces", unfollowed := true, recurses := true, loops := true, apart := false, narrowed := true }
def ReadSpacesUptoSaid : Prop := readSpacesUptoRow.holds Try.pinned (OpenSpec.upto readSpacesSpec)

/-- 'ponderlaw08.ReadCuts', WHERE WHAT IT READS IS OF BULK AT MOST 1048576: true; the input reads as it did. -/
def readCutsUptoRow : OpenClaim := { program := "ytgeaccoobhigcaa", sum := "0d7ee0334a2883e3c66fd7e0cda8265ba3d0083365b258fec8970d256fc9eb62", func := "ponder/ponderlaw08.ReadCuts", spec := "readCuts", unfollowed := true, recurses := true, loops := true, apart := false, narrowed := true }
def ReadCutsUptoSaid : Prop := readCutsUptoRow.holds Try.pinned (OpenSpec.upto readCutsSpec)

/-- 'ponderlaw08.ReadAgain', WHERE WHAT IT READS IS OF BULK AT MOST 1048576: true; the input reads as it did. -/
def readAgainUptoRow : OpenClaim := { program := "ytgeaccoobhigcaa", sum := "0d7ee0334a2883e3c66fd7e0cda8265ba3d0083365b258fec8970d256fc9eb62", func := "ponder/ponderlaw08.ReadAgain", spec := "readAgain", unfollowed := true, recurses := true, apart := false, narrowed := true }
def ReadAgainUptoSaid : Prop := readAgainUptoRow.holds Try.pinned (OpenSpec.upto readAgainSpec)

end Rows
end Go.Proofs.Ytgeaccoobhigcaa
