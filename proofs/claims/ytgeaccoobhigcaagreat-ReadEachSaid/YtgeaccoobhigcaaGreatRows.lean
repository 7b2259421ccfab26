/-
  No cell of these rows narrows 'for every input' (looked for: loops, veiled, ifaces, maps, wideKeys, modest, calm, conditions, laid).
  DERIVED. THE GIVEN ROWS OF THIS SEAT. 3 by the template 'for every input the law returns true; each argument reads behind the call as it read before'; 0 by the template 'total and deterministic' (their statements: YtgeaccoobhigcaaGreatTotals.lean).
  GIVEN WITH THE SEED: the statements are not yours to turn. If you find one false, say at which input.
  Laid BY PROGRAM, IN A SANDBOX (cutbox-rows.mjs): the forced cells as the released guide's own fill.sh prints them over the translation f6ff8f19abd4b6d8… (all of the seat's roots in one cut). By AI agents, Wed Nov 11 2026. No macro, syntax, notation, axiom, sorry.
-/
import Derived.Test.YtgeaccoobhigcaaGreatChecked
import GoSem.Claim
import GoSem.ClaimJoined
import GoSem.ClaimMapViews
import Derived.JoinedTies
import Derived.KernelRfl
namespace Go.Proofs.YtgeaccoobhigcaaGreat
/- THE CELL 'sum', in the pinned program and in every row, IS THE sha256 OF THE DUMP (.gsa) THAT YtgeaccoobhigcaaGreatProg.lean LOADS. Nothing in Lean hashes anything: it is a label: what it is worth is what the hold of that sum in a sandbox is worth. -/
noncomputable def Tryz.pinned : Pinned := { name := "ytgeaccoobhigcaagreat", sum := "f6ff8f19abd4b6d80ca15c9127cd600d6b46b626a8f7894e55c57a3d0a585b5c", checked := Tryz.checked }
namespace Rows
def none {H : Type} : Left H := { results := [], args := [] }

/-- 'ponderlaw08.ReadOnes': WHATEVER THE INPUT: true; the input reads as it did. -/
def readOnesSpec : ChangeSpec := { name := "readOnes", fn := fun _ => fun
  | [d] => { results := [.lit (.bool true)], args := [d] }
  | _ => none }
def readOnesRow : OpenClaim := { program := "ytgeaccoobhigcaagreat", sum := "f6ff8f19abd4b6d80ca15c9127cd600d6b46b626a8f7894e55c57a3d0a585b5c", func := "ponder/ponderlaw08.ReadOnes", spec := "readOnes", unfollowed := true, recurses := true, apart := false }
def ReadOnesSaid : Prop := readOnesRow.holds Tryz.pinned (OpenSpec.ofChange readOnesSpec)

/-- ITS FALSE NEIGHBOUR: 'it returns false'. Refute it at one input. -/
def readOnesWrong : ChangeSpec := { name := "readOnes", fn := fun _ => fun
  | [d] => { results := [.lit (.bool false)], args := [d] }
  | _ => none }
def ReadOnesWrongFalsely : Prop := readOnesRow.holds Tryz.pinned (OpenSpec.ofChange readOnesWrong)

/-- 'ponderlaw08.ReadAlls': WHATEVER THE INPUT: true; the input reads as it did. -/
def readAllsSpec : ChangeSpec := { name := "readAlls", fn := fun _ => fun
  | [d] => { results := [.lit (.bool true)], args := [d] }
  | _ => none }
def readAllsRow : OpenClaim := { program := "ytgeaccoobhigcaagreat", sum := "f6ff8f19abd4b6d80ca15c9127cd600d6b46b626a8f7894e55c57a3d0a585b5c", func := "ponder/ponderlaw08.ReadAlls", spec := "readAlls", unfollowed := true, recurses := true, apart := false }
def ReadAllsSaid : Prop := readAllsRow.holds Tryz.pinned (OpenSpec.ofChange readAllsSpec)

/-- ITS FALSE NEIGHBOUR: 'it returns false'. Refute it at one input. -/
def readAllsWrong : ChangeSpec := { name := "readAlls", fn := fun _ => fun
  | [d] => { results := [.lit (.bool false)], args := [d] }
  | _ => none }
def ReadAllsWrongFalsely : Prop := readAllsRow.holds Tryz.pinned (OpenSpec.ofChange readAllsWrong)

/-- 'ponderlaw08.ReadEach': WHATEVER THE INPUT: true; the input reads as it did. -/
def readEachSpec : ChangeSpec := { name := "readEach", fn := fun _ => fun
  | [d1, d2] => { results := [.lit (.bool true)], args := [d1, d2] }
  | _ => none }
def readEachRow : OpenClaim := { program := "ytgeaccoobhigcaagreat", sum := "f6ff8f19abd4b6d80ca15c9127cd600d6b46b626a8f7894e55c57a3d0a585b5c", func := "ponder/ponderlaw08.ReadEach", spec := "readEach", unfollowed := true, recurses := true, apart := false }
def ReadEachSaid : Prop := readEachRow.holds Tryz.pinned (OpenSpec.ofChange readEachSpec)

/-- ITS FALSE NEIGHBOUR: 'it returns false'. Refute it at one input. -/
def readEachWrong : ChangeSpec := { name := "readEach", fn := fun _ => fun
  | [d1, d2] => { results := [.lit (.bool false)], args := [d1, d2] }
  | _ => none }
def ReadEachWrongFalsely : Prop := readEachRow.holds Tryz.pinned (OpenSpec.ofChange readEachWrong)

/- THE SECOND FORM. 'bulk': how many values and letters a reading holds, each counted each time it is reached (what is shared counts as often as it is met; a slice's spare places count too). A statement '..UptoSaid' is the law's where the arguments, and the package variables that the reading takes, are together of bulk at most 1048576: NARROWER than '..Said'. Prove '..Said' where nothing that the law and all that it calls make is longer than what came in: it says more and counts as full. Else prove '..UptoSaid'. A law counts once. -/
mutual
def uptoBulk {H : Type} : DataW H → Nat
  | .lit (.string bytes) => bytes.length + 1
  | .lit _ => 1
  | .nil => 1
  | .ptr d => uptoBulk d + 1
  | .slice elems spare => uptoBulkAll elems + uptoBulkAll spare + 1
  | .agg parts => uptoBulkAll parts + 1
  | .iface _ d => uptoBulk d + 1
  | .map entries => uptoBulkEntries entries + 1
  | .held _ => 1
def uptoBulkAll {H : Type} : List (DataW H) → Nat
  | [] => 0
  | d :: r => uptoBulk d + uptoBulkAll r
def uptoBulkEntries {H : Type} : List (Lit × DataW H) → Nat
  | [] => 0
  | x :: r => uptoBulkEntry x + uptoBulkEntries r
def uptoBulkEntry {H : Type} : Lit × DataW H → Nat
  | (.string bytes, d) => bytes.length + uptoBulk d + 1
  | (_, d) => uptoBulk d + 1
 end
def uptoSmall : (H : Type) → List (DataW H) → Bool := fun _ ds => decide (uptoBulkAll ds ≤ 1048576)
def OpenSpec.upto (s : _root_.Go.ChangeSpec) : _root_.Go.OpenSpec := { _root_.Go.OpenSpec.ofChange s with cond := some uptoSmall }

/-- 'ponderlaw08.ReadOnes', WHERE WHAT IT READS IS OF BULK AT MOST 1048576: true; the input reads as it did. -/
def readOnesUptoRow : OpenClaim := { program := "ytgeaccoobhigcaagreat", sum := "f6ff8f19abd4b6d80ca15c9127cd600d6b46b626a8f7894e55c57a3d0a585b5c", func := "ponder/ponderlaw08.ReadOnes", spec := "readOnes", unfollowed := true, recurses := true, apart := false, narrowed := true }
def ReadOnesUptoSaid : Prop := readOnesUptoRow.holds Tryz.pinned (OpenSpec.upto readOnesSpec)

/-- 'ponderlaw08.ReadAlls', WHERE WHAT IT READS IS OF BULK AT MOST 1048576: true; the input reads as it did. -/
def readAllsUptoRow : OpenClaim := { program := "ytgeaccoobhigcaagreat", sum := "f6ff8f19abd4b6d80ca15c9127cd600d6b46b626a8f7894e55c57a3d0a585b5c", func := "ponder/ponderlaw08.ReadAlls", spec := "readAlls", unfollowed := true, recurses := true, apart := false, narrowed := true }
def ReadAllsUptoSaid : Prop := readAllsUptoRow.holds Tryz.pinned (OpenSpec.upto readAllsSpec)

/-- 'ponderlaw08.ReadEach', WHERE WHAT IT READS IS OF BULK AT MOST 1048576: true; the input reads as it did. -/
def readEachUptoRow : OpenClaim := { program := "ytgeaccoobhigcaagreat", sum := "f6ff8f19abd4b6d80ca15c9127cd600d6b46b626a8f7894e55c57a3d0a585b5c", func := "ponder/ponderlaw08.ReadEach", spec := "readEach", unfollowed := true, recurses := true, apart := false, narrowed := true }
def ReadEachUptoSaid : Prop := readEachUptoRow.holds Tryz.pinned (OpenSpec.upto readEachSpec)

end Rows
end Go.Proofs.YtgeaccoobhigcaaGreat
