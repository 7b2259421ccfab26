/-
  Conditions, as they lie in memory; their texts.
-/
import Derived.Test.YtgeaccoobhigcaaS12
namespace Go.Proofs.Ytgeaccoobhigcaa
open Go Go.RowKit

/-- A condition, with where its parts lie. -/
inductive CondR where
  | mk (kind : Int) (goal : Bool) (id : ByteArray) (aa : Option Addr) (an ac : Nat) (attr : List TestR) (va : Option Addr) (vn vc : Nat) (value : List TestR) (acc : Bool) (ca : Option Addr) (cn cc : Nat) (conds : List CondR)
def CondR.cells : CondR → List Value
  | .mk kind goal id aa an ac _ va vn vc _ acc ca cn cc _ => [.int .i64 kind, .bool goal, .string id, .slice aa an ac, .slice va vn vc, .bool acc, .slice ca cn cc]
def CondR.val : CondR → Value
  | .mk kind goal id aa an ac _ va vn vc _ acc ca cn cc _ => .agg #[.int .i64 kind, .bool goal, .string id, .slice aa an ac, .slice va vn vc, .bool acc, .slice ca cn cc]
theorem condR_len (c : CondR) : c.cells.length = 7 := by cases c; rfl

/-- The tree lies in memory. -/
inductive CondR.Ok (w : World) : CondR → Prop
  | mk {kind : Int} {goal : Bool} {id : ByteArray} {aa : Option Addr} {an ac : Nat} {attr : List TestR} {va : Option Addr} {vn vc : Nat} {value : List TestR} {acc : Bool} {ca : Option Addr} {cn cc : Nat} {conds : List CondR}
      (ha : TestsIn w aa an ac attr) (hv : TestsIn w va vn vc value) (hs : SlR w 7 ca cn cc (conds.flatMap CondR.cells)) (hc : ∀ c ∈ conds, CondR.Ok w c) :
      CondR.Ok w (.mk kind goal id aa an ac attr va vn vc value acc ca cn cc conds)

theorem CondR.Ok.kept {w w' : World} (hb : Below w.heap.size w w') : ∀ {c : CondR}, c.Ok w → c.Ok w' := by
  intro c h
  induction h with
  | mk ha hv hs hc ih => exact .mk (ha.kept hb) (hv.kept hb) (hs.kept hb) ih

mutual
/-- show's text of a condition. -/
def condS : CondR → ByteArray
  | .mk kind goal id _ _ _ attr _ _ _ value acc _ _ _ conds =>
    if kind = 3 then condsS conds true ⟨#[45, 123]⟩ ++ ⟨#[125]⟩
    else
      let s0 : ByteArray := if kind = 2 then ⟨#[45, 40]⟩ else ⟨#[40]⟩
      let s1 := if goal then s0 ++ ⟨#[115, 116, 97, 116, 101, 32]⟩ else s0
      let s2 := s1 ++ ⟨#[60]⟩ ++ id ++ ⟨#[62, 32, 94]⟩ ++ (if attr.length = 0 then ⟨#[]⟩ else fieldS attr)
      let s3 := if 0 < value.length then s2 ++ ⟨#[32]⟩ ++ fieldS value else s2
      let s4 := if acc then s3 ++ ⟨#[32, 43]⟩ else s3
      s4 ++ ⟨#[41]⟩
/-- Conditions one behind the other, behind what there is. -/
def condsS : List CondR → Bool → ByteArray → ByteArray
  | [], _, s => s
  | c :: r, first, s => condsS r false ((if first then s else s ++ ⟨#[32]⟩) ++ condS c)
end
mutual
/-- How many conditions there are. -/
def condN : CondR → Nat
  | .mk _ _ _ _ _ _ _ _ _ _ _ _ _ _ _ conds => 1 + condsN conds
def condsN : List CondR → Nat
  | [] => 0
  | c :: r => condN c + condsN r
end
theorem condsS_snoc (c : CondR) : ∀ (l : List CondR) (first : Bool) (s : ByteArray), condsS (l ++ [c]) first s = (if l = [] ∧ first = true then condsS l first s else condsS l first s ++ ⟨#[32]⟩) ++ condS c
  | [], first, s => by cases first <;> simp [condsS]
  | x :: r, first, s => by
    have ih := condsS_snoc c r false ((if first then s else s ++ ⟨#[32]⟩) ++ condS x)
    simp only [List.cons_append, condsS]
    rw [ih]
    simp
end Go.Proofs.Ytgeaccoobhigcaa
