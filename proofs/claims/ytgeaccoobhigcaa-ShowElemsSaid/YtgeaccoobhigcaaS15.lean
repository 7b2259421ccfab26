/-
  How long the texts of conditions are.
-/
import Derived.Test.YtgeaccoobhigcaaS14
namespace Go.Proofs.Ytgeaccoobhigcaa
open Go Go.RowKit

/-- Names and fields are of the size that is played. -/
inductive CondR.Fit : CondR → Prop
  | mk {kind : Int} {goal : Bool} {id : ByteArray} {aa : Option Addr} {an ac : Nat} {attr : List TestR} {va : Option Addr} {vn vc : Nat} {value : List TestR} {acc : Bool} {ca : Option Addr} {cn cc : Nat} {conds : List CondR}
      (hi : id.size ≤ 1000000) (ha : an ≤ 1000) (hv : vn ≤ 1000) (hc : ∀ c ∈ conds, CondR.Fit c) :
      CondR.Fit (.mk kind goal id aa an ac attr va vn vc value acc ca cn cc conds)

theorem fieldS_size {w : World} {l : List TestR} (h : ∀ t ∈ l, t.Ok w) (hl : l.length ≤ 1000) : (fieldS l).size ≤ 1000011010 := by
  unfold fieldS
  split
  · rename_i h1
    rw [List.getD_eq_getElem?_getD, List.getElem?_eq_getElem (by omega)]
    have := testS_size (h l[0] (List.getElem_mem _))
    show (testS l[0]).size ≤ _
    omega
  · have := bracesS_size h l.length (Nat.le_refl _)
    rw [cat2_size]
    show _ + 2 ≤ _
    have : l.length * 1000011 ≤ 1000 * 1000011 := Nat.mul_le_mul_right _ hl
    omega
theorem condsS_size : ∀ (l : List CondR), (∀ c ∈ l, (condS c).size + 1 ≤ 3000000000 * condN c) → ∀ (first : Bool) (s : ByteArray), (condsS l first s).size ≤ s.size + 3000000000 * condsN l
  | [], _, first, s => by simp [condsS]
  | c :: r, h, first, s => by
    have ih := condsS_size r (fun x hx => h x (by simp [hx])) false ((if first then s else s ++ ⟨#[32]⟩) ++ condS c)
    have hc := h c (by simp)
    have hs : ((if first then s else s ++ ⟨#[32]⟩) ++ condS c).size ≤ s.size + 1 + (condS c).size := by
      rw [cat2_size]
      split
      · omega
      · rw [cat2_size]; show _ + 1 + _ ≤ _; omega
    simp only [condsS, condsN]
    rw [Nat.mul_add]
    omega
theorem condS_size {w : World} {c : CondR} (h : c.Ok w) : c.Fit → (condS c).size + 1 ≤ 3000000000 * condN c := by
  induction h with
  | @mk kind goal id aa an ac attr va vn vc value acc ca cn cc conds ha hv hs hc ih =>
    intro hf
    obtain ⟨hi, h1, h2, h3⟩ := hf
    have hcs := condsS_size conds (fun c hm => ih c hm (h3 c hm)) true ⟨#[45, 123]⟩
    have hfa := fieldS_size ha.ok (by rw [ha.len]; exact h1)
    have hfv := fieldS_size hv.ok (by rw [hv.len]; exact h2)
    simp only [condS, condN]
    rw [Nat.mul_add]
    split
    · rw [cat2_size]
      have e : (⟨#[45, 123]⟩ : ByteArray).size = 2 := rfl
      have e1 : (⟨#[125]⟩ : ByteArray).size = 1 := rfl
      omega
    · have e1 : (⟨#[41]⟩ : ByteArray).size = 1 := rfl
      have e2 : (⟨#[32, 43]⟩ : ByteArray).size = 2 := rfl
      have e3 : (⟨#[32]⟩ : ByteArray).size = 1 := rfl
      have e4 : (⟨#[62, 32, 94]⟩ : ByteArray).size = 3 := rfl
      have e5 : (⟨#[60]⟩ : ByteArray).size = 1 := rfl
      have e6 : (⟨#[115, 116, 97, 116, 101, 32]⟩ : ByteArray).size = 6 := rfl
      have e7 : (⟨#[45, 40]⟩ : ByteArray).size = 2 := rfl
      have e8 : (⟨#[40]⟩ : ByteArray).size = 1 := rfl
      have e9 : (⟨#[]⟩ : ByteArray).size = 0 := rfl
      repeat' split
      all_goals
        simp only [cat2_size, e1, e2, e3, e4, e5, e6, e7, e8, e9]
        omega
end Go.Proofs.Ytgeaccoobhigcaa
