/-
  Slices of wide elements; the texts of fields.
-/
import Derived.Test.YtgeaccoobhigcaaS11
namespace Go.Proofs.Ytgeaccoobhigcaa
open Go Go.RowKit

section
variable {α : Type} {f : α → List Value} {m : Nat}
theorem rows_length (hf : ∀ x, (f x).length = m) (l : List α) : (l.flatMap f).length = l.length * m := by
  induction l with
  | nil => simp
  | cons x r ih => rw [List.flatMap_cons, List.length_append, ih, hf, List.length_cons, Nat.add_mul]; omega
theorem rows_at (hf : ∀ x, (f x).length = m) {l : List α} {k j : Nat} {t : α} {u : Value} (h : l[k]? = some t) (hj : (f t)[j]? = some u) : (l.flatMap f)[k * m + j]? = some u := by
  have hk : k < l.length := (List.getElem?_eq_some_iff.1 h).1
  have hjl : j < (f t).length := (List.getElem?_eq_some_iff.1 hj).1
  have e : l.flatMap f = (l.take k).flatMap f ++ (f t ++ (l.drop (k + 1)).flatMap f) := by
    have h1 : l = l.take k ++ t :: l.drop (k + 1) := by
      obtain ⟨h3, h4⟩ := List.getElem?_eq_some_iff.1 h
      rw [← h4, ← List.drop_eq_getElem_cons h3, List.take_append_drop]
    conv => lhs; rw [h1]
    simp
  have hl : ((l.take k).flatMap f).length = k * m := by rw [rows_length hf, List.length_take, Nat.min_eq_left (by omega)]
  rw [e, List.getElem?_append_right (by omega), hl, Nat.add_sub_cancel_left, List.getElem?_append_left hjl]
  exact hj
theorem SlR.row_at (hf : ∀ x, (f x).length = m) {w : World} {ao : Option Addr} {n c : Nat} {l : List α} {k : Nat} {t : α} (hm : 0 < m) (h : SlR w m ao n c (l.flatMap f)) (hk : l[k]? = some t) :
    ∃ g o, ao = some ⟨g, o, none⟩ ∧ ∀ j u, (f t)[j]? = some u → w.cell? ⟨g, o + k * m + j, none⟩ = some u := by
  have hkl : k < l.length := (List.getElem?_eq_some_iff.1 hk).1
  have hl := h.1
  rw [rows_length hf] at hl
  have hn : 0 < n := by
    rcases Nat.eq_zero_or_pos n with h0 | h0
    · subst h0
      rw [Nat.zero_mul] at hl
      have := Nat.mul_pos (show 0 < l.length by omega) hm
      omega
    · exact h0
  cases ao with
  | none => have := h.2.2.2.1 rfl; have := h.2.1; omega
  | some a =>
    have ha := h.2.2.2.2 a rfl
    have hs : a.spot = none := by
      have hl0 : 0 < (l.flatMap f).length := by rw [rows_length hf]; exact Nat.mul_pos (by omega) hm
      have h00 := ha 0 _ (List.getElem?_eq_getElem hl0)
      rw [addr_add_zero] at h00
      exact World.cell?_spot h00
    obtain ⟨g, o, sp⟩ := a
    simp only at hs
    subst hs
    refine ⟨g, o, rfl, fun j u hj => ?_⟩
    have := ha _ _ (rows_at hf hk hj)
    rw [addr_add_lit] at this
    rw [Nat.add_assoc]
    exact this
end

theorem TestR.Ok.kept {w w' : World} {t : TestR} (h : t.Ok w) (hb : Below w.heap.size w w') : t.Ok w' := ⟨h.sl.kept hb, h.ln, h.v, h.s, h.list⟩
theorem testR_len (t : TestR) : t.cells.length = 6 := rfl
/-- Tests in a slice. -/
structure TestsIn (w : World) (ao : Option Addr) (n c : Nat) (l : List TestR) : Prop where
  sl : SlR w 6 ao n c (l.flatMap TestR.cells)
  ok : ∀ t ∈ l, t.Ok w
theorem TestsIn.kept {w w' : World} {ao : Option Addr} {n c : Nat} {l : List TestR} (h : TestsIn w ao n c l) (hb : Below w.heap.size w w') : TestsIn w' ao n c l :=
  ⟨h.sl.kept hb, fun t ht => (h.ok t ht).kept hb⟩
theorem TestsIn.len {w : World} {ao : Option Addr} {n c : Nat} {l : List TestR} (h : TestsIn w ao n c l) : l.length = n := by
  have := h.sl.1
  rw [rows_length testR_len] at this
  omega
theorem testS_size {t : TestR} {w : World} (h : t.Ok w) : (testS t).size ≤ 1000010 := by
  have h1 := atomS_size ⟨t.v, t.s⟩ h.v
  have h2 := listS_size t.list t.ln
  have h3 := relL_size t.rel
  have h4 := h.ln
  unfold testS
  split
  · rw [cat2_size]
    show _ + 3 ≤ _
    omega
  · split
    · omega
    · rw [cat2_size, cat2_size]
      show (relL t.rel).size + 1 + _ ≤ _
      omega
def nilT : TestR := ⟨0, ⟨#[]⟩, ⟨0, ⟨#[]⟩, 0⟩, none, 0, 0, []⟩
/-- The text of the first n tests in braces. -/
def bracesS (l : List TestR) : Nat → ByteArray
  | 0 => ⟨#[123]⟩
  | n + 1 => bracesS l n ++ ⟨#[32]⟩ ++ testS (l.getD n nilT)
def fieldS (l : List TestR) : ByteArray := if l.length = 1 then testS (l.getD 0 nilT) else bracesS l l.length ++ ⟨#[32, 125]⟩
theorem bracesS_size {w : World} {l : List TestR} (h : ∀ t ∈ l, t.Ok w) : ∀ n, n ≤ l.length → (bracesS l n).size ≤ 1 + n * 1000011
  | 0, _ => Nat.le_refl _
  | n + 1, hn => by
    have ih := bracesS_size h n (by omega)
    have ht : (testS (l.getD n nilT)).size ≤ 1000010 := by
      rw [List.getD_eq_getElem?_getD, List.getElem?_eq_getElem (by omega)]
      exact testS_size (h _ (List.getElem_mem _))
    unfold bracesS
    rw [cat2_size, cat2_size]
    show _ + 1 + _ ≤ _
    omega
end Go.Proofs.Ytgeaccoobhigcaa
