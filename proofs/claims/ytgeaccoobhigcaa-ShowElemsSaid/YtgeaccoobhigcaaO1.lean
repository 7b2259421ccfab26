/-
  Data as they come in: symbols, atoms, terms, elements, actions.
-/
import Derived.Test.YtgeaccoobhigcaaS8
import Derived.Deep.Slices
import Derived.Deep.Fields
import Derived.ChangeSame
import Derived.ProofKit
import Derived.OpenShut
namespace Go.Proofs.Ytgeaccoobhigcaa
open Go.RowKit Go.ChangeShapes Go.WideShapes Go.Deep

section
variable {H : Type} {enc : TypeId × Value → H} {W : World} {fuel : Nat} {cs : List Value} {x : DataW H × List MemPlace}
/-- A field: its type, where it begins. -/
def FieldAt (t k : Nat) (ty off : Nat) : Prop := ((Try.prog.fieldsOf t)[k]?).map (fun f => (f.type, f.offset)) = some (ty, off)
theorem open_field {t k ty off size : Nat} (he : Try.prog.underlying t = some (.struct (Try.prog.fieldsOf t))) (hf : FieldAt t k ty off) (hs : Try.prog.cellsOf ty = size)
    (h : DataW.trod enc Try.prog W 0 (fun _ => true) true fuel t cs = some x) : ∃ n y, n < fuel ∧ DataW.trod enc Try.prog W 0 (fun _ => true) true n ty ((cs.drop off).take size) = some y := by
  obtain ⟨ys, n, rfl, _, _, hyl, hfs⟩ := DataW.trod_struct he h
  obtain ⟨f, hf1, hf2⟩ := Option.map_eq_some_iff.1 hf
  simp only [Prod.mk.injEq] at hf2
  have hk : k < (Try.prog.fieldsOf t).size := (Array.getElem?_eq_some_iff.1 hf1).1
  have := hfs k f hf1
  rw [hf2.1, hf2.2, hs, List.getElem?_eq_getElem (by omega)] at this
  exact ⟨n, _, Nat.lt_succ_self n, this⟩
theorem struct_len {t : Nat} (he : Try.prog.underlying t = some (.struct (Try.prog.fieldsOf t))) {size : Nat} (hs : Try.prog.cellsOf t = size) (h : DataW.trod enc Try.prog W 0 (fun _ => true) true fuel t cs = some x) : cs.length = size := by
  obtain ⟨ys, n, _, _, hl, _, _⟩ := DataW.trod_struct he h
  rw [hl, hs]
theorem und63 : Try.prog.underlying 63 = some (.struct (Try.prog.fieldsOf 63)) := by kernel_rfl
theorem open_sym (h : DataW.trod enc Try.prog W 0 (fun _ => true) true fuel 63 cs = some x) : ∃ s : Sm, cs = s.cells ∧ s.t.size ≤ maxLen := by
  have hl := struct_len und63 (size := 3) (by kernel_rfl) h
  obtain ⟨n0, y0, _, h0⟩ := open_field und63 (k := 0) (ty := 3) (off := 0) (size := 1) (by unfold FieldAt; kernel_rfl) (by kernel_rfl) h
  obtain ⟨n1, y1, _, h1⟩ := open_field und63 (k := 1) (ty := 9) (off := 1) (size := 1) (by unfold FieldAt; kernel_rfl) (by kernel_rfl) h
  obtain ⟨n2, y2, _, h2⟩ := open_field und63 (k := 2) (ty := 3) (off := 2) (size := 1) (by unfold FieldAt; kernel_rfl) (by kernel_rfl) h
  obtain ⟨a, e0, _⟩ := DataW.trod_int Try.underlying3 h0
  obtain ⟨b, e1, _, hb⟩ := DataW.trod_string Try.underlying9 h1
  obtain ⟨c, e2, _⟩ := DataW.trod_int Try.underlying3 h2
  match cs, hl with
  | [u0, u1, u2], _ =>
    simp only [List.drop_zero, List.take_succ_cons, List.take_zero, List.drop_succ_cons, List.cons.injEq, and_true] at e0 e1 e2
    subst e0 e1 e2
    exact ⟨⟨a, b, c⟩, rfl, hb⟩
theorem segs {n : Nat} (a : Nat) (h : a + n = cs.length) : cs = cs.take a ++ (cs.drop a).take n := by
  conv => lhs; rw [← List.take_append_drop a cs]
  rw [List.take_of_length_le (l := cs.drop a) (by rw [List.length_drop]; omega)]
theorem und65 : Try.prog.underlying 65 = some (.struct (Try.prog.fieldsOf 65)) := by kernel_rfl
theorem open_atom (h : DataW.trod enc Try.prog W 0 (fun _ => true) true fuel 65 cs = some x) : ∃ a : Am, cs = a.cells ∧ a.v.size ≤ maxLen ∧ a.s.t.size ≤ maxLen := by
  have hl := struct_len und65 (size := 4) (by kernel_rfl) h
  obtain ⟨n0, y0, _, h0⟩ := open_field und65 (k := 0) (ty := 9) (off := 0) (size := 1) (by unfold FieldAt; kernel_rfl) (by kernel_rfl) h
  obtain ⟨n1, y1, _, h1⟩ := open_field und65 (k := 1) (ty := 63) (off := 1) (size := 3) (by unfold FieldAt; kernel_rfl) (by kernel_rfl) h
  obtain ⟨v, e0, _, hv⟩ := DataW.trod_string Try.underlying9 h0
  obtain ⟨s, e1, hs⟩ := open_sym h1
  have e := segs (cs := cs) (n := 3) 1 (by omega)
  rw [List.drop_zero] at e0
  rw [e0, e1] at e
  exact ⟨⟨v, s⟩, e, hv, hs⟩
theorem seg (a b : Nat) : cs.drop a = (cs.drop a).take b ++ cs.drop (a + b) := by
  rw [← List.drop_drop]
  exact (List.take_append_drop _ _).symm
theorem und67 : Try.prog.underlying 67 = some (.struct (Try.prog.fieldsOf 67)) := by kernel_rfl
theorem open_term (h : DataW.trod enc Try.prog W 0 (fun _ => true) true fuel 67 cs = some x) : ∃ t : Tm, cs = t.cells ∧ (t.a.v.size ≤ maxLen ∧ t.a.s.t.size ≤ maxLen) ∧ t.b.v.size ≤ maxLen ∧ t.b.s.t.size ≤ maxLen := by
  have hl := struct_len und67 (size := 9) (by kernel_rfl) h
  obtain ⟨n0, y0, _, h0⟩ := open_field und67 (k := 0) (ty := 3) (off := 0) (size := 1) (by unfold FieldAt; kernel_rfl) (by kernel_rfl) h
  obtain ⟨n1, y1, _, h1⟩ := open_field und67 (k := 1) (ty := 65) (off := 1) (size := 4) (by unfold FieldAt; kernel_rfl) (by kernel_rfl) h
  obtain ⟨n2, y2, _, h2⟩ := open_field und67 (k := 2) (ty := 65) (off := 5) (size := 4) (by unfold FieldAt; kernel_rfl) (by kernel_rfl) h
  obtain ⟨op, e0, _⟩ := DataW.trod_int Try.underlying3 h0
  obtain ⟨a, e1, z1⟩ := open_atom h1
  obtain ⟨b, e2, z2⟩ := open_atom h2
  have s0 := seg (cs := cs) 0 1
  rw [e0] at s0
  have s1 := seg (cs := cs) 1 4
  rw [e1] at s1
  have s2 := seg (cs := cs) 5 4
  rw [e2] at s2
  have sl : cs.drop 9 = [] := List.drop_eq_nil_of_le (by omega)
  rw [List.drop_zero] at s0
  simp only [Nat.reduceAdd] at s0 s1 s2
  rw [s1, s2, sl] at s0
  exact ⟨⟨op, a, b⟩, by rw [s0]; simp [Tm.cells], z1, z2⟩
theorem und69 : Try.prog.underlying 69 = some (.struct (Try.prog.fieldsOf 69)) := by kernel_rfl
theorem open_act (h : DataW.trod enc Try.prog W 0 (fun _ => true) true fuel 69 cs = some x) : ∃ a : Ac, cs = a.cells ∧ a.id.size ≤ maxLen ∧ (a.attr.v.size ≤ maxLen ∧ a.attr.s.t.size ≤ maxLen) ∧ ((a.value.a.v.size ≤ maxLen ∧ a.value.a.s.t.size ≤ maxLen) ∧ a.value.b.v.size ≤ maxLen ∧ a.value.b.s.t.size ≤ maxLen) ∧ a.other.v.size ≤ maxLen ∧ a.other.s.t.size ≤ maxLen := by
  have hl := struct_len und69 (size := 19) (by kernel_rfl) h
  obtain ⟨n0, y0, _, h0⟩ := open_field und69 (k := 0) (ty := 9) (off := 0) (size := 1) (by unfold FieldAt; kernel_rfl) (by kernel_rfl) h
  obtain ⟨n1, y1, _, h1⟩ := open_field und69 (k := 1) (ty := 65) (off := 1) (size := 4) (by unfold FieldAt; kernel_rfl) (by kernel_rfl) h
  obtain ⟨n2, y2, _, h2⟩ := open_field und69 (k := 2) (ty := 67) (off := 5) (size := 9) (by unfold FieldAt; kernel_rfl) (by kernel_rfl) h
  obtain ⟨n3, y3, _, h3⟩ := open_field und69 (k := 3) (ty := 3) (off := 14) (size := 1) (by unfold FieldAt; kernel_rfl) (by kernel_rfl) h
  obtain ⟨n4, y4, _, h4⟩ := open_field und69 (k := 4) (ty := 65) (off := 15) (size := 4) (by unfold FieldAt; kernel_rfl) (by kernel_rfl) h
  obtain ⟨id, e0, _, z0⟩ := DataW.trod_string Try.underlying9 h0
  obtain ⟨a, e1, z1⟩ := open_atom h1
  obtain ⟨v, e2, z2⟩ := open_term h2
  obtain ⟨pref, e3, _⟩ := DataW.trod_int Try.underlying3 h3
  obtain ⟨o, e4, z4⟩ := open_atom h4
  have s0 := seg (cs := cs) 0 1
  rw [e0] at s0
  have s1 := seg (cs := cs) 1 4
  rw [e1] at s1
  have s2 := seg (cs := cs) 5 9
  rw [e2] at s2
  have s3 := seg (cs := cs) 14 1
  rw [e3] at s3
  have s4 := seg (cs := cs) 15 4
  rw [e4] at s4
  have sl : cs.drop 19 = [] := List.drop_eq_nil_of_le (by omega)
  rw [List.drop_zero] at s0
  simp only [Nat.reduceAdd] at s0 s1 s2 s3 s4
  rw [s1, s2, s3, s4, sl] at s0
  exact ⟨⟨id, a, v, pref, o⟩, by rw [s0]; simp [Ac.cells], z0, z1, z2, z4⟩
theorem und74 : Try.prog.underlying 74 = some (.struct (Try.prog.fieldsOf 74)) := by kernel_rfl
theorem open_elem (h : DataW.trod enc Try.prog W 0 (fun _ => true) true fuel 74 cs = some x) : ∃ e : El, cs = e.cells ∧ e.i.t.size ≤ maxLen ∧ e.a.t.size ≤ maxLen ∧ e.v.t.size ≤ maxLen := by
  have hl := struct_len und74 (size := 12) (by kernel_rfl) h
  obtain ⟨n0, y0, _, h0⟩ := open_field und74 (k := 0) (ty := 63) (off := 0) (size := 3) (by unfold FieldAt; kernel_rfl) (by kernel_rfl) h
  obtain ⟨n1, y1, _, h1⟩ := open_field und74 (k := 1) (ty := 63) (off := 3) (size := 3) (by unfold FieldAt; kernel_rfl) (by kernel_rfl) h
  obtain ⟨n2, y2, _, h2⟩ := open_field und74 (k := 2) (ty := 63) (off := 6) (size := 3) (by unfold FieldAt; kernel_rfl) (by kernel_rfl) h
  obtain ⟨n3, y3, _, h3⟩ := open_field und74 (k := 3) (ty := 4) (off := 9) (size := 1) (by unfold FieldAt; kernel_rfl) (by kernel_rfl) h
  obtain ⟨n4, y4, _, h4⟩ := open_field und74 (k := 4) (ty := 4) (off := 10) (size := 1) (by unfold FieldAt; kernel_rfl) (by kernel_rfl) h
  obtain ⟨n5, y5, _, h5⟩ := open_field und74 (k := 5) (ty := 3) (off := 11) (size := 1) (by unfold FieldAt; kernel_rfl) (by kernel_rfl) h
  obtain ⟨i, e0, z0⟩ := open_sym h0
  obtain ⟨a, e1, z1⟩ := open_sym h1
  obtain ⟨v, e2, z2⟩ := open_sym h2
  obtain ⟨acc, e3, _⟩ := DataW.trod_bool Try.underlying4 h3
  obtain ⟨goal, e4, _⟩ := DataW.trod_bool Try.underlying4 h4
  obtain ⟨tag, e5, _⟩ := DataW.trod_int Try.underlying3 h5
  have s0 := seg (cs := cs) 0 3
  rw [e0] at s0
  have s1 := seg (cs := cs) 3 3
  rw [e1] at s1
  have s2 := seg (cs := cs) 6 3
  rw [e2] at s2
  have s3 := seg (cs := cs) 9 1
  rw [e3] at s3
  have s4 := seg (cs := cs) 10 1
  rw [e4] at s4
  have s5 := seg (cs := cs) 11 1
  rw [e5] at s5
  have sl : cs.drop 12 = [] := List.drop_eq_nil_of_le (by omega)
  rw [List.drop_zero] at s0
  simp only [Nat.reduceAdd] at s0 s1 s2 s3 s4 s5
  rw [s1, s2, s3, s4, s5, sl] at s0
  exact ⟨⟨i, a, v, acc, goal, tag⟩, by rw [s0]; simp [El.cells], z0, z1, z2⟩
end
end Go.Proofs.Ytgeaccoobhigcaa
