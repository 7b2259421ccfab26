/-
  The calls of RowPlays as they come in: a slice of structs with a slice of ints in each.
-/
import Derived.Test.YtkogdiglpncolaaPs
import Derived.Deep.Slices
import Derived.Deep.Fields
import Derived.ChangeSame
import Derived.ProofKit
import Derived.OpenShut
namespace Go.Proofs.Ytkogdiglpncolaa
open Go.RowKit Go.ChangeShapes Go.WideShapes Go.Deep

section
variable {H : Type} {enc : TypeId × Value → H} {P : Program} {w : World} {base : Nat} {spare : Nat → Bool} {held : Bool}
theorem open_slice_fields {t e : TypeId} {fs : Array Field} {fuel : Nat} {cs : List Value} {x : DataW H × List MemPlace} (ht : P.underlying t = some (.slice e)) (he : P.underlying e = some (.struct fs))
    (hone : oneCellFields P fs = true) (hC : P.cellsOf e = fs.size) (h : DataW.trod enc P w base spare held fuel t cs = some x) :
    (cs = [.slice none 0 0] ∧ x = (.nil, [])) ∨
    ∃ (a : Addr) (len cap m : Nat) (D : Nat → DataW H) (Pl : Nat → List MemPlace), cs = [.slice (some a) len cap] ∧ base ≤ a.block ∧ len ≤ cap ∧ cap ≤ maxLen ∧ m = (if spare a.block then cap else len) ∧
      x = (.slice ((List.range len).map D) ((List.range (m - len)).map fun j => D (len + j)), MemPlace.row a (m * fs.size) ++ (List.range m).flatMap Pl) ∧
      ∀ i, i < m → ∃ (ys : List (DataW H × List MemPlace)) (n : Nat), D i = .agg (ys.map (·.1)) ∧ Pl i = ys.flatMap (·.2) ∧ ys.length = fs.size ∧
        ∀ (j : Nat) (f : Field), fs[j]? = some f → ∃ (v : Value) (y : DataW H × List MemPlace), w.cell? (a.add (i * fs.size + j)) = some v ∧ ys[j]? = some y ∧ DataW.trod enc P w base spare held n f.type [v] = some y := by
  rcases open_slice ht h with h0 | ⟨a, len, cap, m, n, D, Pl, hcs, hb, hl, hm, hmm, hx, hi⟩
  · exact .inl h0
  · refine .inr ⟨a, len, cap, m, D, Pl, hcs, hb, hl, hm, hmm, by rw [hC] at hx; exact hx, fun i him => ?_⟩
    obtain ⟨cs', hc, ht'⟩ := hi i him
    rw [hC] at hc
    obtain ⟨ys, n', hn', hy, hlen, hyl, hf⟩ := DataW.trod_struct he ht'
    obtain ⟨_, hcl, hat⟩ := World.cells?_some hc
    simp only [Prod.mk.injEq] at hy
    refine ⟨ys, n', hy.1, hy.2, hyl, fun j f hj => ?_⟩
    obtain ⟨ho, hk⟩ := hone_of hone j f hj
    have hjl : j < fs.size := (Array.getElem?_eq_some_iff.1 hj).1
    have hcell := hat j hjl
    have hv : cs'[j]? = some (cs'[j]'(by omega)) := List.getElem?_eq_getElem (by omega)
    have h1 := hf j f hj
    rw [ho, hk] at h1
    have hone' : (cs'.drop j).take 1 = [cs'[j]'(by omega)] := by
      rw [List.drop_eq_getElem_cons (by omega)]
      rfl
    rw [hone'] at h1
    have hys : ys[j]? = some (ys[j]'(by omega)) := List.getElem?_eq_getElem (by omega)
    refine ⟨_, _, ?_, hys, h1.trans hys⟩
    rw [← Go.Deep.add_add, hcell, hv]
end

theorem list_of_each {α : Type} {P : Nat → α → Prop} : ∀ n : Nat, (∀ i, i < n → ∃ a, P i a) → ∃ l : List α, l.length = n ∧ ∀ i a, l[i]? = some a → P i a
  | 0, _ => ⟨[], rfl, fun i a h => by simp at h⟩
  | n + 1, h => by
    obtain ⟨l, hl, hp⟩ := list_of_each n (fun i hi => h i (by omega))
    obtain ⟨a, ha⟩ := h n (by omega)
    refine ⟨l ++ [a], by simp [hl], fun i b hb => ?_⟩
    by_cases hi : i < n
    · rw [List.getElem?_append_left (by omega)] at hb
      exact hp i b hb
    · have hi' := (List.getElem?_eq_some_iff.1 hb).1
      simp only [List.length_append, List.length_cons, List.length_nil] at hi'
      obtain rfl : i = n := by omega
      rw [List.getElem?_append_right (by omega), hl, Nat.sub_self] at hb
      simp at hb
      subst hb
      exact ha

theorem acts_open {H : Type} {enc : TypeId × Value → H} {W : World} {fuel : Nat} {ao : Option Addr} {len cap : Nat} {x : DataW H × List MemPlace}
    (h : DataW.trod enc Try.prog W 0 (fun _ => true) true fuel 48 [.slice ao len cap] = some x) : ∃ acts, Acts W ao len cap acts := by
  have he : Try.prog.underlying 52 = some (.struct (Try.prog.fieldsOf 52)) := by kernel_rfl
  have hone : oneCellFields Try.prog (Try.prog.fieldsOf 52) = true := by kernel_rfl
  have hC : Try.prog.cellsOf 52 = (Try.prog.fieldsOf 52).size := by kernel_rfl
  have hz : (Try.prog.fieldsOf 52).size = 3 := by kernel_rfl
  have h0 : (Try.prog.fieldsOf 52)[0]?.map (·.type) = some 3 := by kernel_rfl
  have h1 : (Try.prog.fieldsOf 52)[1]?.map (·.type) = some 3 := by kernel_rfl
  have h2 : (Try.prog.fieldsOf 52)[2]?.map (·.type) = some 22 := by kernel_rfl
  obtain ⟨f0, hf0, t0⟩ := Option.map_eq_some_iff.1 h0
  obtain ⟨f1, hf1, t1⟩ := Option.map_eq_some_iff.1 h1
  obtain ⟨f2, hf2, t2⟩ := Option.map_eq_some_iff.1 h2
  rcases open_slice_fields Try.underlying48 he hone hC h with ⟨hcs, _⟩ | ⟨a, len', cap', m, D, Pl, hcs, _, hl, hm, hmm, _, hi⟩
  · simp at hcs
    obtain ⟨rfl, rfl, rfl⟩ := hcs
    exact ⟨[], SlR.nil _ _, by simp⟩
  · simp only [List.cons.injEq, Value.slice.injEq, and_true] at hcs
    obtain ⟨rfl, rfl, rfl⟩ := hcs
    rw [if_pos rfl] at hmm
    subst hmm
    rw [hz] at hi
    obtain ⟨l, hll, hlp⟩ := list_of_each (P := fun i (t : ActR) => W.cell? (a.add (i * 3 + 0)) = some (.int .i64 t.d) ∧ W.cell? (a.add (i * 3 + 1)) = some (.int .i64 t.n) ∧ W.cell? (a.add (i * 3 + 2)) = some (.slice t.la t.ln t.lc) ∧ IntSl W t.la t.ln t.lc t.xs) len (fun i hil => by
      obtain ⟨ys, n, _, _, _, hf⟩ := hi i (by omega)
      obtain ⟨v0, y0, c0, _, r0⟩ := hf 0 f0 hf0
      obtain ⟨v1, y1, c1, _, r1⟩ := hf 1 f1 hf1
      obtain ⟨v2, y2, c2, _, r2⟩ := hf 2 f2 hf2
      rw [t0] at r0
      rw [t1] at r1
      rw [t2] at r2
      obtain ⟨n0, e0, _⟩ := DataW.trod_int Try.underlying3 r0
      obtain ⟨n1, e1, _⟩ := DataW.trod_int Try.underlying3 r1
      simp only [List.cons.injEq, and_true] at e0 e1
      subst e0
      subst e1
      rcases open_ints Try.underlying22 Try.underlying3 (by kernel_rfl) r2 with ⟨hcs, _⟩ | ⟨x, l, c, zs, hcs, _, hl, hm, hz, _, hcell, _⟩
      · simp only [List.cons.injEq, and_true] at hcs
        subst hcs
        exact ⟨⟨n0, n1, none, 0, 0, []⟩, c0, c1, c2, SlR.nil _ _⟩
      · simp only [List.cons.injEq, and_true] at hcs
        subst hcs
        exact ⟨⟨n0, n1, some x, l, c, zs.take l⟩, c0, c1, c2, IntSl.of_cells hl hm (by simpa using hz) hcell⟩)
    refine ⟨l, ⟨by rw [acts_length, hll], hl, hm, by simp, fun a' ha' j u hj => ?_⟩, fun t ht => ?_⟩
    · cases ha'
      have hjl := (List.getElem?_eq_some_iff.1 hj).1
      rw [acts_length] at hjl
      have hil : j / 3 < l.length := by omega
      obtain ⟨p0, p1, p2, _⟩ := hlp (j / 3) l[j / 3] (List.getElem?_eq_getElem hil)
      obtain ⟨q0, q1, q2⟩ := acts_at (List.getElem?_eq_getElem hil)
      rcases (show j = j / 3 * 3 + 0 ∨ j = j / 3 * 3 + 1 ∨ j = j / 3 * 3 + 2 by omega) with e | e | e
      · rw [e, Nat.add_zero, q0] at hj; injection hj with hj; rw [e, p0, hj]
      · rw [e, q1] at hj; injection hj with hj; rw [e, p1, hj]
      · rw [e, q2] at hj; injection hj with hj; rw [e, p2, hj]
    · obtain ⟨i, hil, ht⟩ := List.getElem_of_mem ht
      exact (hlp i t (by rw [List.getElem?_eq_getElem hil, ht])).2.2.2
end Go.Proofs.Ytkogdiglpncolaa
