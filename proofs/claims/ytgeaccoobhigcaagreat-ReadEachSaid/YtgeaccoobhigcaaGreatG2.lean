/-
  The texts of tests. Slices of wide elements; the texts of fields. Conditions, as they lie in memory; their texts. show.Cond. Parts of productions: which may be. Symbols, atoms, terms. Parts of productions: which may be. Atoms. Parts of productions: which may be. Terms and actions, as shape asks. Parts of productions: which may be. Actions, as shape asks and as the document does. Whole elements, of any number of cells: loaded, and stored into what is new.
-/
import Derived.Test.YtgeaccoobhigcaaGreatG1
import Derived.Laws.Rows
import Derived.Laws.Tables
namespace Go.Proofs.YtgeaccoobhigcaaGreat
open Go Go.RowKit
/-- Symbols in a slice. -/
def symsC (l : List Sm) : List Value := l.flatMap Sm.cells
theorem symsC_length (l : List Sm) : (symsC l).length = l.length * 3 := by
  induction l with
  | nil => rfl
  | cons x r ih => simp only [symsC, List.flatMap_cons, List.length_append, List.length_cons] at ih ⊢; rw [ih]; simp [Sm.cells]; omega
theorem symsC_at {l : List Sm} {k : Nat} {t : Sm} (h : l[k]? = some t) : (symsC l)[k * 3]? = some (.int .i64 t.k) ∧ (symsC l)[k * 3 + 1]? = some (.string t.t) ∧ (symsC l)[k * 3 + 2]? = some (.int .i64 t.n) := by
  have hk : k < l.length := (List.getElem?_eq_some_iff.1 h).1
  have e : symsC l = symsC (l.take k) ++ (t.cells ++ symsC (l.drop (k + 1))) := by
    have h1 : l = l.take k ++ t :: l.drop (k + 1) := by
      obtain ⟨h3, h4⟩ := List.getElem?_eq_some_iff.1 h
      rw [← h4, ← List.drop_eq_getElem_cons h3, List.take_append_drop]
    conv => lhs; rw [h1]
    simp [symsC]
  have hl : (symsC (l.take k)).length = k * 3 := by rw [symsC_length, List.length_take, Nat.min_eq_left (by omega)]
  rw [e]
  refine ⟨?_, ?_, ?_⟩
  · rw [List.getElem?_append_right (by omega), hl, Nat.sub_self]; rfl
  · rw [List.getElem?_append_right (by omega), hl, show k * 3 + 1 - k * 3 = 1 by omega]; rfl
  · rw [List.getElem?_append_right (by omega), hl, show k * 3 + 2 - k * 3 = 2 by omega]; rfl
theorem SlR.sym {w : World} {ao : Option Addr} {n c : Nat} {l : List Sm} {k : Nat} {t : Sm} (h : SlR w 3 ao n c (symsC l)) (hk : l[k]? = some t) :
    ∃ g o, ao = some ⟨g, o, none⟩ ∧ w.cell? ⟨g, o + k * 3, none⟩ = some (.int .i64 t.k) ∧ w.cell? ⟨g, o + k * 3 + 1, none⟩ = some (.string t.t) ∧ w.cell? ⟨g, o + k * 3 + 2, none⟩ = some (.int .i64 t.n) := by
  obtain ⟨h0, h1, h2⟩ := symsC_at hk
  have hkl : k < l.length := (List.getElem?_eq_some_iff.1 hk).1
  have hl := h.1
  rw [symsC_length] at hl
  cases ao with
  | none => have := h.2.2.2.1 rfl; have := h.2.1; omega
  | some a =>
    have ha := h.2.2.2.2 a rfl
    have c0 := ha _ _ h0
    have hs : a.spot = none := by
      have hl0 : 0 < (symsC l).length := by rw [symsC_length]; omega
      have h00 := ha 0 _ (List.getElem?_eq_getElem hl0)
      rw [addr_add_zero] at h00
      exact World.cell?_spot h00
    obtain ⟨g, o, sp⟩ := a
    simp only at hs
    subst hs
    have c1 := ha _ _ h1
    have c2 := ha _ _ h2
    rw [addr_add_lit] at c0 c1 c2
    exact ⟨g, o, rfl, c0, by rw [Nat.add_assoc]; exact c1, by rw [Nat.add_assoc]; exact c2⟩
/-- A test, with where its list lies. -/
structure TestR where
  rel : Int
  v : ByteArray
  s : Sm
  la : Option Addr
  ln : Nat
  lc : Nat
  list : List Sm
def TestR.cells (t : TestR) : List Value := [.int .i64 t.rel, .string t.v, .int .i64 t.s.k, .string t.s.t, .int .i64 t.s.n, .slice t.la t.ln t.lc]
def TestR.val (t : TestR) : Value := .agg #[.int .i64 t.rel, .string t.v, .int .i64 t.s.k, .string t.s.t, .int .i64 t.s.n, .slice t.la t.ln t.lc]
end Go.Proofs.YtgeaccoobhigcaaGreat
namespace Go.Proofs.YtgeaccoobhigcaaGreat
open Go Go.RowKit
section
variable {α : Type} {f : α → List Value} {m : Nat}
theorem rows_length (hf : ∀ x, (f x).length = m) (l : List α) : (l.flatMap f).length = l.length * m := by
  induction l with
  | nil => simp
  | cons x r ih => rw [List.flatMap_cons, List.length_append, ih, hf, List.length_cons, Nat.add_mul]; omega
theorem rows_at (hf : ∀ x, (f x).length = m) {l : List α} {k j : Nat} {t : α} {u : Value} (h : l[k]? = some t) (hj : (f t)[j]? = some u) : (l.flatMap f)[k * m + j]? = some u := by
  have hk : k < l.length := (List.getElem?_eq_some_iff.1 h).1
  have hjl : j < (f t).length := (List.getElem?_eq_some_iff.1 hj).1
  have e : l.flatMap f = (l.take k).flatMap f ++ (f t ++ (l.drop (k + 1)).flatMap f) := by
    have h1 : l = l.take k ++ t :: l.drop (k + 1) := by
      obtain ⟨h3, h4⟩ := List.getElem?_eq_some_iff.1 h
      rw [← h4, ← List.drop_eq_getElem_cons h3, List.take_append_drop]
    conv => lhs; rw [h1]
    simp
  have hl : ((l.take k).flatMap f).length = k * m := by rw [rows_length hf, List.length_take, Nat.min_eq_left (by omega)]
  rw [e, List.getElem?_append_right (by omega), hl, Nat.add_sub_cancel_left, List.getElem?_append_left hjl]
  exact hj
theorem SlR.row_at (hf : ∀ x, (f x).length = m) {w : World} {ao : Option Addr} {n c : Nat} {l : List α} {k : Nat} {t : α} (hm : 0 < m) (h : SlR w m ao n c (l.flatMap f)) (hk : l[k]? = some t) :
    ∃ g o, ao = some ⟨g, o, none⟩ ∧ ∀ j u, (f t)[j]? = some u → w.cell? ⟨g, o + k * m + j, none⟩ = some u := by
  have hkl : k < l.length := (List.getElem?_eq_some_iff.1 hk).1
  have hl := h.1
  rw [rows_length hf] at hl
  have hn : 0 < n := by
    rcases Nat.eq_zero_or_pos n with h0 | h0
    · subst h0
      rw [Nat.zero_mul] at hl
      have := Nat.mul_pos (show 0 < l.length by omega) hm
      omega
    · exact h0
  cases ao with
  | none => have := h.2.2.2.1 rfl; have := h.2.1; omega
  | some a =>
    have ha := h.2.2.2.2 a rfl
    have hs : a.spot = none := by
      have hl0 : 0 < (l.flatMap f).length := by rw [rows_length hf]; exact Nat.mul_pos (by omega) hm
      have h00 := ha 0 _ (List.getElem?_eq_getElem hl0)
      rw [addr_add_zero] at h00
      exact World.cell?_spot h00
    obtain ⟨g, o, sp⟩ := a
    simp only at hs
    subst hs
    refine ⟨g, o, rfl, fun j u hj => ?_⟩
    have := ha _ _ (rows_at hf hk hj)
    rw [addr_add_lit] at this
    rw [Nat.add_assoc]
    exact this
end
theorem testR_len (t : TestR) : t.cells.length = 6 := rfl
end Go.Proofs.YtgeaccoobhigcaaGreat
namespace Go.Proofs.YtgeaccoobhigcaaGreat
open Go Go.RowKit
/-- A condition, with where its parts lie. -/
inductive CondR where
  | mk (kind : Int) (goal : Bool) (id : ByteArray) (aa : Option Addr) (an ac : Nat) (attr : List TestR) (va : Option Addr) (vn vc : Nat) (value : List TestR) (acc : Bool) (ca : Option Addr) (cn cc : Nat) (conds : List CondR)
def CondR.cells : CondR → List Value
  | .mk kind goal id aa an ac _ va vn vc _ acc ca cn cc _ => [.int .i64 kind, .bool goal, .string id, .slice aa an ac, .slice va vn vc, .bool acc, .slice ca cn cc]
def CondR.val : CondR → Value
  | .mk kind goal id aa an ac _ va vn vc _ acc ca cn cc _ => .agg #[.int .i64 kind, .bool goal, .string id, .slice aa an ac, .slice va vn vc, .bool acc, .slice ca cn cc]
theorem condR_len (c : CondR) : c.cells.length = 7 := by cases c; rfl
mutual
/-- How many conditions there are. -/
def condN : CondR → Nat
  | .mk _ _ _ _ _ _ _ _ _ _ _ _ _ _ _ conds => 1 + condsN conds
def condsN : List CondR → Nat
  | [] => 0
  | c :: r => condN c + condsN r
end
end Go.Proofs.YtgeaccoobhigcaaGreat
namespace Go.Proofs.YtgeaccoobhigcaaGreat
open Go Go.RowKit
theorem condsN_take : ∀ (l : List CondR) (i : Nat), condsN (l.take i) ≤ condsN l
  | [], i => by simp
  | x :: r, 0 => by simp [condsN]
  | x :: r, i + 1 => by
    have := condsN_take r i
    simp only [List.take_succ_cons, condsN]
    omega
theorem seven_cells {W : World} {g o : Nat} {a0 a1 a2 a3 a4 a5 a6 : Value} (h : ∀ j u, [a0, a1, a2, a3, a4, a5, a6][j]? = some u → W.cell? ⟨g, o + j, none⟩ = some u) :
    W.cell? ⟨g, o, none⟩ = some a0 ∧ W.cell? ⟨g, o + 1, none⟩ = some a1 ∧ W.cell? ⟨g, o + 2, none⟩ = some a2 ∧ W.cell? ⟨g, o + 3, none⟩ = some a3 ∧ W.cell? ⟨g, o + 4, none⟩ = some a4 ∧ W.cell? ⟨g, o + 5, none⟩ = some a5 ∧ W.cell? ⟨g, o + 6, none⟩ = some a6 :=
  ⟨h 0 _ rfl, h 1 _ rfl, h 2 _ rfl, h 3 _ rfl, h 4 _ rfl, h 5 _ rfl, h 6 _ rfl⟩
end Go.Proofs.YtgeaccoobhigcaaGreat
namespace Go.Proofs.YtgeaccoobhigcaaGreat
open Go Go.RowKit
theorem bcell {W w1 : World} (hb : Below W.heap.size W w1) : (∀ b o, b < W.heap.size → w1.cell? ⟨b, o, none⟩ = W.cell? ⟨b, o, none⟩) ∧ (∀ b o, b < W.heap.size → w1.frozen? ⟨b, o, none⟩ = W.frozen? ⟨b, o, none⟩) ∧ W.heap.size ≤ w1.heap.size :=
  ⟨fun b o h => hb.cell (p := ⟨b, o, none⟩) h, fun b o h => hb.frozen (p := ⟨b, o, none⟩) h, hb.size⟩
theorem bkeep {W w1 : World} (hb : Below W.heap.size W w1) {n : Nat} (hn : n < W.heap.size) : (∀ o, w1.cell? ⟨n, o, none⟩ = W.cell? ⟨n, o, none⟩) ∧ n < w1.heap.size :=
  ⟨fun o => hb.cell (p := ⟨n, o, none⟩) hn, Nat.lt_of_lt_of_le hn hb.size⟩
theorem below_trans {a b c : World} (h : Below a.heap.size a b) (k : Below b.heap.size b c) : Below a.heap.size a c := h.trans (k.mono h.size)
theorem below_new (w : World) (o : Obj) : Below w.heap.size w (w.alloc o) := (Below.refl _ w).alloc (Nat.le_refl _) _
theorem toList_nil {t : ByteArray} : t.toList = [] ↔ t.size = 0 := by
  rw [ByteArray.toList_eq]
  constructor
  · intro h; rw [← size_toList, h]; rfl
  · intro h; exact List.eq_nil_of_length_eq_zero (by rw [size_toList]; exact h)
def noneB (s : Sm) : Bool := decide (s.k = 0) && decide (s.t.size = 0) && decide (s.n = 0)
def constB (s : Sm) : Bool := decide (s.k ≠ 1) && validB s
def atomB (a : Am) : Bool := if a.v.size = 0 then constB a.s else wordB a.v.data.toList && noneB a.s
def emptyB (a : Am) : Bool := decide (a.v.size = 0) && noneB a.s
def strB (a : Am) : Bool := decide (a.v.size = 0) && decide (a.s.k = 3)
def termB (t : Tm) : Bool := decide (0 ≤ t.op ∧ t.op ≤ 3) && atomB t.a && (if t.op = 0 then emptyB t.b else atomB t.b && !strB t.a && !strB t.b)
def actB (a : Ac) : Bool := wordB a.id.data.toList && atomB a.attr && termB a.value && decide (1 ≤ a.pref ∧ a.pref ≤ 10) && (if 8 ≤ a.pref then atomB a.other else emptyB a.other)
theorem none_any (s : Sm) (w : World) : Calls Tryz.prog 101 #[s.val] w fun e w' => e = .returned (.bool (noneB s)) ∧ Below w.heap.size w w' := by
  obtain ⟨k, t, n⟩ := s
  unfold Sm.val
  simp only
  go_enter Tryz.func101, Tryz.ntmps101
  go_wp2
  all_goals
    go_ret
    refine ⟨ret_bool ?_, below_new _ _⟩
    simp_all [noneB, toList_nil]
theorem constant_any (s : Sm) (hs : s.t.size ≤ 9223372036854775807) (w : World) : Calls Tryz.prog 102 #[s.val] w fun e w' => e = .returned (.bool (constB s)) ∧ Below w.heap.size w w' := by
  have hv := fun w => valid_any s hs w
  obtain ⟨k, t, n⟩ := s
  unfold constB
  generalize validB ⟨k, t, n⟩ = V at hv ⊢
  unfold Sm.val at hv ⊢
  simp only at hv ⊢
  have HV := Lib.hid hv
  have acc := below_new w (.cells #[.int .i64 k, .string t, .int .i64 n] 45)
  clear hv
  by_cases h1 : k = 1
  · have e1 : (k != 1) = false := by simp [h1]
    have HR : Hid ((decide (k ≠ 1) && V) = false) := Lib.hid (by simp [h1])
    rw [HR.out]
    clear h1
    go_enter Tryz.func102, Tryz.ntmps102
    go_wp2
    go_ret
    exact ⟨rfl, acc⟩
  · have e1 : (k != 1) = true := by simp [h1]
    have HR : Hid ((decide (k ≠ 1) && V) = V) := Lib.hid (by simp [h1])
    rw [HR.out]
    clear h1
    go_enter Tryz.func102, Tryz.ntmps102
    go_wp2_with (go_at_call 115; refine (HV.out _).mono ?_; rintro e w2 ⟨rfl, b2⟩; have acc := below_trans acc b2; obtain ⟨hc, hf, hz⟩ := bcell b2)
    go_ret
    exact ⟨rfl, acc⟩
theorem const_any (s : Sm) (hs : s.t.size ≤ 9223372036854775807) (w : World) : Calls Tryz.prog 91 #[s.val] w fun e w' => e = .returned (.bool (constB s)) ∧ Below w.heap.size w w' := by
  have hv := fun w => rvalid_any s hs w
  obtain ⟨k, t, n⟩ := s
  unfold constB
  generalize validB ⟨k, t, n⟩ = V at hv ⊢
  unfold Sm.val at hv ⊢
  simp only at hv ⊢
  have HV := Lib.hid hv
  have acc := below_new w (.cells #[.int .i64 k, .string t, .int .i64 n] 45)
  clear hv
  rcases V with _ | _
  · have HR : Hid ((decide (k ≠ 1) && false) = false) := Lib.hid (by simp)
    rw [HR.out]
    go_enter Tryz.func91, Tryz.ntmps91
    go_wp2_with (go_at_call 109; refine (HV.out _).mono ?_; rintro e w2 ⟨rfl, b2⟩; have acc := below_trans acc b2; obtain ⟨hc, hf, hz⟩ := bcell b2)
    go_ret
    exact ⟨rfl, acc⟩
  · have HR : Hid ((decide (k ≠ 1) && true) = decide (k ≠ 1)) := Lib.hid (by simp)
    rw [HR.out]
    by_cases h1 : k = 1
    · have e1 : (k != 1) = false := by simp [h1]
      have HR : Hid (decide (k ≠ 1) = false) := Lib.hid (by simp [h1])
      rw [HR.out]
      clear h1
      go_enter Tryz.func91, Tryz.ntmps91
      go_wp2_with (go_at_call 109; refine (HV.out _).mono ?_; rintro e w2 ⟨rfl, b2⟩; have acc := below_trans acc b2; obtain ⟨hc, hf, hz⟩ := bcell b2)
      go_ret
      exact ⟨rfl, acc⟩
    · have e1 : (k != 1) = true := by simp [h1]
      have HR : Hid (decide (k ≠ 1) = true) := Lib.hid (by simp [h1])
      rw [HR.out]
      clear h1
      go_enter Tryz.func91, Tryz.ntmps91
      go_wp2_with (go_at_call 109; refine (HV.out _).mono ?_; rintro e w2 ⟨rfl, b2⟩; have acc := below_trans acc b2; obtain ⟨hc, hf, hz⟩ := bcell b2)
      go_ret
      exact ⟨rfl, acc⟩
end Go.Proofs.YtgeaccoobhigcaaGreat
namespace Go.Proofs.YtgeaccoobhigcaaGreat
open Go Go.RowKit
theorem empty_any (a : Am) (w : World) : Calls Tryz.prog 85 #[a.val] w fun e w' => e = .returned (.bool (emptyB a)) ∧ Below w.heap.size w w' := by
  have hv := fun w => none_any a.s w
  obtain ⟨v, k, t, n⟩ := a
  unfold emptyB
  simp only at hv ⊢
  generalize noneB ⟨k, t, n⟩ = V at hv ⊢
  unfold Sm.val at hv
  unfold Am.val
  simp only at hv ⊢
  have HV := Lib.hid hv
  have acc := below_new w (.cells #[.string v, .int .i64 k, .string t, .int .i64 n] 47)
  clear hv
  by_cases h1 : v.size = 0
  · have e1 := str_nil h1
    have HR : Hid ((decide (v.size = 0) && V) = V) := Lib.hid (by simp [h1])
    rw [HR.out]
    clear h1
    go_enter Tryz.func85, Tryz.ntmps85
    go_wp2_with (go_at_call 101; refine (HV.out _).mono ?_; rintro e w2 ⟨rfl, b2⟩; have acc := below_trans acc b2; obtain ⟨hc, hf, hz⟩ := bcell b2)
    go_ret
    exact ⟨rfl, acc⟩
  · have e1 := str_cons h1
    have HR : Hid ((decide (v.size = 0) && V) = false) := Lib.hid (by simp [h1])
    rw [HR.out]
    clear h1
    go_enter Tryz.func85, Tryz.ntmps85
    go_wp2
    go_ret
    exact ⟨rfl, acc⟩
theorem shWord_any (a : Am) (w : World) : Calls Tryz.prog 103 #[a.val] w fun e w' => e = .returned (.bool (strB a)) ∧ Below w.heap.size w w' := by
  obtain ⟨v, k, t, n⟩ := a
  unfold strB Am.val
  simp only
  have acc := below_new w (.cells #[.string v, .int .i64 k, .string t, .int .i64 n] 47)
  by_cases h1 : v.size = 0
  · have e1 := str_nil h1
    by_cases hk : k = 3
    · have e2 : (k == 3) = true := by simp [hk]
      have HR : Hid ((decide (v.size = 0) && decide (k = 3)) = true) := Lib.hid (by simp [h1, hk])
      rw [HR.out]
      clear h1 hk
      go_enter Tryz.func103, Tryz.ntmps103
      go_wp2
      go_ret
      exact ⟨rfl, acc⟩
    · have e2 : (k == 3) = false := by simp [hk]
      have HR : Hid ((decide (v.size = 0) && decide (k = 3)) = false) := Lib.hid (by simp [h1, hk])
      rw [HR.out]
      clear h1 hk
      go_enter Tryz.func103, Tryz.ntmps103
      go_wp2
      go_ret
      exact ⟨rfl, acc⟩
  · have e1 := str_cons h1
    have HR : Hid ((decide (v.size = 0) && decide (k = 3)) = false) := Lib.hid (by simp [h1])
    rw [HR.out]
    clear h1
    go_enter Tryz.func103, Tryz.ntmps103
    go_wp2
    go_ret
    exact ⟨rfl, acc⟩
set_option maxHeartbeats 1000000 in
theorem shAtom_any (a : Am) (hv : a.v.size ≤ 9223372036854775807) (hs : a.s.t.size ≤ 9223372036854775807) (w : World) : Calls Tryz.prog 82 #[a.val] w fun e w' => e = .returned (.bool (atomB a)) ∧ Below w.heap.size w w' := by
  have hN := fun w => none_any a.s w
  have hC := fun w => constant_any a.s hs w
  have hW := fun w => word_any a.v hv w
  obtain ⟨v, k, t, n⟩ := a
  unfold atomB
  simp only at hN hC hW hv hs ⊢
  generalize noneB ⟨k, t, n⟩ = N at hN ⊢
  generalize constB ⟨k, t, n⟩ = C at hC ⊢
  generalize wordB v.data.toList = W at hW ⊢
  unfold Sm.val at hN hC
  unfold Am.val
  simp only at hN hC ⊢
  have HN := Lib.hid hN
  have HC := Lib.hid hC
  have HW := Lib.hid hW
  have acc := below_new w (.cells #[.string v, .int .i64 k, .string t, .int .i64 n] 47)
  clear hN hC hW
  by_cases h1 : v.size = 0
  · have e1 := str_nil h1
    rw [if_pos h1]
    clear h1
    go_enter Tryz.func82, Tryz.ntmps82
    go_wp2_with (go_at_call 102; refine (HC.out _).mono ?_; rintro e w2 ⟨rfl, b2⟩; have acc := below_trans acc b2; obtain ⟨hc, hf, hz⟩ := bcell b2)
    go_ret
    exact ⟨rfl, acc⟩
  · have e1 := str_cons h1
    rw [if_neg h1]
    clear h1
    rcases W with _ | _
    · rw [Bool.false_and]
      go_enter Tryz.func82, Tryz.ntmps82
      go_wp2_with (go_at_call 54; refine (HW.out _).mono ?_; rintro e w2 ⟨rfl, rfl⟩)
      go_ret
      exact ⟨rfl, acc⟩
    · rw [Bool.true_and]
      go_enter Tryz.func82, Tryz.ntmps82
      go_wp2_with (first | (go_at_call 54; refine (HW.out _).mono ?_; rintro e w2 ⟨rfl, rfl⟩) | (go_at_call 101; refine (HN.out _).mono ?_; rintro e w2 ⟨rfl, b2⟩; have acc := below_trans acc b2; obtain ⟨hc, hf, hz⟩ := bcell b2))
      go_ret
      exact ⟨rfl, acc⟩
set_option maxHeartbeats 1000000 in
theorem rAtom_any (a : Am) (hv : a.v.size ≤ 9223372036854775807) (hs : a.s.t.size ≤ 9223372036854775807) (w : World) : Calls Tryz.prog 70 #[a.val] w fun e w' => e = .returned (.bool (atomB a)) ∧ Below w.heap.size w w' := by
  have hC := fun w => const_any a.s hs w
  have hW := fun w => rword_any a.v hv w
  obtain ⟨v, k, t, n⟩ := a
  unfold atomB
  simp only at hC hW hv hs ⊢
  generalize constB ⟨k, t, n⟩ = C at hC ⊢
  generalize wordB v.data.toList = W at hW ⊢
  unfold Sm.val at hC
  unfold Am.val
  simp only at hC ⊢
  have HC := Lib.hid hC
  have HW := Lib.hid hW
  have acc := below_new w (.cells #[.string v, .int .i64 k, .string t, .int .i64 n] 47)
  clear hC hW
  by_cases h1 : v.size = 0
  · have e1 := str_nil h1
    rw [if_pos h1]
    clear h1
    go_enter Tryz.func70, Tryz.ntmps70
    go_wp2_with (go_at_call 91; refine (HC.out _).mono ?_; rintro e w2 ⟨rfl, b2⟩; have acc := below_trans acc b2; obtain ⟨hc, hf, hz⟩ := bcell b2)
    go_ret
    exact ⟨rfl, acc⟩
  · have e1 := str_cons h1
    rw [if_neg h1]
    clear h1
    rcases W with _ | _
    · rw [Bool.false_and]
      go_enter Tryz.func70, Tryz.ntmps70
      go_wp2_with (go_at_call 42; refine (HW.out _).mono ?_; rintro e w2 ⟨rfl, rfl⟩)
      go_ret
      exact ⟨rfl, acc⟩
    · rw [Bool.true_and]
      go_enter Tryz.func70, Tryz.ntmps70
      go_wp2_with (go_at_call 42; refine (HW.out _).mono ?_; rintro e w2 ⟨rfl, rfl⟩)
      all_goals
        go_ret
        refine ⟨ret_bool ?_, below_new _ _⟩
        simp_all [noneB, toList_nil]
end Go.Proofs.YtgeaccoobhigcaaGreat
namespace Go.Proofs.YtgeaccoobhigcaaGreat
open Go Go.RowKit
/-- Strings of an atom, as they may come in. -/
structure Am.Big (a : Am) : Prop where
  v : a.v.size ≤ 9223372036854775807
  s : a.s.t.size ≤ 9223372036854775807
set_option maxRecDepth 100000 in
set_option maxHeartbeats 4000000 in
theorem shTerm_any (t : Tm) (ha : t.a.Big) (hb : t.b.Big) (w : World) : Calls Tryz.prog 83 #[t.val] w fun e w' => e = .returned (.bool (termB t)) ∧ Below w.heap.size w w' := by
  have hA := fun w => shAtom_any t.a ha.v ha.s w
  have hB := fun w => shAtom_any t.b hb.v hb.s w
  have hSA := fun w => shWord_any t.a w
  have hSB := fun w => shWord_any t.b w
  have hE := fun w => empty_any t.b w
  obtain ⟨op, ⟨av, ak, at_, an⟩, ⟨bv, bk, bt, bn⟩⟩ := t
  unfold termB Tm.val
  simp only at hA hB hSA hSB hE ⊢
  clear ha hb
  generalize atomB ⟨av, ak, at_, an⟩ = A at hA ⊢
  generalize atomB ⟨bv, bk, bt, bn⟩ = B at hB ⊢
  generalize strB ⟨av, ak, at_, an⟩ = SA at hSA ⊢
  generalize strB ⟨bv, bk, bt, bn⟩ = SB at hSB ⊢
  generalize emptyB ⟨bv, bk, bt, bn⟩ = E at hE ⊢
  unfold Am.val at hA hB hSA hSB hE
  simp only at hA hB hSA hSB hE
  have HA := Lib.hid hA
  have HB := Lib.hid hB
  have HSA := Lib.hid hSA
  have HSB := Lib.hid hSB
  have HE := Lib.hid hE
  have acc := below_new w (.cells #[.int .i64 op, .string av, .int .i64 ak, .string at_, .int .i64 an, .string bv, .int .i64 bk, .string bt, .int .i64 bn] 49)
  have hlt : w.heap.size < (w.alloc (.cells #[.int .i64 op, .string av, .int .i64 ak, .string at_, .int .i64 an, .string bv, .int .i64 bk, .string bt, .int .i64 bn] 49)).heap.size := by simp
  clear hA hB hSA hSB hE
  rcases (show op < 0 ∨ (¬ op < 0 ∧ 3 < op) ∨ (¬ op < 0 ∧ ¬ 3 < op) by omega) with h1 | ⟨h1, h2⟩ | ⟨h1, h2⟩
  · have HR : Hid ((decide (0 ≤ op ∧ op ≤ 3) && A && (if op = 0 then E else B && !SA && !SB)) = false) := Lib.hid (by rw [decide_eq_false (by omega)]; rfl)
    rw [HR.out]
    go_enter Tryz.func83, Tryz.ntmps83
    go_wp2
    go_ret
    exact ⟨rfl, acc⟩
  · have HR : Hid ((decide (0 ≤ op ∧ op ≤ 3) && A && (if op = 0 then E else B && !SA && !SB)) = false) := Lib.hid (by rw [decide_eq_false (by omega)]; rfl)
    rw [HR.out]
    go_enter Tryz.func83, Tryz.ntmps83
    go_wp2
    go_ret
    exact ⟨rfl, acc⟩
  · rcases A with _ | _
    · have HR : Hid ((decide (0 ≤ op ∧ op ≤ 3) && false && (if op = 0 then E else B && !SA && !SB)) = false) := Lib.hid (by simp)
      rw [HR.out]
      go_enter Tryz.func83, Tryz.ntmps83
      go_wp2_with (go_at_call 82; refine (HA.out _).mono ?_; rintro e w2 ⟨rfl, b2⟩; have acc := below_trans acc b2; obtain ⟨hc, hlt⟩ := bkeep b2 hlt)
      go_ret
      exact ⟨rfl, acc⟩
    · have HR : Hid ((decide (0 ≤ op ∧ op ≤ 3) && true && (if op = 0 then E else B && !SA && !SB)) = if op = 0 then E else B && !SA && !SB) := Lib.hid (by rw [decide_eq_true (by omega)]; simp)
      rw [HR.out]
      by_cases h0 : op = 0
      · rw [if_pos h0]
        have e0 : (op == 0) = true := by simp [h0]
        clear h0
        go_enter Tryz.func83, Tryz.ntmps83
        go_wp2_with (first | (go_at_call 82; refine (HA.out _).mono ?_; rintro e w2 ⟨rfl, b2⟩; have acc := below_trans acc b2; obtain ⟨hc, hlt⟩ := bkeep b2 hlt) | (go_at_call 85; refine (HE.out _).mono ?_; rintro e w3 ⟨rfl, b3⟩; have acc := below_trans acc b3))
        go_ret
        exact ⟨rfl, acc⟩
      · rw [if_neg h0]
        have e0 : (op == 0) = false := by simp [h0]
        clear h0
        have tok : True := trivial
        rcases B with _ | _
        · rw [Bool.false_and, Bool.false_and]
          go_enter Tryz.func83, Tryz.ntmps83
          go_wp2_with (first | (go_at_call 82; have _t := tok; refine (HA.out _).mono ?_; rintro e w2 ⟨rfl, b2⟩; have acc := below_trans acc b2; obtain ⟨hc, hlt⟩ := bkeep b2 hlt; clear tok) | (go_at_call 82; refine (HB.out _).mono ?_; rintro e w3 ⟨rfl, b3⟩; have acc := below_trans acc b3; obtain ⟨hc2, hlt⟩ := bkeep b3 hlt))
          go_ret
          exact ⟨rfl, acc⟩
        · rw [Bool.true_and]
          rcases SA with _ | _
          · rw [show (!false) = true from rfl, Bool.true_and]
            go_enter Tryz.func83, Tryz.ntmps83
            go_wp2_with (first | (go_at_call 82; have _t := tok; refine (HA.out _).mono ?_; rintro e w2 ⟨rfl, b2⟩; have acc := below_trans acc b2; obtain ⟨hc, hlt⟩ := bkeep b2 hlt; clear tok) | (go_at_call 82; refine (HB.out _).mono ?_; rintro e w3 ⟨rfl, b3⟩; have acc := below_trans acc b3; obtain ⟨hc2, hlt⟩ := bkeep b3 hlt) | (go_at_call 103; (with_reducible refine (HSA.out _).mono ?_); rintro e w4 ⟨rfl, b4⟩; have acc := below_trans acc b4; obtain ⟨hc3, hlt⟩ := bkeep b4 hlt) | (go_at_call 103; (with_reducible refine (HSB.out _).mono ?_); rintro e w5 ⟨rfl, b5⟩; have acc := below_trans acc b5))
            go_ret
            exact ⟨rfl, acc⟩
          · rw [show (!true) = false from rfl, Bool.false_and]
            go_enter Tryz.func83, Tryz.ntmps83
            go_wp2_with (first | (go_at_call 82; have _t := tok; refine (HA.out _).mono ?_; rintro e w2 ⟨rfl, b2⟩; have acc := below_trans acc b2; obtain ⟨hc, hlt⟩ := bkeep b2 hlt; clear tok) | (go_at_call 82; refine (HB.out _).mono ?_; rintro e w3 ⟨rfl, b3⟩; have acc := below_trans acc b3; obtain ⟨hc2, hlt⟩ := bkeep b3 hlt) | (go_at_call 103; (with_reducible refine (HSA.out _).mono ?_); rintro e w4 ⟨rfl, b4⟩; have acc := below_trans acc b4; obtain ⟨hc3, hlt⟩ := bkeep b4 hlt))
            go_ret
            exact ⟨rfl, acc⟩
end Go.Proofs.YtgeaccoobhigcaaGreat
namespace Go.Proofs.YtgeaccoobhigcaaGreat
open Go Go.RowKit
/-- Strings of an action, as they may come in. -/
structure Ac.Big (a : Ac) : Prop where
  id : a.id.size ≤ 9223372036854775807
  attr : a.attr.Big
  va : a.value.a.Big
  vb : a.value.b.Big
  other : a.other.Big
theorem other_any (k : Int) (w : World) : Calls Tryz.prog 84 #[.int .i64 k] w fun e w' => e = .returned (.bool (decide (8 ≤ k ∧ k ≤ 10))) ∧ w = w' := by
  by_cases h : 8 ≤ k ∧ k ≤ 10
  · have HR : Hid (decide (8 ≤ k ∧ k ≤ 10) = true) := Lib.hid (decide_eq_true h)
    rw [HR.out]
    rcases (show (k == 8) = true ∨ ((k == 8) = false ∧ (k == 9) = true) ∨ ((k == 8) = false ∧ (k == 9) = false ∧ (k == 10) = true) by simp; omega) with e8 | ⟨e8, e9⟩ | ⟨e8, e9, e10⟩
    all_goals
      clear h
      go_enter Tryz.func84, Tryz.ntmps84
      go_wp2
      go_ret
      exact ⟨rfl, rfl⟩
  · have HR : Hid (decide (8 ≤ k ∧ k ≤ 10) = false) := Lib.hid (decide_eq_false h)
    rw [HR.out]
    have e8 : (k == 8) = false := by simp; omega
    have e9 : (k == 9) = false := by simp; omega
    have e10 : (k == 10) = false := by simp; omega
    clear h
    go_enter Tryz.func84, Tryz.ntmps84
    go_wp2
    go_ret
    exact ⟨rfl, rfl⟩
set_option maxRecDepth 100000 in
set_option maxHeartbeats 4000000 in
theorem shAct_any (a : Ac) (h : a.Big) (w : World) : Calls Tryz.prog 59 #[a.val] w fun e w' => e = .returned (.bool (actB a)) ∧ Below w.heap.size w w' := by
  have hW := fun w => word_any a.id h.id w
  have hA := fun w => shAtom_any a.attr h.attr.v h.attr.s w
  have hT := fun w => shTerm_any a.value h.va h.vb w
  have hO := fun w => shAtom_any a.other h.other.v h.other.s w
  have hE := fun w => empty_any a.other w
  have hP := fun w => other_any a.pref w
  obtain ⟨id, ⟨cv, ck, ct, cn⟩, ⟨op, ⟨av, ak, at_, an⟩, ⟨bv, bk, bt, bn⟩⟩, pref, ⟨ov, ok, ot, on_⟩⟩ := a
  unfold actB Ac.val
  simp only at hW hA hT hO hE hP ⊢
  clear h
  generalize wordB id.data.toList = W at hW ⊢
  generalize atomB ⟨cv, ck, ct, cn⟩ = A at hA ⊢
  generalize termB ⟨op, ⟨av, ak, at_, an⟩, ⟨bv, bk, bt, bn⟩⟩ = T at hT ⊢
  generalize atomB ⟨ov, ok, ot, on_⟩ = O at hO ⊢
  generalize emptyB ⟨ov, ok, ot, on_⟩ = E at hE ⊢
  unfold Am.val at hA hO hE
  unfold Tm.val at hT
  simp only at hA hO hE hT
  have HW := Lib.hid hW
  have HA := Lib.hid hA
  have HT := Lib.hid hT
  have HO := Lib.hid hO
  have HE := Lib.hid hE
  have HP := Lib.hid hP
  have acc := below_new w (.cells #[.string id, .string cv, .int .i64 ck, .string ct, .int .i64 cn, .int .i64 op, .string av, .int .i64 ak, .string at_, .int .i64 an, .string bv, .int .i64 bk, .string bt, .int .i64 bn, .int .i64 pref, .string ov, .int .i64 ok, .string ot, .int .i64 on_] 51)
  have hlt : w.heap.size < (w.alloc (.cells #[.string id, .string cv, .int .i64 ck, .string ct, .int .i64 cn, .int .i64 op, .string av, .int .i64 ak, .string at_, .int .i64 an, .string bv, .int .i64 bk, .string bt, .int .i64 bn, .int .i64 pref, .string ov, .int .i64 ok, .string ot, .int .i64 on_] 51)).heap.size := by simp
  clear hW hA hT hO hE hP
  rcases W with _ | _
  · have HR : Hid ((false && A && T && decide (1 ≤ pref ∧ pref ≤ 10) && (if 8 ≤ pref then O else E)) = false) := Lib.hid (by simp)
    rw [HR.out]
    have tok : True := trivial
    go_enter Tryz.func59, Tryz.ntmps59
    go_wp2_with (first | (go_at_call 54; refine (HW.out _).mono ?_; rintro e w2 ⟨rfl, rfl⟩))
    go_ret
    exact ⟨rfl, acc⟩
  rcases A with _ | _
  · have HR : Hid ((true && false && T && decide (1 ≤ pref ∧ pref ≤ 10) && (if 8 ≤ pref then O else E)) = false) := Lib.hid (by simp)
    rw [HR.out]
    have tok : True := trivial
    go_enter Tryz.func59, Tryz.ntmps59
    go_wp2_with (first | (go_at_call 54; refine (HW.out _).mono ?_; rintro e w2 ⟨rfl, rfl⟩) | (go_at_call 82; have _t := tok; refine (HA.out _).mono ?_; rintro e w3 ⟨rfl, b3⟩; have acc := below_trans acc b3; obtain ⟨hc3, hlt⟩ := bkeep b3 hlt; clear tok))
    go_ret
    exact ⟨rfl, acc⟩
  rcases T with _ | _
  · have HR : Hid ((true && true && false && decide (1 ≤ pref ∧ pref ≤ 10) && (if 8 ≤ pref then O else E)) = false) := Lib.hid (by simp)
    rw [HR.out]
    have tok : True := trivial
    go_enter Tryz.func59, Tryz.ntmps59
    go_wp2_with (first | (go_at_call 54; refine (HW.out _).mono ?_; rintro e w2 ⟨rfl, rfl⟩) | (go_at_call 82; have _t := tok; refine (HA.out _).mono ?_; rintro e w3 ⟨rfl, b3⟩; have acc := below_trans acc b3; obtain ⟨hc3, hlt⟩ := bkeep b3 hlt; clear tok) | (go_at_call 83; refine (HT.out _).mono ?_; rintro e w4 ⟨rfl, b4⟩; have acc := below_trans acc b4; obtain ⟨hc4, hlt⟩ := bkeep b4 hlt))
    go_ret
    exact ⟨rfl, acc⟩
  rcases (show pref < 1 ∨ (¬ pref < 1 ∧ 10 < pref) ∨ (¬ pref < 1 ∧ ¬ 10 < pref) by omega) with h1 | ⟨h1, h2⟩ | ⟨h1, h2⟩
  · have HR : Hid ((true && true && true && decide (1 ≤ pref ∧ pref ≤ 10) && (if 8 ≤ pref then O else E)) = false) := Lib.hid (by rw [decide_eq_false (by omega)]; simp)
    rw [HR.out]
    have tok : True := trivial
    go_enter Tryz.func59, Tryz.ntmps59
    go_wp2_with (first | (go_at_call 54; refine (HW.out _).mono ?_; rintro e w2 ⟨rfl, rfl⟩) | (go_at_call 82; have _t := tok; refine (HA.out _).mono ?_; rintro e w3 ⟨rfl, b3⟩; have acc := below_trans acc b3; obtain ⟨hc3, hlt⟩ := bkeep b3 hlt; clear tok) | (go_at_call 83; refine (HT.out _).mono ?_; rintro e w4 ⟨rfl, b4⟩; have acc := below_trans acc b4; obtain ⟨hc4, hlt⟩ := bkeep b4 hlt))
    go_ret
    exact ⟨rfl, acc⟩
  · have HR : Hid ((true && true && true && decide (1 ≤ pref ∧ pref ≤ 10) && (if 8 ≤ pref then O else E)) = false) := Lib.hid (by rw [decide_eq_false (by omega)]; simp)
    rw [HR.out]
    have tok : True := trivial
    go_enter Tryz.func59, Tryz.ntmps59
    go_wp2_with (first | (go_at_call 54; refine (HW.out _).mono ?_; rintro e w2 ⟨rfl, rfl⟩) | (go_at_call 82; have _t := tok; refine (HA.out _).mono ?_; rintro e w3 ⟨rfl, b3⟩; have acc := below_trans acc b3; obtain ⟨hc3, hlt⟩ := bkeep b3 hlt; clear tok) | (go_at_call 83; refine (HT.out _).mono ?_; rintro e w4 ⟨rfl, b4⟩; have acc := below_trans acc b4; obtain ⟨hc4, hlt⟩ := bkeep b4 hlt))
    go_ret
    exact ⟨rfl, acc⟩
  · by_cases h8 : 8 ≤ pref
    · have HR : Hid ((true && true && true && decide (1 ≤ pref ∧ pref ≤ 10) && (if 8 ≤ pref then O else E)) = O) := Lib.hid (by rw [decide_eq_true (by omega), if_pos h8]; simp)
      rw [HR.out]
      have HD : Hid (decide (8 ≤ pref ∧ pref ≤ 10) = true) := Lib.hid (decide_eq_true (by omega))
      rw [HD.out] at HP
      have tok : True := trivial
      go_enter Tryz.func59, Tryz.ntmps59
      go_wp2_with (first | (go_at_call 54; refine (HW.out _).mono ?_; rintro e w2 ⟨rfl, rfl⟩) | (go_at_call 82; have _t := tok; refine (HA.out _).mono ?_; rintro e w3 ⟨rfl, b3⟩; have acc := below_trans acc b3; obtain ⟨hc3, hlt⟩ := bkeep b3 hlt; clear tok) | (go_at_call 83; refine (HT.out _).mono ?_; rintro e w4 ⟨rfl, b4⟩; have acc := below_trans acc b4; obtain ⟨hc4, hlt⟩ := bkeep b4 hlt) | (go_at_call 84; refine (HP.out _).mono ?_; rintro e w5 ⟨rfl, rfl⟩) | (go_at_call 82; refine (HO.out _).mono ?_; rintro e w6 ⟨rfl, b6⟩; have acc := below_trans acc b6))
      go_ret
      exact ⟨rfl, acc⟩
    · have HR : Hid ((true && true && true && decide (1 ≤ pref ∧ pref ≤ 10) && (if 8 ≤ pref then O else E)) = E) := Lib.hid (by rw [decide_eq_true (by omega), if_neg h8]; simp)
      rw [HR.out]
      have HD : Hid (decide (8 ≤ pref ∧ pref ≤ 10) = false) := Lib.hid (decide_eq_false (by omega))
      rw [HD.out] at HP
      have tok : True := trivial
      go_enter Tryz.func59, Tryz.ntmps59
      go_wp2_with (first | (go_at_call 54; refine (HW.out _).mono ?_; rintro e w2 ⟨rfl, rfl⟩) | (go_at_call 82; have _t := tok; refine (HA.out _).mono ?_; rintro e w3 ⟨rfl, b3⟩; have acc := below_trans acc b3; obtain ⟨hc3, hlt⟩ := bkeep b3 hlt; clear tok) | (go_at_call 83; refine (HT.out _).mono ?_; rintro e w4 ⟨rfl, b4⟩; have acc := below_trans acc b4; obtain ⟨hc4, hlt⟩ := bkeep b4 hlt) | (go_at_call 84; refine (HP.out _).mono ?_; rintro e w5 ⟨rfl, rfl⟩) | (go_at_call 85; refine (HE.out _).mono ?_; rintro e w7 ⟨rfl, b7⟩; have acc := below_trans acc b7))
      go_ret
      exact ⟨rfl, acc⟩
end Go.Proofs.YtgeaccoobhigcaaGreat
namespace Go.Proofs.YtgeaccoobhigcaaGreat
open Go Go.RowKit
section
variable {P : Program}
theorem run_loadVar_at (w : World) (ad : Addr) (ty : TypeId) (cs : List Value) (d : TypeDesc) (hc : ∀ j u, cs[j]? = some u → w.cell? (ad.add j) = some u)
    (hu : P.underlying ty = some d) (hd : (match d with | .struct _ | .array _ _ => true | _ => false) = true) (hi : (P.info? ty).map (·.size) = some cs.length) :
    (loadVar ty ad).run P w = .ok (.agg cs.toArray) w := by
  have hl := run_loadCells_list (P := P) (w := w) ad cs hc
  cases hq : P.info? ty with
  | none => simp [hq] at hi
  | some i =>
    have hs : i.size = cs.length := by simpa [hq] using hi
    have hagg : (isAgg ty).run P w = .ok true w := by
      unfold isAgg
      rw [Sem.run_bind, run_underlying hu w]
      cases d <;> simp_all
    simp [loadVar, Sem.run_bind, hagg, sizeOf, typeInfo, hq, hs, hl]
theorem wpList_load_at {ops : Array Oper} {rest : List Oper} {o : Oper} {a : Act} {w : World} {Q : Exit → Act → World → Prop} (hgd : o.guard = none) (ty : TypeId) (x : Operand) (ho : o.op = .load ty x)
    (ad : Addr) (hx : a.eval x = .pointer (some ad)) (cs : List Value) (d : TypeDesc) (hc : ∀ j u, cs[j]? = some u → w.cell? (ad.add j) = some u)
    (hu : P.underlying ty = some d) (hd : (match d with | .struct _ | .array _ _ => true | _ => false) = true) (hi : (P.info? ty).map (·.size) = some cs.length)
    (h : wpList P ops Q rest (a.put o.dst (.agg cs.toArray)) w) : wpList P ops Q (o :: rest) a w :=
  wpList_plain hgd fun K hK => by
    unfold Oper.wp execOp
    simp only [ho, hx, Instr.loadAt, Instr.sureAddr, Sem.run_bind, Sem.run_pure, Result.andThen_ok, run_loadVar_at w ad ty cs d hc hu hd hi]
    exact hK _ _ h
theorem setRow_alloc (w : World) (old cells : Array Value) (t : TypeId) : (w.alloc (.cells old t)).setRow w.heap.size cells = w.alloc (.cells cells t) := by
  unfold World.setRow World.alloc
  simp only [World.mk.injEq, and_true]
  apply Array.ext
  · simp
  · intro k h1 h2
    simp only [Array.getElem_modify, Array.getElem_push]
    simp at h2
    split
    · rename_i hk; subst hk; simp
    · rename_i hk
      have : k < w.heap.size := by simp at h1; omega
      rw [dif_pos this, dif_pos this]
theorem wpList_store_new {ops : Array Oper} {rest : List Oper} {o : Oper} {a : Act} {w : World} {Q : Exit → Act → World → Prop} (hgd : o.guard = none) (ty : TypeId) (x y : Operand) (ho : o.op = .store ty x y)
    (cells : Array Value) (t : TypeId) (old : Array Value) (hx : a.eval x = .pointer (some ⟨w.heap.size, 0, none⟩)) (hy : a.eval y = .agg cells)
    (hi : (P.info? ty).map (·.size) = some cells.size) (hold : old.size = cells.size) (h1 : cells.all (·.oneCell') = true)
    (h : wpList P ops Q rest (a.put o.dst undef) (w.alloc (.cells cells t))) : wpList P ops Q (o :: rest) a (w.alloc (.cells old t)) :=
  wpList_store_row hgd ty x y ho w.heap.size cells hx hy t old (heap_alloc_new _ _) hi hold h1 (by rw [setRow_alloc]; exact h)
end
theorem new_cells (w : World) (cs : List Value) (t : TypeId) : ∀ j u, cs[j]? = some u → (w.alloc (.cells cs.toArray t)).cell? ((⟨w.heap.size, 0, none⟩ : Addr).add j) = some u := by
  intro j u h
  rw [addr_add_lit, cell_of_row _ _ _ _ _ _ (heap_alloc_new w _)]
  simpa using h
/-- A type of so many cells, loaded and stored as one. -/
def AggT (ty : TypeId) (n : Nat) : Prop := (Tryz.prog.info? ty).map (·.size) = some n ∧ ∃ fs, Tryz.prog.underlying ty = some (.struct fs)
theorem us69 : ∃ fs, Tryz.prog.underlying 51 = some (.struct fs) := ⟨Tryz.prog.fieldsOf 51, by kernel_rfl⟩
theorem agg69 : AggT 51 19 := ⟨by kernel_rfl, us69⟩
theorem wpList_load_agg {ops : Array Oper} {rest : List Oper} {o : Oper} {a : Act} {w : World} {Q : Exit → Act → World → Prop} {ty n : Nat} (hT : AggT ty n) (hgd : o.guard = none) (x : Operand) (ho : o.op = .load ty x)
    (ad : Addr) (hx : a.eval x = .pointer (some ad)) (cs : List Value) (hc : ∀ j u, cs[j]? = some u → w.cell? (ad.add j) = some u) (hn : cs.length = n)
    (h : wpList Tryz.prog ops Q rest (a.put o.dst (.agg cs.toArray)) w) : wpList Tryz.prog ops Q (o :: rest) a w := by
  obtain ⟨hi, fs, hu⟩ := hT
  exact wpList_load_at hgd ty x ho ad hx cs _ hc hu rfl (by rw [hi, hn]) h
theorem wpList_store_agg {ops : Array Oper} {rest : List Oper} {o : Oper} {a : Act} {w : World} {Q : Exit → Act → World → Prop} {ty n : Nat} (hT : AggT ty n) (hgd : o.guard = none) (x y : Operand) (ho : o.op = .store ty x y)
    (cells : Array Value) (t : TypeId) (old : Array Value) (hx : a.eval x = .pointer (some ⟨w.heap.size, 0, none⟩)) (hy : a.eval y = .agg cells)
    (hn : cells.size = n) (hold : old.size = n) (h1 : cells.all (·.oneCell') = true)
    (h : wpList Tryz.prog ops Q rest (a.put o.dst undef) (w.alloc (.cells cells t))) : wpList Tryz.prog ops Q (o :: rest) a (w.alloc (.cells old t)) :=
  wpList_store_new hgd ty x y ho cells t old hx hy (by rw [hT.1, hn]) (by rw [hold, hn]) h1 h
end Go.Proofs.YtgeaccoobhigcaaGreat
