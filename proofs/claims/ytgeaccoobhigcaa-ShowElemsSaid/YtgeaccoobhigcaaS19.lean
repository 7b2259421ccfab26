/-
  Parts of productions: which may be. Symbols, atoms, terms.
-/
import Derived.Test.YtgeaccoobhigcaaS17
namespace Go.Proofs.Ytgeaccoobhigcaa
open Go Go.RowKit

theorem bcell {W w1 : World} (hb : Below W.heap.size W w1) : (∀ b o, b < W.heap.size → w1.cell? ⟨b, o, none⟩ = W.cell? ⟨b, o, none⟩) ∧ (∀ b o, b < W.heap.size → w1.frozen? ⟨b, o, none⟩ = W.frozen? ⟨b, o, none⟩) ∧ W.heap.size ≤ w1.heap.size :=
  ⟨fun b o h => hb.cell (p := ⟨b, o, none⟩) h, fun b o h => hb.frozen (p := ⟨b, o, none⟩) h, hb.size⟩
theorem bkeep {W w1 : World} (hb : Below W.heap.size W w1) {n : Nat} (hn : n < W.heap.size) : (∀ o, w1.cell? ⟨n, o, none⟩ = W.cell? ⟨n, o, none⟩) ∧ n < w1.heap.size :=
  ⟨fun o => hb.cell (p := ⟨n, o, none⟩) hn, Nat.lt_of_lt_of_le hn hb.size⟩
theorem below_trans {a b c : World} (h : Below a.heap.size a b) (k : Below b.heap.size b c) : Below a.heap.size a c := h.trans (k.mono h.size)
theorem below_new (w : World) (o : Obj) : Below w.heap.size w (w.alloc o) := (Below.refl _ w).alloc (Nat.le_refl _) _
theorem toList_nil {t : ByteArray} : t.toList = [] ↔ t.size = 0 := by
  rw [ByteArray.toList_eq]
  constructor
  · intro h; rw [← size_toList, h]; rfl
  · intro h; exact List.eq_nil_of_length_eq_zero (by rw [size_toList]; exact h)

def noneB (s : Sm) : Bool := decide (s.k = 0) && decide (s.t.size = 0) && decide (s.n = 0)
def constB (s : Sm) : Bool := decide (s.k ≠ 1) && validB s
def atomB (a : Am) : Bool := if a.v.size = 0 then constB a.s else wordB a.v.data.toList && noneB a.s
def emptyB (a : Am) : Bool := decide (a.v.size = 0) && noneB a.s
def strB (a : Am) : Bool := decide (a.v.size = 0) && decide (a.s.k = 3)
def termB (t : Tm) : Bool := decide (0 ≤ t.op ∧ t.op ≤ 3) && atomB t.a && (if t.op = 0 then emptyB t.b else atomB t.b && !strB t.a && !strB t.b)
def actB (a : Ac) : Bool := wordB a.id.data.toList && atomB a.attr && termB a.value && decide (1 ≤ a.pref ∧ a.pref ≤ 10) && (if 8 ≤ a.pref then atomB a.other else emptyB a.other)

theorem none_any (s : Sm) (w : World) : Calls Try.prog 147 #[s.val] w fun e w' => e = .returned (.bool (noneB s)) ∧ Below w.heap.size w w' := by
  obtain ⟨k, t, n⟩ := s
  unfold Sm.val
  simp only
  go_enter Try.func147, Try.ntmps147
  go_wp2
  all_goals
    go_ret
    refine ⟨ret_bool ?_, below_new _ _⟩
    simp_all [noneB, toList_nil]

theorem constant_any (s : Sm) (hs : s.t.size ≤ 9223372036854775807) (w : World) : Calls Try.prog 148 #[s.val] w fun e w' => e = .returned (.bool (constB s)) ∧ Below w.heap.size w w' := by
  have hv := fun w => valid_any s hs w
  obtain ⟨k, t, n⟩ := s
  unfold constB
  generalize validB ⟨k, t, n⟩ = V at hv ⊢
  unfold Sm.val at hv ⊢
  simp only at hv ⊢
  have HV := Lib.hid hv
  have acc := below_new w (.cells #[.int .i64 k, .string t, .int .i64 n] 63)
  clear hv
  by_cases h1 : k = 1
  · have e1 : (k != 1) = false := by simp [h1]
    have HR : Hid ((decide (k ≠ 1) && V) = false) := Lib.hid (by simp [h1])
    rw [HR.out]
    clear h1
    go_enter Try.func148, Try.ntmps148
    go_wp2
    go_ret
    exact ⟨rfl, acc⟩
  · have e1 : (k != 1) = true := by simp [h1]
    have HR : Hid ((decide (k ≠ 1) && V) = V) := Lib.hid (by simp [h1])
    rw [HR.out]
    clear h1
    go_enter Try.func148, Try.ntmps148
    go_wp2_with (go_at_call 112; refine (HV.out _).mono ?_; rintro e w2 ⟨rfl, b2⟩; have acc := below_trans acc b2; obtain ⟨hc, hf, hz⟩ := bcell b2)
    go_ret
    exact ⟨rfl, acc⟩

theorem const_any (s : Sm) (hs : s.t.size ≤ 9223372036854775807) (w : World) : Calls Try.prog 137 #[s.val] w fun e w' => e = .returned (.bool (constB s)) ∧ Below w.heap.size w w' := by
  have hv := fun w => rvalid_any s hs w
  obtain ⟨k, t, n⟩ := s
  unfold constB
  generalize validB ⟨k, t, n⟩ = V at hv ⊢
  unfold Sm.val at hv ⊢
  simp only at hv ⊢
  have HV := Lib.hid hv
  have acc := below_new w (.cells #[.int .i64 k, .string t, .int .i64 n] 63)
  clear hv
  rcases V with _ | _
  · have HR : Hid ((decide (k ≠ 1) && false) = false) := Lib.hid (by simp)
    rw [HR.out]
    go_enter Try.func137, Try.ntmps137
    go_wp2_with (go_at_call 114; refine (HV.out _).mono ?_; rintro e w2 ⟨rfl, b2⟩; have acc := below_trans acc b2; obtain ⟨hc, hf, hz⟩ := bcell b2)
    go_ret
    exact ⟨rfl, acc⟩
  · have HR : Hid ((decide (k ≠ 1) && true) = decide (k ≠ 1)) := Lib.hid (by simp)
    rw [HR.out]
    by_cases h1 : k = 1
    · have e1 : (k != 1) = false := by simp [h1]
      have HR : Hid (decide (k ≠ 1) = false) := Lib.hid (by simp [h1])
      rw [HR.out]
      clear h1
      go_enter Try.func137, Try.ntmps137
      go_wp2_with (go_at_call 114; refine (HV.out _).mono ?_; rintro e w2 ⟨rfl, b2⟩; have acc := below_trans acc b2; obtain ⟨hc, hf, hz⟩ := bcell b2)
      go_ret
      exact ⟨rfl, acc⟩
    · have e1 : (k != 1) = true := by simp [h1]
      have HR : Hid (decide (k ≠ 1) = true) := Lib.hid (by simp [h1])
      rw [HR.out]
      clear h1
      go_enter Try.func137, Try.ntmps137
      go_wp2_with (go_at_call 114; refine (HV.out _).mono ?_; rintro e w2 ⟨rfl, b2⟩; have acc := below_trans acc b2; obtain ⟨hc, hf, hz⟩ := bcell b2)
      go_ret
      exact ⟨rfl, acc⟩
end Go.Proofs.Ytgeaccoobhigcaa
