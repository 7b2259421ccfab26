/-
  Parts of productions: which may be. Actions, as the document asks.
-/
import Derived.Test.YtgeaccoobhigcaaS22
namespace Go.Proofs.Ytgeaccoobhigcaa
open Go Go.RowKit

def ractB (a : Ac) : Bool := wordB a.id.data.toList && atomB a.attr && atomB a.value.a && decide (0 ≤ a.value.op ∧ a.value.op ≤ 3) && decide (1 ≤ a.pref ∧ a.pref ≤ 10) && (if a.value.op = 0 then emptyB a.value.b else atomB a.value.b && !decide (a.value.a.s.k = 3) && !decide (a.value.b.s.k = 3)) && (if 8 ≤ a.pref then atomB a.other else emptyB a.other)
theorem strB_atom {a : Am} (h : atomB a = true) : strB a = decide (a.s.k = 3) := by
  unfold strB
  unfold atomB at h
  split at h
  · rename_i hv; simp [hv]
  · rename_i hv
    simp only [Bool.and_eq_true, noneB, decide_eq_true_eq] at h
    have : a.s.k = 0 := h.2.1.1
    simp [hv, this]
theorem ractB_eq (a : Ac) : ractB a = actB a := by
  unfold ractB actB termB
  rcases hA : atomB a.value.a with _ | _
  · simp
  · rcases hB : atomB a.value.b with _ | _
    · by_cases h0 : a.value.op = 0
      · simp [h0]
        rcases decide (1 ≤ a.pref ∧ a.pref ≤ 10) <;> rcases emptyB a.value.b <;> simp
      · simp [h0]
    · rw [strB_atom hA, strB_atom hB]
      rcases decide (1 ≤ a.pref ∧ a.pref ≤ 10) <;> rcases decide (0 ≤ a.value.op ∧ a.value.op ≤ 3) <;> simp
theorem emptyB_true {a : Am} (h : emptyB a = true) : a.v.size = 0 ∧ a.s.k = 0 ∧ a.s.t.size = 0 ∧ a.s.n = 0 := by
  unfold emptyB noneB at h
  simp only [Bool.and_eq_true, decide_eq_true_eq] at h
  exact ⟨h.1, h.2.1.1, h.2.1.2, h.2.2⟩
theorem emptyB_false {a : Am} (h : emptyB a = false) : ¬ a.v.toList = [] ∨ (a.v.toList = [] ∧ ¬ a.s.k = 0) ∨ (a.v.toList = [] ∧ a.s.k = 0 ∧ ¬ a.s.t.toList = []) ∨ (a.v.toList = [] ∧ a.s.k = 0 ∧ a.s.t.toList = [] ∧ ¬ a.s.n = 0) := by
  simp only [toList_nil]
  unfold emptyB noneB at h
  by_cases h1 : a.v.size = 0
  · by_cases h2 : a.s.k = 0
    · by_cases h3 : a.s.t.size = 0
      · by_cases h4 : a.s.n = 0
        · simp [h1, h2, h3, h4] at h
        · exact .inr (.inr (.inr ⟨h1, h2, h3, h4⟩))
      · exact .inr (.inr (.inl ⟨h1, h2, h3⟩))
    · exact .inr (.inl ⟨h1, h2⟩)
  · exact .inl h1

set_option maxRecDepth 100000 in
set_option maxHeartbeats 8000000 in
theorem rAct_any0 (a : Ac) (h : a.Big) (w : World) : Calls Try.prog 70 #[a.val] w fun e w' => e = .returned (.bool (ractB a)) ∧ Below w.heap.size w w' := by
  have hW := fun w => rword_any a.id h.id w
  have hA := fun w => rAtom_any a.attr h.attr.v h.attr.s w
  have hV := fun w => rAtom_any a.value.a h.va.v h.va.s w
  have hB := fun w => rAtom_any a.value.b h.vb.v h.vb.s w
  have hO := fun w => rAtom_any a.other h.other.v h.other.s w
  obtain ⟨id, ⟨cv, ck, ct, cn⟩, ⟨op, ⟨av, ak, at_, an⟩, ⟨bv, bk, bt, bn⟩⟩, pref, ⟨ov, ok, ot, on_⟩⟩ := a
  unfold ractB Ac.val
  simp only at hW hA hV hB hO ⊢
  clear h
  generalize wordB id.data.toList = W at hW ⊢
  generalize atomB ⟨cv, ck, ct, cn⟩ = A at hA ⊢
  generalize atomB ⟨av, ak, at_, an⟩ = V at hV ⊢
  generalize atomB ⟨bv, bk, bt, bn⟩ = B at hB ⊢
  generalize atomB ⟨ov, ok, ot, on_⟩ = O at hO ⊢
  unfold Am.val at hA hV hB hO
  simp only at hA hV hB hO
  have HW := Lib.hid hW
  have HA := Lib.hid hA
  have HV := Lib.hid hV
  have HB := Lib.hid hB
  have HO := Lib.hid hO
  clear hW hA hV hB hO
  rcases W with _ | _
  · have HR : Hid ((false && A && V && decide (0 ≤ op ∧ op ≤ 3) && decide (1 ≤ pref ∧ pref ≤ 10) && (if op = 0 then emptyB ⟨bv, ⟨bk, bt, bn⟩⟩ else B && !decide (ak = 3) && !decide (bk = 3)) && (if 8 ≤ pref then O else emptyB ⟨ov, ⟨ok, ot, on_⟩⟩)) = false) := Lib.hid (by simp)
    rw [HR.out]
    have acc := below_new w (.cells #[.string id, .string cv, .int .i64 ck, .string ct, .int .i64 cn, .int .i64 op, .string av, .int .i64 ak, .string at_, .int .i64 an, .string bv, .int .i64 bk, .string bt, .int .i64 bn, .int .i64 pref, .string ov, .int .i64 ok, .string ot, .int .i64 on_] 69)
    have hlt : w.heap.size < (w.alloc (.cells #[.string id, .string cv, .int .i64 ck, .string ct, .int .i64 cn, .int .i64 op, .string av, .int .i64 ak, .string at_, .int .i64 an, .string bv, .int .i64 bk, .string bt, .int .i64 bn, .int .i64 pref, .string ov, .int .i64 ok, .string ot, .int .i64 on_] 69)).heap.size := by simp
    have tok1 : True := trivial
    have tok2 : True := trivial
    go_enter Try.func70, Try.ntmps70
    go_wp2_with (first | (go_at_call 67; refine (HW.out _).mono ?_; rintro e w2 ⟨rfl, rfl⟩))
    all_goals
      go_ret
      exact ⟨rfl, acc⟩
  rcases A with _ | _
  · have HR : Hid ((true && false && V && decide (0 ≤ op ∧ op ≤ 3) && decide (1 ≤ pref ∧ pref ≤ 10) && (if op = 0 then emptyB ⟨bv, ⟨bk, bt, bn⟩⟩ else B && !decide (ak = 3) && !decide (bk = 3)) && (if 8 ≤ pref then O else emptyB ⟨ov, ⟨ok, ot, on_⟩⟩)) = false) := Lib.hid (by simp)
    rw [HR.out]
    have acc := below_new w (.cells #[.string id, .string cv, .int .i64 ck, .string ct, .int .i64 cn, .int .i64 op, .string av, .int .i64 ak, .string at_, .int .i64 an, .string bv, .int .i64 bk, .string bt, .int .i64 bn, .int .i64 pref, .string ov, .int .i64 ok, .string ot, .int .i64 on_] 69)
    have hlt : w.heap.size < (w.alloc (.cells #[.string id, .string cv, .int .i64 ck, .string ct, .int .i64 cn, .int .i64 op, .string av, .int .i64 ak, .string at_, .int .i64 an, .string bv, .int .i64 bk, .string bt, .int .i64 bn, .int .i64 pref, .string ov, .int .i64 ok, .string ot, .int .i64 on_] 69)).heap.size := by simp
    have tok1 : True := trivial
    have tok2 : True := trivial
    go_enter Try.func70, Try.ntmps70
    go_wp2_with (first | (go_at_call 67; refine (HW.out _).mono ?_; rintro e w2 ⟨rfl, rfl⟩) | (go_at_call 109; have _t := tok1; refine (HA.out _).mono ?_; rintro e w3 ⟨rfl, b3⟩; have acc := below_trans acc b3; obtain ⟨hc3, hlt⟩ := bkeep b3 hlt; clear tok1))
    all_goals
      go_ret
      exact ⟨rfl, acc⟩
  rcases V with _ | _
  · have HR : Hid ((true && true && false && decide (0 ≤ op ∧ op ≤ 3) && decide (1 ≤ pref ∧ pref ≤ 10) && (if op = 0 then emptyB ⟨bv, ⟨bk, bt, bn⟩⟩ else B && !decide (ak = 3) && !decide (bk = 3)) && (if 8 ≤ pref then O else emptyB ⟨ov, ⟨ok, ot, on_⟩⟩)) = false) := Lib.hid (by simp)
    rw [HR.out]
    have acc := below_new w (.cells #[.string id, .string cv, .int .i64 ck, .string ct, .int .i64 cn, .int .i64 op, .string av, .int .i64 ak, .string at_, .int .i64 an, .string bv, .int .i64 bk, .string bt, .int .i64 bn, .int .i64 pref, .string ov, .int .i64 ok, .string ot, .int .i64 on_] 69)
    have hlt : w.heap.size < (w.alloc (.cells #[.string id, .string cv, .int .i64 ck, .string ct, .int .i64 cn, .int .i64 op, .string av, .int .i64 ak, .string at_, .int .i64 an, .string bv, .int .i64 bk, .string bt, .int .i64 bn, .int .i64 pref, .string ov, .int .i64 ok, .string ot, .int .i64 on_] 69)).heap.size := by simp
    have tok1 : True := trivial
    have tok2 : True := trivial
    go_enter Try.func70, Try.ntmps70
    go_wp2_with (first | (go_at_call 67; refine (HW.out _).mono ?_; rintro e w2 ⟨rfl, rfl⟩) | (go_at_call 109; have _t := tok1; refine (HA.out _).mono ?_; rintro e w3 ⟨rfl, b3⟩; have acc := below_trans acc b3; obtain ⟨hc3, hlt⟩ := bkeep b3 hlt; clear tok1) | (go_at_call 109; have _t := tok2; refine (HV.out _).mono ?_; rintro e w4 ⟨rfl, b4⟩; have acc := below_trans acc b4; obtain ⟨hc4, hlt⟩ := bkeep b4 hlt; clear tok2))
    all_goals
      go_ret
      exact ⟨rfl, acc⟩
  rcases (show op < 0 ∨ (¬ op < 0 ∧ 3 < op) ∨ (¬ op < 0 ∧ ¬ 3 < op) by omega) with h1 | ⟨h1, h2⟩ | ⟨h1, h2⟩
  · have HR : Hid ((true && true && true && decide (0 ≤ op ∧ op ≤ 3) && decide (1 ≤ pref ∧ pref ≤ 10) && (if op = 0 then emptyB ⟨bv, ⟨bk, bt, bn⟩⟩ else B && !decide (ak = 3) && !decide (bk = 3)) && (if 8 ≤ pref then O else emptyB ⟨ov, ⟨ok, ot, on_⟩⟩)) = false) := Lib.hid (by rw [decide_eq_false (p := 0 ≤ op ∧ op ≤ 3) (by omega)]; simp)
    rw [HR.out]
    have acc := below_new w (.cells #[.string id, .string cv, .int .i64 ck, .string ct, .int .i64 cn, .int .i64 op, .string av, .int .i64 ak, .string at_, .int .i64 an, .string bv, .int .i64 bk, .string bt, .int .i64 bn, .int .i64 pref, .string ov, .int .i64 ok, .string ot, .int .i64 on_] 69)
    have hlt : w.heap.size < (w.alloc (.cells #[.string id, .string cv, .int .i64 ck, .string ct, .int .i64 cn, .int .i64 op, .string av, .int .i64 ak, .string at_, .int .i64 an, .string bv, .int .i64 bk, .string bt, .int .i64 bn, .int .i64 pref, .string ov, .int .i64 ok, .string ot, .int .i64 on_] 69)).heap.size := by simp
    have tok1 : True := trivial
    have tok2 : True := trivial
    go_enter Try.func70, Try.ntmps70
    go_wp2_with (first | (go_at_call 67; refine (HW.out _).mono ?_; rintro e w2 ⟨rfl, rfl⟩) | (go_at_call 109; have _t := tok1; refine (HA.out _).mono ?_; rintro e w3 ⟨rfl, b3⟩; have acc := below_trans acc b3; obtain ⟨hc3, hlt⟩ := bkeep b3 hlt; clear tok1) | (go_at_call 109; have _t := tok2; refine (HV.out _).mono ?_; rintro e w4 ⟨rfl, b4⟩; have acc := below_trans acc b4; obtain ⟨hc4, hlt⟩ := bkeep b4 hlt; clear tok2))
    all_goals
      go_ret
      exact ⟨rfl, acc⟩
  · have HR : Hid ((true && true && true && decide (0 ≤ op ∧ op ≤ 3) && decide (1 ≤ pref ∧ pref ≤ 10) && (if op = 0 then emptyB ⟨bv, ⟨bk, bt, bn⟩⟩ else B && !decide (ak = 3) && !decide (bk = 3)) && (if 8 ≤ pref then O else emptyB ⟨ov, ⟨ok, ot, on_⟩⟩)) = false) := Lib.hid (by rw [decide_eq_false (p := 0 ≤ op ∧ op ≤ 3) (by omega)]; simp)
    rw [HR.out]
    have acc := below_new w (.cells #[.string id, .string cv, .int .i64 ck, .string ct, .int .i64 cn, .int .i64 op, .string av, .int .i64 ak, .string at_, .int .i64 an, .string bv, .int .i64 bk, .string bt, .int .i64 bn, .int .i64 pref, .string ov, .int .i64 ok, .string ot, .int .i64 on_] 69)
    have hlt : w.heap.size < (w.alloc (.cells #[.string id, .string cv, .int .i64 ck, .string ct, .int .i64 cn, .int .i64 op, .string av, .int .i64 ak, .string at_, .int .i64 an, .string bv, .int .i64 bk, .string bt, .int .i64 bn, .int .i64 pref, .string ov, .int .i64 ok, .string ot, .int .i64 on_] 69)).heap.size := by simp
    have tok1 : True := trivial
    have tok2 : True := trivial
    go_enter Try.func70, Try.ntmps70
    go_wp2_with (first | (go_at_call 67; refine (HW.out _).mono ?_; rintro e w2 ⟨rfl, rfl⟩) | (go_at_call 109; have _t := tok1; refine (HA.out _).mono ?_; rintro e w3 ⟨rfl, b3⟩; have acc := below_trans acc b3; obtain ⟨hc3, hlt⟩ := bkeep b3 hlt; clear tok1) | (go_at_call 109; have _t := tok2; refine (HV.out _).mono ?_; rintro e w4 ⟨rfl, b4⟩; have acc := below_trans acc b4; obtain ⟨hc4, hlt⟩ := bkeep b4 hlt; clear tok2))
    all_goals
      go_ret
      exact ⟨rfl, acc⟩
  · rcases (show pref < 1 ∨ (¬ pref < 1 ∧ 10 < pref) ∨ (¬ pref < 1 ∧ ¬ 10 < pref) by omega) with g1 | ⟨g1, g2⟩ | ⟨g1, g2⟩
    · have HR : Hid ((true && true && true && decide (0 ≤ op ∧ op ≤ 3) && decide (1 ≤ pref ∧ pref ≤ 10) && (if op = 0 then emptyB ⟨bv, ⟨bk, bt, bn⟩⟩ else B && !decide (ak = 3) && !decide (bk = 3)) && (if 8 ≤ pref then O else emptyB ⟨ov, ⟨ok, ot, on_⟩⟩)) = false) := Lib.hid (by rw [decide_eq_false (p := 1 ≤ pref ∧ pref ≤ 10) (by omega)]; simp)
      rw [HR.out]
      have acc := below_new w (.cells #[.string id, .string cv, .int .i64 ck, .string ct, .int .i64 cn, .int .i64 op, .string av, .int .i64 ak, .string at_, .int .i64 an, .string bv, .int .i64 bk, .string bt, .int .i64 bn, .int .i64 pref, .string ov, .int .i64 ok, .string ot, .int .i64 on_] 69)
      have hlt : w.heap.size < (w.alloc (.cells #[.string id, .string cv, .int .i64 ck, .string ct, .int .i64 cn, .int .i64 op, .string av, .int .i64 ak, .string at_, .int .i64 an, .string bv, .int .i64 bk, .string bt, .int .i64 bn, .int .i64 pref, .string ov, .int .i64 ok, .string ot, .int .i64 on_] 69)).heap.size := by simp
      have tok1 : True := trivial
      have tok2 : True := trivial
      go_enter Try.func70, Try.ntmps70
      go_wp2_with (first | (go_at_call 67; refine (HW.out _).mono ?_; rintro e w2 ⟨rfl, rfl⟩) | (go_at_call 109; have _t := tok1; refine (HA.out _).mono ?_; rintro e w3 ⟨rfl, b3⟩; have acc := below_trans acc b3; obtain ⟨hc3, hlt⟩ := bkeep b3 hlt; clear tok1) | (go_at_call 109; have _t := tok2; refine (HV.out _).mono ?_; rintro e w4 ⟨rfl, b4⟩; have acc := below_trans acc b4; obtain ⟨hc4, hlt⟩ := bkeep b4 hlt; clear tok2))
      all_goals
        go_ret
        exact ⟨rfl, acc⟩
    · have HR : Hid ((true && true && true && decide (0 ≤ op ∧ op ≤ 3) && decide (1 ≤ pref ∧ pref ≤ 10) && (if op = 0 then emptyB ⟨bv, ⟨bk, bt, bn⟩⟩ else B && !decide (ak = 3) && !decide (bk = 3)) && (if 8 ≤ pref then O else emptyB ⟨ov, ⟨ok, ot, on_⟩⟩)) = false) := Lib.hid (by rw [decide_eq_false (p := 1 ≤ pref ∧ pref ≤ 10) (by omega)]; simp)
      rw [HR.out]
      have acc := below_new w (.cells #[.string id, .string cv, .int .i64 ck, .string ct, .int .i64 cn, .int .i64 op, .string av, .int .i64 ak, .string at_, .int .i64 an, .string bv, .int .i64 bk, .string bt, .int .i64 bn, .int .i64 pref, .string ov, .int .i64 ok, .string ot, .int .i64 on_] 69)
      have hlt : w.heap.size < (w.alloc (.cells #[.string id, .string cv, .int .i64 ck, .string ct, .int .i64 cn, .int .i64 op, .string av, .int .i64 ak, .string at_, .int .i64 an, .string bv, .int .i64 bk, .string bt, .int .i64 bn, .int .i64 pref, .string ov, .int .i64 ok, .string ot, .int .i64 on_] 69)).heap.size := by simp
      have tok1 : True := trivial
      have tok2 : True := trivial
      go_enter Try.func70, Try.ntmps70
      go_wp2_with (first | (go_at_call 67; refine (HW.out _).mono ?_; rintro e w2 ⟨rfl, rfl⟩) | (go_at_call 109; have _t := tok1; refine (HA.out _).mono ?_; rintro e w3 ⟨rfl, b3⟩; have acc := below_trans acc b3; obtain ⟨hc3, hlt⟩ := bkeep b3 hlt; clear tok1) | (go_at_call 109; have _t := tok2; refine (HV.out _).mono ?_; rintro e w4 ⟨rfl, b4⟩; have acc := below_trans acc b4; obtain ⟨hc4, hlt⟩ := bkeep b4 hlt; clear tok2))
      all_goals
        go_ret
        exact ⟨rfl, acc⟩
    · have HR : Hid ((true && true && true && decide (0 ≤ op ∧ op ≤ 3) && decide (1 ≤ pref ∧ pref ≤ 10) && (if op = 0 then emptyB ⟨bv, ⟨bk, bt, bn⟩⟩ else B && !decide (ak = 3) && !decide (bk = 3)) && (if 8 ≤ pref then O else emptyB ⟨ov, ⟨ok, ot, on_⟩⟩)) = ((if op = 0 then emptyB ⟨bv, ⟨bk, bt, bn⟩⟩ else B && !decide (ak = 3) && !decide (bk = 3)) && (if 8 ≤ pref then O else emptyB ⟨ov, ⟨ok, ot, on_⟩⟩))) := Lib.hid (by rw [decide_eq_true (p := 0 ≤ op ∧ op ≤ 3) (by omega), decide_eq_true (p := 1 ≤ pref ∧ pref ≤ 10) (by omega)]; simp)
      rw [HR.out]
      clear HR
      by_cases h0 : op = 0
      · rw [if_pos h0]
        have e0 : (op == 0) = true := by simp [h0]
        clear h0
        rcases hE : emptyB ⟨bv, ⟨bk, bt, bn⟩⟩ with _ | _
        · rw [Bool.false_and]
          rcases emptyB_false hE with q1 | ⟨q1, q2⟩ | ⟨q1, q2, q3⟩ | ⟨q1, q2, q3, q4⟩
          · simp only at q1
            clear hE
            have acc := below_new w (.cells #[.string id, .string cv, .int .i64 ck, .string ct, .int .i64 cn, .int .i64 op, .string av, .int .i64 ak, .string at_, .int .i64 an, .string bv, .int .i64 bk, .string bt, .int .i64 bn, .int .i64 pref, .string ov, .int .i64 ok, .string ot, .int .i64 on_] 69)
            have hlt : w.heap.size < (w.alloc (.cells #[.string id, .string cv, .int .i64 ck, .string ct, .int .i64 cn, .int .i64 op, .string av, .int .i64 ak, .string at_, .int .i64 an, .string bv, .int .i64 bk, .string bt, .int .i64 bn, .int .i64 pref, .string ov, .int .i64 ok, .string ot, .int .i64 on_] 69)).heap.size := by simp
            have tok1 : True := trivial
            have tok2 : True := trivial
            go_enter Try.func70, Try.ntmps70
            go_wp2_with (first | (go_at_call 67; refine (HW.out _).mono ?_; rintro e w2 ⟨rfl, rfl⟩) | (go_at_call 109; have _t := tok1; refine (HA.out _).mono ?_; rintro e w3 ⟨rfl, b3⟩; have acc := below_trans acc b3; obtain ⟨hc3, hlt⟩ := bkeep b3 hlt; clear tok1) | (go_at_call 109; have _t := tok2; refine (HV.out _).mono ?_; rintro e w4 ⟨rfl, b4⟩; have acc := below_trans acc b4; obtain ⟨hc4, hlt⟩ := bkeep b4 hlt; clear tok2))
            all_goals
              go_ret
              exact ⟨rfl, acc⟩
          · simp only at q1 q2
            clear hE
            have acc := below_new w (.cells #[.string id, .string cv, .int .i64 ck, .string ct, .int .i64 cn, .int .i64 op, .string av, .int .i64 ak, .string at_, .int .i64 an, .string bv, .int .i64 bk, .string bt, .int .i64 bn, .int .i64 pref, .string ov, .int .i64 ok, .string ot, .int .i64 on_] 69)
            have hlt : w.heap.size < (w.alloc (.cells #[.string id, .string cv, .int .i64 ck, .string ct, .int .i64 cn, .int .i64 op, .string av, .int .i64 ak, .string at_, .int .i64 an, .string bv, .int .i64 bk, .string bt, .int .i64 bn, .int .i64 pref, .string ov, .int .i64 ok, .string ot, .int .i64 on_] 69)).heap.size := by simp
            have tok1 : True := trivial
            have tok2 : True := trivial
            go_enter Try.func70, Try.ntmps70
            go_wp2_with (first | (go_at_call 67; refine (HW.out _).mono ?_; rintro e w2 ⟨rfl, rfl⟩) | (go_at_call 109; have _t := tok1; refine (HA.out _).mono ?_; rintro e w3 ⟨rfl, b3⟩; have acc := below_trans acc b3; obtain ⟨hc3, hlt⟩ := bkeep b3 hlt; clear tok1) | (go_at_call 109; have _t := tok2; refine (HV.out _).mono ?_; rintro e w4 ⟨rfl, b4⟩; have acc := below_trans acc b4; obtain ⟨hc4, hlt⟩ := bkeep b4 hlt; clear tok2))
            all_goals
              go_ret
              exact ⟨rfl, acc⟩
          · simp only at q1 q2 q3
            subst q2
            clear hE
            have acc := below_new w (.cells #[.string id, .string cv, .int .i64 ck, .string ct, .int .i64 cn, .int .i64 op, .string av, .int .i64 ak, .string at_, .int .i64 an, .string bv, .int .i64 0, .string bt, .int .i64 bn, .int .i64 pref, .string ov, .int .i64 ok, .string ot, .int .i64 on_] 69)
            have hlt : w.heap.size < (w.alloc (.cells #[.string id, .string cv, .int .i64 ck, .string ct, .int .i64 cn, .int .i64 op, .string av, .int .i64 ak, .string at_, .int .i64 an, .string bv, .int .i64 0, .string bt, .int .i64 bn, .int .i64 pref, .string ov, .int .i64 ok, .string ot, .int .i64 on_] 69)).heap.size := by simp
            have tok1 : True := trivial
            have tok2 : True := trivial
            go_enter Try.func70, Try.ntmps70
            go_wp2_with (first | (go_at_call 67; refine (HW.out _).mono ?_; rintro e w2 ⟨rfl, rfl⟩) | (go_at_call 109; have _t := tok1; refine (HA.out _).mono ?_; rintro e w3 ⟨rfl, b3⟩; have acc := below_trans acc b3; obtain ⟨hc3, hlt⟩ := bkeep b3 hlt; clear tok1) | (go_at_call 109; have _t := tok2; refine (HV.out _).mono ?_; rintro e w4 ⟨rfl, b4⟩; have acc := below_trans acc b4; obtain ⟨hc4, hlt⟩ := bkeep b4 hlt; clear tok2))
            all_goals
              go_ret
              exact ⟨rfl, acc⟩
          · simp only at q1 q2 q3 q4
            subst q2
            clear hE
            have acc := below_new w (.cells #[.string id, .string cv, .int .i64 ck, .string ct, .int .i64 cn, .int .i64 op, .string av, .int .i64 ak, .string at_, .int .i64 an, .string bv, .int .i64 0, .string bt, .int .i64 bn, .int .i64 pref, .string ov, .int .i64 ok, .string ot, .int .i64 on_] 69)
            have hlt : w.heap.size < (w.alloc (.cells #[.string id, .string cv, .int .i64 ck, .string ct, .int .i64 cn, .int .i64 op, .string av, .int .i64 ak, .string at_, .int .i64 an, .string bv, .int .i64 0, .string bt, .int .i64 bn, .int .i64 pref, .string ov, .int .i64 ok, .string ot, .int .i64 on_] 69)).heap.size := by simp
            have tok1 : True := trivial
            have tok2 : True := trivial
            go_enter Try.func70, Try.ntmps70
            go_wp2_with (first | (go_at_call 67; refine (HW.out _).mono ?_; rintro e w2 ⟨rfl, rfl⟩) | (go_at_call 109; have _t := tok1; refine (HA.out _).mono ?_; rintro e w3 ⟨rfl, b3⟩; have acc := below_trans acc b3; obtain ⟨hc3, hlt⟩ := bkeep b3 hlt; clear tok1) | (go_at_call 109; have _t := tok2; refine (HV.out _).mono ?_; rintro e w4 ⟨rfl, b4⟩; have acc := below_trans acc b4; obtain ⟨hc4, hlt⟩ := bkeep b4 hlt; clear tok2))
            all_goals
              go_ret
              exact ⟨rfl, acc⟩
        · rw [Bool.true_and]
          obtain ⟨q1, q2, q3, q4⟩ := emptyB_true hE
          simp only at q1 q2 q3 q4
          subst q2
          subst q4
          have r1 := toList_nil.2 q1
          have r3 := toList_nil.2 q3
          clear hE q1 q3
          by_cases h8 : 8 ≤ pref
          · rw [if_pos h8]
            have acc := below_new w (.cells #[.string id, .string cv, .int .i64 ck, .string ct, .int .i64 cn, .int .i64 op, .string av, .int .i64 ak, .string at_, .int .i64 an, .string bv, .int .i64 0, .string bt, .int .i64 0, .int .i64 pref, .string ov, .int .i64 ok, .string ot, .int .i64 on_] 69)
            have hlt : w.heap.size < (w.alloc (.cells #[.string id, .string cv, .int .i64 ck, .string ct, .int .i64 cn, .int .i64 op, .string av, .int .i64 ak, .string at_, .int .i64 an, .string bv, .int .i64 0, .string bt, .int .i64 0, .int .i64 pref, .string ov, .int .i64 ok, .string ot, .int .i64 on_] 69)).heap.size := by simp
            have tok1 : True := trivial
            have tok2 : True := trivial
            go_enter Try.func70, Try.ntmps70
            go_wp2_with (first | (go_at_call 67; refine (HW.out _).mono ?_; rintro e w2 ⟨rfl, rfl⟩) | (go_at_call 109; have _t := tok1; refine (HA.out _).mono ?_; rintro e w3 ⟨rfl, b3⟩; have acc := below_trans acc b3; obtain ⟨hc3, hlt⟩ := bkeep b3 hlt; clear tok1) | (go_at_call 109; have _t := tok2; refine (HV.out _).mono ?_; rintro e w4 ⟨rfl, b4⟩; have acc := below_trans acc b4; obtain ⟨hc4, hlt⟩ := bkeep b4 hlt; clear tok2) | (go_at_call 109; refine (HO.out _).mono ?_; rintro e w6 ⟨rfl, b6⟩; have acc := below_trans acc b6))
            all_goals
              go_ret
              exact ⟨rfl, acc⟩
          · rw [if_neg h8]
            rcases hF : emptyB ⟨ov, ⟨ok, ot, on_⟩⟩ with _ | _
            · rcases emptyB_false hF with f1 | ⟨f1, f2⟩ | ⟨f1, f2, f3⟩ | ⟨f1, f2, f3, f4⟩
              · simp only at f1
                clear hF
                have acc := below_new w (.cells #[.string id, .string cv, .int .i64 ck, .string ct, .int .i64 cn, .int .i64 op, .string av, .int .i64 ak, .string at_, .int .i64 an, .string bv, .int .i64 0, .string bt, .int .i64 0, .int .i64 pref, .string ov, .int .i64 ok, .string ot, .int .i64 on_] 69)
                have hlt : w.heap.size < (w.alloc (.cells #[.string id, .string cv, .int .i64 ck, .string ct, .int .i64 cn, .int .i64 op, .string av, .int .i64 ak, .string at_, .int .i64 an, .string bv, .int .i64 0, .string bt, .int .i64 0, .int .i64 pref, .string ov, .int .i64 ok, .string ot, .int .i64 on_] 69)).heap.size := by simp
                have tok1 : True := trivial
                have tok2 : True := trivial
                go_enter Try.func70, Try.ntmps70
                go_wp2_with (first | (go_at_call 67; refine (HW.out _).mono ?_; rintro e w2 ⟨rfl, rfl⟩) | (go_at_call 109; have _t := tok1; refine (HA.out _).mono ?_; rintro e w3 ⟨rfl, b3⟩; have acc := below_trans acc b3; obtain ⟨hc3, hlt⟩ := bkeep b3 hlt; clear tok1) | (go_at_call 109; have _t := tok2; refine (HV.out _).mono ?_; rintro e w4 ⟨rfl, b4⟩; have acc := below_trans acc b4; obtain ⟨hc4, hlt⟩ := bkeep b4 hlt; clear tok2))
                all_goals
                  go_ret
                  exact ⟨rfl, acc⟩
              · simp only at f1 f2
                clear hF
                have acc := below_new w (.cells #[.string id, .string cv, .int .i64 ck, .string ct, .int .i64 cn, .int .i64 op, .string av, .int .i64 ak, .string at_, .int .i64 an, .string bv, .int .i64 0, .string bt, .int .i64 0, .int .i64 pref, .string ov, .int .i64 ok, .string ot, .int .i64 on_] 69)
                have hlt : w.heap.size < (w.alloc (.cells #[.string id, .string cv, .int .i64 ck, .string ct, .int .i64 cn, .int .i64 op, .string av, .int .i64 ak, .string at_, .int .i64 an, .string bv, .int .i64 0, .string bt, .int .i64 0, .int .i64 pref, .string ov, .int .i64 ok, .string ot, .int .i64 on_] 69)).heap.size := by simp
                have tok1 : True := trivial
                have tok2 : True := trivial
                go_enter Try.func70, Try.ntmps70
                go_wp2_with (first | (go_at_call 67; refine (HW.out _).mono ?_; rintro e w2 ⟨rfl, rfl⟩) | (go_at_call 109; have _t := tok1; refine (HA.out _).mono ?_; rintro e w3 ⟨rfl, b3⟩; have acc := below_trans acc b3; obtain ⟨hc3, hlt⟩ := bkeep b3 hlt; clear tok1) | (go_at_call 109; have _t := tok2; refine (HV.out _).mono ?_; rintro e w4 ⟨rfl, b4⟩; have acc := below_trans acc b4; obtain ⟨hc4, hlt⟩ := bkeep b4 hlt; clear tok2))
                all_goals
                  go_ret
                  exact ⟨rfl, acc⟩
              · simp only at f1 f2 f3
                subst f2
                clear hF
                have acc := below_new w (.cells #[.string id, .string cv, .int .i64 ck, .string ct, .int .i64 cn, .int .i64 op, .string av, .int .i64 ak, .string at_, .int .i64 an, .string bv, .int .i64 0, .string bt, .int .i64 0, .int .i64 pref, .string ov, .int .i64 0, .string ot, .int .i64 on_] 69)
                have hlt : w.heap.size < (w.alloc (.cells #[.string id, .string cv, .int .i64 ck, .string ct, .int .i64 cn, .int .i64 op, .string av, .int .i64 ak, .string at_, .int .i64 an, .string bv, .int .i64 0, .string bt, .int .i64 0, .int .i64 pref, .string ov, .int .i64 0, .string ot, .int .i64 on_] 69)).heap.size := by simp
                have tok1 : True := trivial
                have tok2 : True := trivial
                go_enter Try.func70, Try.ntmps70
                go_wp2_with (first | (go_at_call 67; refine (HW.out _).mono ?_; rintro e w2 ⟨rfl, rfl⟩) | (go_at_call 109; have _t := tok1; refine (HA.out _).mono ?_; rintro e w3 ⟨rfl, b3⟩; have acc := below_trans acc b3; obtain ⟨hc3, hlt⟩ := bkeep b3 hlt; clear tok1) | (go_at_call 109; have _t := tok2; refine (HV.out _).mono ?_; rintro e w4 ⟨rfl, b4⟩; have acc := below_trans acc b4; obtain ⟨hc4, hlt⟩ := bkeep b4 hlt; clear tok2))
                all_goals
                  go_ret
                  exact ⟨rfl, acc⟩
              · simp only at f1 f2 f3 f4
                subst f2
                clear hF
                have acc := below_new w (.cells #[.string id, .string cv, .int .i64 ck, .string ct, .int .i64 cn, .int .i64 op, .string av, .int .i64 ak, .string at_, .int .i64 an, .string bv, .int .i64 0, .string bt, .int .i64 0, .int .i64 pref, .string ov, .int .i64 0, .string ot, .int .i64 on_] 69)
                have hlt : w.heap.size < (w.alloc (.cells #[.string id, .string cv, .int .i64 ck, .string ct, .int .i64 cn, .int .i64 op, .string av, .int .i64 ak, .string at_, .int .i64 an, .string bv, .int .i64 0, .string bt, .int .i64 0, .int .i64 pref, .string ov, .int .i64 0, .string ot, .int .i64 on_] 69)).heap.size := by simp
                have tok1 : True := trivial
                have tok2 : True := trivial
                go_enter Try.func70, Try.ntmps70
                go_wp2_with (first | (go_at_call 67; refine (HW.out _).mono ?_; rintro e w2 ⟨rfl, rfl⟩) | (go_at_call 109; have _t := tok1; refine (HA.out _).mono ?_; rintro e w3 ⟨rfl, b3⟩; have acc := below_trans acc b3; obtain ⟨hc3, hlt⟩ := bkeep b3 hlt; clear tok1) | (go_at_call 109; have _t := tok2; refine (HV.out _).mono ?_; rintro e w4 ⟨rfl, b4⟩; have acc := below_trans acc b4; obtain ⟨hc4, hlt⟩ := bkeep b4 hlt; clear tok2))
                all_goals
                  go_ret
                  exact ⟨rfl, acc⟩
            · obtain ⟨f1, f2, f3, f4⟩ := emptyB_true hF
              simp only at f1 f2 f3 f4
              subst f2
              subst f4
              have s1 := toList_nil.2 f1
              have s3 := toList_nil.2 f3
              clear hF f1 f3
              have acc := below_new w (.cells #[.string id, .string cv, .int .i64 ck, .string ct, .int .i64 cn, .int .i64 op, .string av, .int .i64 ak, .string at_, .int .i64 an, .string bv, .int .i64 0, .string bt, .int .i64 0, .int .i64 pref, .string ov, .int .i64 0, .string ot, .int .i64 0] 69)
              have hlt : w.heap.size < (w.alloc (.cells #[.string id, .string cv, .int .i64 ck, .string ct, .int .i64 cn, .int .i64 op, .string av, .int .i64 ak, .string at_, .int .i64 an, .string bv, .int .i64 0, .string bt, .int .i64 0, .int .i64 pref, .string ov, .int .i64 0, .string ot, .int .i64 0] 69)).heap.size := by simp
              have tok1 : True := trivial
              have tok2 : True := trivial
              go_enter Try.func70, Try.ntmps70
              go_wp2_with (first | (go_at_call 67; refine (HW.out _).mono ?_; rintro e w2 ⟨rfl, rfl⟩) | (go_at_call 109; have _t := tok1; refine (HA.out _).mono ?_; rintro e w3 ⟨rfl, b3⟩; have acc := below_trans acc b3; obtain ⟨hc3, hlt⟩ := bkeep b3 hlt; clear tok1) | (go_at_call 109; have _t := tok2; refine (HV.out _).mono ?_; rintro e w4 ⟨rfl, b4⟩; have acc := below_trans acc b4; obtain ⟨hc4, hlt⟩ := bkeep b4 hlt; clear tok2))
              all_goals
                go_ret
                exact ⟨rfl, acc⟩
      · rw [if_neg h0]
        have e0 : (op == 0) = false := by simp [h0]
        clear h0
        rcases B with _ | _
        · rw [Bool.false_and, Bool.false_and, Bool.false_and]
          have acc := below_new w (.cells #[.string id, .string cv, .int .i64 ck, .string ct, .int .i64 cn, .int .i64 op, .string av, .int .i64 ak, .string at_, .int .i64 an, .string bv, .int .i64 bk, .string bt, .int .i64 bn, .int .i64 pref, .string ov, .int .i64 ok, .string ot, .int .i64 on_] 69)
          have hlt : w.heap.size < (w.alloc (.cells #[.string id, .string cv, .int .i64 ck, .string ct, .int .i64 cn, .int .i64 op, .string av, .int .i64 ak, .string at_, .int .i64 an, .string bv, .int .i64 bk, .string bt, .int .i64 bn, .int .i64 pref, .string ov, .int .i64 ok, .string ot, .int .i64 on_] 69)).heap.size := by simp
          have tok1 : True := trivial
          have tok2 : True := trivial
          have tok3 : True := trivial
          go_enter Try.func70, Try.ntmps70
          go_wp2_with (first | (go_at_call 67; refine (HW.out _).mono ?_; rintro e w2 ⟨rfl, rfl⟩) | (go_at_call 109; have _t := tok1; refine (HA.out _).mono ?_; rintro e w3 ⟨rfl, b3⟩; have acc := below_trans acc b3; obtain ⟨hc3, hlt⟩ := bkeep b3 hlt; clear tok1) | (go_at_call 109; have _t := tok2; refine (HV.out _).mono ?_; rintro e w4 ⟨rfl, b4⟩; have acc := below_trans acc b4; obtain ⟨hc4, hlt⟩ := bkeep b4 hlt; clear tok2) | (go_at_call 109; have _t := tok3; refine (HB.out _).mono ?_; rintro e w5 ⟨rfl, b5⟩; have acc := below_trans acc b5; obtain ⟨hc5, hlt⟩ := bkeep b5 hlt; clear tok3))
          all_goals
            go_ret
            exact ⟨rfl, acc⟩
        · rw [Bool.true_and]
          by_cases k3 : ak = 3
          · have e3 : (ak == 3) = true := by simp [k3]
            rw [show (!decide (ak = 3)) = false by simp [k3], Bool.false_and, Bool.false_and]
            clear k3
            have acc := below_new w (.cells #[.string id, .string cv, .int .i64 ck, .string ct, .int .i64 cn, .int .i64 op, .string av, .int .i64 ak, .string at_, .int .i64 an, .string bv, .int .i64 bk, .string bt, .int .i64 bn, .int .i64 pref, .string ov, .int .i64 ok, .string ot, .int .i64 on_] 69)
            have hlt : w.heap.size < (w.alloc (.cells #[.string id, .string cv, .int .i64 ck, .string ct, .int .i64 cn, .int .i64 op, .string av, .int .i64 ak, .string at_, .int .i64 an, .string bv, .int .i64 bk, .string bt, .int .i64 bn, .int .i64 pref, .string ov, .int .i64 ok, .string ot, .int .i64 on_] 69)).heap.size := by simp
            have tok1 : True := trivial
            have tok2 : True := trivial
            have tok3 : True := trivial
            go_enter Try.func70, Try.ntmps70
            go_wp2_with (first | (go_at_call 67; refine (HW.out _).mono ?_; rintro e w2 ⟨rfl, rfl⟩) | (go_at_call 109; have _t := tok1; refine (HA.out _).mono ?_; rintro e w3 ⟨rfl, b3⟩; have acc := below_trans acc b3; obtain ⟨hc3, hlt⟩ := bkeep b3 hlt; clear tok1) | (go_at_call 109; have _t := tok2; refine (HV.out _).mono ?_; rintro e w4 ⟨rfl, b4⟩; have acc := below_trans acc b4; obtain ⟨hc4, hlt⟩ := bkeep b4 hlt; clear tok2) | (go_at_call 109; have _t := tok3; refine (HB.out _).mono ?_; rintro e w5 ⟨rfl, b5⟩; have acc := below_trans acc b5; obtain ⟨hc5, hlt⟩ := bkeep b5 hlt; clear tok3))
            all_goals
              go_ret
              exact ⟨rfl, acc⟩
          · have e3 : (ak == 3) = false := by simp [k3]
            rw [show (!decide (ak = 3)) = true by simp [k3], Bool.true_and]
            clear k3
            by_cases j3 : bk = 3
            · have d3 : (bk == 3) = true := by simp [j3]
              rw [show (!decide (bk = 3)) = false by simp [j3], Bool.false_and]
              clear j3
              have acc := below_new w (.cells #[.string id, .string cv, .int .i64 ck, .string ct, .int .i64 cn, .int .i64 op, .string av, .int .i64 ak, .string at_, .int .i64 an, .string bv, .int .i64 bk, .string bt, .int .i64 bn, .int .i64 pref, .string ov, .int .i64 ok, .string ot, .int .i64 on_] 69)
              have hlt : w.heap.size < (w.alloc (.cells #[.string id, .string cv, .int .i64 ck, .string ct, .int .i64 cn, .int .i64 op, .string av, .int .i64 ak, .string at_, .int .i64 an, .string bv, .int .i64 bk, .string bt, .int .i64 bn, .int .i64 pref, .string ov, .int .i64 ok, .string ot, .int .i64 on_] 69)).heap.size := by simp
              have tok1 : True := trivial
              have tok2 : True := trivial
              have tok3 : True := trivial
              go_enter Try.func70, Try.ntmps70
              go_wp2_with (first | (go_at_call 67; refine (HW.out _).mono ?_; rintro e w2 ⟨rfl, rfl⟩) | (go_at_call 109; have _t := tok1; refine (HA.out _).mono ?_; rintro e w3 ⟨rfl, b3⟩; have acc := below_trans acc b3; obtain ⟨hc3, hlt⟩ := bkeep b3 hlt; clear tok1) | (go_at_call 109; have _t := tok2; refine (HV.out _).mono ?_; rintro e w4 ⟨rfl, b4⟩; have acc := below_trans acc b4; obtain ⟨hc4, hlt⟩ := bkeep b4 hlt; clear tok2) | (go_at_call 109; have _t := tok3; refine (HB.out _).mono ?_; rintro e w5 ⟨rfl, b5⟩; have acc := below_trans acc b5; obtain ⟨hc5, hlt⟩ := bkeep b5 hlt; clear tok3))
              all_goals
                go_ret
                exact ⟨rfl, acc⟩
            · have d3 : (bk == 3) = false := by simp [j3]
              rw [show (!decide (bk = 3)) = true by simp [j3], Bool.true_and]
              clear j3
              by_cases h8 : 8 ≤ pref
              · rw [if_pos h8]
                have acc := below_new w (.cells #[.string id, .string cv, .int .i64 ck, .string ct, .int .i64 cn, .int .i64 op, .string av, .int .i64 ak, .string at_, .int .i64 an, .string bv, .int .i64 bk, .string bt, .int .i64 bn, .int .i64 pref, .string ov, .int .i64 ok, .string ot, .int .i64 on_] 69)
                have hlt : w.heap.size < (w.alloc (.cells #[.string id, .string cv, .int .i64 ck, .string ct, .int .i64 cn, .int .i64 op, .string av, .int .i64 ak, .string at_, .int .i64 an, .string bv, .int .i64 bk, .string bt, .int .i64 bn, .int .i64 pref, .string ov, .int .i64 ok, .string ot, .int .i64 on_] 69)).heap.size := by simp
                have tok1 : True := trivial
                have tok2 : True := trivial
                have tok3 : True := trivial
                go_enter Try.func70, Try.ntmps70
                go_wp2_with (first | (go_at_call 67; refine (HW.out _).mono ?_; rintro e w2 ⟨rfl, rfl⟩) | (go_at_call 109; have _t := tok1; refine (HA.out _).mono ?_; rintro e w3 ⟨rfl, b3⟩; have acc := below_trans acc b3; obtain ⟨hc3, hlt⟩ := bkeep b3 hlt; clear tok1) | (go_at_call 109; have _t := tok2; refine (HV.out _).mono ?_; rintro e w4 ⟨rfl, b4⟩; have acc := below_trans acc b4; obtain ⟨hc4, hlt⟩ := bkeep b4 hlt; clear tok2) | (go_at_call 109; have _t := tok3; refine (HB.out _).mono ?_; rintro e w5 ⟨rfl, b5⟩; have acc := below_trans acc b5; obtain ⟨hc5, hlt⟩ := bkeep b5 hlt; clear tok3) | (go_at_call 109; refine (HO.out _).mono ?_; rintro e w6 ⟨rfl, b6⟩; have acc := below_trans acc b6))
                all_goals
                  go_ret
                  exact ⟨rfl, acc⟩
              · rw [if_neg h8]
                rcases hF : emptyB ⟨ov, ⟨ok, ot, on_⟩⟩ with _ | _
                · rcases emptyB_false hF with f1 | ⟨f1, f2⟩ | ⟨f1, f2, f3⟩ | ⟨f1, f2, f3, f4⟩
                  · simp only at f1
                    clear hF
                    have acc := below_new w (.cells #[.string id, .string cv, .int .i64 ck, .string ct, .int .i64 cn, .int .i64 op, .string av, .int .i64 ak, .string at_, .int .i64 an, .string bv, .int .i64 bk, .string bt, .int .i64 bn, .int .i64 pref, .string ov, .int .i64 ok, .string ot, .int .i64 on_] 69)
                    have hlt : w.heap.size < (w.alloc (.cells #[.string id, .string cv, .int .i64 ck, .string ct, .int .i64 cn, .int .i64 op, .string av, .int .i64 ak, .string at_, .int .i64 an, .string bv, .int .i64 bk, .string bt, .int .i64 bn, .int .i64 pref, .string ov, .int .i64 ok, .string ot, .int .i64 on_] 69)).heap.size := by simp
                    have tok1 : True := trivial
                    have tok2 : True := trivial
                    have tok3 : True := trivial
                    go_enter Try.func70, Try.ntmps70
                    go_wp2_with (first | (go_at_call 67; refine (HW.out _).mono ?_; rintro e w2 ⟨rfl, rfl⟩) | (go_at_call 109; have _t := tok1; refine (HA.out _).mono ?_; rintro e w3 ⟨rfl, b3⟩; have acc := below_trans acc b3; obtain ⟨hc3, hlt⟩ := bkeep b3 hlt; clear tok1) | (go_at_call 109; have _t := tok2; refine (HV.out _).mono ?_; rintro e w4 ⟨rfl, b4⟩; have acc := below_trans acc b4; obtain ⟨hc4, hlt⟩ := bkeep b4 hlt; clear tok2) | (go_at_call 109; have _t := tok3; refine (HB.out _).mono ?_; rintro e w5 ⟨rfl, b5⟩; have acc := below_trans acc b5; obtain ⟨hc5, hlt⟩ := bkeep b5 hlt; clear tok3))
                    all_goals
                      go_ret
                      exact ⟨rfl, acc⟩
                  · simp only at f1 f2
                    clear hF
                    have acc := below_new w (.cells #[.string id, .string cv, .int .i64 ck, .string ct, .int .i64 cn, .int .i64 op, .string av, .int .i64 ak, .string at_, .int .i64 an, .string bv, .int .i64 bk, .string bt, .int .i64 bn, .int .i64 pref, .string ov, .int .i64 ok, .string ot, .int .i64 on_] 69)
                    have hlt : w.heap.size < (w.alloc (.cells #[.string id, .string cv, .int .i64 ck, .string ct, .int .i64 cn, .int .i64 op, .string av, .int .i64 ak, .string at_, .int .i64 an, .string bv, .int .i64 bk, .string bt, .int .i64 bn, .int .i64 pref, .string ov, .int .i64 ok, .string ot, .int .i64 on_] 69)).heap.size := by simp
                    have tok1 : True := trivial
                    have tok2 : True := trivial
                    have tok3 : True := trivial
                    go_enter Try.func70, Try.ntmps70
                    go_wp2_with (first | (go_at_call 67; refine (HW.out _).mono ?_; rintro e w2 ⟨rfl, rfl⟩) | (go_at_call 109; have _t := tok1; refine (HA.out _).mono ?_; rintro e w3 ⟨rfl, b3⟩; have acc := below_trans acc b3; obtain ⟨hc3, hlt⟩ := bkeep b3 hlt; clear tok1) | (go_at_call 109; have _t := tok2; refine (HV.out _).mono ?_; rintro e w4 ⟨rfl, b4⟩; have acc := below_trans acc b4; obtain ⟨hc4, hlt⟩ := bkeep b4 hlt; clear tok2) | (go_at_call 109; have _t := tok3; refine (HB.out _).mono ?_; rintro e w5 ⟨rfl, b5⟩; have acc := below_trans acc b5; obtain ⟨hc5, hlt⟩ := bkeep b5 hlt; clear tok3))
                    all_goals
                      go_ret
                      exact ⟨rfl, acc⟩
                  · simp only at f1 f2 f3
                    subst f2
                    clear hF
                    have acc := below_new w (.cells #[.string id, .string cv, .int .i64 ck, .string ct, .int .i64 cn, .int .i64 op, .string av, .int .i64 ak, .string at_, .int .i64 an, .string bv, .int .i64 bk, .string bt, .int .i64 bn, .int .i64 pref, .string ov, .int .i64 0, .string ot, .int .i64 on_] 69)
                    have hlt : w.heap.size < (w.alloc (.cells #[.string id, .string cv, .int .i64 ck, .string ct, .int .i64 cn, .int .i64 op, .string av, .int .i64 ak, .string at_, .int .i64 an, .string bv, .int .i64 bk, .string bt, .int .i64 bn, .int .i64 pref, .string ov, .int .i64 0, .string ot, .int .i64 on_] 69)).heap.size := by simp
                    have tok1 : True := trivial
                    have tok2 : True := trivial
                    have tok3 : True := trivial
                    go_enter Try.func70, Try.ntmps70
                    go_wp2_with (first | (go_at_call 67; refine (HW.out _).mono ?_; rintro e w2 ⟨rfl, rfl⟩) | (go_at_call 109; have _t := tok1; refine (HA.out _).mono ?_; rintro e w3 ⟨rfl, b3⟩; have acc := below_trans acc b3; obtain ⟨hc3, hlt⟩ := bkeep b3 hlt; clear tok1) | (go_at_call 109; have _t := tok2; refine (HV.out _).mono ?_; rintro e w4 ⟨rfl, b4⟩; have acc := below_trans acc b4; obtain ⟨hc4, hlt⟩ := bkeep b4 hlt; clear tok2) | (go_at_call 109; have _t := tok3; refine (HB.out _).mono ?_; rintro e w5 ⟨rfl, b5⟩; have acc := below_trans acc b5; obtain ⟨hc5, hlt⟩ := bkeep b5 hlt; clear tok3))
                    all_goals
                      go_ret
                      exact ⟨rfl, acc⟩
                  · simp only at f1 f2 f3 f4
                    subst f2
                    clear hF
                    have acc := below_new w (.cells #[.string id, .string cv, .int .i64 ck, .string ct, .int .i64 cn, .int .i64 op, .string av, .int .i64 ak, .string at_, .int .i64 an, .string bv, .int .i64 bk, .string bt, .int .i64 bn, .int .i64 pref, .string ov, .int .i64 0, .string ot, .int .i64 on_] 69)
                    have hlt : w.heap.size < (w.alloc (.cells #[.string id, .string cv, .int .i64 ck, .string ct, .int .i64 cn, .int .i64 op, .string av, .int .i64 ak, .string at_, .int .i64 an, .string bv, .int .i64 bk, .string bt, .int .i64 bn, .int .i64 pref, .string ov, .int .i64 0, .string ot, .int .i64 on_] 69)).heap.size := by simp
                    have tok1 : True := trivial
                    have tok2 : True := trivial
                    have tok3 : True := trivial
                    go_enter Try.func70, Try.ntmps70
                    go_wp2_with (first | (go_at_call 67; refine (HW.out _).mono ?_; rintro e w2 ⟨rfl, rfl⟩) | (go_at_call 109; have _t := tok1; refine (HA.out _).mono ?_; rintro e w3 ⟨rfl, b3⟩; have acc := below_trans acc b3; obtain ⟨hc3, hlt⟩ := bkeep b3 hlt; clear tok1) | (go_at_call 109; have _t := tok2; refine (HV.out _).mono ?_; rintro e w4 ⟨rfl, b4⟩; have acc := below_trans acc b4; obtain ⟨hc4, hlt⟩ := bkeep b4 hlt; clear tok2) | (go_at_call 109; have _t := tok3; refine (HB.out _).mono ?_; rintro e w5 ⟨rfl, b5⟩; have acc := below_trans acc b5; obtain ⟨hc5, hlt⟩ := bkeep b5 hlt; clear tok3))
                    all_goals
                      go_ret
                      exact ⟨rfl, acc⟩
                · obtain ⟨f1, f2, f3, f4⟩ := emptyB_true hF
                  simp only at f1 f2 f3 f4
                  subst f2
                  subst f4
                  have s1 := toList_nil.2 f1
                  have s3 := toList_nil.2 f3
                  clear hF f1 f3
                  have acc := below_new w (.cells #[.string id, .string cv, .int .i64 ck, .string ct, .int .i64 cn, .int .i64 op, .string av, .int .i64 ak, .string at_, .int .i64 an, .string bv, .int .i64 bk, .string bt, .int .i64 bn, .int .i64 pref, .string ov, .int .i64 0, .string ot, .int .i64 0] 69)
                  have hlt : w.heap.size < (w.alloc (.cells #[.string id, .string cv, .int .i64 ck, .string ct, .int .i64 cn, .int .i64 op, .string av, .int .i64 ak, .string at_, .int .i64 an, .string bv, .int .i64 bk, .string bt, .int .i64 bn, .int .i64 pref, .string ov, .int .i64 0, .string ot, .int .i64 0] 69)).heap.size := by simp
                  have tok1 : True := trivial
                  have tok2 : True := trivial
                  have tok3 : True := trivial
                  go_enter Try.func70, Try.ntmps70
                  go_wp2_with (first | (go_at_call 67; refine (HW.out _).mono ?_; rintro e w2 ⟨rfl, rfl⟩) | (go_at_call 109; have _t := tok1; refine (HA.out _).mono ?_; rintro e w3 ⟨rfl, b3⟩; have acc := below_trans acc b3; obtain ⟨hc3, hlt⟩ := bkeep b3 hlt; clear tok1) | (go_at_call 109; have _t := tok2; refine (HV.out _).mono ?_; rintro e w4 ⟨rfl, b4⟩; have acc := below_trans acc b4; obtain ⟨hc4, hlt⟩ := bkeep b4 hlt; clear tok2) | (go_at_call 109; have _t := tok3; refine (HB.out _).mono ?_; rintro e w5 ⟨rfl, b5⟩; have acc := below_trans acc b5; obtain ⟨hc5, hlt⟩ := bkeep b5 hlt; clear tok3))
                  all_goals
                    go_ret
                    exact ⟨rfl, acc⟩
theorem rAct_any (a : Ac) (h : a.Big) (w : World) : Calls Try.prog 70 #[a.val] w fun e w' => e = .returned (.bool (actB a)) ∧ Below w.heap.size w w' := by
  rw [← ractB_eq]; exact rAct_any0 a h w
end Go.Proofs.Ytgeaccoobhigcaa
