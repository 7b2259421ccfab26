/-
  Parts of productions: which may be. Actions, as shape asks and as the document does.
-/
import Derived.Test.YtgeaccoobhigcaaS21
namespace Go.Proofs.Ytgeaccoobhigcaa
open Go Go.RowKit

/-- Strings of an action, as they may come in. -/
structure Ac.Big (a : Ac) : Prop where
  id : a.id.size ≤ 9223372036854775807
  attr : a.attr.Big
  va : a.value.a.Big
  vb : a.value.b.Big
  other : a.other.Big

theorem other_any (k : Int) (w : World) : Calls Try.prog 133 #[.int .i64 k] w fun e w' => e = .returned (.bool (decide (8 ≤ k ∧ k ≤ 10))) ∧ w = w' := by
  by_cases h : 8 ≤ k ∧ k ≤ 10
  · have HR : Hid (decide (8 ≤ k ∧ k ≤ 10) = true) := Lib.hid (decide_eq_true h)
    rw [HR.out]
    rcases (show (k == 8) = true ∨ ((k == 8) = false ∧ (k == 9) = true) ∨ ((k == 8) = false ∧ (k == 9) = false ∧ (k == 10) = true) by simp; omega) with e8 | ⟨e8, e9⟩ | ⟨e8, e9, e10⟩
    all_goals
      clear h
      go_enter Try.func133, Try.ntmps133
      go_wp2
      go_ret
      exact ⟨rfl, rfl⟩
  · have HR : Hid (decide (8 ≤ k ∧ k ≤ 10) = false) := Lib.hid (decide_eq_false h)
    rw [HR.out]
    have e8 : (k == 8) = false := by simp; omega
    have e9 : (k == 9) = false := by simp; omega
    have e10 : (k == 10) = false := by simp; omega
    clear h
    go_enter Try.func133, Try.ntmps133
    go_wp2
    go_ret
    exact ⟨rfl, rfl⟩

set_option maxRecDepth 100000 in
set_option maxHeartbeats 4000000 in
theorem shAct_any (a : Ac) (h : a.Big) (w : World) : Calls Try.prog 105 #[a.val] w fun e w' => e = .returned (.bool (actB a)) ∧ Below w.heap.size w w' := by
  have hW := fun w => word_any a.id h.id w
  have hA := fun w => shAtom_any a.attr h.attr.v h.attr.s w
  have hT := fun w => shTerm_any a.value h.va h.vb w
  have hO := fun w => shAtom_any a.other h.other.v h.other.s w
  have hE := fun w => empty_any a.other w
  have hP := fun w => other_any a.pref w
  obtain ⟨id, ⟨cv, ck, ct, cn⟩, ⟨op, ⟨av, ak, at_, an⟩, ⟨bv, bk, bt, bn⟩⟩, pref, ⟨ov, ok, ot, on_⟩⟩ := a
  unfold actB Ac.val
  simp only at hW hA hT hO hE hP ⊢
  clear h
  generalize wordB id.data.toList = W at hW ⊢
  generalize atomB ⟨cv, ck, ct, cn⟩ = A at hA ⊢
  generalize termB ⟨op, ⟨av, ak, at_, an⟩, ⟨bv, bk, bt, bn⟩⟩ = T at hT ⊢
  generalize atomB ⟨ov, ok, ot, on_⟩ = O at hO ⊢
  generalize emptyB ⟨ov, ok, ot, on_⟩ = E at hE ⊢
  unfold Am.val at hA hO hE
  unfold Tm.val at hT
  simp only at hA hO hE hT
  have HW := Lib.hid hW
  have HA := Lib.hid hA
  have HT := Lib.hid hT
  have HO := Lib.hid hO
  have HE := Lib.hid hE
  have HP := Lib.hid hP
  have acc := below_new w (.cells #[.string id, .string cv, .int .i64 ck, .string ct, .int .i64 cn, .int .i64 op, .string av, .int .i64 ak, .string at_, .int .i64 an, .string bv, .int .i64 bk, .string bt, .int .i64 bn, .int .i64 pref, .string ov, .int .i64 ok, .string ot, .int .i64 on_] 69)
  have hlt : w.heap.size < (w.alloc (.cells #[.string id, .string cv, .int .i64 ck, .string ct, .int .i64 cn, .int .i64 op, .string av, .int .i64 ak, .string at_, .int .i64 an, .string bv, .int .i64 bk, .string bt, .int .i64 bn, .int .i64 pref, .string ov, .int .i64 ok, .string ot, .int .i64 on_] 69)).heap.size := by simp
  clear hW hA hT hO hE hP
  rcases W with _ | _
  · have HR : Hid ((false && A && T && decide (1 ≤ pref ∧ pref ≤ 10) && (if 8 ≤ pref then O else E)) = false) := Lib.hid (by simp)
    rw [HR.out]
    have tok : True := trivial
    go_enter Try.func105, Try.ntmps105
    go_wp2_with (first | (go_at_call 100; refine (HW.out _).mono ?_; rintro e w2 ⟨rfl, rfl⟩))
    go_ret
    exact ⟨rfl, acc⟩
  rcases A with _ | _
  · have HR : Hid ((true && false && T && decide (1 ≤ pref ∧ pref ≤ 10) && (if 8 ≤ pref then O else E)) = false) := Lib.hid (by simp)
    rw [HR.out]
    have tok : True := trivial
    go_enter Try.func105, Try.ntmps105
    go_wp2_with (first | (go_at_call 100; refine (HW.out _).mono ?_; rintro e w2 ⟨rfl, rfl⟩) | (go_at_call 131; have _t := tok; refine (HA.out _).mono ?_; rintro e w3 ⟨rfl, b3⟩; have acc := below_trans acc b3; obtain ⟨hc3, hlt⟩ := bkeep b3 hlt; clear tok))
    go_ret
    exact ⟨rfl, acc⟩
  rcases T with _ | _
  · have HR : Hid ((true && true && false && decide (1 ≤ pref ∧ pref ≤ 10) && (if 8 ≤ pref then O else E)) = false) := Lib.hid (by simp)
    rw [HR.out]
    have tok : True := trivial
    go_enter Try.func105, Try.ntmps105
    go_wp2_with (first | (go_at_call 100; refine (HW.out _).mono ?_; rintro e w2 ⟨rfl, rfl⟩) | (go_at_call 131; have _t := tok; refine (HA.out _).mono ?_; rintro e w3 ⟨rfl, b3⟩; have acc := below_trans acc b3; obtain ⟨hc3, hlt⟩ := bkeep b3 hlt; clear tok) | (go_at_call 132; refine (HT.out _).mono ?_; rintro e w4 ⟨rfl, b4⟩; have acc := below_trans acc b4; obtain ⟨hc4, hlt⟩ := bkeep b4 hlt))
    go_ret
    exact ⟨rfl, acc⟩
  rcases (show pref < 1 ∨ (¬ pref < 1 ∧ 10 < pref) ∨ (¬ pref < 1 ∧ ¬ 10 < pref) by omega) with h1 | ⟨h1, h2⟩ | ⟨h1, h2⟩
  · have HR : Hid ((true && true && true && decide (1 ≤ pref ∧ pref ≤ 10) && (if 8 ≤ pref then O else E)) = false) := Lib.hid (by rw [decide_eq_false (by omega)]; simp)
    rw [HR.out]
    have tok : True := trivial
    go_enter Try.func105, Try.ntmps105
    go_wp2_with (first | (go_at_call 100; refine (HW.out _).mono ?_; rintro e w2 ⟨rfl, rfl⟩) | (go_at_call 131; have _t := tok; refine (HA.out _).mono ?_; rintro e w3 ⟨rfl, b3⟩; have acc := below_trans acc b3; obtain ⟨hc3, hlt⟩ := bkeep b3 hlt; clear tok) | (go_at_call 132; refine (HT.out _).mono ?_; rintro e w4 ⟨rfl, b4⟩; have acc := below_trans acc b4; obtain ⟨hc4, hlt⟩ := bkeep b4 hlt))
    go_ret
    exact ⟨rfl, acc⟩
  · have HR : Hid ((true && true && true && decide (1 ≤ pref ∧ pref ≤ 10) && (if 8 ≤ pref then O else E)) = false) := Lib.hid (by rw [decide_eq_false (by omega)]; simp)
    rw [HR.out]
    have tok : True := trivial
    go_enter Try.func105, Try.ntmps105
    go_wp2_with (first | (go_at_call 100; refine (HW.out _).mono ?_; rintro e w2 ⟨rfl, rfl⟩) | (go_at_call 131; have _t := tok; refine (HA.out _).mono ?_; rintro e w3 ⟨rfl, b3⟩; have acc := below_trans acc b3; obtain ⟨hc3, hlt⟩ := bkeep b3 hlt; clear tok) | (go_at_call 132; refine (HT.out _).mono ?_; rintro e w4 ⟨rfl, b4⟩; have acc := below_trans acc b4; obtain ⟨hc4, hlt⟩ := bkeep b4 hlt))
    go_ret
    exact ⟨rfl, acc⟩
  · by_cases h8 : 8 ≤ pref
    · have HR : Hid ((true && true && true && decide (1 ≤ pref ∧ pref ≤ 10) && (if 8 ≤ pref then O else E)) = O) := Lib.hid (by rw [decide_eq_true (by omega), if_pos h8]; simp)
      rw [HR.out]
      have HD : Hid (decide (8 ≤ pref ∧ pref ≤ 10) = true) := Lib.hid (decide_eq_true (by omega))
      rw [HD.out] at HP
      have tok : True := trivial
      go_enter Try.func105, Try.ntmps105
      go_wp2_with (first | (go_at_call 100; refine (HW.out _).mono ?_; rintro e w2 ⟨rfl, rfl⟩) | (go_at_call 131; have _t := tok; refine (HA.out _).mono ?_; rintro e w3 ⟨rfl, b3⟩; have acc := below_trans acc b3; obtain ⟨hc3, hlt⟩ := bkeep b3 hlt; clear tok) | (go_at_call 132; refine (HT.out _).mono ?_; rintro e w4 ⟨rfl, b4⟩; have acc := below_trans acc b4; obtain ⟨hc4, hlt⟩ := bkeep b4 hlt) | (go_at_call 133; refine (HP.out _).mono ?_; rintro e w5 ⟨rfl, rfl⟩) | (go_at_call 131; refine (HO.out _).mono ?_; rintro e w6 ⟨rfl, b6⟩; have acc := below_trans acc b6))
      go_ret
      exact ⟨rfl, acc⟩
    · have HR : Hid ((true && true && true && decide (1 ≤ pref ∧ pref ≤ 10) && (if 8 ≤ pref then O else E)) = E) := Lib.hid (by rw [decide_eq_true (by omega), if_neg h8]; simp)
      rw [HR.out]
      have HD : Hid (decide (8 ≤ pref ∧ pref ≤ 10) = false) := Lib.hid (decide_eq_false (by omega))
      rw [HD.out] at HP
      have tok : True := trivial
      go_enter Try.func105, Try.ntmps105
      go_wp2_with (first | (go_at_call 100; refine (HW.out _).mono ?_; rintro e w2 ⟨rfl, rfl⟩) | (go_at_call 131; have _t := tok; refine (HA.out _).mono ?_; rintro e w3 ⟨rfl, b3⟩; have acc := below_trans acc b3; obtain ⟨hc3, hlt⟩ := bkeep b3 hlt; clear tok) | (go_at_call 132; refine (HT.out _).mono ?_; rintro e w4 ⟨rfl, b4⟩; have acc := below_trans acc b4; obtain ⟨hc4, hlt⟩ := bkeep b4 hlt) | (go_at_call 133; refine (HP.out _).mono ?_; rintro e w5 ⟨rfl, rfl⟩) | (go_at_call 134; refine (HE.out _).mono ?_; rintro e w7 ⟨rfl, b7⟩; have acc := below_trans acc b7))
      go_ret
      exact ⟨rfl, acc⟩
end Go.Proofs.Ytgeaccoobhigcaa
