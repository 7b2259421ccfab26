/-
  Parts of productions: which may be. Atoms.
-/
import Derived.Test.YtgeaccoobhigcaaS19
namespace Go.Proofs.Ytgeaccoobhigcaa
open Go Go.RowKit

theorem empty_any (a : Am) (w : World) : Calls Try.prog 134 #[a.val] w fun e w' => e = .returned (.bool (emptyB a)) ∧ Below w.heap.size w w' := by
  have hv := fun w => none_any a.s w
  obtain ⟨v, k, t, n⟩ := a
  unfold emptyB
  simp only at hv ⊢
  generalize noneB ⟨k, t, n⟩ = V at hv ⊢
  unfold Sm.val at hv
  unfold Am.val
  simp only at hv ⊢
  have HV := Lib.hid hv
  have acc := below_new w (.cells #[.string v, .int .i64 k, .string t, .int .i64 n] 65)
  clear hv
  by_cases h1 : v.size = 0
  · have e1 := str_nil h1
    have HR : Hid ((decide (v.size = 0) && V) = V) := Lib.hid (by simp [h1])
    rw [HR.out]
    clear h1
    go_enter Try.func134, Try.ntmps134
    go_wp2_with (go_at_call 147; refine (HV.out _).mono ?_; rintro e w2 ⟨rfl, b2⟩; have acc := below_trans acc b2; obtain ⟨hc, hf, hz⟩ := bcell b2)
    go_ret
    exact ⟨rfl, acc⟩
  · have e1 := str_cons h1
    have HR : Hid ((decide (v.size = 0) && V) = false) := Lib.hid (by simp [h1])
    rw [HR.out]
    clear h1
    go_enter Try.func134, Try.ntmps134
    go_wp2
    go_ret
    exact ⟨rfl, acc⟩

theorem shWord_any (a : Am) (w : World) : Calls Try.prog 149 #[a.val] w fun e w' => e = .returned (.bool (strB a)) ∧ Below w.heap.size w w' := by
  obtain ⟨v, k, t, n⟩ := a
  unfold strB Am.val
  simp only
  have acc := below_new w (.cells #[.string v, .int .i64 k, .string t, .int .i64 n] 65)
  by_cases h1 : v.size = 0
  · have e1 := str_nil h1
    by_cases hk : k = 3
    · have e2 : (k == 3) = true := by simp [hk]
      have HR : Hid ((decide (v.size = 0) && decide (k = 3)) = true) := Lib.hid (by simp [h1, hk])
      rw [HR.out]
      clear h1 hk
      go_enter Try.func149, Try.ntmps149
      go_wp2
      go_ret
      exact ⟨rfl, acc⟩
    · have e2 : (k == 3) = false := by simp [hk]
      have HR : Hid ((decide (v.size = 0) && decide (k = 3)) = false) := Lib.hid (by simp [h1, hk])
      rw [HR.out]
      clear h1 hk
      go_enter Try.func149, Try.ntmps149
      go_wp2
      go_ret
      exact ⟨rfl, acc⟩
  · have e1 := str_cons h1
    have HR : Hid ((decide (v.size = 0) && decide (k = 3)) = false) := Lib.hid (by simp [h1])
    rw [HR.out]
    clear h1
    go_enter Try.func149, Try.ntmps149
    go_wp2
    go_ret
    exact ⟨rfl, acc⟩

set_option maxHeartbeats 1000000 in
theorem shAtom_any (a : Am) (hv : a.v.size ≤ 9223372036854775807) (hs : a.s.t.size ≤ 9223372036854775807) (w : World) : Calls Try.prog 131 #[a.val] w fun e w' => e = .returned (.bool (atomB a)) ∧ Below w.heap.size w w' := by
  have hN := fun w => none_any a.s w
  have hC := fun w => constant_any a.s hs w
  have hW := fun w => word_any a.v hv w
  obtain ⟨v, k, t, n⟩ := a
  unfold atomB
  simp only at hN hC hW hv hs ⊢
  generalize noneB ⟨k, t, n⟩ = N at hN ⊢
  generalize constB ⟨k, t, n⟩ = C at hC ⊢
  generalize wordB v.data.toList = W at hW ⊢
  unfold Sm.val at hN hC
  unfold Am.val
  simp only at hN hC ⊢
  have HN := Lib.hid hN
  have HC := Lib.hid hC
  have HW := Lib.hid hW
  have acc := below_new w (.cells #[.string v, .int .i64 k, .string t, .int .i64 n] 65)
  clear hN hC hW
  by_cases h1 : v.size = 0
  · have e1 := str_nil h1
    rw [if_pos h1]
    clear h1
    go_enter Try.func131, Try.ntmps131
    go_wp2_with (go_at_call 148; refine (HC.out _).mono ?_; rintro e w2 ⟨rfl, b2⟩; have acc := below_trans acc b2; obtain ⟨hc, hf, hz⟩ := bcell b2)
    go_ret
    exact ⟨rfl, acc⟩
  · have e1 := str_cons h1
    rw [if_neg h1]
    clear h1
    rcases W with _ | _
    · rw [Bool.false_and]
      go_enter Try.func131, Try.ntmps131
      go_wp2_with (go_at_call 100; refine (HW.out _).mono ?_; rintro e w2 ⟨rfl, rfl⟩)
      go_ret
      exact ⟨rfl, acc⟩
    · rw [Bool.true_and]
      go_enter Try.func131, Try.ntmps131
      go_wp2_with (first | (go_at_call 100; refine (HW.out _).mono ?_; rintro e w2 ⟨rfl, rfl⟩) | (go_at_call 147; refine (HN.out _).mono ?_; rintro e w2 ⟨rfl, b2⟩; have acc := below_trans acc b2; obtain ⟨hc, hf, hz⟩ := bcell b2))
      go_ret
      exact ⟨rfl, acc⟩

set_option maxHeartbeats 1000000 in
theorem rAtom_any (a : Am) (hv : a.v.size ≤ 9223372036854775807) (hs : a.s.t.size ≤ 9223372036854775807) (w : World) : Calls Try.prog 109 #[a.val] w fun e w' => e = .returned (.bool (atomB a)) ∧ Below w.heap.size w w' := by
  have hC := fun w => const_any a.s hs w
  have hW := fun w => rword_any a.v hv w
  obtain ⟨v, k, t, n⟩ := a
  unfold atomB
  simp only at hC hW hv hs ⊢
  generalize constB ⟨k, t, n⟩ = C at hC ⊢
  generalize wordB v.data.toList = W at hW ⊢
  unfold Sm.val at hC
  unfold Am.val
  simp only at hC ⊢
  have HC := Lib.hid hC
  have HW := Lib.hid hW
  have acc := below_new w (.cells #[.string v, .int .i64 k, .string t, .int .i64 n] 65)
  clear hC hW
  by_cases h1 : v.size = 0
  · have e1 := str_nil h1
    rw [if_pos h1]
    clear h1
    go_enter Try.func109, Try.ntmps109
    go_wp2_with (go_at_call 137; refine (HC.out _).mono ?_; rintro e w2 ⟨rfl, b2⟩; have acc := below_trans acc b2; obtain ⟨hc, hf, hz⟩ := bcell b2)
    go_ret
    exact ⟨rfl, acc⟩
  · have e1 := str_cons h1
    rw [if_neg h1]
    clear h1
    rcases W with _ | _
    · rw [Bool.false_and]
      go_enter Try.func109, Try.ntmps109
      go_wp2_with (go_at_call 67; refine (HW.out _).mono ?_; rintro e w2 ⟨rfl, rfl⟩)
      go_ret
      exact ⟨rfl, acc⟩
    · rw [Bool.true_and]
      go_enter Try.func109, Try.ntmps109
      go_wp2_with (go_at_call 67; refine (HW.out _).mono ?_; rintro e w2 ⟨rfl, rfl⟩)
      all_goals
        go_ret
        refine ⟨ret_bool ?_, below_new _ _⟩
        simp_all [noneB, toList_nil]
end Go.Proofs.Ytgeaccoobhigcaa
