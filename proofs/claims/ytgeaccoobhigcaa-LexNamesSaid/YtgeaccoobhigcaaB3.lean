/-
  ponderref05.one at any place.
-/
import Derived.Test.YtgeaccoobhigcaaB2
namespace Go.Proofs.Ytgeaccoobhigcaa
open Go.RowKit

/-- PONDERREF05.ONE at any place within the text. -/
theorem one_any (s : ByteArray) (i : Nat) (hi : i < s.size) (hs : s.size ≤ 1099511627776) (w : World) :
    Calls Try.prog 55 #[.string s, .int .i64 i] w fun e w' =>
      e = .returned (.tuple #[tokV (nextT (from_ s i)).kind (nextT (from_ s i)).text i, .int .i64 ((i + (nextT (from_ s i)).len : Nat) : Int)]) ∧ Below w.heap.size w w' := by
  have hc := from_lt s i hi
  by_cases h1 : smallB s[i] = true
  · have := one_word s i hi hs h1 w
    rw [hc] at this ⊢
    rw [nextT_cons]
    rw [if_pos h1]
    exact this
  · rw [Bool.not_eq_true] at h1
    by_cases h2 : (digitB s[i] || (decide (s[i].toNat = 45) && headDig (from_ s (i + 1)))) = true
    · have := one_num s i (1 + headN digitB (from_ s (i + 1))) hi hs h1 rfl (by
        simp only [Bool.or_eq_true, Bool.and_eq_true, decide_eq_true_eq] at h2
        rcases h2 with h | ⟨h, h'⟩
        · exact .inl h
        · exact .inr ⟨h, (headDig_from s (i + 1)).1 h'⟩) w
      rw [hc] at this ⊢
      rw [nextT_cons]
      rw [if_neg (by simp [h1]), if_pos h2]
      exact this
    · by_cases h3 : (decide (s[i].toNat = 60) && headSmall (from_ s (i + 1)) && headIs 62 ((from_ s (i + 1)).drop (headN partB (from_ s (i + 1))))) = true
      · have h3' := h3
        simp only [Bool.and_eq_true, decide_eq_true_eq, from_drop] at h3'
        obtain ⟨⟨a, b⟩, c⟩ := h3'
        obtain ⟨b1, b2⟩ := (headSmall_from s _).1 b
        obtain ⟨c1, c2⟩ := (headIs_from s _ _).1 c
        have := one_var s i (headN partB (from_ s (i + 1))) hi hs a b1 b2 rfl c1 c2 w
        rw [hc] at this ⊢
        rw [nextT_cons]
        rw [if_neg (by simp [h1]), if_neg h2, if_pos h3]
        by_cases h32 : 32 < headN partB (from_ s (i + 1))
        · rw [if_pos h32] at this ⊢; exact this
        · rw [if_neg h32] at this ⊢; exact this
      · have e1 : decide (97 ≤ s[i].toNat ∧ s[i].toNat ≤ 122) = false := h1
        have e2 : decide (48 ≤ s[i].toNat ∧ s[i].toNat ≤ 57) = false := by
          rw [Bool.not_eq_true, Bool.or_eq_false_iff] at h2; exact h2.1
        have := one_sign s i (headN partB (from_ s (i + 1))) hi hs e1 e2 rfl ?_ w
        · rw [hc] at this ⊢
          rw [nextT_cons]
          rw [if_neg (by simp [h1]), if_neg h2, if_neg h3]
          exact this
        · rw [Bool.not_eq_true, Bool.or_eq_false_iff, Bool.and_eq_false_iff, decide_eq_false_iff_not] at h2
          obtain ⟨_, h2⟩ := h2
          by_cases h45 : s[i].toNat = 45
          · refine .inl ⟨by simp; omega, by simp; omega, ?_⟩
            have h2 := h2.resolve_left (by simp [h45])
            by_cases hl : i + 1 < s.size
            · refine .inr ⟨hl, ?_⟩
              rw [from_lt s _ hl] at h2
              exact h2
            · exact .inl (by omega)
          · refine .inr ⟨by simp; omega, ?_⟩
            by_cases h60 : s[i].toNat = 60
            · refine .inr ⟨by simp; omega, ?_⟩
              by_cases hl : i + 1 < s.size
              · refine .inr ⟨hl, ?_⟩
                rcases hsm : smallB s[i + 1] with _ | _
                · exact .inl hsm
                · refine .inr ⟨hsm, ?_⟩
                  by_cases hl2 : i + 1 + headN partB (from_ s (i + 1)) < s.size
                  · refine .inr ⟨hl2, ?_⟩
                    have hne : ¬ s[i + 1 + headN partB (from_ s (i + 1))].toNat = 62 := by
                      intro h62
                      refine h3 ?_
                      simp only [Bool.and_eq_true, decide_eq_true_eq, from_drop]
                      exact ⟨⟨h60, (headSmall_from s _).2 ⟨hl, hsm⟩⟩, (headIs_from s _ _).2 ⟨hl2, h62⟩⟩
                    simp; omega
                  · exact .inl (by omega)
              · exact .inl (by omega)
            · exact .inl (by simp; omega)
end Go.Proofs.Ytgeaccoobhigcaa
