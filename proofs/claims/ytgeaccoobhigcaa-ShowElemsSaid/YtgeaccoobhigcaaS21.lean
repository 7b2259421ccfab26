/-
  Parts of productions: which may be. Terms and actions, as shape asks.
-/
import Derived.Test.YtgeaccoobhigcaaS20
import Derived.Test.YtgeaccoobhigcaaS8
namespace Go.Proofs.Ytgeaccoobhigcaa
open Go Go.RowKit

/-- Strings of an atom, as they may come in. -/
structure Am.Big (a : Am) : Prop where
  v : a.v.size ≤ 9223372036854775807
  s : a.s.t.size ≤ 9223372036854775807

set_option maxRecDepth 100000 in
set_option maxHeartbeats 4000000 in
theorem shTerm_any (t : Tm) (ha : t.a.Big) (hb : t.b.Big) (w : World) : Calls Try.prog 132 #[t.val] w fun e w' => e = .returned (.bool (termB t)) ∧ Below w.heap.size w w' := by
  have hA := fun w => shAtom_any t.a ha.v ha.s w
  have hB := fun w => shAtom_any t.b hb.v hb.s w
  have hSA := fun w => shWord_any t.a w
  have hSB := fun w => shWord_any t.b w
  have hE := fun w => empty_any t.b w
  obtain ⟨op, ⟨av, ak, at_, an⟩, ⟨bv, bk, bt, bn⟩⟩ := t
  unfold termB Tm.val
  simp only at hA hB hSA hSB hE ⊢
  clear ha hb
  generalize atomB ⟨av, ak, at_, an⟩ = A at hA ⊢
  generalize atomB ⟨bv, bk, bt, bn⟩ = B at hB ⊢
  generalize strB ⟨av, ak, at_, an⟩ = SA at hSA ⊢
  generalize strB ⟨bv, bk, bt, bn⟩ = SB at hSB ⊢
  generalize emptyB ⟨bv, bk, bt, bn⟩ = E at hE ⊢
  unfold Am.val at hA hB hSA hSB hE
  simp only at hA hB hSA hSB hE
  have HA := Lib.hid hA
  have HB := Lib.hid hB
  have HSA := Lib.hid hSA
  have HSB := Lib.hid hSB
  have HE := Lib.hid hE
  have acc := below_new w (.cells #[.int .i64 op, .string av, .int .i64 ak, .string at_, .int .i64 an, .string bv, .int .i64 bk, .string bt, .int .i64 bn] 67)
  have hlt : w.heap.size < (w.alloc (.cells #[.int .i64 op, .string av, .int .i64 ak, .string at_, .int .i64 an, .string bv, .int .i64 bk, .string bt, .int .i64 bn] 67)).heap.size := by simp
  clear hA hB hSA hSB hE
  rcases (show op < 0 ∨ (¬ op < 0 ∧ 3 < op) ∨ (¬ op < 0 ∧ ¬ 3 < op) by omega) with h1 | ⟨h1, h2⟩ | ⟨h1, h2⟩
  · have HR : Hid ((decide (0 ≤ op ∧ op ≤ 3) && A && (if op = 0 then E else B && !SA && !SB)) = false) := Lib.hid (by rw [decide_eq_false (by omega)]; rfl)
    rw [HR.out]
    go_enter Try.func132, Try.ntmps132
    go_wp2
    go_ret
    exact ⟨rfl, acc⟩
  · have HR : Hid ((decide (0 ≤ op ∧ op ≤ 3) && A && (if op = 0 then E else B && !SA && !SB)) = false) := Lib.hid (by rw [decide_eq_false (by omega)]; rfl)
    rw [HR.out]
    go_enter Try.func132, Try.ntmps132
    go_wp2
    go_ret
    exact ⟨rfl, acc⟩
  · rcases A with _ | _
    · have HR : Hid ((decide (0 ≤ op ∧ op ≤ 3) && false && (if op = 0 then E else B && !SA && !SB)) = false) := Lib.hid (by simp)
      rw [HR.out]
      go_enter Try.func132, Try.ntmps132
      go_wp2_with (go_at_call 131; refine (HA.out _).mono ?_; rintro e w2 ⟨rfl, b2⟩; have acc := below_trans acc b2; obtain ⟨hc, hlt⟩ := bkeep b2 hlt)
      go_ret
      exact ⟨rfl, acc⟩
    · have HR : Hid ((decide (0 ≤ op ∧ op ≤ 3) && true && (if op = 0 then E else B && !SA && !SB)) = if op = 0 then E else B && !SA && !SB) := Lib.hid (by rw [decide_eq_true (by omega)]; simp)
      rw [HR.out]
      by_cases h0 : op = 0
      · rw [if_pos h0]
        have e0 : (op == 0) = true := by simp [h0]
        clear h0
        go_enter Try.func132, Try.ntmps132
        go_wp2_with (first | (go_at_call 131; refine (HA.out _).mono ?_; rintro e w2 ⟨rfl, b2⟩; have acc := below_trans acc b2; obtain ⟨hc, hlt⟩ := bkeep b2 hlt) | (go_at_call 134; refine (HE.out _).mono ?_; rintro e w3 ⟨rfl, b3⟩; have acc := below_trans acc b3))
        go_ret
        exact ⟨rfl, acc⟩
      · rw [if_neg h0]
        have e0 : (op == 0) = false := by simp [h0]
        clear h0
        have tok : True := trivial
        rcases B with _ | _
        · rw [Bool.false_and, Bool.false_and]
          go_enter Try.func132, Try.ntmps132
          go_wp2_with (first | (go_at_call 131; have _t := tok; refine (HA.out _).mono ?_; rintro e w2 ⟨rfl, b2⟩; have acc := below_trans acc b2; obtain ⟨hc, hlt⟩ := bkeep b2 hlt; clear tok) | (go_at_call 131; refine (HB.out _).mono ?_; rintro e w3 ⟨rfl, b3⟩; have acc := below_trans acc b3; obtain ⟨hc2, hlt⟩ := bkeep b3 hlt))
          go_ret
          exact ⟨rfl, acc⟩
        · rw [Bool.true_and]
          rcases SA with _ | _
          · rw [show (!false) = true from rfl, Bool.true_and]
            go_enter Try.func132, Try.ntmps132
            go_wp2_with (first | (go_at_call 131; have _t := tok; refine (HA.out _).mono ?_; rintro e w2 ⟨rfl, b2⟩; have acc := below_trans acc b2; obtain ⟨hc, hlt⟩ := bkeep b2 hlt; clear tok) | (go_at_call 131; refine (HB.out _).mono ?_; rintro e w3 ⟨rfl, b3⟩; have acc := below_trans acc b3; obtain ⟨hc2, hlt⟩ := bkeep b3 hlt) | (go_at_call 149; (with_reducible refine (HSA.out _).mono ?_); rintro e w4 ⟨rfl, b4⟩; have acc := below_trans acc b4; obtain ⟨hc3, hlt⟩ := bkeep b4 hlt) | (go_at_call 149; (with_reducible refine (HSB.out _).mono ?_); rintro e w5 ⟨rfl, b5⟩; have acc := below_trans acc b5))
            go_ret
            exact ⟨rfl, acc⟩
          · rw [show (!true) = false from rfl, Bool.false_and]
            go_enter Try.func132, Try.ntmps132
            go_wp2_with (first | (go_at_call 131; have _t := tok; refine (HA.out _).mono ?_; rintro e w2 ⟨rfl, b2⟩; have acc := below_trans acc b2; obtain ⟨hc, hlt⟩ := bkeep b2 hlt; clear tok) | (go_at_call 131; refine (HB.out _).mono ?_; rintro e w3 ⟨rfl, b3⟩; have acc := below_trans acc b3; obtain ⟨hc2, hlt⟩ := bkeep b3 hlt) | (go_at_call 149; (with_reducible refine (HSA.out _).mono ?_); rintro e w4 ⟨rfl, b4⟩; have acc := below_trans acc b4; obtain ⟨hc3, hlt⟩ := bkeep b4 hlt))
            go_ret
            exact ⟨rfl, acc⟩
end Go.Proofs.Ytgeaccoobhigcaa
