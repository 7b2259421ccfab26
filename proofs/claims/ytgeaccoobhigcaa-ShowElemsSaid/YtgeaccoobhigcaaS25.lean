/-
  Tests, which may be: as the document asks.
-/
import Derived.Test.YtgeaccoobhigcaaS24
import Derived.Test.YtgeaccoobhigcaaS23
namespace Go.Proofs.Ytgeaccoobhigcaa
open Go Go.RowKit

theorem noneB_false {s : Sm} (h : noneB s = false) : ¬ s.k = 0 ∨ (s.k = 0 ∧ ¬ s.t.toList = []) ∨ (s.k = 0 ∧ s.t.toList = [] ∧ ¬ s.n = 0) := by
  simp only [toList_nil]
  unfold noneB at h
  by_cases h2 : s.k = 0
  · by_cases h3 : s.t.size = 0
    · by_cases h4 : s.n = 0
      · simp [h2, h3, h4] at h
      · exact .inr (.inr ⟨h2, h3, h4⟩)
    · exact .inr (.inl ⟨h2, h3⟩)
  · exact .inl h2
theorem noneB_true {s : Sm} (h : noneB s = true) : s.k = 0 ∧ s.t.toList = [] ∧ s.n = 0 := by
  simp only [toList_nil]
  unfold noneB at h
  simp only [Bool.and_eq_true, decide_eq_true_eq] at h
  exact ⟨h.1.1, h.1.2, h.2⟩

set_option maxRecDepth 100000 in
set_option maxHeartbeats 4000000 in
theorem rTest_any (t : TestR) (w : World) (h : t.Mem w) : Calls Try.prog 151 #[t.val] w fun e w' => e = .returned (.bool (testB t.abs)) ∧ Below w.heap.size w w' := by
  have hlen := h.len
  obtain ⟨hsl, hv, hs, hlist⟩ := h
  have hA := fun w => rAtom_any ⟨t.v, t.s⟩ hv hs w
  have hcap := hsl.2.1
  have hmx := hsl.2.2.1
  unfold maxLen at hmx
  obtain ⟨rel, v, ⟨k, tx, n⟩, la, ln, lc, list⟩ := t
  unfold TestR.abs testB TestR.val
  simp only at hA hsl hlist hlen hcap hmx ⊢
  rw [hlen]
  clear hv hs
  generalize atomB ⟨v, ⟨k, tx, n⟩⟩ = A at hA ⊢
  unfold Am.val at hA
  simp only at hA
  have HA := Lib.hid hA
  have HLEN := Lib.hid hlen
  clear hA hlen
  by_cases h8 : rel = 8
  · rw [if_pos h8]
    have e8 : (rel == 8) = true := by simp [h8]
    clear h8
    by_cases hv : v.size = 0
    · have e1 := str_nil hv
      rw [decide_eq_true hv, Bool.true_and]
      clear hv
      rcases hN : noneB ⟨k, tx, n⟩ with _ | _
      · rw [Bool.false_and, Bool.false_and]
        rcases noneB_false hN with q1 | ⟨q1, q2⟩ | ⟨q1, q2, q3⟩
        · simp only at q1
          clear hN
          have acc := below_new w (.cells #[.int .i64 rel, .string v, .int .i64 k, .string tx, .int .i64 n, .slice la ln lc] 138)
          go_enter Try.func151, Try.ntmps151
          go_wp2
          go_ret
          exact ⟨rfl, acc⟩
        · simp only at q1 q2
          subst q1
          clear hN
          have acc := below_new w (.cells #[.int .i64 rel, .string v, .int .i64 0, .string tx, .int .i64 n, .slice la ln lc] 138)
          go_enter Try.func151, Try.ntmps151
          go_wp2
          go_ret
          exact ⟨rfl, acc⟩
        · simp only at q1 q2 q3
          subst q1
          clear hN
          have acc := below_new w (.cells #[.int .i64 rel, .string v, .int .i64 0, .string tx, .int .i64 n, .slice la ln lc] 138)
          go_enter Try.func151, Try.ntmps151
          go_wp2
          go_ret
          exact ⟨rfl, acc⟩
      · obtain ⟨q1, q2, q3⟩ := noneB_true hN
        simp only at q1 q2 q3
        subst q1
        subst q3
        clear hN
        rw [Bool.true_and]
        rcases (show (ln : Int) < 1 ∨ (¬ (ln : Int) < 1 ∧ 8 < (ln : Int)) ∨ (¬ (ln : Int) < 1 ∧ ¬ 8 < (ln : Int)) by omega) with h1 | ⟨h1, h2⟩ | ⟨h1, h2⟩
        · have HR : Hid (decide (1 ≤ ln ∧ ln ≤ 8) = false) := Lib.hid (decide_eq_false (by omega))
          rw [HR.out, Bool.false_and]
          have acc := below_new w (.cells #[.int .i64 rel, .string v, .int .i64 0, .string tx, .int .i64 0, .slice la ln lc] 138)
          go_enter Try.func151, Try.ntmps151
          go_wp2
          go_ret
          exact ⟨rfl, acc⟩
        · have HR : Hid (decide (1 ≤ ln ∧ ln ≤ 8) = false) := Lib.hid (decide_eq_false (by omega))
          rw [HR.out, Bool.false_and]
          have acc := below_new w (.cells #[.int .i64 rel, .string v, .int .i64 0, .string tx, .int .i64 0, .slice la ln lc] 138)
          go_enter Try.func151, Try.ntmps151
          go_wp2
          go_ret
          exact ⟨rfl, acc⟩
        · have HR : Hid (decide (1 ≤ ln ∧ ln ≤ 8) = true) := Lib.hid (decide_eq_true (by omega))
          rw [HR.out, Bool.true_and]
          have HBX : Hid (BoxC (w.alloc (.cells #[.int .i64 rel, .string v, .int .i64 0, .string tx, .int .i64 0, .slice la ln lc] 138)) w.heap.size 138 [.int .i64 rel, .string v, .int .i64 0, .string tx, .int .i64 0, .slice la ln lc]) := Lib.hid (BoxC.new w _ 138)
          go_enter Try.func151, Try.ntmps151
          go_wp2
          go_loopw [3] (fun ti wr => ∃ i : Nat, i ≤ ln ∧ ti = .int .i64 i ∧ Hid ((list.take i).all constB = true) ∧ SlR wr 3 la ln lc (symsC list) ∧ Below w.heap.size w wr ∧ Hid (BoxC wr w.heap.size 138 [.int .i64 rel, .string v, .int .i64 0, .string tx, .int .i64 0, .slice la ln lc])) (fun ti _ => ln - (intOf ti).toNat)
          case atStart => exact ⟨0, by omega, rfl, Lib.hid (by simp), hsl.kept (below_new _ _), below_new _ _, HBX⟩
          case round =>
            clear HBX
            obtain ⟨i, hi, rfl, HT, hsl1, hb1, HBR⟩ := hrel
            have x5 := HBR.out.at_ (j := 5) rfl
            by_cases hlt : i < ln
            · obtain ⟨x, hx⟩ : ∃ x, list[i]? = some x := ⟨_, List.getElem?_eq_getElem (by rw [HLEN.out]; exact hlt)⟩
              have hT := fun w => const_any x (hlist x (List.mem_of_getElem? hx)) w
              obtain ⟨g, o, rfl, x0, x1, x2⟩ := hsl1.sym hx
              have HAT := Lib.hid (all_take (p := constB) hx)
              have HAF := Lib.hid (all_false (p := constB) hx)
              have HX := Lib.hid hx
              clear hx
              rcases hcx : constB x with _ | _
              · have HAF2 := Lib.hid (HAF.out hcx)
                obtain ⟨xk, xt, xn⟩ := x
                rw [hcx] at hT
                simp only at x0 x1 x2
                unfold Sm.val at hT
                simp only at hT
                have HTT := Lib.hid hT
                clear hT hcx
                go_wp2_with (go_at_call 137; refine (HTT.out _).mono ?_; rintro e w3 ⟨rfl, b3⟩)
                go_ret
                exact ⟨ret_bool (by rw [HAF2.out]), hb1.trans (b3.mono hb1.size)⟩
              · have HAT2 : Hid ((list.take (i + 1)).all constB = true) := Lib.hid (by rw [HAT.out, HT.out, hcx]; rfl)
                obtain ⟨xk, xt, xn⟩ := x
                rw [hcx] at hT
                simp only at x0 x1 x2
                unfold Sm.val at hT
                simp only at hT
                have HTT := Lib.hid hT
                clear hT hcx
                go_wp2_with (go_at_call 137; refine (HTT.out _).mono ?_; rintro e w3 ⟨rfl, b3⟩)
                go_roundw
                case rel => exact ⟨i + 1, by omega, by go_num, HAT2, hsl1.kept b3, hb1.trans (b3.mono hb1.size), Lib.hid (HBR.out.below b3)⟩
                case measure => simp [intOf]; omega
            · obtain rfl : i = ln := by omega
              have HTA : Hid (list.all constB = true) := Lib.hid (by have := HT.out; rwa [List.take_of_length_le (by rw [HLEN.out]; omega)] at this)
              go_wp2
              go_ret
              exact ⟨ret_bool (by rw [HTA.out]), hb1⟩
    · have e1 := str_cons hv
      rw [decide_eq_false hv, Bool.false_and, Bool.false_and, Bool.false_and]
      clear hv
      have acc := below_new w (.cells #[.int .i64 rel, .string v, .int .i64 k, .string tx, .int .i64 n, .slice la ln lc] 138)
      go_enter Try.func151, Try.ntmps151
      go_wp2
      go_ret
      exact ⟨rfl, acc⟩
  · rw [if_neg h8]
    have e8 : (rel == 8) = false := by simp [h8]
    clear h8
    rcases (show (rel < 1 ∧ ¬ 1 ≤ rel) ∨ (1 ≤ rel ∧ 7 < rel ∧ ¬ rel ≤ 7) ∨ (1 ≤ rel ∧ rel ≤ 7) by omega) with ⟨h1, h2⟩ | ⟨h1, h2, h3⟩ | ⟨h1, h2⟩
    · have HR : Hid (decide (1 ≤ rel ∧ rel ≤ 7) = false) := Lib.hid (decide_eq_false (by omega))
      rw [HR.out, Bool.false_and, Bool.false_and]
      have acc := below_new w (.cells #[.int .i64 rel, .string v, .int .i64 k, .string tx, .int .i64 n, .slice la ln lc] 138)
      go_enter Try.func151, Try.ntmps151
      go_wp2
      go_ret
      exact ⟨rfl, acc⟩
    · have HR : Hid (decide (1 ≤ rel ∧ rel ≤ 7) = false) := Lib.hid (decide_eq_false (by omega))
      rw [HR.out, Bool.false_and, Bool.false_and]
      have acc := below_new w (.cells #[.int .i64 rel, .string v, .int .i64 k, .string tx, .int .i64 n, .slice la ln lc] 138)
      go_enter Try.func151, Try.ntmps151
      go_wp2
      go_ret
      exact ⟨rfl, acc⟩
    · have HR : Hid (decide (1 ≤ rel ∧ rel ≤ 7) = true) := Lib.hid (decide_eq_true (by omega))
      rw [HR.out, Bool.true_and]
      by_cases hn : ln = 0
      · have eln : ((ln : Int) == 0) = true := by simp; omega
        have HQ : Hid (decide (ln = 0) = true) := Lib.hid (decide_eq_true (by omega))
        rw [HQ.out, Bool.true_and]
        clear hn
        have acc := below_new w (.cells #[.int .i64 rel, .string v, .int .i64 k, .string tx, .int .i64 n, .slice la ln lc] 138)
        go_enter Try.func151, Try.ntmps151
        go_wp2_with (go_at_call 109; refine (HA.out _).mono ?_; rintro e w2 ⟨rfl, b2⟩; have acc := below_trans acc b2)
        go_ret
        exact ⟨rfl, acc⟩
      · have eln : ((ln : Int) == 0) = false := by simp; omega
        have HQ : Hid (decide (ln = 0) = false) := Lib.hid (decide_eq_false (by omega))
        rw [HQ.out, Bool.false_and]
        clear hn
        have acc := below_new w (.cells #[.int .i64 rel, .string v, .int .i64 k, .string tx, .int .i64 n, .slice la ln lc] 138)
        go_enter Try.func151, Try.ntmps151
        go_wp2
        go_ret
        exact ⟨rfl, acc⟩
end Go.Proofs.Ytgeaccoobhigcaa
