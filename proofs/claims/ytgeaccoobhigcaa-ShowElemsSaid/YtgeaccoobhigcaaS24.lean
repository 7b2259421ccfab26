/-
  Tests, as they lie in memory, whatever they are; which may be: as shape asks.
-/
import Derived.Test.YtgeaccoobhigcaaS20
import Derived.Test.YtgeaccoobhigcaaS8
namespace Go.Proofs.Ytgeaccoobhigcaa
open Go Go.RowKit

/-- A test. -/
structure Ts where
  rel : Int
  v : ByteArray
  s : Sm
  list : List Sm
def TestR.abs (t : TestR) : Ts := ⟨t.rel, t.v, t.s, t.list⟩
def testB (t : Ts) : Bool :=
  if t.rel = 8 then decide (t.v.size = 0) && noneB t.s && decide (1 ≤ t.list.length ∧ t.list.length ≤ 8) && t.list.all constB
  else decide (1 ≤ t.rel ∧ t.rel ≤ 7) && decide (t.list.length = 0) && atomB ⟨t.v, t.s⟩

/-- A test lies in memory. -/
structure TestR.Mem (w : World) (t : TestR) : Prop where
  sl : SlR w 3 t.la t.ln t.lc (symsC t.list)
  v : t.v.size ≤ 9223372036854775807
  s : t.s.t.size ≤ 9223372036854775807
  list : ∀ x ∈ t.list, x.t.size ≤ 9223372036854775807
theorem TestR.Mem.kept {w w' : World} {t : TestR} (h : t.Mem w) (hb : Below w.heap.size w w') : t.Mem w' := ⟨h.sl.kept hb, h.v, h.s, h.list⟩
theorem TestR.Mem.len {w : World} {t : TestR} (h : t.Mem w) : t.list.length = t.ln := by
  have := h.sl.1
  rw [symsC_length] at this
  omega
/-- Tests in a slice. -/
structure TestsMem (w : World) (ao : Option Addr) (n c : Nat) (l : List TestR) : Prop where
  sl : SlR w 6 ao n c (l.flatMap TestR.cells)
  ok : ∀ t ∈ l, t.Mem w
theorem TestsMem.kept {w w' : World} {ao : Option Addr} {n c : Nat} {l : List TestR} (h : TestsMem w ao n c l) (hb : Below w.heap.size w w') : TestsMem w' ao n c l :=
  ⟨h.sl.kept hb, fun t ht => (h.ok t ht).kept hb⟩
theorem TestsMem.len {w : World} {ao : Option Addr} {n c : Nat} {l : List TestR} (h : TestsMem w ao n c l) : l.length = n := by
  have := h.sl.1
  rw [rows_length testR_len] at this
  omega
theorem all_take {α : Type} {p : α → Bool} {l : List α} {i : Nat} {x : α} (hx : l[i]? = some x) : (l.take (i + 1)).all p = ((l.take i).all p && p x) := by
  rw [take_snoc2 hx, List.all_append]; simp
theorem all_false {α : Type} {p : α → Bool} {l : List α} {i : Nat} {x : α} (hx : l[i]? = some x) (hp : p x = false) : l.all p = false := by
  rw [List.all_eq_false]
  exact ⟨x, List.mem_of_getElem? hx, by simp [hp]⟩

set_option maxRecDepth 100000 in
set_option maxHeartbeats 4000000 in
theorem shTest_any (t : TestR) (w : World) (h : t.Mem w) : Calls Try.prog 146 #[t.val] w fun e w' => e = .returned (.bool (testB t.abs)) ∧ Below w.heap.size w w' := by
  have hlen := h.len
  obtain ⟨hsl, hv, hs, hlist⟩ := h
  have hN := fun w => none_any t.s w
  have hC := fun w => constant_any t.s hs w
  have hW := fun w => word_any t.v hv w
  have hcap := hsl.2.1
  have hmx := hsl.2.2.1
  unfold maxLen at hmx
  obtain ⟨rel, v, ⟨k, tx, n⟩, la, ln, lc, list⟩ := t
  unfold TestR.abs testB TestR.val atomB
  simp only at hN hC hW hsl hlist hlen hcap hmx ⊢
  rw [hlen]
  clear hv hs
  generalize noneB ⟨k, tx, n⟩ = N at hN ⊢
  generalize constB ⟨k, tx, n⟩ = C at hC ⊢
  generalize wordB v.data.toList = W at hW ⊢
  unfold Sm.val at hN hC
  simp only at hN hC
  have HN := Lib.hid hN
  have HC := Lib.hid hC
  have HW := Lib.hid hW
  have HLEN := Lib.hid hlen
  have acc := below_new w (.cells #[.int .i64 rel, .string v, .int .i64 k, .string tx, .int .i64 n, .slice la ln lc] 138)
  have hlt : w.heap.size < (w.alloc (.cells #[.int .i64 rel, .string v, .int .i64 k, .string tx, .int .i64 n, .slice la ln lc] 138)).heap.size := by simp
  clear hN hC hW hlen
  by_cases h8 : rel = 8
  · rw [if_pos h8]
    have e8 : (rel == 8) = true := by simp [h8]
    clear h8
    by_cases hv : v.size = 0
    · have e1 := str_nil hv
      rw [decide_eq_true hv, Bool.true_and]
      clear hv
      rcases N with _ | _
      · rw [Bool.false_and, Bool.false_and]
        go_enter Try.func146, Try.ntmps146
        go_wp2_with (go_at_call 147; refine (HN.out _).mono ?_; rintro e w2 ⟨rfl, b2⟩; have acc := below_trans acc b2; obtain ⟨hc2, hlt⟩ := bkeep b2 hlt)
        go_ret
        exact ⟨rfl, acc⟩
      · rw [Bool.true_and]
        rcases (show (ln : Int) < 1 ∨ (¬ (ln : Int) < 1 ∧ 8 < (ln : Int)) ∨ (¬ (ln : Int) < 1 ∧ ¬ 8 < (ln : Int)) by omega) with h1 | ⟨h1, h2⟩ | ⟨h1, h2⟩
        · have HR : Hid (decide (1 ≤ ln ∧ ln ≤ 8) = false) := Lib.hid (decide_eq_false (by omega))
          rw [HR.out, Bool.false_and]
          go_enter Try.func146, Try.ntmps146
          go_wp2_with (go_at_call 147; refine (HN.out _).mono ?_; rintro e w2 ⟨rfl, b2⟩; have acc := below_trans acc b2; obtain ⟨hc2, hlt⟩ := bkeep b2 hlt)
          go_ret
          exact ⟨rfl, acc⟩
        · have HR : Hid (decide (1 ≤ ln ∧ ln ≤ 8) = false) := Lib.hid (decide_eq_false (by omega))
          rw [HR.out, Bool.false_and]
          go_enter Try.func146, Try.ntmps146
          go_wp2_with (go_at_call 147; refine (HN.out _).mono ?_; rintro e w2 ⟨rfl, b2⟩; have acc := below_trans acc b2; obtain ⟨hc2, hlt⟩ := bkeep b2 hlt)
          go_ret
          exact ⟨rfl, acc⟩
        · have HR : Hid (decide (1 ≤ ln ∧ ln ≤ 8) = true) := Lib.hid (decide_eq_true (by omega))
          rw [HR.out, Bool.true_and]
          go_enter Try.func146, Try.ntmps146
          go_wp2_with (go_at_call 147; refine (HN.out _).mono ?_; rintro e w2 ⟨rfl, b2⟩; have acc := below_trans acc b2; obtain ⟨hc2, hlt⟩ := bkeep b2 hlt)
          go_loopw [32] (fun ti wr => ∃ i : Nat, i ≤ ln ∧ ti = .int .i64 i ∧ Hid ((list.take i).all constB = true) ∧ SlR wr 3 la ln lc (symsC list) ∧ Below w.heap.size w wr) (fun ti _ => ln - (intOf ti).toNat)
          case atStart => exact ⟨0, by omega, rfl, Lib.hid (by simp), (hsl.kept (below_trans (below_new _ _) b2)), acc⟩
          case round =>
            clear hc2 hlt acc
            obtain ⟨i, hi, rfl, HT, hsl1, hb1⟩ := hrel
            by_cases hlt : i < ln
            · obtain ⟨x, hx⟩ : ∃ x, list[i]? = some x := ⟨_, List.getElem?_eq_getElem (by rw [HLEN.out]; exact hlt)⟩
              have hT := fun w => constant_any x (hlist x (List.mem_of_getElem? hx)) w
              obtain ⟨g, o, rfl, x0, x1, x2⟩ := hsl1.sym hx
              have HAT := Lib.hid (all_take (p := constB) hx)
              have HAF := Lib.hid (all_false (p := constB) hx)
              have HX := Lib.hid hx
              clear hx
              rcases hcx : constB x with _ | _
              · have HAF2 := Lib.hid (HAF.out hcx)
                obtain ⟨xk, xt, xn⟩ := x
                rw [hcx] at hT
                simp only at x0 x1 x2
                unfold Sm.val at hT
                simp only at hT
                have HTT := Lib.hid hT
                clear hT hcx
                go_wp2_with (go_at_call 148; refine (HTT.out _).mono ?_; rintro e w3 ⟨rfl, b3⟩)
                go_ret
                exact ⟨ret_bool (by rw [HAF2.out]), hb1.trans (((below_new wr _).trans (b3.mono (by simp))).mono hb1.size)⟩
              · have HAT2 : Hid ((list.take (i + 1)).all constB = true) := Lib.hid (by rw [HAT.out, HT.out, hcx]; rfl)
                obtain ⟨xk, xt, xn⟩ := x
                rw [hcx] at hT
                simp only at x0 x1 x2
                unfold Sm.val at hT
                simp only at hT
                have HTT := Lib.hid hT
                clear hT hcx
                go_wp2_with (go_at_call 148; refine (HTT.out _).mono ?_; rintro e w3 ⟨rfl, b3⟩)
                have bb : Below wr.heap.size wr w3 := (below_new wr _).trans (b3.mono (by simp))
                go_roundw
                case rel => exact ⟨i + 1, by omega, by go_num, HAT2, hsl1.kept bb, hb1.trans (bb.mono hb1.size)⟩
                case measure => simp [intOf]; omega
            · obtain rfl : i = ln := by omega
              have HTA : Hid (list.all constB = true) := Lib.hid (by have := HT.out; rwa [List.take_of_length_le (by rw [HLEN.out]; omega)] at this)
              go_wp2
              go_ret
              exact ⟨ret_bool (by rw [HTA.out]), hb1⟩
    · have e1 := str_cons hv
      rw [decide_eq_false hv, Bool.false_and, Bool.false_and, Bool.false_and]
      clear hv
      go_enter Try.func146, Try.ntmps146
      go_wp2
      go_ret
      exact ⟨rfl, acc⟩
  · rw [if_neg h8]
    have e8 : (rel == 8) = false := by simp [h8]
    clear h8
    rcases (show rel < 1 ∨ (¬ rel < 1 ∧ 7 < rel) ∨ (¬ rel < 1 ∧ ¬ 7 < rel) by omega) with h1 | ⟨h1, h2⟩ | ⟨h1, h2⟩
    · have HR : Hid (decide (1 ≤ rel ∧ rel ≤ 7) = false) := Lib.hid (decide_eq_false (by omega))
      rw [HR.out, Bool.false_and, Bool.false_and]
      go_enter Try.func146, Try.ntmps146
      go_wp2
      go_ret
      exact ⟨rfl, acc⟩
    · have HR : Hid (decide (1 ≤ rel ∧ rel ≤ 7) = false) := Lib.hid (decide_eq_false (by omega))
      rw [HR.out, Bool.false_and, Bool.false_and]
      go_enter Try.func146, Try.ntmps146
      go_wp2
      go_ret
      exact ⟨rfl, acc⟩
    · have HR : Hid (decide (1 ≤ rel ∧ rel ≤ 7) = true) := Lib.hid (decide_eq_true (by omega))
      rw [HR.out, Bool.true_and]
      by_cases hn : (0 : Int) < (ln : Int)
      · have HQ : Hid (decide (ln = 0) = false) := Lib.hid (decide_eq_false (by omega))
        rw [HQ.out, Bool.false_and]
        go_enter Try.func146, Try.ntmps146
        go_wp2
        go_ret
        exact ⟨rfl, acc⟩
      · have HQ : Hid (decide (ln = 0) = true) := Lib.hid (decide_eq_true (by omega))
        rw [HQ.out, Bool.true_and]
        by_cases hv : v.size = 0
        · have e1 := str_nil hv
          rw [if_pos hv]
          clear hv
          go_enter Try.func146, Try.ntmps146
          go_wp2_with (go_at_call 148; refine (HC.out _).mono ?_; rintro e w2 ⟨rfl, b2⟩; have acc := below_trans acc b2)
          go_ret
          exact ⟨rfl, acc⟩
        · have e1 := str_cons hv
          rw [if_neg hv]
          clear hv
          rcases W with _ | _
          · rw [Bool.false_and]
            go_enter Try.func146, Try.ntmps146
            go_wp2_with (go_at_call 100; refine (HW.out _).mono ?_; rintro e w2 ⟨rfl, rfl⟩)
            go_ret
            exact ⟨rfl, acc⟩
          · rw [Bool.true_and]
            go_enter Try.func146, Try.ntmps146
            go_wp2_with (first | (go_at_call 100; refine (HW.out _).mono ?_; rintro e w2 ⟨rfl, rfl⟩) | (go_at_call 147; refine (HN.out _).mono ?_; rintro e w3 ⟨rfl, b3⟩; have acc := below_trans acc b3))
            go_ret
            exact ⟨rfl, acc⟩
end Go.Proofs.Ytgeaccoobhigcaa
