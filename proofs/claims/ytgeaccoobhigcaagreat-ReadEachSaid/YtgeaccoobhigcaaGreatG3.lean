/-
  Tests, as they lie in memory, whatever they are; which may be: as shape asks. Parts of productions: which may be. Actions, as the document asks. Tests, which may be: as the document asks. Lists of tests, which may be.
-/
import Derived.Test.YtgeaccoobhigcaaGreatG2
import Derived.Test.YtgeaccoobhigcaaGreatG1
namespace Go.Proofs.YtgeaccoobhigcaaGreat
open Go Go.RowKit
/-- A test. -/
structure Ts where
  rel : Int
  v : ByteArray
  s : Sm
  list : List Sm
def TestR.abs (t : TestR) : Ts := ⟨t.rel, t.v, t.s, t.list⟩
def testB (t : Ts) : Bool :=
  if t.rel = 8 then decide (t.v.size = 0) && noneB t.s && decide (1 ≤ t.list.length ∧ t.list.length ≤ 8) && t.list.all constB
  else decide (1 ≤ t.rel ∧ t.rel ≤ 7) && decide (t.list.length = 0) && atomB ⟨t.v, t.s⟩
/-- A test lies in memory. -/
structure TestR.Mem (w : World) (t : TestR) : Prop where
  sl : SlR w 3 t.la t.ln t.lc (symsC t.list)
  v : t.v.size ≤ 9223372036854775807
  s : t.s.t.size ≤ 9223372036854775807
  list : ∀ x ∈ t.list, x.t.size ≤ 9223372036854775807
theorem TestR.Mem.kept {w w' : World} {t : TestR} (h : t.Mem w) (hb : Below w.heap.size w w') : t.Mem w' := ⟨h.sl.kept hb, h.v, h.s, h.list⟩
theorem TestR.Mem.len {w : World} {t : TestR} (h : t.Mem w) : t.list.length = t.ln := by
  have := h.sl.1
  rw [symsC_length] at this
  omega
/-- Tests in a slice. -/
structure TestsMem (w : World) (ao : Option Addr) (n c : Nat) (l : List TestR) : Prop where
  sl : SlR w 6 ao n c (l.flatMap TestR.cells)
  ok : ∀ t ∈ l, t.Mem w
theorem TestsMem.kept {w w' : World} {ao : Option Addr} {n c : Nat} {l : List TestR} (h : TestsMem w ao n c l) (hb : Below w.heap.size w w') : TestsMem w' ao n c l :=
  ⟨h.sl.kept hb, fun t ht => (h.ok t ht).kept hb⟩
theorem TestsMem.len {w : World} {ao : Option Addr} {n c : Nat} {l : List TestR} (h : TestsMem w ao n c l) : l.length = n := by
  have := h.sl.1
  rw [rows_length testR_len] at this
  omega
theorem all_take {α : Type} {p : α → Bool} {l : List α} {i : Nat} {x : α} (hx : l[i]? = some x) : (l.take (i + 1)).all p = ((l.take i).all p && p x) := by
  rw [take_snoc2 hx, List.all_append]; simp
theorem all_false {α : Type} {p : α → Bool} {l : List α} {i : Nat} {x : α} (hx : l[i]? = some x) (hp : p x = false) : l.all p = false := by
  rw [List.all_eq_false]
  exact ⟨x, List.mem_of_getElem? hx, by simp [hp]⟩
set_option maxRecDepth 100000 in
set_option maxHeartbeats 4000000 in
theorem shTest_any (t : TestR) (w : World) (h : t.Mem w) : Calls Tryz.prog 100 #[t.val] w fun e w' => e = .returned (.bool (testB t.abs)) ∧ Below w.heap.size w w' := by
  have hlen := h.len
  obtain ⟨hsl, hv, hs, hlist⟩ := h
  have hN := fun w => none_any t.s w
  have hC := fun w => constant_any t.s hs w
  have hW := fun w => word_any t.v hv w
  have hcap := hsl.2.1
  have hmx := hsl.2.2.1
  unfold maxLen at hmx
  obtain ⟨rel, v, ⟨k, tx, n⟩, la, ln, lc, list⟩ := t
  unfold TestR.abs testB TestR.val atomB
  simp only at hN hC hW hsl hlist hlen hcap hmx ⊢
  rw [hlen]
  clear hv hs
  generalize noneB ⟨k, tx, n⟩ = N at hN ⊢
  generalize constB ⟨k, tx, n⟩ = C at hC ⊢
  generalize wordB v.data.toList = W at hW ⊢
  unfold Sm.val at hN hC
  simp only at hN hC
  have HN := Lib.hid hN
  have HC := Lib.hid hC
  have HW := Lib.hid hW
  have HLEN := Lib.hid hlen
  have acc := below_new w (.cells #[.int .i64 rel, .string v, .int .i64 k, .string tx, .int .i64 n, .slice la ln lc] 123)
  have hlt : w.heap.size < (w.alloc (.cells #[.int .i64 rel, .string v, .int .i64 k, .string tx, .int .i64 n, .slice la ln lc] 123)).heap.size := by simp
  clear hN hC hW hlen
  by_cases h8 : rel = 8
  · rw [if_pos h8]
    have e8 : (rel == 8) = true := by simp [h8]
    clear h8
    by_cases hv : v.size = 0
    · have e1 := str_nil hv
      rw [decide_eq_true hv, Bool.true_and]
      clear hv
      rcases N with _ | _
      · rw [Bool.false_and, Bool.false_and]
        go_enter Tryz.func100, Tryz.ntmps100
        go_wp2_with (go_at_call 101; refine (HN.out _).mono ?_; rintro e w2 ⟨rfl, b2⟩; have acc := below_trans acc b2; obtain ⟨hc2, hlt⟩ := bkeep b2 hlt)
        go_ret
        exact ⟨rfl, acc⟩
      · rw [Bool.true_and]
        rcases (show (ln : Int) < 1 ∨ (¬ (ln : Int) < 1 ∧ 8 < (ln : Int)) ∨ (¬ (ln : Int) < 1 ∧ ¬ 8 < (ln : Int)) by omega) with h1 | ⟨h1, h2⟩ | ⟨h1, h2⟩
        · have HR : Hid (decide (1 ≤ ln ∧ ln ≤ 8) = false) := Lib.hid (decide_eq_false (by omega))
          rw [HR.out, Bool.false_and]
          go_enter Tryz.func100, Tryz.ntmps100
          go_wp2_with (go_at_call 101; refine (HN.out _).mono ?_; rintro e w2 ⟨rfl, b2⟩; have acc := below_trans acc b2; obtain ⟨hc2, hlt⟩ := bkeep b2 hlt)
          go_ret
          exact ⟨rfl, acc⟩
        · have HR : Hid (decide (1 ≤ ln ∧ ln ≤ 8) = false) := Lib.hid (decide_eq_false (by omega))
          rw [HR.out, Bool.false_and]
          go_enter Tryz.func100, Tryz.ntmps100
          go_wp2_with (go_at_call 101; refine (HN.out _).mono ?_; rintro e w2 ⟨rfl, b2⟩; have acc := below_trans acc b2; obtain ⟨hc2, hlt⟩ := bkeep b2 hlt)
          go_ret
          exact ⟨rfl, acc⟩
        · have HR : Hid (decide (1 ≤ ln ∧ ln ≤ 8) = true) := Lib.hid (decide_eq_true (by omega))
          rw [HR.out, Bool.true_and]
          go_enter Tryz.func100, Tryz.ntmps100
          go_wp2_with (go_at_call 101; refine (HN.out _).mono ?_; rintro e w2 ⟨rfl, b2⟩; have acc := below_trans acc b2; obtain ⟨hc2, hlt⟩ := bkeep b2 hlt)
          go_loopw [32] (fun ti wr => ∃ i : Nat, i ≤ ln ∧ ti = .int .i64 i ∧ Hid ((list.take i).all constB = true) ∧ SlR wr 3 la ln lc (symsC list) ∧ Below w.heap.size w wr) (fun ti _ => ln - (intOf ti).toNat)
          case atStart => exact ⟨0, by omega, rfl, Lib.hid (by simp), (hsl.kept (below_trans (below_new _ _) b2)), acc⟩
          case round =>
            clear hc2 hlt acc
            obtain ⟨i, hi, rfl, HT, hsl1, hb1⟩ := hrel
            by_cases hlt : i < ln
            · obtain ⟨x, hx⟩ : ∃ x, list[i]? = some x := ⟨_, List.getElem?_eq_getElem (by rw [HLEN.out]; exact hlt)⟩
              have hT := fun w => constant_any x (hlist x (List.mem_of_getElem? hx)) w
              obtain ⟨g, o, rfl, x0, x1, x2⟩ := hsl1.sym hx
              have HAT := Lib.hid (all_take (p := constB) hx)
              have HAF := Lib.hid (all_false (p := constB) hx)
              have HX := Lib.hid hx
              clear hx
              rcases hcx : constB x with _ | _
              · have HAF2 := Lib.hid (HAF.out hcx)
                obtain ⟨xk, xt, xn⟩ := x
                rw [hcx] at hT
                simp only at x0 x1 x2
                unfold Sm.val at hT
                simp only at hT
                have HTT := Lib.hid hT
                clear hT hcx
                go_wp2_with (go_at_call 102; refine (HTT.out _).mono ?_; rintro e w3 ⟨rfl, b3⟩)
                go_ret
                exact ⟨ret_bool (by rw [HAF2.out]), hb1.trans (((below_new wr _).trans (b3.mono (by simp))).mono hb1.size)⟩
              · have HAT2 : Hid ((list.take (i + 1)).all constB = true) := Lib.hid (by rw [HAT.out, HT.out, hcx]; rfl)
                obtain ⟨xk, xt, xn⟩ := x
                rw [hcx] at hT
                simp only at x0 x1 x2
                unfold Sm.val at hT
                simp only at hT
                have HTT := Lib.hid hT
                clear hT hcx
                go_wp2_with (go_at_call 102; refine (HTT.out _).mono ?_; rintro e w3 ⟨rfl, b3⟩)
                have bb : Below wr.heap.size wr w3 := (below_new wr _).trans (b3.mono (by simp))
                go_roundw
                case rel => exact ⟨i + 1, by omega, by go_num, HAT2, hsl1.kept bb, hb1.trans (bb.mono hb1.size)⟩
                case measure => simp [intOf]; omega
            · obtain rfl : i = ln := by omega
              have HTA : Hid (list.all constB = true) := Lib.hid (by have := HT.out; rwa [List.take_of_length_le (by rw [HLEN.out]; omega)] at this)
              go_wp2
              go_ret
              exact ⟨ret_bool (by rw [HTA.out]), hb1⟩
    · have e1 := str_cons hv
      rw [decide_eq_false hv, Bool.false_and, Bool.false_and, Bool.false_and]
      clear hv
      go_enter Tryz.func100, Tryz.ntmps100
      go_wp2
      go_ret
      exact ⟨rfl, acc⟩
  · rw [if_neg h8]
    have e8 : (rel == 8) = false := by simp [h8]
    clear h8
    rcases (show rel < 1 ∨ (¬ rel < 1 ∧ 7 < rel) ∨ (¬ rel < 1 ∧ ¬ 7 < rel) by omega) with h1 | ⟨h1, h2⟩ | ⟨h1, h2⟩
    · have HR : Hid (decide (1 ≤ rel ∧ rel ≤ 7) = false) := Lib.hid (decide_eq_false (by omega))
      rw [HR.out, Bool.false_and, Bool.false_and]
      go_enter Tryz.func100, Tryz.ntmps100
      go_wp2
      go_ret
      exact ⟨rfl, acc⟩
    · have HR : Hid (decide (1 ≤ rel ∧ rel ≤ 7) = false) := Lib.hid (decide_eq_false (by omega))
      rw [HR.out, Bool.false_and, Bool.false_and]
      go_enter Tryz.func100, Tryz.ntmps100
      go_wp2
      go_ret
      exact ⟨rfl, acc⟩
    · have HR : Hid (decide (1 ≤ rel ∧ rel ≤ 7) = true) := Lib.hid (decide_eq_true (by omega))
      rw [HR.out, Bool.true_and]
      by_cases hn : (0 : Int) < (ln : Int)
      · have HQ : Hid (decide (ln = 0) = false) := Lib.hid (decide_eq_false (by omega))
        rw [HQ.out, Bool.false_and]
        go_enter Tryz.func100, Tryz.ntmps100
        go_wp2
        go_ret
        exact ⟨rfl, acc⟩
      · have HQ : Hid (decide (ln = 0) = true) := Lib.hid (decide_eq_true (by omega))
        rw [HQ.out, Bool.true_and]
        by_cases hv : v.size = 0
        · have e1 := str_nil hv
          rw [if_pos hv]
          clear hv
          go_enter Tryz.func100, Tryz.ntmps100
          go_wp2_with (go_at_call 102; refine (HC.out _).mono ?_; rintro e w2 ⟨rfl, b2⟩; have acc := below_trans acc b2)
          go_ret
          exact ⟨rfl, acc⟩
        · have e1 := str_cons hv
          rw [if_neg hv]
          clear hv
          rcases W with _ | _
          · rw [Bool.false_and]
            go_enter Tryz.func100, Tryz.ntmps100
            go_wp2_with (go_at_call 54; refine (HW.out _).mono ?_; rintro e w2 ⟨rfl, rfl⟩)
            go_ret
            exact ⟨rfl, acc⟩
          · rw [Bool.true_and]
            go_enter Tryz.func100, Tryz.ntmps100
            go_wp2_with (first | (go_at_call 54; refine (HW.out _).mono ?_; rintro e w2 ⟨rfl, rfl⟩) | (go_at_call 101; refine (HN.out _).mono ?_; rintro e w3 ⟨rfl, b3⟩; have acc := below_trans acc b3))
            go_ret
            exact ⟨rfl, acc⟩
end Go.Proofs.YtgeaccoobhigcaaGreat
namespace Go.Proofs.YtgeaccoobhigcaaGreat
open Go Go.RowKit
def ractB (a : Ac) : Bool := wordB a.id.data.toList && atomB a.attr && atomB a.value.a && decide (0 ≤ a.value.op ∧ a.value.op ≤ 3) && decide (1 ≤ a.pref ∧ a.pref ≤ 10) && (if a.value.op = 0 then emptyB a.value.b else atomB a.value.b && !decide (a.value.a.s.k = 3) && !decide (a.value.b.s.k = 3)) && (if 8 ≤ a.pref then atomB a.other else emptyB a.other)
theorem strB_atom {a : Am} (h : atomB a = true) : strB a = decide (a.s.k = 3) := by
  unfold strB
  unfold atomB at h
  split at h
  · rename_i hv; simp [hv]
  · rename_i hv
    simp only [Bool.and_eq_true, noneB, decide_eq_true_eq] at h
    have : a.s.k = 0 := h.2.1.1
    simp [hv, this]
theorem ractB_eq (a : Ac) : ractB a = actB a := by
  unfold ractB actB termB
  rcases hA : atomB a.value.a with _ | _
  · simp
  · rcases hB : atomB a.value.b with _ | _
    · by_cases h0 : a.value.op = 0
      · simp [h0]
        rcases decide (1 ≤ a.pref ∧ a.pref ≤ 10) <;> rcases emptyB a.value.b <;> simp
      · simp [h0]
    · rw [strB_atom hA, strB_atom hB]
      rcases decide (1 ≤ a.pref ∧ a.pref ≤ 10) <;> rcases decide (0 ≤ a.value.op ∧ a.value.op ≤ 3) <;> simp
theorem emptyB_true {a : Am} (h : emptyB a = true) : a.v.size = 0 ∧ a.s.k = 0 ∧ a.s.t.size = 0 ∧ a.s.n = 0 := by
  unfold emptyB noneB at h
  simp only [Bool.and_eq_true, decide_eq_true_eq] at h
  exact ⟨h.1, h.2.1.1, h.2.1.2, h.2.2⟩
theorem emptyB_false {a : Am} (h : emptyB a = false) : ¬ a.v.toList = [] ∨ (a.v.toList = [] ∧ ¬ a.s.k = 0) ∨ (a.v.toList = [] ∧ a.s.k = 0 ∧ ¬ a.s.t.toList = []) ∨ (a.v.toList = [] ∧ a.s.k = 0 ∧ a.s.t.toList = [] ∧ ¬ a.s.n = 0) := by
  simp only [toList_nil]
  unfold emptyB noneB at h
  by_cases h1 : a.v.size = 0
  · by_cases h2 : a.s.k = 0
    · by_cases h3 : a.s.t.size = 0
      · by_cases h4 : a.s.n = 0
        · simp [h1, h2, h3, h4] at h
        · exact .inr (.inr (.inr ⟨h1, h2, h3, h4⟩))
      · exact .inr (.inr (.inl ⟨h1, h2, h3⟩))
    · exact .inr (.inl ⟨h1, h2⟩)
  · exact .inl h1
set_option maxRecDepth 100000 in
set_option maxHeartbeats 8000000 in
theorem rAct_any0 (a : Ac) (h : a.Big) (w : World) : Calls Tryz.prog 45 #[a.val] w fun e w' => e = .returned (.bool (ractB a)) ∧ Below w.heap.size w w' := by
  have hW := fun w => rword_any a.id h.id w
  have hA := fun w => rAtom_any a.attr h.attr.v h.attr.s w
  have hV := fun w => rAtom_any a.value.a h.va.v h.va.s w
  have hB := fun w => rAtom_any a.value.b h.vb.v h.vb.s w
  have hO := fun w => rAtom_any a.other h.other.v h.other.s w
  obtain ⟨id, ⟨cv, ck, ct, cn⟩, ⟨op, ⟨av, ak, at_, an⟩, ⟨bv, bk, bt, bn⟩⟩, pref, ⟨ov, ok, ot, on_⟩⟩ := a
  unfold ractB Ac.val
  simp only at hW hA hV hB hO ⊢
  clear h
  generalize wordB id.data.toList = W at hW ⊢
  generalize atomB ⟨cv, ck, ct, cn⟩ = A at hA ⊢
  generalize atomB ⟨av, ak, at_, an⟩ = V at hV ⊢
  generalize atomB ⟨bv, bk, bt, bn⟩ = B at hB ⊢
  generalize atomB ⟨ov, ok, ot, on_⟩ = O at hO ⊢
  unfold Am.val at hA hV hB hO
  simp only at hA hV hB hO
  have HW := Lib.hid hW
  have HA := Lib.hid hA
  have HV := Lib.hid hV
  have HB := Lib.hid hB
  have HO := Lib.hid hO
  clear hW hA hV hB hO
  rcases W with _ | _
  · have HR : Hid ((false && A && V && decide (0 ≤ op ∧ op ≤ 3) && decide (1 ≤ pref ∧ pref ≤ 10) && (if op = 0 then emptyB ⟨bv, ⟨bk, bt, bn⟩⟩ else B && !decide (ak = 3) && !decide (bk = 3)) && (if 8 ≤ pref then O else emptyB ⟨ov, ⟨ok, ot, on_⟩⟩)) = false) := Lib.hid (by simp)
    rw [HR.out]
    have acc := below_new w (.cells #[.string id, .string cv, .int .i64 ck, .string ct, .int .i64 cn, .int .i64 op, .string av, .int .i64 ak, .string at_, .int .i64 an, .string bv, .int .i64 bk, .string bt, .int .i64 bn, .int .i64 pref, .string ov, .int .i64 ok, .string ot, .int .i64 on_] 51)
    have hlt : w.heap.size < (w.alloc (.cells #[.string id, .string cv, .int .i64 ck, .string ct, .int .i64 cn, .int .i64 op, .string av, .int .i64 ak, .string at_, .int .i64 an, .string bv, .int .i64 bk, .string bt, .int .i64 bn, .int .i64 pref, .string ov, .int .i64 ok, .string ot, .int .i64 on_] 51)).heap.size := by simp
    have tok1 : True := trivial
    have tok2 : True := trivial
    go_enter Tryz.func45, Tryz.ntmps45
    go_wp2_with (first | (go_at_call 42; refine (HW.out _).mono ?_; rintro e w2 ⟨rfl, rfl⟩))
    all_goals
      go_ret
      exact ⟨rfl, acc⟩
  rcases A with _ | _
  · have HR : Hid ((true && false && V && decide (0 ≤ op ∧ op ≤ 3) && decide (1 ≤ pref ∧ pref ≤ 10) && (if op = 0 then emptyB ⟨bv, ⟨bk, bt, bn⟩⟩ else B && !decide (ak = 3) && !decide (bk = 3)) && (if 8 ≤ pref then O else emptyB ⟨ov, ⟨ok, ot, on_⟩⟩)) = false) := Lib.hid (by simp)
    rw [HR.out]
    have acc := below_new w (.cells #[.string id, .string cv, .int .i64 ck, .string ct, .int .i64 cn, .int .i64 op, .string av, .int .i64 ak, .string at_, .int .i64 an, .string bv, .int .i64 bk, .string bt, .int .i64 bn, .int .i64 pref, .string ov, .int .i64 ok, .string ot, .int .i64 on_] 51)
    have hlt : w.heap.size < (w.alloc (.cells #[.string id, .string cv, .int .i64 ck, .string ct, .int .i64 cn, .int .i64 op, .string av, .int .i64 ak, .string at_, .int .i64 an, .string bv, .int .i64 bk, .string bt, .int .i64 bn, .int .i64 pref, .string ov, .int .i64 ok, .string ot, .int .i64 on_] 51)).heap.size := by simp
    have tok1 : True := trivial
    have tok2 : True := trivial
    go_enter Tryz.func45, Tryz.ntmps45
    go_wp2_with (first | (go_at_call 42; refine (HW.out _).mono ?_; rintro e w2 ⟨rfl, rfl⟩) | (go_at_call 70; have _t := tok1; refine (HA.out _).mono ?_; rintro e w3 ⟨rfl, b3⟩; have acc := below_trans acc b3; obtain ⟨hc3, hlt⟩ := bkeep b3 hlt; clear tok1))
    all_goals
      go_ret
      exact ⟨rfl, acc⟩
  rcases V with _ | _
  · have HR : Hid ((true && true && false && decide (0 ≤ op ∧ op ≤ 3) && decide (1 ≤ pref ∧ pref ≤ 10) && (if op = 0 then emptyB ⟨bv, ⟨bk, bt, bn⟩⟩ else B && !decide (ak = 3) && !decide (bk = 3)) && (if 8 ≤ pref then O else emptyB ⟨ov, ⟨ok, ot, on_⟩⟩)) = false) := Lib.hid (by simp)
    rw [HR.out]
    have acc := below_new w (.cells #[.string id, .string cv, .int .i64 ck, .string ct, .int .i64 cn, .int .i64 op, .string av, .int .i64 ak, .string at_, .int .i64 an, .string bv, .int .i64 bk, .string bt, .int .i64 bn, .int .i64 pref, .string ov, .int .i64 ok, .string ot, .int .i64 on_] 51)
    have hlt : w.heap.size < (w.alloc (.cells #[.string id, .string cv, .int .i64 ck, .string ct, .int .i64 cn, .int .i64 op, .string av, .int .i64 ak, .string at_, .int .i64 an, .string bv, .int .i64 bk, .string bt, .int .i64 bn, .int .i64 pref, .string ov, .int .i64 ok, .string ot, .int .i64 on_] 51)).heap.size := by simp
    have tok1 : True := trivial
    have tok2 : True := trivial
    go_enter Tryz.func45, Tryz.ntmps45
    go_wp2_with (first | (go_at_call 42; refine (HW.out _).mono ?_; rintro e w2 ⟨rfl, rfl⟩) | (go_at_call 70; have _t := tok1; refine (HA.out _).mono ?_; rintro e w3 ⟨rfl, b3⟩; have acc := below_trans acc b3; obtain ⟨hc3, hlt⟩ := bkeep b3 hlt; clear tok1) | (go_at_call 70; have _t := tok2; refine (HV.out _).mono ?_; rintro e w4 ⟨rfl, b4⟩; have acc := below_trans acc b4; obtain ⟨hc4, hlt⟩ := bkeep b4 hlt; clear tok2))
    all_goals
      go_ret
      exact ⟨rfl, acc⟩
  rcases (show op < 0 ∨ (¬ op < 0 ∧ 3 < op) ∨ (¬ op < 0 ∧ ¬ 3 < op) by omega) with h1 | ⟨h1, h2⟩ | ⟨h1, h2⟩
  · have HR : Hid ((true && true && true && decide (0 ≤ op ∧ op ≤ 3) && decide (1 ≤ pref ∧ pref ≤ 10) && (if op = 0 then emptyB ⟨bv, ⟨bk, bt, bn⟩⟩ else B && !decide (ak = 3) && !decide (bk = 3)) && (if 8 ≤ pref then O else emptyB ⟨ov, ⟨ok, ot, on_⟩⟩)) = false) := Lib.hid (by rw [decide_eq_false (p := 0 ≤ op ∧ op ≤ 3) (by omega)]; simp)
    rw [HR.out]
    have acc := below_new w (.cells #[.string id, .string cv, .int .i64 ck, .string ct, .int .i64 cn, .int .i64 op, .string av, .int .i64 ak, .string at_, .int .i64 an, .string bv, .int .i64 bk, .string bt, .int .i64 bn, .int .i64 pref, .string ov, .int .i64 ok, .string ot, .int .i64 on_] 51)
    have hlt : w.heap.size < (w.alloc (.cells #[.string id, .string cv, .int .i64 ck, .string ct, .int .i64 cn, .int .i64 op, .string av, .int .i64 ak, .string at_, .int .i64 an, .string bv, .int .i64 bk, .string bt, .int .i64 bn, .int .i64 pref, .string ov, .int .i64 ok, .string ot, .int .i64 on_] 51)).heap.size := by simp
    have tok1 : True := trivial
    have tok2 : True := trivial
    go_enter Tryz.func45, Tryz.ntmps45
    go_wp2_with (first | (go_at_call 42; refine (HW.out _).mono ?_; rintro e w2 ⟨rfl, rfl⟩) | (go_at_call 70; have _t := tok1; refine (HA.out _).mono ?_; rintro e w3 ⟨rfl, b3⟩; have acc := below_trans acc b3; obtain ⟨hc3, hlt⟩ := bkeep b3 hlt; clear tok1) | (go_at_call 70; have _t := tok2; refine (HV.out _).mono ?_; rintro e w4 ⟨rfl, b4⟩; have acc := below_trans acc b4; obtain ⟨hc4, hlt⟩ := bkeep b4 hlt; clear tok2))
    all_goals
      go_ret
      exact ⟨rfl, acc⟩
  · have HR : Hid ((true && true && true && decide (0 ≤ op ∧ op ≤ 3) && decide (1 ≤ pref ∧ pref ≤ 10) && (if op = 0 then emptyB ⟨bv, ⟨bk, bt, bn⟩⟩ else B && !decide (ak = 3) && !decide (bk = 3)) && (if 8 ≤ pref then O else emptyB ⟨ov, ⟨ok, ot, on_⟩⟩)) = false) := Lib.hid (by rw [decide_eq_false (p := 0 ≤ op ∧ op ≤ 3) (by omega)]; simp)
    rw [HR.out]
    have acc := below_new w (.cells #[.string id, .string cv, .int .i64 ck, .string ct, .int .i64 cn, .int .i64 op, .string av, .int .i64 ak, .string at_, .int .i64 an, .string bv, .int .i64 bk, .string bt, .int .i64 bn, .int .i64 pref, .string ov, .int .i64 ok, .string ot, .int .i64 on_] 51)
    have hlt : w.heap.size < (w.alloc (.cells #[.string id, .string cv, .int .i64 ck, .string ct, .int .i64 cn, .int .i64 op, .string av, .int .i64 ak, .string at_, .int .i64 an, .string bv, .int .i64 bk, .string bt, .int .i64 bn, .int .i64 pref, .string ov, .int .i64 ok, .string ot, .int .i64 on_] 51)).heap.size := by simp
    have tok1 : True := trivial
    have tok2 : True := trivial
    go_enter Tryz.func45, Tryz.ntmps45
    go_wp2_with (first | (go_at_call 42; refine (HW.out _).mono ?_; rintro e w2 ⟨rfl, rfl⟩) | (go_at_call 70; have _t := tok1; refine (HA.out _).mono ?_; rintro e w3 ⟨rfl, b3⟩; have acc := below_trans acc b3; obtain ⟨hc3, hlt⟩ := bkeep b3 hlt; clear tok1) | (go_at_call 70; have _t := tok2; refine (HV.out _).mono ?_; rintro e w4 ⟨rfl, b4⟩; have acc := below_trans acc b4; obtain ⟨hc4, hlt⟩ := bkeep b4 hlt; clear tok2))
    all_goals
      go_ret
      exact ⟨rfl, acc⟩
  · rcases (show pref < 1 ∨ (¬ pref < 1 ∧ 10 < pref) ∨ (¬ pref < 1 ∧ ¬ 10 < pref) by omega) with g1 | ⟨g1, g2⟩ | ⟨g1, g2⟩
    · have HR : Hid ((true && true && true && decide (0 ≤ op ∧ op ≤ 3) && decide (1 ≤ pref ∧ pref ≤ 10) && (if op = 0 then emptyB ⟨bv, ⟨bk, bt, bn⟩⟩ else B && !decide (ak = 3) && !decide (bk = 3)) && (if 8 ≤ pref then O else emptyB ⟨ov, ⟨ok, ot, on_⟩⟩)) = false) := Lib.hid (by rw [decide_eq_false (p := 1 ≤ pref ∧ pref ≤ 10) (by omega)]; simp)
      rw [HR.out]
      have acc := below_new w (.cells #[.string id, .string cv, .int .i64 ck, .string ct, .int .i64 cn, .int .i64 op, .string av, .int .i64 ak, .string at_, .int .i64 an, .string bv, .int .i64 bk, .string bt, .int .i64 bn, .int .i64 pref, .string ov, .int .i64 ok, .string ot, .int .i64 on_] 51)
      have hlt : w.heap.size < (w.alloc (.cells #[.string id, .string cv, .int .i64 ck, .string ct, .int .i64 cn, .int .i64 op, .string av, .int .i64 ak, .string at_, .int .i64 an, .string bv, .int .i64 bk, .string bt, .int .i64 bn, .int .i64 pref, .string ov, .int .i64 ok, .string ot, .int .i64 on_] 51)).heap.size := by simp
      have tok1 : True := trivial
      have tok2 : True := trivial
      go_enter Tryz.func45, Tryz.ntmps45
      go_wp2_with (first | (go_at_call 42; refine (HW.out _).mono ?_; rintro e w2 ⟨rfl, rfl⟩) | (go_at_call 70; have _t := tok1; refine (HA.out _).mono ?_; rintro e w3 ⟨rfl, b3⟩; have acc := below_trans acc b3; obtain ⟨hc3, hlt⟩ := bkeep b3 hlt; clear tok1) | (go_at_call 70; have _t := tok2; refine (HV.out _).mono ?_; rintro e w4 ⟨rfl, b4⟩; have acc := below_trans acc b4; obtain ⟨hc4, hlt⟩ := bkeep b4 hlt; clear tok2))
      all_goals
        go_ret
        exact ⟨rfl, acc⟩
    · have HR : Hid ((true && true && true && decide (0 ≤ op ∧ op ≤ 3) && decide (1 ≤ pref ∧ pref ≤ 10) && (if op = 0 then emptyB ⟨bv, ⟨bk, bt, bn⟩⟩ else B && !decide (ak = 3) && !decide (bk = 3)) && (if 8 ≤ pref then O else emptyB ⟨ov, ⟨ok, ot, on_⟩⟩)) = false) := Lib.hid (by rw [decide_eq_false (p := 1 ≤ pref ∧ pref ≤ 10) (by omega)]; simp)
      rw [HR.out]
      have acc := below_new w (.cells #[.string id, .string cv, .int .i64 ck, .string ct, .int .i64 cn, .int .i64 op, .string av, .int .i64 ak, .string at_, .int .i64 an, .string bv, .int .i64 bk, .string bt, .int .i64 bn, .int .i64 pref, .string ov, .int .i64 ok, .string ot, .int .i64 on_] 51)
      have hlt : w.heap.size < (w.alloc (.cells #[.string id, .string cv, .int .i64 ck, .string ct, .int .i64 cn, .int .i64 op, .string av, .int .i64 ak, .string at_, .int .i64 an, .string bv, .int .i64 bk, .string bt, .int .i64 bn, .int .i64 pref, .string ov, .int .i64 ok, .string ot, .int .i64 on_] 51)).heap.size := by simp
      have tok1 : True := trivial
      have tok2 : True := trivial
      go_enter Tryz.func45, Tryz.ntmps45
      go_wp2_with (first | (go_at_call 42; refine (HW.out _).mono ?_; rintro e w2 ⟨rfl, rfl⟩) | (go_at_call 70; have _t := tok1; refine (HA.out _).mono ?_; rintro e w3 ⟨rfl, b3⟩; have acc := below_trans acc b3; obtain ⟨hc3, hlt⟩ := bkeep b3 hlt; clear tok1) | (go_at_call 70; have _t := tok2; refine (HV.out _).mono ?_; rintro e w4 ⟨rfl, b4⟩; have acc := below_trans acc b4; obtain ⟨hc4, hlt⟩ := bkeep b4 hlt; clear tok2))
      all_goals
        go_ret
        exact ⟨rfl, acc⟩
    · have HR : Hid ((true && true && true && decide (0 ≤ op ∧ op ≤ 3) && decide (1 ≤ pref ∧ pref ≤ 10) && (if op = 0 then emptyB ⟨bv, ⟨bk, bt, bn⟩⟩ else B && !decide (ak = 3) && !decide (bk = 3)) && (if 8 ≤ pref then O else emptyB ⟨ov, ⟨ok, ot, on_⟩⟩)) = ((if op = 0 then emptyB ⟨bv, ⟨bk, bt, bn⟩⟩ else B && !decide (ak = 3) && !decide (bk = 3)) && (if 8 ≤ pref then O else emptyB ⟨ov, ⟨ok, ot, on_⟩⟩))) := Lib.hid (by rw [decide_eq_true (p := 0 ≤ op ∧ op ≤ 3) (by omega), decide_eq_true (p := 1 ≤ pref ∧ pref ≤ 10) (by omega)]; simp)
      rw [HR.out]
      clear HR
      by_cases h0 : op = 0
      · rw [if_pos h0]
        have e0 : (op == 0) = true := by simp [h0]
        clear h0
        rcases hE : emptyB ⟨bv, ⟨bk, bt, bn⟩⟩ with _ | _
        · rw [Bool.false_and]
          rcases emptyB_false hE with q1 | ⟨q1, q2⟩ | ⟨q1, q2, q3⟩ | ⟨q1, q2, q3, q4⟩
          · simp only at q1
            clear hE
            have acc := below_new w (.cells #[.string id, .string cv, .int .i64 ck, .string ct, .int .i64 cn, .int .i64 op, .string av, .int .i64 ak, .string at_, .int .i64 an, .string bv, .int .i64 bk, .string bt, .int .i64 bn, .int .i64 pref, .string ov, .int .i64 ok, .string ot, .int .i64 on_] 51)
            have hlt : w.heap.size < (w.alloc (.cells #[.string id, .string cv, .int .i64 ck, .string ct, .int .i64 cn, .int .i64 op, .string av, .int .i64 ak, .string at_, .int .i64 an, .string bv, .int .i64 bk, .string bt, .int .i64 bn, .int .i64 pref, .string ov, .int .i64 ok, .string ot, .int .i64 on_] 51)).heap.size := by simp
            have tok1 : True := trivial
            have tok2 : True := trivial
            go_enter Tryz.func45, Tryz.ntmps45
            go_wp2_with (first | (go_at_call 42; refine (HW.out _).mono ?_; rintro e w2 ⟨rfl, rfl⟩) | (go_at_call 70; have _t := tok1; refine (HA.out _).mono ?_; rintro e w3 ⟨rfl, b3⟩; have acc := below_trans acc b3; obtain ⟨hc3, hlt⟩ := bkeep b3 hlt; clear tok1) | (go_at_call 70; have _t := tok2; refine (HV.out _).mono ?_; rintro e w4 ⟨rfl, b4⟩; have acc := below_trans acc b4; obtain ⟨hc4, hlt⟩ := bkeep b4 hlt; clear tok2))
            all_goals
              go_ret
              exact ⟨rfl, acc⟩
          · simp only at q1 q2
            clear hE
            have acc := below_new w (.cells #[.string id, .string cv, .int .i64 ck, .string ct, .int .i64 cn, .int .i64 op, .string av, .int .i64 ak, .string at_, .int .i64 an, .string bv, .int .i64 bk, .string bt, .int .i64 bn, .int .i64 pref, .string ov, .int .i64 ok, .string ot, .int .i64 on_] 51)
            have hlt : w.heap.size < (w.alloc (.cells #[.string id, .string cv, .int .i64 ck, .string ct, .int .i64 cn, .int .i64 op, .string av, .int .i64 ak, .string at_, .int .i64 an, .string bv, .int .i64 bk, .string bt, .int .i64 bn, .int .i64 pref, .string ov, .int .i64 ok, .string ot, .int .i64 on_] 51)).heap.size := by simp
            have tok1 : True := trivial
            have tok2 : True := trivial
            go_enter Tryz.func45, Tryz.ntmps45
            go_wp2_with (first | (go_at_call 42; refine (HW.out _).mono ?_; rintro e w2 ⟨rfl, rfl⟩) | (go_at_call 70; have _t := tok1; refine (HA.out _).mono ?_; rintro e w3 ⟨rfl, b3⟩; have acc := below_trans acc b3; obtain ⟨hc3, hlt⟩ := bkeep b3 hlt; clear tok1) | (go_at_call 70; have _t := tok2; refine (HV.out _).mono ?_; rintro e w4 ⟨rfl, b4⟩; have acc := below_trans acc b4; obtain ⟨hc4, hlt⟩ := bkeep b4 hlt; clear tok2))
            all_goals
              go_ret
              exact ⟨rfl, acc⟩
          · simp only at q1 q2 q3
            subst q2
            clear hE
            have acc := below_new w (.cells #[.string id, .string cv, .int .i64 ck, .string ct, .int .i64 cn, .int .i64 op, .string av, .int .i64 ak, .string at_, .int .i64 an, .string bv, .int .i64 0, .string bt, .int .i64 bn, .int .i64 pref, .string ov, .int .i64 ok, .string ot, .int .i64 on_] 51)
            have hlt : w.heap.size < (w.alloc (.cells #[.string id, .string cv, .int .i64 ck, .string ct, .int .i64 cn, .int .i64 op, .string av, .int .i64 ak, .string at_, .int .i64 an, .string bv, .int .i64 0, .string bt, .int .i64 bn, .int .i64 pref, .string ov, .int .i64 ok, .string ot, .int .i64 on_] 51)).heap.size := by simp
            have tok1 : True := trivial
            have tok2 : True := trivial
            go_enter Tryz.func45, Tryz.ntmps45
            go_wp2_with (first | (go_at_call 42; refine (HW.out _).mono ?_; rintro e w2 ⟨rfl, rfl⟩) | (go_at_call 70; have _t := tok1; refine (HA.out _).mono ?_; rintro e w3 ⟨rfl, b3⟩; have acc := below_trans acc b3; obtain ⟨hc3, hlt⟩ := bkeep b3 hlt; clear tok1) | (go_at_call 70; have _t := tok2; refine (HV.out _).mono ?_; rintro e w4 ⟨rfl, b4⟩; have acc := below_trans acc b4; obtain ⟨hc4, hlt⟩ := bkeep b4 hlt; clear tok2))
            all_goals
              go_ret
              exact ⟨rfl, acc⟩
          · simp only at q1 q2 q3 q4
            subst q2
            clear hE
            have acc := below_new w (.cells #[.string id, .string cv, .int .i64 ck, .string ct, .int .i64 cn, .int .i64 op, .string av, .int .i64 ak, .string at_, .int .i64 an, .string bv, .int .i64 0, .string bt, .int .i64 bn, .int .i64 pref, .string ov, .int .i64 ok, .string ot, .int .i64 on_] 51)
            have hlt : w.heap.size < (w.alloc (.cells #[.string id, .string cv, .int .i64 ck, .string ct, .int .i64 cn, .int .i64 op, .string av, .int .i64 ak, .string at_, .int .i64 an, .string bv, .int .i64 0, .string bt, .int .i64 bn, .int .i64 pref, .string ov, .int .i64 ok, .string ot, .int .i64 on_] 51)).heap.size := by simp
            have tok1 : True := trivial
            have tok2 : True := trivial
            go_enter Tryz.func45, Tryz.ntmps45
            go_wp2_with (first | (go_at_call 42; refine (HW.out _).mono ?_; rintro e w2 ⟨rfl, rfl⟩) | (go_at_call 70; have _t := tok1; refine (HA.out _).mono ?_; rintro e w3 ⟨rfl, b3⟩; have acc := below_trans acc b3; obtain ⟨hc3, hlt⟩ := bkeep b3 hlt; clear tok1) | (go_at_call 70; have _t := tok2; refine (HV.out _).mono ?_; rintro e w4 ⟨rfl, b4⟩; have acc := below_trans acc b4; obtain ⟨hc4, hlt⟩ := bkeep b4 hlt; clear tok2))
            all_goals
              go_ret
              exact ⟨rfl, acc⟩
        · rw [Bool.true_and]
          obtain ⟨q1, q2, q3, q4⟩ := emptyB_true hE
          simp only at q1 q2 q3 q4
          subst q2
          subst q4
          have r1 := toList_nil.2 q1
          have r3 := toList_nil.2 q3
          clear hE q1 q3
          by_cases h8 : 8 ≤ pref
          · rw [if_pos h8]
            have acc := below_new w (.cells #[.string id, .string cv, .int .i64 ck, .string ct, .int .i64 cn, .int .i64 op, .string av, .int .i64 ak, .string at_, .int .i64 an, .string bv, .int .i64 0, .string bt, .int .i64 0, .int .i64 pref, .string ov, .int .i64 ok, .string ot, .int .i64 on_] 51)
            have hlt : w.heap.size < (w.alloc (.cells #[.string id, .string cv, .int .i64 ck, .string ct, .int .i64 cn, .int .i64 op, .string av, .int .i64 ak, .string at_, .int .i64 an, .string bv, .int .i64 0, .string bt, .int .i64 0, .int .i64 pref, .string ov, .int .i64 ok, .string ot, .int .i64 on_] 51)).heap.size := by simp
            have tok1 : True := trivial
            have tok2 : True := trivial
            go_enter Tryz.func45, Tryz.ntmps45
            go_wp2_with (first | (go_at_call 42; refine (HW.out _).mono ?_; rintro e w2 ⟨rfl, rfl⟩) | (go_at_call 70; have _t := tok1; refine (HA.out _).mono ?_; rintro e w3 ⟨rfl, b3⟩; have acc := below_trans acc b3; obtain ⟨hc3, hlt⟩ := bkeep b3 hlt; clear tok1) | (go_at_call 70; have _t := tok2; refine (HV.out _).mono ?_; rintro e w4 ⟨rfl, b4⟩; have acc := below_trans acc b4; obtain ⟨hc4, hlt⟩ := bkeep b4 hlt; clear tok2) | (go_at_call 70; refine (HO.out _).mono ?_; rintro e w6 ⟨rfl, b6⟩; have acc := below_trans acc b6))
            all_goals
              go_ret
              exact ⟨rfl, acc⟩
          · rw [if_neg h8]
            rcases hF : emptyB ⟨ov, ⟨ok, ot, on_⟩⟩ with _ | _
            · rcases emptyB_false hF with f1 | ⟨f1, f2⟩ | ⟨f1, f2, f3⟩ | ⟨f1, f2, f3, f4⟩
              · simp only at f1
                clear hF
                have acc := below_new w (.cells #[.string id, .string cv, .int .i64 ck, .string ct, .int .i64 cn, .int .i64 op, .string av, .int .i64 ak, .string at_, .int .i64 an, .string bv, .int .i64 0, .string bt, .int .i64 0, .int .i64 pref, .string ov, .int .i64 ok, .string ot, .int .i64 on_] 51)
                have hlt : w.heap.size < (w.alloc (.cells #[.string id, .string cv, .int .i64 ck, .string ct, .int .i64 cn, .int .i64 op, .string av, .int .i64 ak, .string at_, .int .i64 an, .string bv, .int .i64 0, .string bt, .int .i64 0, .int .i64 pref, .string ov, .int .i64 ok, .string ot, .int .i64 on_] 51)).heap.size := by simp
                have tok1 : True := trivial
                have tok2 : True := trivial
                go_enter Tryz.func45, Tryz.ntmps45
                go_wp2_with (first | (go_at_call 42; refine (HW.out _).mono ?_; rintro e w2 ⟨rfl, rfl⟩) | (go_at_call 70; have _t := tok1; refine (HA.out _).mono ?_; rintro e w3 ⟨rfl, b3⟩; have acc := below_trans acc b3; obtain ⟨hc3, hlt⟩ := bkeep b3 hlt; clear tok1) | (go_at_call 70; have _t := tok2; refine (HV.out _).mono ?_; rintro e w4 ⟨rfl, b4⟩; have acc := below_trans acc b4; obtain ⟨hc4, hlt⟩ := bkeep b4 hlt; clear tok2))
                all_goals
                  go_ret
                  exact ⟨rfl, acc⟩
              · simp only at f1 f2
                clear hF
                have acc := below_new w (.cells #[.string id, .string cv, .int .i64 ck, .string ct, .int .i64 cn, .int .i64 op, .string av, .int .i64 ak, .string at_, .int .i64 an, .string bv, .int .i64 0, .string bt, .int .i64 0, .int .i64 pref, .string ov, .int .i64 ok, .string ot, .int .i64 on_] 51)
                have hlt : w.heap.size < (w.alloc (.cells #[.string id, .string cv, .int .i64 ck, .string ct, .int .i64 cn, .int .i64 op, .string av, .int .i64 ak, .string at_, .int .i64 an, .string bv, .int .i64 0, .string bt, .int .i64 0, .int .i64 pref, .string ov, .int .i64 ok, .string ot, .int .i64 on_] 51)).heap.size := by simp
                have tok1 : True := trivial
                have tok2 : True := trivial
                go_enter Tryz.func45, Tryz.ntmps45
                go_wp2_with (first | (go_at_call 42; refine (HW.out _).mono ?_; rintro e w2 ⟨rfl, rfl⟩) | (go_at_call 70; have _t := tok1; refine (HA.out _).mono ?_; rintro e w3 ⟨rfl, b3⟩; have acc := below_trans acc b3; obtain ⟨hc3, hlt⟩ := bkeep b3 hlt; clear tok1) | (go_at_call 70; have _t := tok2; refine (HV.out _).mono ?_; rintro e w4 ⟨rfl, b4⟩; have acc := below_trans acc b4; obtain ⟨hc4, hlt⟩ := bkeep b4 hlt; clear tok2))
                all_goals
                  go_ret
                  exact ⟨rfl, acc⟩
              · simp only at f1 f2 f3
                subst f2
                clear hF
                have acc := below_new w (.cells #[.string id, .string cv, .int .i64 ck, .string ct, .int .i64 cn, .int .i64 op, .string av, .int .i64 ak, .string at_, .int .i64 an, .string bv, .int .i64 0, .string bt, .int .i64 0, .int .i64 pref, .string ov, .int .i64 0, .string ot, .int .i64 on_] 51)
                have hlt : w.heap.size < (w.alloc (.cells #[.string id, .string cv, .int .i64 ck, .string ct, .int .i64 cn, .int .i64 op, .string av, .int .i64 ak, .string at_, .int .i64 an, .string bv, .int .i64 0, .string bt, .int .i64 0, .int .i64 pref, .string ov, .int .i64 0, .string ot, .int .i64 on_] 51)).heap.size := by simp
                have tok1 : True := trivial
                have tok2 : True := trivial
                go_enter Tryz.func45, Tryz.ntmps45
                go_wp2_with (first | (go_at_call 42; refine (HW.out _).mono ?_; rintro e w2 ⟨rfl, rfl⟩) | (go_at_call 70; have _t := tok1; refine (HA.out _).mono ?_; rintro e w3 ⟨rfl, b3⟩; have acc := below_trans acc b3; obtain ⟨hc3, hlt⟩ := bkeep b3 hlt; clear tok1) | (go_at_call 70; have _t := tok2; refine (HV.out _).mono ?_; rintro e w4 ⟨rfl, b4⟩; have acc := below_trans acc b4; obtain ⟨hc4, hlt⟩ := bkeep b4 hlt; clear tok2))
                all_goals
                  go_ret
                  exact ⟨rfl, acc⟩
              · simp only at f1 f2 f3 f4
                subst f2
                clear hF
                have acc := below_new w (.cells #[.string id, .string cv, .int .i64 ck, .string ct, .int .i64 cn, .int .i64 op, .string av, .int .i64 ak, .string at_, .int .i64 an, .string bv, .int .i64 0, .string bt, .int .i64 0, .int .i64 pref, .string ov, .int .i64 0, .string ot, .int .i64 on_] 51)
                have hlt : w.heap.size < (w.alloc (.cells #[.string id, .string cv, .int .i64 ck, .string ct, .int .i64 cn, .int .i64 op, .string av, .int .i64 ak, .string at_, .int .i64 an, .string bv, .int .i64 0, .string bt, .int .i64 0, .int .i64 pref, .string ov, .int .i64 0, .string ot, .int .i64 on_] 51)).heap.size := by simp
                have tok1 : True := trivial
                have tok2 : True := trivial
                go_enter Tryz.func45, Tryz.ntmps45
                go_wp2_with (first | (go_at_call 42; refine (HW.out _).mono ?_; rintro e w2 ⟨rfl, rfl⟩) | (go_at_call 70; have _t := tok1; refine (HA.out _).mono ?_; rintro e w3 ⟨rfl, b3⟩; have acc := below_trans acc b3; obtain ⟨hc3, hlt⟩ := bkeep b3 hlt; clear tok1) | (go_at_call 70; have _t := tok2; refine (HV.out _).mono ?_; rintro e w4 ⟨rfl, b4⟩; have acc := below_trans acc b4; obtain ⟨hc4, hlt⟩ := bkeep b4 hlt; clear tok2))
                all_goals
                  go_ret
                  exact ⟨rfl, acc⟩
            · obtain ⟨f1, f2, f3, f4⟩ := emptyB_true hF
              simp only at f1 f2 f3 f4
              subst f2
              subst f4
              have s1 := toList_nil.2 f1
              have s3 := toList_nil.2 f3
              clear hF f1 f3
              have acc := below_new w (.cells #[.string id, .string cv, .int .i64 ck, .string ct, .int .i64 cn, .int .i64 op, .string av, .int .i64 ak, .string at_, .int .i64 an, .string bv, .int .i64 0, .string bt, .int .i64 0, .int .i64 pref, .string ov, .int .i64 0, .string ot, .int .i64 0] 51)
              have hlt : w.heap.size < (w.alloc (.cells #[.string id, .string cv, .int .i64 ck, .string ct, .int .i64 cn, .int .i64 op, .string av, .int .i64 ak, .string at_, .int .i64 an, .string bv, .int .i64 0, .string bt, .int .i64 0, .int .i64 pref, .string ov, .int .i64 0, .string ot, .int .i64 0] 51)).heap.size := by simp
              have tok1 : True := trivial
              have tok2 : True := trivial
              go_enter Tryz.func45, Tryz.ntmps45
              go_wp2_with (first | (go_at_call 42; refine (HW.out _).mono ?_; rintro e w2 ⟨rfl, rfl⟩) | (go_at_call 70; have _t := tok1; refine (HA.out _).mono ?_; rintro e w3 ⟨rfl, b3⟩; have acc := below_trans acc b3; obtain ⟨hc3, hlt⟩ := bkeep b3 hlt; clear tok1) | (go_at_call 70; have _t := tok2; refine (HV.out _).mono ?_; rintro e w4 ⟨rfl, b4⟩; have acc := below_trans acc b4; obtain ⟨hc4, hlt⟩ := bkeep b4 hlt; clear tok2))
              all_goals
                go_ret
                exact ⟨rfl, acc⟩
      · rw [if_neg h0]
        have e0 : (op == 0) = false := by simp [h0]
        clear h0
        rcases B with _ | _
        · rw [Bool.false_and, Bool.false_and, Bool.false_and]
          have acc := below_new w (.cells #[.string id, .string cv, .int .i64 ck, .string ct, .int .i64 cn, .int .i64 op, .string av, .int .i64 ak, .string at_, .int .i64 an, .string bv, .int .i64 bk, .string bt, .int .i64 bn, .int .i64 pref, .string ov, .int .i64 ok, .string ot, .int .i64 on_] 51)
          have hlt : w.heap.size < (w.alloc (.cells #[.string id, .string cv, .int .i64 ck, .string ct, .int .i64 cn, .int .i64 op, .string av, .int .i64 ak, .string at_, .int .i64 an, .string bv, .int .i64 bk, .string bt, .int .i64 bn, .int .i64 pref, .string ov, .int .i64 ok, .string ot, .int .i64 on_] 51)).heap.size := by simp
          have tok1 : True := trivial
          have tok2 : True := trivial
          have tok3 : True := trivial
          go_enter Tryz.func45, Tryz.ntmps45
          go_wp2_with (first | (go_at_call 42; refine (HW.out _).mono ?_; rintro e w2 ⟨rfl, rfl⟩) | (go_at_call 70; have _t := tok1; refine (HA.out _).mono ?_; rintro e w3 ⟨rfl, b3⟩; have acc := below_trans acc b3; obtain ⟨hc3, hlt⟩ := bkeep b3 hlt; clear tok1) | (go_at_call 70; have _t := tok2; refine (HV.out _).mono ?_; rintro e w4 ⟨rfl, b4⟩; have acc := below_trans acc b4; obtain ⟨hc4, hlt⟩ := bkeep b4 hlt; clear tok2) | (go_at_call 70; have _t := tok3; refine (HB.out _).mono ?_; rintro e w5 ⟨rfl, b5⟩; have acc := below_trans acc b5; obtain ⟨hc5, hlt⟩ := bkeep b5 hlt; clear tok3))
          all_goals
            go_ret
            exact ⟨rfl, acc⟩
        · rw [Bool.true_and]
          by_cases k3 : ak = 3
          · have e3 : (ak == 3) = true := by simp [k3]
            rw [show (!decide (ak = 3)) = false by simp [k3], Bool.false_and, Bool.false_and]
            clear k3
            have acc := below_new w (.cells #[.string id, .string cv, .int .i64 ck, .string ct, .int .i64 cn, .int .i64 op, .string av, .int .i64 ak, .string at_, .int .i64 an, .string bv, .int .i64 bk, .string bt, .int .i64 bn, .int .i64 pref, .string ov, .int .i64 ok, .string ot, .int .i64 on_] 51)
            have hlt : w.heap.size < (w.alloc (.cells #[.string id, .string cv, .int .i64 ck, .string ct, .int .i64 cn, .int .i64 op, .string av, .int .i64 ak, .string at_, .int .i64 an, .string bv, .int .i64 bk, .string bt, .int .i64 bn, .int .i64 pref, .string ov, .int .i64 ok, .string ot, .int .i64 on_] 51)).heap.size := by simp
            have tok1 : True := trivial
            have tok2 : True := trivial
            have tok3 : True := trivial
            go_enter Tryz.func45, Tryz.ntmps45
            go_wp2_with (first | (go_at_call 42; refine (HW.out _).mono ?_; rintro e w2 ⟨rfl, rfl⟩) | (go_at_call 70; have _t := tok1; refine (HA.out _).mono ?_; rintro e w3 ⟨rfl, b3⟩; have acc := below_trans acc b3; obtain ⟨hc3, hlt⟩ := bkeep b3 hlt; clear tok1) | (go_at_call 70; have _t := tok2; refine (HV.out _).mono ?_; rintro e w4 ⟨rfl, b4⟩; have acc := below_trans acc b4; obtain ⟨hc4, hlt⟩ := bkeep b4 hlt; clear tok2) | (go_at_call 70; have _t := tok3; refine (HB.out _).mono ?_; rintro e w5 ⟨rfl, b5⟩; have acc := below_trans acc b5; obtain ⟨hc5, hlt⟩ := bkeep b5 hlt; clear tok3))
            all_goals
              go_ret
              exact ⟨rfl, acc⟩
          · have e3 : (ak == 3) = false := by simp [k3]
            rw [show (!decide (ak = 3)) = true by simp [k3], Bool.true_and]
            clear k3
            by_cases j3 : bk = 3
            · have d3 : (bk == 3) = true := by simp [j3]
              rw [show (!decide (bk = 3)) = false by simp [j3], Bool.false_and]
              clear j3
              have acc := below_new w (.cells #[.string id, .string cv, .int .i64 ck, .string ct, .int .i64 cn, .int .i64 op, .string av, .int .i64 ak, .string at_, .int .i64 an, .string bv, .int .i64 bk, .string bt, .int .i64 bn, .int .i64 pref, .string ov, .int .i64 ok, .string ot, .int .i64 on_] 51)
              have hlt : w.heap.size < (w.alloc (.cells #[.string id, .string cv, .int .i64 ck, .string ct, .int .i64 cn, .int .i64 op, .string av, .int .i64 ak, .string at_, .int .i64 an, .string bv, .int .i64 bk, .string bt, .int .i64 bn, .int .i64 pref, .string ov, .int .i64 ok, .string ot, .int .i64 on_] 51)).heap.size := by simp
              have tok1 : True := trivial
              have tok2 : True := trivial
              have tok3 : True := trivial
              go_enter Tryz.func45, Tryz.ntmps45
              go_wp2_with (first | (go_at_call 42; refine (HW.out _).mono ?_; rintro e w2 ⟨rfl, rfl⟩) | (go_at_call 70; have _t := tok1; refine (HA.out _).mono ?_; rintro e w3 ⟨rfl, b3⟩; have acc := below_trans acc b3; obtain ⟨hc3, hlt⟩ := bkeep b3 hlt; clear tok1) | (go_at_call 70; have _t := tok2; refine (HV.out _).mono ?_; rintro e w4 ⟨rfl, b4⟩; have acc := below_trans acc b4; obtain ⟨hc4, hlt⟩ := bkeep b4 hlt; clear tok2) | (go_at_call 70; have _t := tok3; refine (HB.out _).mono ?_; rintro e w5 ⟨rfl, b5⟩; have acc := below_trans acc b5; obtain ⟨hc5, hlt⟩ := bkeep b5 hlt; clear tok3))
              all_goals
                go_ret
                exact ⟨rfl, acc⟩
            · have d3 : (bk == 3) = false := by simp [j3]
              rw [show (!decide (bk = 3)) = true by simp [j3], Bool.true_and]
              clear j3
              by_cases h8 : 8 ≤ pref
              · rw [if_pos h8]
                have acc := below_new w (.cells #[.string id, .string cv, .int .i64 ck, .string ct, .int .i64 cn, .int .i64 op, .string av, .int .i64 ak, .string at_, .int .i64 an, .string bv, .int .i64 bk, .string bt, .int .i64 bn, .int .i64 pref, .string ov, .int .i64 ok, .string ot, .int .i64 on_] 51)
                have hlt : w.heap.size < (w.alloc (.cells #[.string id, .string cv, .int .i64 ck, .string ct, .int .i64 cn, .int .i64 op, .string av, .int .i64 ak, .string at_, .int .i64 an, .string bv, .int .i64 bk, .string bt, .int .i64 bn, .int .i64 pref, .string ov, .int .i64 ok, .string ot, .int .i64 on_] 51)).heap.size := by simp
                have tok1 : True := trivial
                have tok2 : True := trivial
                have tok3 : True := trivial
                go_enter Tryz.func45, Tryz.ntmps45
                go_wp2_with (first | (go_at_call 42; refine (HW.out _).mono ?_; rintro e w2 ⟨rfl, rfl⟩) | (go_at_call 70; have _t := tok1; refine (HA.out _).mono ?_; rintro e w3 ⟨rfl, b3⟩; have acc := below_trans acc b3; obtain ⟨hc3, hlt⟩ := bkeep b3 hlt; clear tok1) | (go_at_call 70; have _t := tok2; refine (HV.out _).mono ?_; rintro e w4 ⟨rfl, b4⟩; have acc := below_trans acc b4; obtain ⟨hc4, hlt⟩ := bkeep b4 hlt; clear tok2) | (go_at_call 70; have _t := tok3; refine (HB.out _).mono ?_; rintro e w5 ⟨rfl, b5⟩; have acc := below_trans acc b5; obtain ⟨hc5, hlt⟩ := bkeep b5 hlt; clear tok3) | (go_at_call 70; refine (HO.out _).mono ?_; rintro e w6 ⟨rfl, b6⟩; have acc := below_trans acc b6))
                all_goals
                  go_ret
                  exact ⟨rfl, acc⟩
              · rw [if_neg h8]
                rcases hF : emptyB ⟨ov, ⟨ok, ot, on_⟩⟩ with _ | _
                · rcases emptyB_false hF with f1 | ⟨f1, f2⟩ | ⟨f1, f2, f3⟩ | ⟨f1, f2, f3, f4⟩
                  · simp only at f1
                    clear hF
                    have acc := below_new w (.cells #[.string id, .string cv, .int .i64 ck, .string ct, .int .i64 cn, .int .i64 op, .string av, .int .i64 ak, .string at_, .int .i64 an, .string bv, .int .i64 bk, .string bt, .int .i64 bn, .int .i64 pref, .string ov, .int .i64 ok, .string ot, .int .i64 on_] 51)
                    have hlt : w.heap.size < (w.alloc (.cells #[.string id, .string cv, .int .i64 ck, .string ct, .int .i64 cn, .int .i64 op, .string av, .int .i64 ak, .string at_, .int .i64 an, .string bv, .int .i64 bk, .string bt, .int .i64 bn, .int .i64 pref, .string ov, .int .i64 ok, .string ot, .int .i64 on_] 51)).heap.size := by simp
                    have tok1 : True := trivial
                    have tok2 : True := trivial
                    have tok3 : True := trivial
                    go_enter Tryz.func45, Tryz.ntmps45
                    go_wp2_with (first | (go_at_call 42; refine (HW.out _).mono ?_; rintro e w2 ⟨rfl, rfl⟩) | (go_at_call 70; have _t := tok1; refine (HA.out _).mono ?_; rintro e w3 ⟨rfl, b3⟩; have acc := below_trans acc b3; obtain ⟨hc3, hlt⟩ := bkeep b3 hlt; clear tok1) | (go_at_call 70; have _t := tok2; refine (HV.out _).mono ?_; rintro e w4 ⟨rfl, b4⟩; have acc := below_trans acc b4; obtain ⟨hc4, hlt⟩ := bkeep b4 hlt; clear tok2) | (go_at_call 70; have _t := tok3; refine (HB.out _).mono ?_; rintro e w5 ⟨rfl, b5⟩; have acc := below_trans acc b5; obtain ⟨hc5, hlt⟩ := bkeep b5 hlt; clear tok3))
                    all_goals
                      go_ret
                      exact ⟨rfl, acc⟩
                  · simp only at f1 f2
                    clear hF
                    have acc := below_new w (.cells #[.string id, .string cv, .int .i64 ck, .string ct, .int .i64 cn, .int .i64 op, .string av, .int .i64 ak, .string at_, .int .i64 an, .string bv, .int .i64 bk, .string bt, .int .i64 bn, .int .i64 pref, .string ov, .int .i64 ok, .string ot, .int .i64 on_] 51)
                    have hlt : w.heap.size < (w.alloc (.cells #[.string id, .string cv, .int .i64 ck, .string ct, .int .i64 cn, .int .i64 op, .string av, .int .i64 ak, .string at_, .int .i64 an, .string bv, .int .i64 bk, .string bt, .int .i64 bn, .int .i64 pref, .string ov, .int .i64 ok, .string ot, .int .i64 on_] 51)).heap.size := by simp
                    have tok1 : True := trivial
                    have tok2 : True := trivial
                    have tok3 : True := trivial
                    go_enter Tryz.func45, Tryz.ntmps45
                    go_wp2_with (first | (go_at_call 42; refine (HW.out _).mono ?_; rintro e w2 ⟨rfl, rfl⟩) | (go_at_call 70; have _t := tok1; refine (HA.out _).mono ?_; rintro e w3 ⟨rfl, b3⟩; have acc := below_trans acc b3; obtain ⟨hc3, hlt⟩ := bkeep b3 hlt; clear tok1) | (go_at_call 70; have _t := tok2; refine (HV.out _).mono ?_; rintro e w4 ⟨rfl, b4⟩; have acc := below_trans acc b4; obtain ⟨hc4, hlt⟩ := bkeep b4 hlt; clear tok2) | (go_at_call 70; have _t := tok3; refine (HB.out _).mono ?_; rintro e w5 ⟨rfl, b5⟩; have acc := below_trans acc b5; obtain ⟨hc5, hlt⟩ := bkeep b5 hlt; clear tok3))
                    all_goals
                      go_ret
                      exact ⟨rfl, acc⟩
                  · simp only at f1 f2 f3
                    subst f2
                    clear hF
                    have acc := below_new w (.cells #[.string id, .string cv, .int .i64 ck, .string ct, .int .i64 cn, .int .i64 op, .string av, .int .i64 ak, .string at_, .int .i64 an, .string bv, .int .i64 bk, .string bt, .int .i64 bn, .int .i64 pref, .string ov, .int .i64 0, .string ot, .int .i64 on_] 51)
                    have hlt : w.heap.size < (w.alloc (.cells #[.string id, .string cv, .int .i64 ck, .string ct, .int .i64 cn, .int .i64 op, .string av, .int .i64 ak, .string at_, .int .i64 an, .string bv, .int .i64 bk, .string bt, .int .i64 bn, .int .i64 pref, .string ov, .int .i64 0, .string ot, .int .i64 on_] 51)).heap.size := by simp
                    have tok1 : True := trivial
                    have tok2 : True := trivial
                    have tok3 : True := trivial
                    go_enter Tryz.func45, Tryz.ntmps45
                    go_wp2_with (first | (go_at_call 42; refine (HW.out _).mono ?_; rintro e w2 ⟨rfl, rfl⟩) | (go_at_call 70; have _t := tok1; refine (HA.out _).mono ?_; rintro e w3 ⟨rfl, b3⟩; have acc := below_trans acc b3; obtain ⟨hc3, hlt⟩ := bkeep b3 hlt; clear tok1) | (go_at_call 70; have _t := tok2; refine (HV.out _).mono ?_; rintro e w4 ⟨rfl, b4⟩; have acc := below_trans acc b4; obtain ⟨hc4, hlt⟩ := bkeep b4 hlt; clear tok2) | (go_at_call 70; have _t := tok3; refine (HB.out _).mono ?_; rintro e w5 ⟨rfl, b5⟩; have acc := below_trans acc b5; obtain ⟨hc5, hlt⟩ := bkeep b5 hlt; clear tok3))
                    all_goals
                      go_ret
                      exact ⟨rfl, acc⟩
                  · simp only at f1 f2 f3 f4
                    subst f2
                    clear hF
                    have acc := below_new w (.cells #[.string id, .string cv, .int .i64 ck, .string ct, .int .i64 cn, .int .i64 op, .string av, .int .i64 ak, .string at_, .int .i64 an, .string bv, .int .i64 bk, .string bt, .int .i64 bn, .int .i64 pref, .string ov, .int .i64 0, .string ot, .int .i64 on_] 51)
                    have hlt : w.heap.size < (w.alloc (.cells #[.string id, .string cv, .int .i64 ck, .string ct, .int .i64 cn, .int .i64 op, .string av, .int .i64 ak, .string at_, .int .i64 an, .string bv, .int .i64 bk, .string bt, .int .i64 bn, .int .i64 pref, .string ov, .int .i64 0, .string ot, .int .i64 on_] 51)).heap.size := by simp
                    have tok1 : True := trivial
                    have tok2 : True := trivial
                    have tok3 : True := trivial
                    go_enter Tryz.func45, Tryz.ntmps45
                    go_wp2_with (first | (go_at_call 42; refine (HW.out _).mono ?_; rintro e w2 ⟨rfl, rfl⟩) | (go_at_call 70; have _t := tok1; refine (HA.out _).mono ?_; rintro e w3 ⟨rfl, b3⟩; have acc := below_trans acc b3; obtain ⟨hc3, hlt⟩ := bkeep b3 hlt; clear tok1) | (go_at_call 70; have _t := tok2; refine (HV.out _).mono ?_; rintro e w4 ⟨rfl, b4⟩; have acc := below_trans acc b4; obtain ⟨hc4, hlt⟩ := bkeep b4 hlt; clear tok2) | (go_at_call 70; have _t := tok3; refine (HB.out _).mono ?_; rintro e w5 ⟨rfl, b5⟩; have acc := below_trans acc b5; obtain ⟨hc5, hlt⟩ := bkeep b5 hlt; clear tok3))
                    all_goals
                      go_ret
                      exact ⟨rfl, acc⟩
                · obtain ⟨f1, f2, f3, f4⟩ := emptyB_true hF
                  simp only at f1 f2 f3 f4
                  subst f2
                  subst f4
                  have s1 := toList_nil.2 f1
                  have s3 := toList_nil.2 f3
                  clear hF f1 f3
                  have acc := below_new w (.cells #[.string id, .string cv, .int .i64 ck, .string ct, .int .i64 cn, .int .i64 op, .string av, .int .i64 ak, .string at_, .int .i64 an, .string bv, .int .i64 bk, .string bt, .int .i64 bn, .int .i64 pref, .string ov, .int .i64 0, .string ot, .int .i64 0] 51)
                  have hlt : w.heap.size < (w.alloc (.cells #[.string id, .string cv, .int .i64 ck, .string ct, .int .i64 cn, .int .i64 op, .string av, .int .i64 ak, .string at_, .int .i64 an, .string bv, .int .i64 bk, .string bt, .int .i64 bn, .int .i64 pref, .string ov, .int .i64 0, .string ot, .int .i64 0] 51)).heap.size := by simp
                  have tok1 : True := trivial
                  have tok2 : True := trivial
                  have tok3 : True := trivial
                  go_enter Tryz.func45, Tryz.ntmps45
                  go_wp2_with (first | (go_at_call 42; refine (HW.out _).mono ?_; rintro e w2 ⟨rfl, rfl⟩) | (go_at_call 70; have _t := tok1; refine (HA.out _).mono ?_; rintro e w3 ⟨rfl, b3⟩; have acc := below_trans acc b3; obtain ⟨hc3, hlt⟩ := bkeep b3 hlt; clear tok1) | (go_at_call 70; have _t := tok2; refine (HV.out _).mono ?_; rintro e w4 ⟨rfl, b4⟩; have acc := below_trans acc b4; obtain ⟨hc4, hlt⟩ := bkeep b4 hlt; clear tok2) | (go_at_call 70; have _t := tok3; refine (HB.out _).mono ?_; rintro e w5 ⟨rfl, b5⟩; have acc := below_trans acc b5; obtain ⟨hc5, hlt⟩ := bkeep b5 hlt; clear tok3))
                  all_goals
                    go_ret
                    exact ⟨rfl, acc⟩
theorem rAct_any (a : Ac) (h : a.Big) (w : World) : Calls Tryz.prog 45 #[a.val] w fun e w' => e = .returned (.bool (actB a)) ∧ Below w.heap.size w w' := by
  rw [← ractB_eq]; exact rAct_any0 a h w
end Go.Proofs.YtgeaccoobhigcaaGreat
namespace Go.Proofs.YtgeaccoobhigcaaGreat
open Go Go.RowKit
theorem noneB_false {s : Sm} (h : noneB s = false) : ¬ s.k = 0 ∨ (s.k = 0 ∧ ¬ s.t.toList = []) ∨ (s.k = 0 ∧ s.t.toList = [] ∧ ¬ s.n = 0) := by
  simp only [toList_nil]
  unfold noneB at h
  by_cases h2 : s.k = 0
  · by_cases h3 : s.t.size = 0
    · by_cases h4 : s.n = 0
      · simp [h2, h3, h4] at h
      · exact .inr (.inr ⟨h2, h3, h4⟩)
    · exact .inr (.inl ⟨h2, h3⟩)
  · exact .inl h2
theorem noneB_true {s : Sm} (h : noneB s = true) : s.k = 0 ∧ s.t.toList = [] ∧ s.n = 0 := by
  simp only [toList_nil]
  unfold noneB at h
  simp only [Bool.and_eq_true, decide_eq_true_eq] at h
  exact ⟨h.1.1, h.1.2, h.2⟩
set_option maxRecDepth 100000 in
set_option maxHeartbeats 4000000 in
theorem rTest_any (t : TestR) (w : World) (h : t.Mem w) : Calls Tryz.prog 108 #[t.val] w fun e w' => e = .returned (.bool (testB t.abs)) ∧ Below w.heap.size w w' := by
  have hlen := h.len
  obtain ⟨hsl, hv, hs, hlist⟩ := h
  have hA := fun w => rAtom_any ⟨t.v, t.s⟩ hv hs w
  have hcap := hsl.2.1
  have hmx := hsl.2.2.1
  unfold maxLen at hmx
  obtain ⟨rel, v, ⟨k, tx, n⟩, la, ln, lc, list⟩ := t
  unfold TestR.abs testB TestR.val
  simp only at hA hsl hlist hlen hcap hmx ⊢
  rw [hlen]
  clear hv hs
  generalize atomB ⟨v, ⟨k, tx, n⟩⟩ = A at hA ⊢
  unfold Am.val at hA
  simp only at hA
  have HA := Lib.hid hA
  have HLEN := Lib.hid hlen
  clear hA hlen
  by_cases h8 : rel = 8
  · rw [if_pos h8]
    have e8 : (rel == 8) = true := by simp [h8]
    clear h8
    by_cases hv : v.size = 0
    · have e1 := str_nil hv
      rw [decide_eq_true hv, Bool.true_and]
      clear hv
      rcases hN : noneB ⟨k, tx, n⟩ with _ | _
      · rw [Bool.false_and, Bool.false_and]
        rcases noneB_false hN with q1 | ⟨q1, q2⟩ | ⟨q1, q2, q3⟩
        · simp only at q1
          clear hN
          have acc := below_new w (.cells #[.int .i64 rel, .string v, .int .i64 k, .string tx, .int .i64 n, .slice la ln lc] 123)
          go_enter Tryz.func108, Tryz.ntmps108
          go_wp2
          go_ret
          exact ⟨rfl, acc⟩
        · simp only at q1 q2
          subst q1
          clear hN
          have acc := below_new w (.cells #[.int .i64 rel, .string v, .int .i64 0, .string tx, .int .i64 n, .slice la ln lc] 123)
          go_enter Tryz.func108, Tryz.ntmps108
          go_wp2
          go_ret
          exact ⟨rfl, acc⟩
        · simp only at q1 q2 q3
          subst q1
          clear hN
          have acc := below_new w (.cells #[.int .i64 rel, .string v, .int .i64 0, .string tx, .int .i64 n, .slice la ln lc] 123)
          go_enter Tryz.func108, Tryz.ntmps108
          go_wp2
          go_ret
          exact ⟨rfl, acc⟩
      · obtain ⟨q1, q2, q3⟩ := noneB_true hN
        simp only at q1 q2 q3
        subst q1
        subst q3
        clear hN
        rw [Bool.true_and]
        rcases (show (ln : Int) < 1 ∨ (¬ (ln : Int) < 1 ∧ 8 < (ln : Int)) ∨ (¬ (ln : Int) < 1 ∧ ¬ 8 < (ln : Int)) by omega) with h1 | ⟨h1, h2⟩ | ⟨h1, h2⟩
        · have HR : Hid (decide (1 ≤ ln ∧ ln ≤ 8) = false) := Lib.hid (decide_eq_false (by omega))
          rw [HR.out, Bool.false_and]
          have acc := below_new w (.cells #[.int .i64 rel, .string v, .int .i64 0, .string tx, .int .i64 0, .slice la ln lc] 123)
          go_enter Tryz.func108, Tryz.ntmps108
          go_wp2
          go_ret
          exact ⟨rfl, acc⟩
        · have HR : Hid (decide (1 ≤ ln ∧ ln ≤ 8) = false) := Lib.hid (decide_eq_false (by omega))
          rw [HR.out, Bool.false_and]
          have acc := below_new w (.cells #[.int .i64 rel, .string v, .int .i64 0, .string tx, .int .i64 0, .slice la ln lc] 123)
          go_enter Tryz.func108, Tryz.ntmps108
          go_wp2
          go_ret
          exact ⟨rfl, acc⟩
        · have HR : Hid (decide (1 ≤ ln ∧ ln ≤ 8) = true) := Lib.hid (decide_eq_true (by omega))
          rw [HR.out, Bool.true_and]
          have HBX : Hid (BoxC (w.alloc (.cells #[.int .i64 rel, .string v, .int .i64 0, .string tx, .int .i64 0, .slice la ln lc] 123)) w.heap.size 123 [.int .i64 rel, .string v, .int .i64 0, .string tx, .int .i64 0, .slice la ln lc]) := Lib.hid (BoxC.new w _ 123)
          go_enter Tryz.func108, Tryz.ntmps108
          go_wp2
          go_loopw [3] (fun ti wr => ∃ i : Nat, i ≤ ln ∧ ti = .int .i64 i ∧ Hid ((list.take i).all constB = true) ∧ SlR wr 3 la ln lc (symsC list) ∧ Below w.heap.size w wr ∧ Hid (BoxC wr w.heap.size 123 [.int .i64 rel, .string v, .int .i64 0, .string tx, .int .i64 0, .slice la ln lc])) (fun ti _ => ln - (intOf ti).toNat)
          case atStart => exact ⟨0, by omega, rfl, Lib.hid (by simp), hsl.kept (below_new _ _), below_new _ _, HBX⟩
          case round =>
            clear HBX
            obtain ⟨i, hi, rfl, HT, hsl1, hb1, HBR⟩ := hrel
            have x5 := HBR.out.at_ (j := 5) rfl
            by_cases hlt : i < ln
            · obtain ⟨x, hx⟩ : ∃ x, list[i]? = some x := ⟨_, List.getElem?_eq_getElem (by rw [HLEN.out]; exact hlt)⟩
              have hT := fun w => const_any x (hlist x (List.mem_of_getElem? hx)) w
              obtain ⟨g, o, rfl, x0, x1, x2⟩ := hsl1.sym hx
              have HAT := Lib.hid (all_take (p := constB) hx)
              have HAF := Lib.hid (all_false (p := constB) hx)
              have HX := Lib.hid hx
              clear hx
              rcases hcx : constB x with _ | _
              · have HAF2 := Lib.hid (HAF.out hcx)
                obtain ⟨xk, xt, xn⟩ := x
                rw [hcx] at hT
                simp only at x0 x1 x2
                unfold Sm.val at hT
                simp only at hT
                have HTT := Lib.hid hT
                clear hT hcx
                go_wp2_with (go_at_call 91; refine (HTT.out _).mono ?_; rintro e w3 ⟨rfl, b3⟩)
                go_ret
                exact ⟨ret_bool (by rw [HAF2.out]), hb1.trans (b3.mono hb1.size)⟩
              · have HAT2 : Hid ((list.take (i + 1)).all constB = true) := Lib.hid (by rw [HAT.out, HT.out, hcx]; rfl)
                obtain ⟨xk, xt, xn⟩ := x
                rw [hcx] at hT
                simp only at x0 x1 x2
                unfold Sm.val at hT
                simp only at hT
                have HTT := Lib.hid hT
                clear hT hcx
                go_wp2_with (go_at_call 91; refine (HTT.out _).mono ?_; rintro e w3 ⟨rfl, b3⟩)
                go_roundw
                case rel => exact ⟨i + 1, by omega, by go_num, HAT2, hsl1.kept b3, hb1.trans (b3.mono hb1.size), Lib.hid (HBR.out.below b3)⟩
                case measure => simp [intOf]; omega
            · obtain rfl : i = ln := by omega
              have HTA : Hid (list.all constB = true) := Lib.hid (by have := HT.out; rwa [List.take_of_length_le (by rw [HLEN.out]; omega)] at this)
              go_wp2
              go_ret
              exact ⟨ret_bool (by rw [HTA.out]), hb1⟩
    · have e1 := str_cons hv
      rw [decide_eq_false hv, Bool.false_and, Bool.false_and, Bool.false_and]
      clear hv
      have acc := below_new w (.cells #[.int .i64 rel, .string v, .int .i64 k, .string tx, .int .i64 n, .slice la ln lc] 123)
      go_enter Tryz.func108, Tryz.ntmps108
      go_wp2
      go_ret
      exact ⟨rfl, acc⟩
  · rw [if_neg h8]
    have e8 : (rel == 8) = false := by simp [h8]
    clear h8
    rcases (show (rel < 1 ∧ ¬ 1 ≤ rel) ∨ (1 ≤ rel ∧ 7 < rel ∧ ¬ rel ≤ 7) ∨ (1 ≤ rel ∧ rel ≤ 7) by omega) with ⟨h1, h2⟩ | ⟨h1, h2, h3⟩ | ⟨h1, h2⟩
    · have HR : Hid (decide (1 ≤ rel ∧ rel ≤ 7) = false) := Lib.hid (decide_eq_false (by omega))
      rw [HR.out, Bool.false_and, Bool.false_and]
      have acc := below_new w (.cells #[.int .i64 rel, .string v, .int .i64 k, .string tx, .int .i64 n, .slice la ln lc] 123)
      go_enter Tryz.func108, Tryz.ntmps108
      go_wp2
      go_ret
      exact ⟨rfl, acc⟩
    · have HR : Hid (decide (1 ≤ rel ∧ rel ≤ 7) = false) := Lib.hid (decide_eq_false (by omega))
      rw [HR.out, Bool.false_and, Bool.false_and]
      have acc := below_new w (.cells #[.int .i64 rel, .string v, .int .i64 k, .string tx, .int .i64 n, .slice la ln lc] 123)
      go_enter Tryz.func108, Tryz.ntmps108
      go_wp2
      go_ret
      exact ⟨rfl, acc⟩
    · have HR : Hid (decide (1 ≤ rel ∧ rel ≤ 7) = true) := Lib.hid (decide_eq_true (by omega))
      rw [HR.out, Bool.true_and]
      by_cases hn : ln = 0
      · have eln : ((ln : Int) == 0) = true := by simp; omega
        have HQ : Hid (decide (ln = 0) = true) := Lib.hid (decide_eq_true (by omega))
        rw [HQ.out, Bool.true_and]
        clear hn
        have acc := below_new w (.cells #[.int .i64 rel, .string v, .int .i64 k, .string tx, .int .i64 n, .slice la ln lc] 123)
        go_enter Tryz.func108, Tryz.ntmps108
        go_wp2_with (go_at_call 70; refine (HA.out _).mono ?_; rintro e w2 ⟨rfl, b2⟩; have acc := below_trans acc b2)
        go_ret
        exact ⟨rfl, acc⟩
      · have eln : ((ln : Int) == 0) = false := by simp; omega
        have HQ : Hid (decide (ln = 0) = false) := Lib.hid (decide_eq_false (by omega))
        rw [HQ.out, Bool.false_and]
        clear hn
        have acc := below_new w (.cells #[.int .i64 rel, .string v, .int .i64 k, .string tx, .int .i64 n, .slice la ln lc] 123)
        go_enter Tryz.func108, Tryz.ntmps108
        go_wp2
        go_ret
        exact ⟨rfl, acc⟩
end Go.Proofs.YtgeaccoobhigcaaGreat
namespace Go.Proofs.YtgeaccoobhigcaaGreat
open Go Go.RowKit
def testsB (l : List TestR) : Bool := l.all fun t => testB t.abs
theorem six_cellsT {W : World} {g o : Nat} {a0 a1 a2 a3 a4 a5 : Value} (h : ∀ j u, [a0, a1, a2, a3, a4, a5][j]? = some u → W.cell? ⟨g, o + j, none⟩ = some u) :
    W.cell? ⟨g, o, none⟩ = some a0 ∧ W.cell? ⟨g, o + 1, none⟩ = some a1 ∧ W.cell? ⟨g, o + 2, none⟩ = some a2 ∧ W.cell? ⟨g, o + 3, none⟩ = some a3 ∧ W.cell? ⟨g, o + 4, none⟩ = some a4 ∧ W.cell? ⟨g, o + 5, none⟩ = some a5 :=
  ⟨h 0 _ rfl, h 1 _ rfl, h 2 _ rfl, h 3 _ rfl, h 4 _ rfl, h 5 _ rfl⟩
set_option maxRecDepth 100000 in
set_option maxHeartbeats 4000000 in
theorem shTests_any (ao : Option Addr) (n c : Nat) (l : List TestR) (w : World) (h : TestsMem w ao n c l) : Calls Tryz.prog 81 #[.slice ao n c] w fun e w' => e = .returned (.bool (testsB l)) ∧ Below w.heap.size w w' := by
  have hl := h.len
  have hcap := h.sl.2.1
  have hmx := h.sl.2.2.1
  unfold maxLen at hmx
  have HL := Lib.hid hl
  clear hl
  go_enter Tryz.func81, Tryz.ntmps81
  go_wp2
  go_loopw [7] (fun ti wr => ∃ i : Nat, i ≤ n ∧ ti = .int .i64 i ∧ Hid ((l.take i).all (fun t => testB t.abs) = true) ∧ TestsMem wr ao n c l ∧ Below w.heap.size w wr) (fun ti _ => n - (intOf ti).toNat)
  case atStart => exact ⟨0, by omega, rfl, Lib.hid (by simp), h, Below.refl _ _⟩
  case round =>
    obtain ⟨i, hi, rfl, HT, hin, hb⟩ := hrel
    by_cases hlt : i < n
    · obtain ⟨t, ht⟩ : ∃ t, l[i]? = some t := ⟨_, List.getElem?_eq_getElem (by rw [HL.out]; exact hlt)⟩
      have hok := hin.ok t (List.mem_of_getElem? ht)
      have HAT := Lib.hid (all_take (p := fun t => testB t.abs) ht)
      have HAF := Lib.hid (all_false (p := fun t => testB t.abs) ht)
      obtain ⟨g, o, rfl, hc⟩ := hin.sl.row_at testR_len (by omega) ht
      obtain ⟨c0, c1, c2, c3, c4, c5⟩ := six_cellsT hc
      have hba : Below wr.heap.size wr (wr.alloc (.cells #[.int .i64 t.rel, .string t.v, .int .i64 t.s.k, .string t.s.t, .int .i64 t.s.n, .slice t.la t.ln t.lc] 123)) := below_new wr _
      have hT := shTest_any t _ (hok.kept hba)
      have HBA := Lib.hid hba
      unfold TestR.val at hT
      have HX := Lib.hid ht
      rcases hB : testB t.abs with _ | _
      · have HAF2 := Lib.hid (HAF.out hB)
        rw [hB] at hT
        have HTT := Lib.hid hT
        clear hc hT ht hba hB HAF HAT
        go_wp2_with (go_at_call 100; refine HTT.out.mono ?_; rintro e w2 ⟨rfl, b2⟩)
        have bb : Below wr.heap.size wr w2 := HBA.out.trans (b2.mono (by simp))
        go_ret
        exact ⟨ret_bool (by unfold testsB; rw [HAF2.out]), hb.trans (bb.mono hb.size)⟩
      · have HAT2 : Hid ((l.take (i + 1)).all (fun t => testB t.abs) = true) := Lib.hid (by rw [HAT.out, HT.out, hB]; rfl)
        rw [hB] at hT
        have HTT := Lib.hid hT
        clear hc hT ht hba hB HAF HAT
        go_wp2_with (go_at_call 100; refine HTT.out.mono ?_; rintro e w2 ⟨rfl, b2⟩)
        have bb : Below wr.heap.size wr w2 := HBA.out.trans (b2.mono (by simp))
        go_roundw
        case rel => exact ⟨i + 1, by omega, by go_num, HAT2, hin.kept bb, hb.trans (bb.mono hb.size)⟩
        case measure => simp [intOf]; omega
    · obtain rfl : i = n := by omega
      have HTA : Hid (testsB l = true) := Lib.hid (by have := HT.out; rwa [List.take_of_length_le (by rw [HL.out]; omega)] at this)
      go_wp2
      go_ret
      exact ⟨ret_bool (by rw [HTA.out]), hb⟩
set_option maxRecDepth 100000 in
set_option maxHeartbeats 4000000 in
theorem rTests_any (ao : Option Addr) (n c : Nat) (l : List TestR) (w : World) (h : TestsMem w ao n c l) : Calls Tryz.prog 90 #[.slice ao n c] w fun e w' => e = .returned (.bool (testsB l)) ∧ Below w.heap.size w w' := by
  have hl := h.len
  have hcap := h.sl.2.1
  have hmx := h.sl.2.2.1
  unfold maxLen at hmx
  have HL := Lib.hid hl
  clear hl
  go_enter Tryz.func90, Tryz.ntmps90
  go_wp2
  go_loopw [3] (fun ti wr => ∃ i : Nat, i ≤ n ∧ ti = .int .i64 i ∧ Hid ((l.take i).all (fun t => testB t.abs) = true) ∧ TestsMem wr ao n c l ∧ Below w.heap.size w wr) (fun ti _ => n - (intOf ti).toNat)
  case atStart => exact ⟨0, by omega, rfl, Lib.hid (by simp), h, Below.refl _ _⟩
  case round =>
    obtain ⟨i, hi, rfl, HT, hin, hb⟩ := hrel
    by_cases hlt : i < n
    · obtain ⟨t, ht⟩ : ∃ t, l[i]? = some t := ⟨_, List.getElem?_eq_getElem (by rw [HL.out]; exact hlt)⟩
      have hok := hin.ok t (List.mem_of_getElem? ht)
      have HAT := Lib.hid (all_take (p := fun t => testB t.abs) ht)
      have HAF := Lib.hid (all_false (p := fun t => testB t.abs) ht)
      obtain ⟨g, o, rfl, hc⟩ := hin.sl.row_at testR_len (by omega) ht
      obtain ⟨c0, c1, c2, c3, c4, c5⟩ := six_cellsT hc
      have hT := rTest_any t _ hok
      unfold TestR.val at hT
      have HX := Lib.hid ht
      rcases hB : testB t.abs with _ | _
      · have HAF2 := Lib.hid (HAF.out hB)
        rw [hB] at hT
        have HTT := Lib.hid hT
        clear hc hT ht hB HAF HAT
        go_wp2_with (go_at_call 108; refine HTT.out.mono ?_; rintro e w2 ⟨rfl, bb⟩)
        go_ret
        exact ⟨ret_bool (by unfold testsB; rw [HAF2.out]), hb.trans (bb.mono hb.size)⟩
      · have HAT2 : Hid ((l.take (i + 1)).all (fun t => testB t.abs) = true) := Lib.hid (by rw [HAT.out, HT.out, hB]; rfl)
        rw [hB] at hT
        have HTT := Lib.hid hT
        clear hc hT ht hB HAF HAT
        go_wp2_with (go_at_call 108; refine HTT.out.mono ?_; rintro e w2 ⟨rfl, bb⟩)
        go_roundw
        case rel => exact ⟨i + 1, by omega, by go_num, HAT2, hin.kept bb, hb.trans (bb.mono hb.size)⟩
        case measure => simp [intOf]; omega
    · obtain rfl : i = n := by omega
      have HTA : Hid (testsB l = true) := Lib.hid (by have := HT.out; rwa [List.take_of_length_le (by rw [HL.out]; omega)] at this)
      go_wp2
      go_ret
      exact ⟨ret_bool (by rw [HTA.out]), hb⟩
end Go.Proofs.YtgeaccoobhigcaaGreat
