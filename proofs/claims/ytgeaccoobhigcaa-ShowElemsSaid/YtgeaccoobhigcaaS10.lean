/-
  The texts of tests.
-/
import Derived.Test.YtgeaccoobhigcaaS8
namespace Go.Proofs.Ytgeaccoobhigcaa
open Go Go.RowKit

/-- Symbols in a slice. -/
def symsC (l : List Sm) : List Value := l.flatMap Sm.cells
theorem symsC_length (l : List Sm) : (symsC l).length = l.length * 3 := by
  induction l with
  | nil => rfl
  | cons x r ih => simp only [symsC, List.flatMap_cons, List.length_append, List.length_cons] at ih ⊢; rw [ih]; simp [Sm.cells]; omega
theorem symsC_at {l : List Sm} {k : Nat} {t : Sm} (h : l[k]? = some t) : (symsC l)[k * 3]? = some (.int .i64 t.k) ∧ (symsC l)[k * 3 + 1]? = some (.string t.t) ∧ (symsC l)[k * 3 + 2]? = some (.int .i64 t.n) := by
  have hk : k < l.length := (List.getElem?_eq_some_iff.1 h).1
  have e : symsC l = symsC (l.take k) ++ (t.cells ++ symsC (l.drop (k + 1))) := by
    have h1 : l = l.take k ++ t :: l.drop (k + 1) := by
      obtain ⟨h3, h4⟩ := List.getElem?_eq_some_iff.1 h
      rw [← h4, ← List.drop_eq_getElem_cons h3, List.take_append_drop]
    conv => lhs; rw [h1]
    simp [symsC]
  have hl : (symsC (l.take k)).length = k * 3 := by rw [symsC_length, List.length_take, Nat.min_eq_left (by omega)]
  rw [e]
  refine ⟨?_, ?_, ?_⟩
  · rw [List.getElem?_append_right (by omega), hl, Nat.sub_self]; rfl
  · rw [List.getElem?_append_right (by omega), hl, show k * 3 + 1 - k * 3 = 1 by omega]; rfl
  · rw [List.getElem?_append_right (by omega), hl, show k * 3 + 2 - k * 3 = 2 by omega]; rfl
theorem SlR.sym {w : World} {ao : Option Addr} {n c : Nat} {l : List Sm} {k : Nat} {t : Sm} (h : SlR w 3 ao n c (symsC l)) (hk : l[k]? = some t) :
    ∃ g o, ao = some ⟨g, o, none⟩ ∧ w.cell? ⟨g, o + k * 3, none⟩ = some (.int .i64 t.k) ∧ w.cell? ⟨g, o + k * 3 + 1, none⟩ = some (.string t.t) ∧ w.cell? ⟨g, o + k * 3 + 2, none⟩ = some (.int .i64 t.n) := by
  obtain ⟨h0, h1, h2⟩ := symsC_at hk
  have hkl : k < l.length := (List.getElem?_eq_some_iff.1 hk).1
  have hl := h.1
  rw [symsC_length] at hl
  cases ao with
  | none => have := h.2.2.2.1 rfl; have := h.2.1; omega
  | some a =>
    have ha := h.2.2.2.2 a rfl
    have c0 := ha _ _ h0
    have hs : a.spot = none := by
      have hl0 : 0 < (symsC l).length := by rw [symsC_length]; omega
      have h00 := ha 0 _ (List.getElem?_eq_getElem hl0)
      rw [addr_add_zero] at h00
      exact World.cell?_spot h00
    obtain ⟨g, o, sp⟩ := a
    simp only at hs
    subst hs
    have c1 := ha _ _ h1
    have c2 := ha _ _ h2
    rw [addr_add_lit] at c0 c1 c2
    exact ⟨g, o, rfl, c0, by rw [Nat.add_assoc]; exact c1, by rw [Nat.add_assoc]; exact c2⟩

/-- A test, with where its list lies. -/
structure TestR where
  rel : Int
  v : ByteArray
  s : Sm
  la : Option Addr
  ln : Nat
  lc : Nat
  list : List Sm
def TestR.cells (t : TestR) : List Value := [.int .i64 t.rel, .string t.v, .int .i64 t.s.k, .string t.s.t, .int .i64 t.s.n, .slice t.la t.ln t.lc]
def TestR.val (t : TestR) : Value := .agg #[.int .i64 t.rel, .string t.v, .int .i64 t.s.k, .string t.s.t, .int .i64 t.s.n, .slice t.la t.ln t.lc]
structure TestR.Ok (w : World) (t : TestR) : Prop where
  sl : SlR w 3 t.la t.ln t.lc (symsC t.list)
  ln : t.ln ≤ 1000
  v : t.v.size ≤ 1000000
  s : t.s.t.size ≤ 9223372036854775807
  list : ∀ x ∈ t.list, x.t.size ≤ 9223372036854775807
/-- The text of the first n symbols of a list. -/
def listS (l : List Sm) : Nat → ByteArray
  | 0 => ⟨#[60, 60]⟩
  | n + 1 => listS l n ++ ⟨#[32]⟩ ++ symS (l.getD n ⟨0, ⟨#[]⟩, 0⟩)
theorem listS_size (l : List Sm) : ∀ n, (listS l n).size ≤ 2 + n * 33
  | 0 => Nat.le_refl _
  | n + 1 => by
    have := listS_size l n
    have hs := symS_size (l.getD n ⟨0, ⟨#[]⟩, 0⟩)
    unfold listS
    rw [cat2_size, cat2_size]
    show _ + 1 + _ ≤ _
    omega
def testS (t : TestR) : ByteArray := if t.rel = 8 then listS t.list t.ln ++ ⟨#[32, 62, 62]⟩ else if relL t.rel = #[] then atomS ⟨t.v, t.s⟩ else ⟨relL t.rel⟩ ++ ⟨#[32]⟩ ++ atomS ⟨t.v, t.s⟩
theorem relL_size (k : Int) : (relL k).size ≤ 3 := by
  unfold relL
  repeat' split
  all_goals decide

set_option maxRecDepth 100000 in
set_option maxHeartbeats 4000000 in
theorem showTest_any (t : TestR) (w : World) (h : t.Ok w) :
    Calls Try.prog 110 #[t.val] w fun e w' => e = .returned (.string (testS t)) ∧ Below w.heap.size w w' := by
  obtain ⟨hsl, hln, hv, hs, hlist⟩ := h
  have hA := fun w => showAtom_any ⟨t.v, t.s⟩ hv hs w
  have za := atomS_size ⟨t.v, t.s⟩ hv
  have hlen : t.list.length = t.ln := by have := hsl.1; rw [symsC_length] at this; omega
  obtain ⟨rel, v, ⟨k, tx, n⟩, la, ln, lc, list⟩ := t
  unfold testS TestR.val
  simp only at hsl hln hA za hlist hlen ⊢
  clear hv hs
  generalize atomS ⟨v, ⟨k, tx, n⟩⟩ = A at hA za ⊢
  unfold Sm.val at hA
  simp only at hA
  have HA := Lib.hid hA
  have HLEN := Lib.hid hlen
  clear hA hlen
  have hbw : Below w.heap.size w (w.alloc (.cells #[.int .i64 rel, .string v, .int .i64 k, .string tx, .int .i64 n, .slice la ln lc] 138)) := (Below.refl _ w).alloc (Nat.le_refl _) _
  have hsl0 := hsl.kept hbw
  have HBW := Lib.hid hbw
  clear hbw
  by_cases h8 : rel = 8
  · subst h8
    rw [if_pos rfl]
    go_enter Try.func110, Try.ntmps110
    go_wp2
    go_loopw [3, 13] (fun ts ti wr => ∃ i : Nat, i ≤ ln ∧ ts = .string (listS list i) ∧ ti = .int .i64 i ∧ SlR wr 3 la ln lc (symsC list) ∧ Below w.heap.size w wr) (fun _ ti _ => ln - (intOf ti).toNat)
    case atStart => exact ⟨0, by omega, rfl, rfl, hsl0, HBW.out⟩
    case round =>
      clear hsl0
      obtain ⟨i, hi, rfl, rfl, hsl1, hb1⟩ := hrel
      have hz := listS_size list i
      by_cases hlt : i < ln
      · obtain ⟨x, hx⟩ : ∃ x, list[i]? = some x := ⟨_, List.getElem?_eq_getElem (by rw [HLEN.out]; exact hlt)⟩
        have hT := fun w => symText_any x (hlist x (List.mem_of_getElem? hx)) w
        obtain ⟨g, o, rfl, x0, x1, x2⟩ := hsl1.sym hx
        have HS : Hid (listS list (i + 1) = listS list i ++ ⟨#[32]⟩ ++ symS x) := Lib.hid (by
          conv => lhs; unfold listS
          rw [List.getD_eq_getElem?_getD, hx]; rfl)
        have hzx := symS_size x
        obtain ⟨xk, xt, xn⟩ := x
        simp only at x0 x1 x2
        unfold Sm.val at hT
        simp only at hT
        generalize symS ⟨xk, xt, xn⟩ = X at hT HS hzx
        have HT := Lib.hid hT
        have HX := Lib.hid hx
        have p1 := fun w => run_string_add_sum (P := Try.prog) w (listS list i) ⟨#[32]⟩ (by show _ + 1 ≤ _; omega)
        have p2 := fun w => run_string_add_sum (P := Try.prog) w (listS list i ++ ⟨#[32]⟩) X (by rw [cat2_size]; show _ + 1 + _ ≤ _; omega)
        clear hT hx
        go_wp2_with (go_at_call 78; refine (HT.out _).mono ?_; rintro e w2 ⟨rfl, b2⟩)
        have bb : Below wr.heap.size wr w2 := ((Below.refl _ wr).alloc (Nat.le_refl _) _).trans (b2.mono (by simp))
        go_roundw
        case rel => exact ⟨i + 1, by omega, by rw [HS.out], by go_num, hsl1.kept bb, hb1.trans (bb.mono hb1.size)⟩
        case measure => simp [intOf]; omega
      · obtain rfl : i = ln := by omega
        have p1 := fun w => run_string_add_sum (P := Try.prog) w (listS list i) ⟨#[32, 62, 62]⟩ (by show _ + 3 ≤ _; omega)
        go_wp2
        go_ret
        exact ⟨rfl, hb1⟩
  · rw [if_neg h8]
    have e8 : (rel == 8) = false := by simp [h8]
    have hR := fun w => rel_any rel w
    have zr := relL_size rel
    obtain ⟨R, hRe⟩ : ∃ R, R = relL rel := ⟨_, rfl⟩
    rw [← hRe] at hR zr ⊢
    have HR := Lib.hid hR
    clear hR hRe h8 hsl0
    by_cases hr : R = #[]
    · subst hr
      rw [if_pos rfl]
      go_enter Try.func110, Try.ntmps110
      go_wp2_with (first | (go_at_call 138; refine (HR.out _).mono ?_; rintro e w2 ⟨rfl, rfl⟩) | (go_at_call 73; refine (HA.out _).mono ?_; rintro e w3 ⟨rfl, b3⟩))
      go_ret
      exact ⟨rfl, HBW.out.trans (b3.mono (by simp))⟩
    · rw [if_neg hr]
      have hre : (((⟨R⟩ : ByteArray).toList == []) = false) := str_cons (s := ⟨R⟩) (by show R.size ≠ 0; intro e; exact hr (Array.eq_empty_of_size_eq_zero e))
      have p1 := fun w => run_string_add_sum (P := Try.prog) w (⟨R⟩ : ByteArray) ⟨#[32]⟩ (by show R.size + 1 ≤ _; omega)
      have p2 := fun w => run_string_add_sum (P := Try.prog) w ((⟨R⟩ : ByteArray) ++ ⟨#[32]⟩) A (by rw [cat2_size]; show R.size + 1 + _ ≤ _; omega)
      clear hr
      go_enter Try.func110, Try.ntmps110
      go_wp2_with (first | (go_at_call 138; refine (HR.out _).mono ?_; rintro e w2 ⟨rfl, rfl⟩) | (go_at_call 73; refine (HA.out _).mono ?_; rintro e w3 ⟨rfl, b3⟩))
      go_ret
      exact ⟨rfl, HBW.out.trans (b3.mono (by simp))⟩
end Go.Proofs.Ytgeaccoobhigcaa
