/-
  The texts of tests. The texts of tests: the document's. Slices of wide elements; the texts of fields. Conditions, as they lie in memory; their texts. How long the texts of conditions are. The texts of fields: show's and the document's. show.Cond. ponderref07.Cond. Parts of productions: which may be. Symbols, atoms, terms. Parts of productions: which may be. Atoms. Parts of productions: which may be. Terms and actions, as shape asks. Parts of productions: which may be. Actions, as shape asks and as the document does. Whole elements, of any number of cells: loaded, and stored into what is new.
-/
import Derived.Test.YtgeaccoobhigcaaG1
import Derived.Laws.Rows
import Derived.Laws.Tables
namespace Go.Proofs.Ytgeaccoobhigcaa
open Go Go.RowKit

/-- Symbols in a slice. -/
def symsC (l : List Sm) : List Value := l.flatMap Sm.cells
theorem symsC_length (l : List Sm) : (symsC l).length = l.length * 3 := by
  induction l with
  | nil => rfl
  | cons x r ih => simp only [symsC, List.flatMap_cons, List.length_append, List.length_cons] at ih ⊢; rw [ih]; simp [Sm.cells]; omega
theorem symsC_at {l : List Sm} {k : Nat} {t : Sm} (h : l[k]? = some t) : (symsC l)[k * 3]? = some (.int .i64 t.k) ∧ (symsC l)[k * 3 + 1]? = some (.string t.t) ∧ (symsC l)[k * 3 + 2]? = some (.int .i64 t.n) := by
  have hk : k < l.length := (List.getElem?_eq_some_iff.1 h).1
  have e : symsC l = symsC (l.take k) ++ (t.cells ++ symsC (l.drop (k + 1))) := by
    have h1 : l = l.take k ++ t :: l.drop (k + 1) := by
      obtain ⟨h3, h4⟩ := List.getElem?_eq_some_iff.1 h
      rw [← h4, ← List.drop_eq_getElem_cons h3, List.take_append_drop]
    conv => lhs; rw [h1]
    simp [symsC]
  have hl : (symsC (l.take k)).length = k * 3 := by rw [symsC_length, List.length_take, Nat.min_eq_left (by omega)]
  rw [e]
  refine ⟨?_, ?_, ?_⟩
  · rw [List.getElem?_append_right (by omega), hl, Nat.sub_self]; rfl
  · rw [List.getElem?_append_right (by omega), hl, show k * 3 + 1 - k * 3 = 1 by omega]; rfl
  · rw [List.getElem?_append_right (by omega), hl, show k * 3 + 2 - k * 3 = 2 by omega]; rfl
theorem SlR.sym {w : World} {ao : Option Addr} {n c : Nat} {l : List Sm} {k : Nat} {t : Sm} (h : SlR w 3 ao n c (symsC l)) (hk : l[k]? = some t) :
    ∃ g o, ao = some ⟨g, o, none⟩ ∧ w.cell? ⟨g, o + k * 3, none⟩ = some (.int .i64 t.k) ∧ w.cell? ⟨g, o + k * 3 + 1, none⟩ = some (.string t.t) ∧ w.cell? ⟨g, o + k * 3 + 2, none⟩ = some (.int .i64 t.n) := by
  obtain ⟨h0, h1, h2⟩ := symsC_at hk
  have hkl : k < l.length := (List.getElem?_eq_some_iff.1 hk).1
  have hl := h.1
  rw [symsC_length] at hl
  cases ao with
  | none => have := h.2.2.2.1 rfl; have := h.2.1; omega
  | some a =>
    have ha := h.2.2.2.2 a rfl
    have c0 := ha _ _ h0
    have hs : a.spot = none := by
      have hl0 : 0 < (symsC l).length := by rw [symsC_length]; omega
      have h00 := ha 0 _ (List.getElem?_eq_getElem hl0)
      rw [addr_add_zero] at h00
      exact World.cell?_spot h00
    obtain ⟨g, o, sp⟩ := a
    simp only at hs
    subst hs
    have c1 := ha _ _ h1
    have c2 := ha _ _ h2
    rw [addr_add_lit] at c0 c1 c2
    exact ⟨g, o, rfl, c0, by rw [Nat.add_assoc]; exact c1, by rw [Nat.add_assoc]; exact c2⟩

/-- A test, with where its list lies. -/
structure TestR where
  rel : Int
  v : ByteArray
  s : Sm
  la : Option Addr
  ln : Nat
  lc : Nat
  list : List Sm
def TestR.cells (t : TestR) : List Value := [.int .i64 t.rel, .string t.v, .int .i64 t.s.k, .string t.s.t, .int .i64 t.s.n, .slice t.la t.ln t.lc]
def TestR.val (t : TestR) : Value := .agg #[.int .i64 t.rel, .string t.v, .int .i64 t.s.k, .string t.s.t, .int .i64 t.s.n, .slice t.la t.ln t.lc]
structure TestR.Ok (w : World) (t : TestR) : Prop where
  sl : SlR w 3 t.la t.ln t.lc (symsC t.list)
  ln : t.ln ≤ 1000
  v : t.v.size ≤ 1000000
  s : t.s.t.size ≤ 9223372036854775807
  list : ∀ x ∈ t.list, x.t.size ≤ 9223372036854775807
/-- The text of the first n symbols of a list. -/
def listS (l : List Sm) : Nat → ByteArray
  | 0 => ⟨#[60, 60]⟩
  | n + 1 => listS l n ++ ⟨#[32]⟩ ++ symS (l.getD n ⟨0, ⟨#[]⟩, 0⟩)
theorem listS_size (l : List Sm) : ∀ n, (listS l n).size ≤ 2 + n * 33
  | 0 => Nat.le_refl _
  | n + 1 => by
    have := listS_size l n
    have hs := symS_size (l.getD n ⟨0, ⟨#[]⟩, 0⟩)
    unfold listS
    rw [cat2_size, cat2_size]
    show _ + 1 + _ ≤ _
    omega
def testS (t : TestR) : ByteArray := if t.rel = 8 then listS t.list t.ln ++ ⟨#[32, 62, 62]⟩ else if relL t.rel = #[] then atomS ⟨t.v, t.s⟩ else ⟨relL t.rel⟩ ++ ⟨#[32]⟩ ++ atomS ⟨t.v, t.s⟩
theorem relL_size (k : Int) : (relL k).size ≤ 3 := by
  unfold relL
  repeat' split
  all_goals decide

set_option maxRecDepth 100000 in
set_option maxHeartbeats 4000000 in
theorem showTest_any (t : TestR) (w : World) (h : t.Ok w) :
    Calls Try.prog 110 #[t.val] w fun e w' => e = .returned (.string (testS t)) ∧ Below w.heap.size w w' := by
  obtain ⟨hsl, hln, hv, hs, hlist⟩ := h
  have hA := fun w => showAtom_any ⟨t.v, t.s⟩ hv hs w
  have za := atomS_size ⟨t.v, t.s⟩ hv
  have hlen : t.list.length = t.ln := by have := hsl.1; rw [symsC_length] at this; omega
  obtain ⟨rel, v, ⟨k, tx, n⟩, la, ln, lc, list⟩ := t
  unfold testS TestR.val
  simp only at hsl hln hA za hlist hlen ⊢
  clear hv hs
  generalize atomS ⟨v, ⟨k, tx, n⟩⟩ = A at hA za ⊢
  unfold Sm.val at hA
  simp only at hA
  have HA := Lib.hid hA
  have HLEN := Lib.hid hlen
  clear hA hlen
  have hbw : Below w.heap.size w (w.alloc (.cells #[.int .i64 rel, .string v, .int .i64 k, .string tx, .int .i64 n, .slice la ln lc] 138)) := (Below.refl _ w).alloc (Nat.le_refl _) _
  have hsl0 := hsl.kept hbw
  have HBW := Lib.hid hbw
  clear hbw
  by_cases h8 : rel = 8
  · subst h8
    rw [if_pos rfl]
    go_enter Try.func110, Try.ntmps110
    go_wp2
    go_loopw [3, 13] (fun ts ti wr => ∃ i : Nat, i ≤ ln ∧ ts = .string (listS list i) ∧ ti = .int .i64 i ∧ SlR wr 3 la ln lc (symsC list) ∧ Below w.heap.size w wr) (fun _ ti _ => ln - (intOf ti).toNat)
    case atStart => exact ⟨0, by omega, rfl, rfl, hsl0, HBW.out⟩
    case round =>
      clear hsl0
      obtain ⟨i, hi, rfl, rfl, hsl1, hb1⟩ := hrel
      have hz := listS_size list i
      by_cases hlt : i < ln
      · obtain ⟨x, hx⟩ : ∃ x, list[i]? = some x := ⟨_, List.getElem?_eq_getElem (by rw [HLEN.out]; exact hlt)⟩
        have hT := fun w => symText_any x (hlist x (List.mem_of_getElem? hx)) w
        obtain ⟨g, o, rfl, x0, x1, x2⟩ := hsl1.sym hx
        have HS : Hid (listS list (i + 1) = listS list i ++ ⟨#[32]⟩ ++ symS x) := Lib.hid (by
          conv => lhs; unfold listS
          rw [List.getD_eq_getElem?_getD, hx]; rfl)
        have hzx := symS_size x
        obtain ⟨xk, xt, xn⟩ := x
        simp only at x0 x1 x2
        unfold Sm.val at hT
        simp only at hT
        generalize symS ⟨xk, xt, xn⟩ = X at hT HS hzx
        have HT := Lib.hid hT
        have HX := Lib.hid hx
        have p1 := fun w => run_string_add_sum (P := Try.prog) w (listS list i) ⟨#[32]⟩ (by show _ + 1 ≤ _; omega)
        have p2 := fun w => run_string_add_sum (P := Try.prog) w (listS list i ++ ⟨#[32]⟩) X (by rw [cat2_size]; show _ + 1 + _ ≤ _; omega)
        clear hT hx
        go_wp2_with (go_at_call 78; refine (HT.out _).mono ?_; rintro e w2 ⟨rfl, b2⟩)
        have bb : Below wr.heap.size wr w2 := ((Below.refl _ wr).alloc (Nat.le_refl _) _).trans (b2.mono (by simp))
        go_roundw
        case rel => exact ⟨i + 1, by omega, by rw [HS.out], by go_num, hsl1.kept bb, hb1.trans (bb.mono hb1.size)⟩
        case measure => simp [intOf]; omega
      · obtain rfl : i = ln := by omega
        have p1 := fun w => run_string_add_sum (P := Try.prog) w (listS list i) ⟨#[32, 62, 62]⟩ (by show _ + 3 ≤ _; omega)
        go_wp2
        go_ret
        exact ⟨rfl, hb1⟩
  · rw [if_neg h8]
    have e8 : (rel == 8) = false := by simp [h8]
    have hR := fun w => rel_any rel w
    have zr := relL_size rel
    obtain ⟨R, hRe⟩ : ∃ R, R = relL rel := ⟨_, rfl⟩
    rw [← hRe] at hR zr ⊢
    have HR := Lib.hid hR
    clear hR hRe h8 hsl0
    by_cases hr : R = #[]
    · subst hr
      rw [if_pos rfl]
      go_enter Try.func110, Try.ntmps110
      go_wp2_with (first | (go_at_call 138; refine (HR.out _).mono ?_; rintro e w2 ⟨rfl, rfl⟩) | (go_at_call 73; refine (HA.out _).mono ?_; rintro e w3 ⟨rfl, b3⟩))
      go_ret
      exact ⟨rfl, HBW.out.trans (b3.mono (by simp))⟩
    · rw [if_neg hr]
      have hre : (((⟨R⟩ : ByteArray).toList == []) = false) := str_cons (s := ⟨R⟩) (by show R.size ≠ 0; intro e; exact hr (Array.eq_empty_of_size_eq_zero e))
      have p1 := fun w => run_string_add_sum (P := Try.prog) w (⟨R⟩ : ByteArray) ⟨#[32]⟩ (by show R.size + 1 ≤ _; omega)
      have p2 := fun w => run_string_add_sum (P := Try.prog) w ((⟨R⟩ : ByteArray) ++ ⟨#[32]⟩) A (by rw [cat2_size]; show R.size + 1 + _ ≤ _; omega)
      clear hr
      go_enter Try.func110, Try.ntmps110
      go_wp2_with (first | (go_at_call 138; refine (HR.out _).mono ?_; rintro e w2 ⟨rfl, rfl⟩) | (go_at_call 73; refine (HA.out _).mono ?_; rintro e w3 ⟨rfl, b3⟩))
      go_ret
      exact ⟨rfl, HBW.out.trans (b3.mono (by simp))⟩
end Go.Proofs.Ytgeaccoobhigcaa
namespace Go.Proofs.Ytgeaccoobhigcaa
open Go Go.RowKit

theorem nil_cat (a : ByteArray) : (⟨#[]⟩ : ByteArray) ++ a = a := by
  apply str_ext
  simp only [ByteArray.data_append, Array.toList_append]
  rfl
/-- The sign with a blank behind it, or none. -/
def relB (k : Int) : Array UInt8 := if relL k = #[] then #[] else relL k ++ #[32]
theorem relB_cat (k : Int) (A : ByteArray) : (⟨relB k⟩ : ByteArray) ++ A = if relL k = #[] then A else ⟨relL k⟩ ++ ⟨#[32]⟩ ++ A := by
  unfold relB
  split
  · exact nil_cat A
  · congr 1
    apply str_ext
    simp only [ByteArray.data_append, Array.toList_append]
theorem six_cells {W : World} {b : Nat} {t : TypeId} {a0 a1 a2 a3 a4 a5 : Value} (h : BoxC W b t [a0, a1, a2, a3, a4, a5]) : W.cell? ⟨b, 0, none⟩ = some a0 ∧ W.cell? ⟨b, 1, none⟩ = some a1 ∧ W.cell? ⟨b, 2, none⟩ = some a2 ∧ W.cell? ⟨b, 3, none⟩ = some a3 ∧ W.cell? ⟨b, 4, none⟩ = some a4 ∧ W.cell? ⟨b, 5, none⟩ = some a5 :=
  ⟨h.at_ rfl, h.at_ rfl, h.at_ rfl, h.at_ rfl, h.at_ rfl, h.at_ rfl⟩

set_option maxRecDepth 100000 in
set_option maxHeartbeats 8000000 in
theorem refTest_any (t : TestR) (w : World) (h : t.Ok w) :
    Calls Try.prog 111 #[t.val] w fun e w' => e = .returned (.string (testS t)) ∧ Below w.heap.size w w' := by
  obtain ⟨hsl, hln, hv, hs, hlist⟩ := h
  have hA := fun w => refAtom_any ⟨t.v, t.s⟩ hv hs w
  have za := atomS_size ⟨t.v, t.s⟩ hv
  have hlen : t.list.length = t.ln := by have := hsl.1; rw [symsC_length] at this; omega
  obtain ⟨rel, v, ⟨k, tx, n⟩, la, ln, lc, list⟩ := t
  unfold testS TestR.val
  simp only at hsl hln hA za hlist hlen ⊢
  clear hv hs
  generalize atomS ⟨v, ⟨k, tx, n⟩⟩ = A at hA za ⊢
  unfold Am.val at hA
  simp only at hA
  have HA := Lib.hid hA
  have HLEN := Lib.hid hlen
  clear hA hlen
  have hbw : Below w.heap.size w (w.alloc (.cells #[.int .i64 rel, .string v, .int .i64 k, .string tx, .int .i64 n, .slice la ln lc] 138)) := (Below.refl _ w).alloc (Nat.le_refl _) _
  have hbx : BoxC (w.alloc (.cells #[.int .i64 rel, .string v, .int .i64 k, .string tx, .int .i64 n, .slice la ln lc] 138)) w.heap.size 138 [.int .i64 rel, .string v, .int .i64 k, .string tx, .int .i64 n, .slice la ln lc] := BoxC.new w _ 138
  have hsl0 := hsl.kept hbw
  have HBW := Lib.hid hbw
  have HBX := Lib.hid hbx
  clear hbw hbx
  by_cases h8 : rel = 8
  · subst h8
    rw [if_pos rfl]
    go_enter Try.func111, Try.ntmps111
    go_wp2
    go_loopw [3, 4] (fun ts ti wr => ∃ i : Nat, i ≤ ln ∧ ts = .string (listS list i) ∧ ti = .int .i64 i ∧ SlR wr 3 la ln lc (symsC list) ∧ Hid (BoxC wr w.heap.size 138 [.int .i64 8, .string v, .int .i64 k, .string tx, .int .i64 n, .slice la ln lc]) ∧ Below w.heap.size w wr) (fun _ ti _ => ln - (intOf ti).toNat)
    case atStart => exact ⟨0, by omega, rfl, rfl, hsl0, HBX, HBW.out⟩
    case round =>
      clear hsl0
      obtain ⟨i, hi, rfl, rfl, hsl1, hbx1, hb1⟩ := hrel
      have hz := listS_size list i
      have c5 := hbx1.out.at_ (j := 5) rfl
      by_cases hlt : i < ln
      · obtain ⟨x, hx⟩ : ∃ x, list[i]? = some x := ⟨_, List.getElem?_eq_getElem (by rw [HLEN.out]; exact hlt)⟩
        have hT := fun w => refText_any x (hlist x (List.mem_of_getElem? hx)) w
        obtain ⟨g, o, rfl, x0, x1, x2⟩ := hsl1.sym hx
        have HS : Hid (listS list (i + 1) = listS list i ++ (⟨#[32]⟩ ++ symS x)) := Lib.hid (by
          conv => lhs; unfold listS
          rw [List.getD_eq_getElem?_getD, hx, ← cat_assoc]; rfl)
        have hzx := symS_size x
        obtain ⟨xk, xt, xn⟩ := x
        simp only at x0 x1 x2
        unfold Sm.val at hT
        simp only at hT
        generalize symS ⟨xk, xt, xn⟩ = X at hT HS hzx
        have HT := Lib.hid hT
        have HX := Lib.hid hx
        have p1 := fun w => run_string_add_sum (P := Try.prog) w (⟨#[32]⟩ : ByteArray) X (by show 1 + _ ≤ _; omega)
        have p2 := fun w => run_string_add_sum (P := Try.prog) w (listS list i) (⟨#[32]⟩ ++ X) (by rw [cat2_size]; show _ + (1 + _) ≤ _; omega)
        clear hT hx
        go_wp2_with (go_at_call 79; refine (HT.out _).mono ?_; rintro e w2 ⟨rfl, bb⟩)
        go_roundw
        case rel => exact ⟨i + 1, by omega, by rw [HS.out], by go_num, hsl1.kept bb, Lib.hid (hbx1.out.below bb), hb1.trans (bb.mono hb1.size)⟩
        case measure => simp [intOf]; omega
      · obtain rfl : i = ln := by omega
        have p1 := fun w => run_string_add_sum (P := Try.prog) w (listS list i) ⟨#[32, 62, 62]⟩ (by show _ + 3 ≤ _; omega)
        go_wp2
        go_ret
        exact ⟨rfl, hb1⟩
  · rw [if_neg h8]
    have e8 : (rel == 8) = false := by simp [h8]
    rw [← relB_cat]
    have p := fun (R : Array UInt8) (hR : R.size ≤ 4) w => run_string_add_sum (P := Try.prog) w (⟨R⟩ : ByteArray) A (by show R.size + A.size ≤ _; omega)
    have HP := Lib.hid p
    clear p hsl0
    rcases (show rel = 2 ∨ rel = 3 ∨ rel = 4 ∨ rel = 5 ∨ rel = 6 ∨ rel = 7 ∨ (rel ≠ 2 ∧ rel ≠ 3 ∧ rel ≠ 4 ∧ rel ≠ 5 ∧ rel ≠ 6 ∧ rel ≠ 7) by omega) with rfl | rfl | rfl | rfl | rfl | rfl | ⟨h2, h3, h4, h5, h6, h7⟩
    · have p1 := HP.out #[60, 62, 32] (by decide)
      go_enter Try.func111, Try.ntmps111
      go_wp2_with (go_at_call 76; refine (HA.out _).mono ?_; rintro e w3 ⟨rfl, b3⟩)
      go_ret
      exact ⟨rfl, HBW.out.trans (b3.mono (by simp))⟩
    · have p1 := HP.out #[60, 32] (by decide)
      go_enter Try.func111, Try.ntmps111
      go_wp2_with (go_at_call 76; refine (HA.out _).mono ?_; rintro e w3 ⟨rfl, b3⟩)
      go_ret
      exact ⟨rfl, HBW.out.trans (b3.mono (by simp))⟩
    · have p1 := HP.out #[60, 61, 32] (by decide)
      go_enter Try.func111, Try.ntmps111
      go_wp2_with (go_at_call 76; refine (HA.out _).mono ?_; rintro e w3 ⟨rfl, b3⟩)
      go_ret
      exact ⟨rfl, HBW.out.trans (b3.mono (by simp))⟩
    · have p1 := HP.out #[62, 32] (by decide)
      go_enter Try.func111, Try.ntmps111
      go_wp2_with (go_at_call 76; refine (HA.out _).mono ?_; rintro e w3 ⟨rfl, b3⟩)
      go_ret
      exact ⟨rfl, HBW.out.trans (b3.mono (by simp))⟩
    · have p1 := HP.out #[62, 61, 32] (by decide)
      go_enter Try.func111, Try.ntmps111
      go_wp2_with (go_at_call 76; refine (HA.out _).mono ?_; rintro e w3 ⟨rfl, b3⟩)
      go_ret
      exact ⟨rfl, HBW.out.trans (b3.mono (by simp))⟩
    · have p1 := HP.out #[60, 61, 62, 32] (by decide)
      go_enter Try.func111, Try.ntmps111
      go_wp2_with (go_at_call 76; refine (HA.out _).mono ?_; rintro e w3 ⟨rfl, b3⟩)
      go_ret
      exact ⟨rfl, HBW.out.trans (b3.mono (by simp))⟩
    · have hr : relB rel = #[] := by unfold relB relL; rw [if_neg h2, if_neg h3, if_neg h4, if_neg h5, if_neg h6, if_neg h7, if_pos rfl]
      rw [hr]
      have p1 := HP.out #[] (by decide)
      have e2 : (rel == 2) = false := by simp [h2]
      have e3 : (rel == 3) = false := by simp [h3]
      have e4 : (rel == 4) = false := by simp [h4]
      have e5 : (rel == 5) = false := by simp [h5]
      have e6 : (rel == 6) = false := by simp [h6]
      have e7 : (rel == 7) = false := by simp [h7]
      clear hr h2 h3 h4 h5 h6 h7 h8
      go_enter Try.func111, Try.ntmps111
      go_wp2_with (go_at_call 76; refine (HA.out _).mono ?_; rintro e w3 ⟨rfl, b3⟩)
      go_ret
      exact ⟨rfl, HBW.out.trans (b3.mono (by simp))⟩
end Go.Proofs.Ytgeaccoobhigcaa
namespace Go.Proofs.Ytgeaccoobhigcaa
open Go Go.RowKit

section
variable {α : Type} {f : α → List Value} {m : Nat}
theorem rows_length (hf : ∀ x, (f x).length = m) (l : List α) : (l.flatMap f).length = l.length * m := by
  induction l with
  | nil => simp
  | cons x r ih => rw [List.flatMap_cons, List.length_append, ih, hf, List.length_cons, Nat.add_mul]; omega
theorem rows_at (hf : ∀ x, (f x).length = m) {l : List α} {k j : Nat} {t : α} {u : Value} (h : l[k]? = some t) (hj : (f t)[j]? = some u) : (l.flatMap f)[k * m + j]? = some u := by
  have hk : k < l.length := (List.getElem?_eq_some_iff.1 h).1
  have hjl : j < (f t).length := (List.getElem?_eq_some_iff.1 hj).1
  have e : l.flatMap f = (l.take k).flatMap f ++ (f t ++ (l.drop (k + 1)).flatMap f) := by
    have h1 : l = l.take k ++ t :: l.drop (k + 1) := by
      obtain ⟨h3, h4⟩ := List.getElem?_eq_some_iff.1 h
      rw [← h4, ← List.drop_eq_getElem_cons h3, List.take_append_drop]
    conv => lhs; rw [h1]
    simp
  have hl : ((l.take k).flatMap f).length = k * m := by rw [rows_length hf, List.length_take, Nat.min_eq_left (by omega)]
  rw [e, List.getElem?_append_right (by omega), hl, Nat.add_sub_cancel_left, List.getElem?_append_left hjl]
  exact hj
theorem SlR.row_at (hf : ∀ x, (f x).length = m) {w : World} {ao : Option Addr} {n c : Nat} {l : List α} {k : Nat} {t : α} (hm : 0 < m) (h : SlR w m ao n c (l.flatMap f)) (hk : l[k]? = some t) :
    ∃ g o, ao = some ⟨g, o, none⟩ ∧ ∀ j u, (f t)[j]? = some u → w.cell? ⟨g, o + k * m + j, none⟩ = some u := by
  have hkl : k < l.length := (List.getElem?_eq_some_iff.1 hk).1
  have hl := h.1
  rw [rows_length hf] at hl
  have hn : 0 < n := by
    rcases Nat.eq_zero_or_pos n with h0 | h0
    · subst h0
      rw [Nat.zero_mul] at hl
      have := Nat.mul_pos (show 0 < l.length by omega) hm
      omega
    · exact h0
  cases ao with
  | none => have := h.2.2.2.1 rfl; have := h.2.1; omega
  | some a =>
    have ha := h.2.2.2.2 a rfl
    have hs : a.spot = none := by
      have hl0 : 0 < (l.flatMap f).length := by rw [rows_length hf]; exact Nat.mul_pos (by omega) hm
      have h00 := ha 0 _ (List.getElem?_eq_getElem hl0)
      rw [addr_add_zero] at h00
      exact World.cell?_spot h00
    obtain ⟨g, o, sp⟩ := a
    simp only at hs
    subst hs
    refine ⟨g, o, rfl, fun j u hj => ?_⟩
    have := ha _ _ (rows_at hf hk hj)
    rw [addr_add_lit] at this
    rw [Nat.add_assoc]
    exact this
end

theorem TestR.Ok.kept {w w' : World} {t : TestR} (h : t.Ok w) (hb : Below w.heap.size w w') : t.Ok w' := ⟨h.sl.kept hb, h.ln, h.v, h.s, h.list⟩
theorem testR_len (t : TestR) : t.cells.length = 6 := rfl
/-- Tests in a slice. -/
structure TestsIn (w : World) (ao : Option Addr) (n c : Nat) (l : List TestR) : Prop where
  sl : SlR w 6 ao n c (l.flatMap TestR.cells)
  ok : ∀ t ∈ l, t.Ok w
theorem TestsIn.kept {w w' : World} {ao : Option Addr} {n c : Nat} {l : List TestR} (h : TestsIn w ao n c l) (hb : Below w.heap.size w w') : TestsIn w' ao n c l :=
  ⟨h.sl.kept hb, fun t ht => (h.ok t ht).kept hb⟩
theorem TestsIn.len {w : World} {ao : Option Addr} {n c : Nat} {l : List TestR} (h : TestsIn w ao n c l) : l.length = n := by
  have := h.sl.1
  rw [rows_length testR_len] at this
  omega
theorem testS_size {t : TestR} {w : World} (h : t.Ok w) : (testS t).size ≤ 1000010 := by
  have h1 := atomS_size ⟨t.v, t.s⟩ h.v
  have h2 := listS_size t.list t.ln
  have h3 := relL_size t.rel
  have h4 := h.ln
  unfold testS
  split
  · rw [cat2_size]
    show _ + 3 ≤ _
    omega
  · split
    · omega
    · rw [cat2_size, cat2_size]
      show (relL t.rel).size + 1 + _ ≤ _
      omega
def nilT : TestR := ⟨0, ⟨#[]⟩, ⟨0, ⟨#[]⟩, 0⟩, none, 0, 0, []⟩
/-- The text of the first n tests in braces. -/
def bracesS (l : List TestR) : Nat → ByteArray
  | 0 => ⟨#[123]⟩
  | n + 1 => bracesS l n ++ ⟨#[32]⟩ ++ testS (l.getD n nilT)
def fieldS (l : List TestR) : ByteArray := if l.length = 1 then testS (l.getD 0 nilT) else bracesS l l.length ++ ⟨#[32, 125]⟩
theorem bracesS_size {w : World} {l : List TestR} (h : ∀ t ∈ l, t.Ok w) : ∀ n, n ≤ l.length → (bracesS l n).size ≤ 1 + n * 1000011
  | 0, _ => Nat.le_refl _
  | n + 1, hn => by
    have ih := bracesS_size h n (by omega)
    have ht : (testS (l.getD n nilT)).size ≤ 1000010 := by
      rw [List.getD_eq_getElem?_getD, List.getElem?_eq_getElem (by omega)]
      exact testS_size (h _ (List.getElem_mem _))
    unfold bracesS
    rw [cat2_size, cat2_size]
    show _ + 1 + _ ≤ _
    omega
end Go.Proofs.Ytgeaccoobhigcaa
namespace Go.Proofs.Ytgeaccoobhigcaa
open Go Go.RowKit

/-- A condition, with where its parts lie. -/
inductive CondR where
  | mk (kind : Int) (goal : Bool) (id : ByteArray) (aa : Option Addr) (an ac : Nat) (attr : List TestR) (va : Option Addr) (vn vc : Nat) (value : List TestR) (acc : Bool) (ca : Option Addr) (cn cc : Nat) (conds : List CondR)
def CondR.cells : CondR → List Value
  | .mk kind goal id aa an ac _ va vn vc _ acc ca cn cc _ => [.int .i64 kind, .bool goal, .string id, .slice aa an ac, .slice va vn vc, .bool acc, .slice ca cn cc]
def CondR.val : CondR → Value
  | .mk kind goal id aa an ac _ va vn vc _ acc ca cn cc _ => .agg #[.int .i64 kind, .bool goal, .string id, .slice aa an ac, .slice va vn vc, .bool acc, .slice ca cn cc]
theorem condR_len (c : CondR) : c.cells.length = 7 := by cases c; rfl

/-- The tree lies in memory. -/
inductive CondR.Ok (w : World) : CondR → Prop
  | mk {kind : Int} {goal : Bool} {id : ByteArray} {aa : Option Addr} {an ac : Nat} {attr : List TestR} {va : Option Addr} {vn vc : Nat} {value : List TestR} {acc : Bool} {ca : Option Addr} {cn cc : Nat} {conds : List CondR}
      (ha : TestsIn w aa an ac attr) (hv : TestsIn w va vn vc value) (hs : SlR w 7 ca cn cc (conds.flatMap CondR.cells)) (hc : ∀ c ∈ conds, CondR.Ok w c) :
      CondR.Ok w (.mk kind goal id aa an ac attr va vn vc value acc ca cn cc conds)

theorem CondR.Ok.kept {w w' : World} (hb : Below w.heap.size w w') : ∀ {c : CondR}, c.Ok w → c.Ok w' := by
  intro c h
  induction h with
  | mk ha hv hs hc ih => exact .mk (ha.kept hb) (hv.kept hb) (hs.kept hb) ih

mutual
/-- show's text of a condition. -/
def condS : CondR → ByteArray
  | .mk kind goal id _ _ _ attr _ _ _ value acc _ _ _ conds =>
    if kind = 3 then condsS conds true ⟨#[45, 123]⟩ ++ ⟨#[125]⟩
    else
      let s0 : ByteArray := if kind = 2 then ⟨#[45, 40]⟩ else ⟨#[40]⟩
      let s1 := if goal then s0 ++ ⟨#[115, 116, 97, 116, 101, 32]⟩ else s0
      let s2 := s1 ++ ⟨#[60]⟩ ++ id ++ ⟨#[62, 32, 94]⟩ ++ (if attr.length = 0 then ⟨#[]⟩ else fieldS attr)
      let s3 := if 0 < value.length then s2 ++ ⟨#[32]⟩ ++ fieldS value else s2
      let s4 := if acc then s3 ++ ⟨#[32, 43]⟩ else s3
      s4 ++ ⟨#[41]⟩
/-- Conditions one behind the other, behind what there is. -/
def condsS : List CondR → Bool → ByteArray → ByteArray
  | [], _, s => s
  | c :: r, first, s => condsS r false ((if first then s else s ++ ⟨#[32]⟩) ++ condS c)
end
mutual
/-- How many conditions there are. -/
def condN : CondR → Nat
  | .mk _ _ _ _ _ _ _ _ _ _ _ _ _ _ _ conds => 1 + condsN conds
def condsN : List CondR → Nat
  | [] => 0
  | c :: r => condN c + condsN r
end
theorem condsS_snoc (c : CondR) : ∀ (l : List CondR) (first : Bool) (s : ByteArray), condsS (l ++ [c]) first s = (if l = [] ∧ first = true then condsS l first s else condsS l first s ++ ⟨#[32]⟩) ++ condS c
  | [], first, s => by cases first <;> simp [condsS]
  | x :: r, first, s => by
    have ih := condsS_snoc c r false ((if first then s else s ++ ⟨#[32]⟩) ++ condS x)
    simp only [List.cons_append, condsS]
    rw [ih]
    simp
end Go.Proofs.Ytgeaccoobhigcaa
namespace Go.Proofs.Ytgeaccoobhigcaa
open Go Go.RowKit

/-- Names and fields are of the size that is played. -/
inductive CondR.Fit : CondR → Prop
  | mk {kind : Int} {goal : Bool} {id : ByteArray} {aa : Option Addr} {an ac : Nat} {attr : List TestR} {va : Option Addr} {vn vc : Nat} {value : List TestR} {acc : Bool} {ca : Option Addr} {cn cc : Nat} {conds : List CondR}
      (hi : id.size ≤ 1000000) (ha : an ≤ 1000) (hv : vn ≤ 1000) (hc : ∀ c ∈ conds, CondR.Fit c) :
      CondR.Fit (.mk kind goal id aa an ac attr va vn vc value acc ca cn cc conds)

theorem fieldS_size {w : World} {l : List TestR} (h : ∀ t ∈ l, t.Ok w) (hl : l.length ≤ 1000) : (fieldS l).size ≤ 1000011010 := by
  unfold fieldS
  split
  · rename_i h1
    rw [List.getD_eq_getElem?_getD, List.getElem?_eq_getElem (by omega)]
    have := testS_size (h l[0] (List.getElem_mem _))
    show (testS l[0]).size ≤ _
    omega
  · have := bracesS_size h l.length (Nat.le_refl _)
    rw [cat2_size]
    show _ + 2 ≤ _
    have : l.length * 1000011 ≤ 1000 * 1000011 := Nat.mul_le_mul_right _ hl
    omega
theorem condsS_size : ∀ (l : List CondR), (∀ c ∈ l, (condS c).size + 1 ≤ 3000000000 * condN c) → ∀ (first : Bool) (s : ByteArray), (condsS l first s).size ≤ s.size + 3000000000 * condsN l
  | [], _, first, s => by simp [condsS]
  | c :: r, h, first, s => by
    have ih := condsS_size r (fun x hx => h x (by simp [hx])) false ((if first then s else s ++ ⟨#[32]⟩) ++ condS c)
    have hc := h c (by simp)
    have hs : ((if first then s else s ++ ⟨#[32]⟩) ++ condS c).size ≤ s.size + 1 + (condS c).size := by
      rw [cat2_size]
      split
      · omega
      · rw [cat2_size]; show _ + 1 + _ ≤ _; omega
    simp only [condsS, condsN]
    rw [Nat.mul_add]
    omega
theorem condS_size {w : World} {c : CondR} (h : c.Ok w) : c.Fit → (condS c).size + 1 ≤ 3000000000 * condN c := by
  induction h with
  | @mk kind goal id aa an ac attr va vn vc value acc ca cn cc conds ha hv hs hc ih =>
    intro hf
    obtain ⟨hi, h1, h2, h3⟩ := hf
    have hcs := condsS_size conds (fun c hm => ih c hm (h3 c hm)) true ⟨#[45, 123]⟩
    have hfa := fieldS_size ha.ok (by rw [ha.len]; exact h1)
    have hfv := fieldS_size hv.ok (by rw [hv.len]; exact h2)
    simp only [condS, condN]
    rw [Nat.mul_add]
    split
    · rw [cat2_size]
      have e : (⟨#[45, 123]⟩ : ByteArray).size = 2 := rfl
      have e1 : (⟨#[125]⟩ : ByteArray).size = 1 := rfl
      omega
    · have e1 : (⟨#[41]⟩ : ByteArray).size = 1 := rfl
      have e2 : (⟨#[32, 43]⟩ : ByteArray).size = 2 := rfl
      have e3 : (⟨#[32]⟩ : ByteArray).size = 1 := rfl
      have e4 : (⟨#[62, 32, 94]⟩ : ByteArray).size = 3 := rfl
      have e5 : (⟨#[60]⟩ : ByteArray).size = 1 := rfl
      have e6 : (⟨#[115, 116, 97, 116, 101, 32]⟩ : ByteArray).size = 6 := rfl
      have e7 : (⟨#[45, 40]⟩ : ByteArray).size = 2 := rfl
      have e8 : (⟨#[40]⟩ : ByteArray).size = 1 := rfl
      have e9 : (⟨#[]⟩ : ByteArray).size = 0 := rfl
      repeat' split
      all_goals
        simp only [cat2_size, e1, e2, e3, e4, e5, e6, e7, e8, e9]
        omega
end Go.Proofs.Ytgeaccoobhigcaa
namespace Go.Proofs.Ytgeaccoobhigcaa
open Go Go.RowKit

set_option maxRecDepth 100000 in
set_option maxHeartbeats 4000000 in
theorem showField_any (ao : Option Addr) (n c : Nat) (l : List TestR) (w : World) (h : TestsIn w ao n c l) (h1 : 1 ≤ n) (hn : n ≤ 1000) :
    Calls Try.prog 71 #[.slice ao n c] w fun e w' => e = .returned (.string (fieldS l)) ∧ Below w.heap.size w w' := by
  have hl := h.len
  have hcap := h.sl.2.1
  have hmx := h.sl.2.2.1
  unfold maxLen at hmx
  have hz := bracesS_size h.ok
  rw [hl] at hz
  have HL := Lib.hid hl
  have e0 : ((n : Int) == 0) = false := by simp; omega
  by_cases hn1 : n = 1
  · have HF : Hid (fieldS l = testS (l.getD 0 nilT)) := Lib.hid (by unfold fieldS; rw [if_pos (by rw [HL.out]; exact hn1)])
    rw [HF.out]
    obtain ⟨t, ht⟩ : ∃ t, l[0]? = some t := ⟨_, List.getElem?_eq_getElem (by omega)⟩
    have hg : l.getD 0 nilT = t := by rw [List.getD_eq_getElem?_getD, ht]; rfl
    rw [hg]
    have hok := h.ok t (List.mem_of_getElem? ht)
    have hT := showTest_any t w hok
    obtain ⟨g, o, rfl, hc⟩ := h.sl.row_at testR_len (by omega) ht
    have c0 := hc 0 _ rfl
    have c1 := hc 1 _ rfl
    have c2 := hc 2 _ rfl
    have c3 := hc 3 _ rfl
    have c4 := hc 4 _ rfl
    have c5 := hc 5 _ rfl
    rw [Nat.zero_mul, Nat.add_zero] at c0 c1 c2 c3 c4 c5
    have HT := Lib.hid hT
    unfold TestR.val at HT
    subst hn1
    clear hc hg hl hT ht hz
    go_enter Try.func71, Try.ntmps71
    go_wp2_with (go_at_call 110; refine HT.out.mono ?_; rintro e w2 ⟨rfl, b2⟩)
    go_ret
    exact ⟨rfl, b2⟩
  · have HF : Hid (fieldS l = bracesS l n ++ ⟨#[32, 125]⟩) := Lib.hid (by unfold fieldS; rw [if_neg (by rw [HL.out]; exact hn1), HL.out])
    rw [HF.out]
    have e1 : ((n : Int) == 1) = false := by simp; omega
    clear hl hn1
    have HZ := Lib.hid hz
    clear hz
    go_enter Try.func71, Try.ntmps71
    go_wp2
    go_loopw [3, 18] (fun ts ti wr => ∃ i : Nat, i ≤ n ∧ ts = .string (bracesS l i) ∧ ti = .int .i64 i ∧ TestsIn wr ao n c l ∧ Below w.heap.size w wr) (fun _ ti _ => n - (intOf ti).toNat)
    case atStart => exact ⟨0, by omega, rfl, rfl, h, Below.refl _ _⟩
    case round =>
      obtain ⟨i, hi, rfl, rfl, hin, hb⟩ := hrel
      have hz := HZ.out i hi
      by_cases hlt : i < n
      · obtain ⟨t, ht⟩ : ∃ t, l[i]? = some t := ⟨_, List.getElem?_eq_getElem (by rw [HL.out]; exact hlt)⟩
        have hok := hin.ok t (List.mem_of_getElem? ht)
        have hts := testS_size hok
        have HS : Hid (bracesS l (i + 1) = bracesS l i ++ ⟨#[32]⟩ ++ testS t) := Lib.hid (by
          conv => lhs; unfold bracesS
          rw [List.getD_eq_getElem?_getD, ht]; rfl)
        obtain ⟨g, o, rfl, hc⟩ := hin.sl.row_at testR_len (by omega) ht
        have c0 := hc 0 _ rfl
        have c1 := hc 1 _ rfl
        have c2 := hc 2 _ rfl
        have c3 := hc 3 _ rfl
        have c4 := hc 4 _ rfl
        have c5 := hc 5 _ rfl
        rw [Nat.add_zero] at c0
        have hba : Below wr.heap.size wr (wr.alloc (.cells #[.int .i64 t.rel, .string t.v, .int .i64 t.s.k, .string t.s.t, .int .i64 t.s.n, .slice t.la t.ln t.lc] 138)) := (Below.refl _ wr).alloc (Nat.le_refl _) _
        have hT := showTest_any t _ (hok.kept hba)
        have HBA := Lib.hid hba
        have HT := Lib.hid hT
        unfold TestR.val at HT
        have HX := Lib.hid ht
        have p1 := fun w => run_string_add_sum (P := Try.prog) w (bracesS l i) ⟨#[32]⟩ (by show _ + 1 ≤ _; omega)
        have p2 := fun w => run_string_add_sum (P := Try.prog) w (bracesS l i ++ ⟨#[32]⟩) (testS t) (by rw [cat2_size]; show _ + 1 + _ ≤ _; omega)
        clear hc hT ht hba
        go_wp2_with (go_at_call 110; refine HT.out.mono ?_; rintro e w2 ⟨rfl, b2⟩)
        have bb : Below wr.heap.size wr w2 := HBA.out.trans (b2.mono (by simp))
        go_roundw
        case rel => exact ⟨i + 1, by omega, by rw [HS.out], by go_num, hin.kept bb, hb.trans (bb.mono hb.size)⟩
        case measure => simp [intOf]; omega
      · obtain rfl : i = n := by omega
        have p1 := fun w => run_string_add_sum (P := Try.prog) w (bracesS l i) ⟨#[32, 125]⟩ (by show _ + 2 ≤ _; omega)
        go_wp2
        go_ret
        exact ⟨rfl, hb⟩

set_option maxRecDepth 100000 in
set_option maxHeartbeats 4000000 in
theorem refField_any (ao : Option Addr) (n c : Nat) (l : List TestR) (w : World) (h : TestsIn w ao n c l) (hn : n ≤ 1000) :
    Calls Try.prog 72 #[.slice ao n c] w fun e w' => e = .returned (.string (fieldS l)) ∧ Below w.heap.size w w' := by
  have hl := h.len
  have hcap := h.sl.2.1
  have hmx := h.sl.2.2.1
  unfold maxLen at hmx
  have hz := bracesS_size h.ok
  rw [hl] at hz
  have HL := Lib.hid hl
  by_cases hn1 : n = 1
  · have HF : Hid (fieldS l = testS (l.getD 0 nilT)) := Lib.hid (by unfold fieldS; rw [if_pos (by rw [HL.out]; exact hn1)])
    rw [HF.out]
    obtain ⟨t, ht⟩ : ∃ t, l[0]? = some t := ⟨_, List.getElem?_eq_getElem (by omega)⟩
    have hg : l.getD 0 nilT = t := by rw [List.getD_eq_getElem?_getD, ht]; rfl
    rw [hg]
    have hok := h.ok t (List.mem_of_getElem? ht)
    have hT := refTest_any t w hok
    obtain ⟨g, o, rfl, hc⟩ := h.sl.row_at testR_len (by omega) ht
    have c0 := hc 0 _ rfl
    have c1 := hc 1 _ rfl
    have c2 := hc 2 _ rfl
    have c3 := hc 3 _ rfl
    have c4 := hc 4 _ rfl
    have c5 := hc 5 _ rfl
    rw [Nat.zero_mul, Nat.add_zero] at c0 c1 c2 c3 c4 c5
    have HT := Lib.hid hT
    unfold TestR.val at HT
    subst hn1
    clear hc hg hl hT ht hz
    go_enter Try.func72, Try.ntmps72
    go_wp2_with (go_at_call 111; refine HT.out.mono ?_; rintro e w2 ⟨rfl, b2⟩)
    go_ret
    exact ⟨rfl, b2⟩
  · have HF : Hid (fieldS l = bracesS l n ++ ⟨#[32, 125]⟩) := Lib.hid (by unfold fieldS; rw [if_neg (by rw [HL.out]; exact hn1), HL.out])
    rw [HF.out]
    have e1 : ((n : Int) == 1) = false := by simp; omega
    clear hl hn1
    have HZ := Lib.hid hz
    clear hz
    go_enter Try.func72, Try.ntmps72
    go_wp2
    go_loopw [3, 4] (fun ts ti wr => ∃ i : Nat, i ≤ n ∧ ts = .string (bracesS l i) ∧ ti = .int .i64 i ∧ TestsIn wr ao n c l ∧ Below w.heap.size w wr) (fun _ ti _ => n - (intOf ti).toNat)
    case atStart => exact ⟨0, by omega, rfl, rfl, h, Below.refl _ _⟩
    case round =>
      obtain ⟨i, hi, rfl, rfl, hin, hb⟩ := hrel
      have hz := HZ.out i hi
      by_cases hlt : i < n
      · obtain ⟨t, ht⟩ : ∃ t, l[i]? = some t := ⟨_, List.getElem?_eq_getElem (by rw [HL.out]; exact hlt)⟩
        have hok := hin.ok t (List.mem_of_getElem? ht)
        have hts := testS_size hok
        have HS : Hid (bracesS l (i + 1) = bracesS l i ++ (⟨#[32]⟩ ++ testS t)) := Lib.hid (by
          conv => lhs; unfold bracesS
          rw [List.getD_eq_getElem?_getD, ht, ← cat_assoc]; rfl)
        obtain ⟨g, o, rfl, hc⟩ := hin.sl.row_at testR_len (by omega) ht
        have c0 := hc 0 _ rfl
        have c1 := hc 1 _ rfl
        have c2 := hc 2 _ rfl
        have c3 := hc 3 _ rfl
        have c4 := hc 4 _ rfl
        have c5 := hc 5 _ rfl
        rw [Nat.add_zero] at c0
        have hT := refTest_any t wr hok
        have HT := Lib.hid hT
        unfold TestR.val at HT
        have HX := Lib.hid ht
        have p1 := fun w => run_string_add_sum (P := Try.prog) w (⟨#[32]⟩ : ByteArray) (testS t) (by show 1 + _ ≤ _; omega)
        have p2 := fun w => run_string_add_sum (P := Try.prog) w (bracesS l i) (⟨#[32]⟩ ++ testS t) (by rw [cat2_size]; show _ + (1 + _) ≤ _; omega)
        clear hc hT ht
        go_wp2_with (go_at_call 111; refine HT.out.mono ?_; rintro e w2 ⟨rfl, bb⟩)
        go_roundw
        case rel => exact ⟨i + 1, by omega, by rw [HS.out], by go_num, hin.kept bb, hb.trans (bb.mono hb.size)⟩
        case measure => simp [intOf]; omega
      · obtain rfl : i = n := by omega
        have p1 := fun w => run_string_add_sum (P := Try.prog) w (bracesS l i) ⟨#[32, 125]⟩ (by show _ + 2 ≤ _; omega)
        go_wp2
        go_ret
        exact ⟨rfl, hb⟩
end Go.Proofs.Ytgeaccoobhigcaa
namespace Go.Proofs.Ytgeaccoobhigcaa
open Go Go.RowKit

theorem ret_str {a b : ByteArray} (h : a = b) : Ending.returned (.string a) = .returned (.string b) := by rw [h]
theorem condsN_mem {c : CondR} : ∀ {l : List CondR}, c ∈ l → condN c ≤ condsN l
  | [], h => by simp at h
  | x :: r, h => by
    simp only [condsN]
    rcases List.mem_cons.1 h with rfl | h
    · omega
    · have := condsN_mem h; omega
theorem condsN_take : ∀ (l : List CondR) (i : Nat), condsN (l.take i) ≤ condsN l
  | [], i => by simp
  | x :: r, 0 => by simp [condsN]
  | x :: r, i + 1 => by
    have := condsN_take r i
    simp only [List.take_succ_cons, condsN]
    omega
theorem seven_cells {W : World} {g o : Nat} {a0 a1 a2 a3 a4 a5 a6 : Value} (h : ∀ j u, [a0, a1, a2, a3, a4, a5, a6][j]? = some u → W.cell? ⟨g, o + j, none⟩ = some u) :
    W.cell? ⟨g, o, none⟩ = some a0 ∧ W.cell? ⟨g, o + 1, none⟩ = some a1 ∧ W.cell? ⟨g, o + 2, none⟩ = some a2 ∧ W.cell? ⟨g, o + 3, none⟩ = some a3 ∧ W.cell? ⟨g, o + 4, none⟩ = some a4 ∧ W.cell? ⟨g, o + 5, none⟩ = some a5 ∧ W.cell? ⟨g, o + 6, none⟩ = some a6 :=
  ⟨h 0 _ rfl, h 1 _ rfl, h 2 _ rfl, h 3 _ rfl, h 4 _ rfl, h 5 _ rfl, h 6 _ rfl⟩

theorem showField_zero (ao : Option Addr) (c : Nat) (w : World) : Calls Try.prog 71 #[.slice ao 0 c] w fun e w' => e = .returned (.string ⟨#[]⟩) ∧ Below w.heap.size w w' := by
  go_enter Try.func71, Try.ntmps71
  go_wp2
  go_ret
  exact ⟨rfl, Below.refl _ _⟩
theorem showField_all (ao : Option Addr) (n c : Nat) (l : List TestR) (w : World) (h : TestsIn w ao n c l) (hn : n ≤ 1000) :
    Calls Try.prog 71 #[.slice ao n c] w fun e w' => e = .returned (.string (if l.length = 0 then ⟨#[]⟩ else fieldS l)) ∧ Below w.heap.size w w' := by
  have hl := h.len
  rcases Nat.eq_zero_or_pos n with rfl | h1
  · rw [if_pos hl]; exact showField_zero ao c w
  · rw [if_neg (by omega)]; exact showField_any ao n c l w h h1 hn

set_option maxRecDepth 100000 in
set_option maxHeartbeats 8000000 in
theorem showCond_any {w0 : World} {c : CondR} (h : c.Ok w0) : c.Fit → condN c ≤ 1000 → ∀ w : World, Below w0.heap.size w0 w →
    Calls Try.prog 38 #[c.val] w fun e w' => e = .returned (.string (condS c)) ∧ Below w.heap.size w w' := by
  induction h with
  | @mk kind goal id aa an ac attr va vn vc value acc ca cn cc conds ha hv hs hc ih =>
    intro hf hN w hw
    obtain ⟨hi, h1, h2, h3⟩ := hf
    have hcl : conds.length = cn := by have := hs.1; rw [rows_length condR_len] at this; omega
    have hsz : ∀ x ∈ conds, (condS x).size + 1 ≤ 3000000000 * condN x := fun x hx => condS_size (hc x hx) (h3 x hx)
    simp only [condN] at hN
    unfold CondR.val
    by_cases hk : kind = 3
    · subst hk
      have HS : Hid (condS (.mk 3 goal id aa an ac attr va vn vc value acc ca cn cc conds) = condsS conds true ⟨#[45, 123]⟩ ++ ⟨#[125]⟩) := Lib.hid (by simp only [condS]; rw [if_pos trivial])
      rw [HS.out]
      have hcap := hs.2.1
      have hmx := hs.2.2.1
      unfold maxLen at hmx
      have HCL := Lib.hid hcl
      have hw1 : Below w0.heap.size w0 (w.alloc (.cells #[.int .i64 3, .bool goal, .string id, .slice aa an ac, .slice va vn vc, .bool acc, .slice ca cn cc] 60)) := hw.alloc hw.size _
      have hbw : Below w.heap.size w (w.alloc (.cells #[.int .i64 3, .bool goal, .string id, .slice aa an ac, .slice va vn vc, .bool acc, .slice ca cn cc] 60)) := (Below.refl _ w).alloc (Nat.le_refl _) _
      have HW1 := Lib.hid hw1
      have HBW := Lib.hid hbw
      have HIH := Lib.hid ih
      have HSZ := Lib.hid hsz
      have HH3 := Lib.hid h3
      clear hcl ih hsz h3 hw1 hbw
      go_enter Try.func38, Try.ntmps38
      go_wp2
      go_loopw [3, 13] (fun ts ti wr => ∃ i : Nat, i ≤ cn ∧ ts = .string (condsS (conds.take i) true ⟨#[45, 123]⟩) ∧ ti = .int .i64 i ∧ Below w0.heap.size w0 wr ∧ Below w.heap.size w wr) (fun _ ti _ => cn - (intOf ti).toNat)
      case atStart => exact ⟨0, by omega, rfl, rfl, HW1.out, HBW.out⟩
      case round =>
        obtain ⟨i, hi', rfl, rfl, hb0, hb1⟩ := hrel
        have hz := condsS_size (conds.take i) (fun x hx => HSZ.out x (List.mem_of_mem_take hx)) true ⟨#[45, 123]⟩
        have hzn := condsN_take conds i
        have hz2 : (condsS (conds.take i) true ⟨#[45, 123]⟩).size ≤ 2 + 3000000000 * 1000 := Nat.le_trans hz (Nat.add_le_add (Nat.le_refl 2) (Nat.mul_le_mul_left _ (by omega)))
        clear hz
        by_cases hlt : i < cn
        · obtain ⟨x, hx⟩ : ∃ x, conds[i]? = some x := ⟨_, List.getElem?_eq_getElem (by rw [HCL.out]; exact hlt)⟩
          have hm := List.mem_of_getElem? hx
          have hxn := condsN_mem hm
          have hxz := HSZ.out x hm
          have hxz2 : (condS x).size ≤ 3000000000 * 1000 := by
            have : 3000000000 * condN x ≤ 3000000000 * 1000 := Nat.mul_le_mul_left _ (by omega)
            omega
          have hX := HIH.out x hm (HH3.out x hm) (by omega)
          obtain ⟨g, o, rfl, hcell⟩ := (hs.kept hb0).row_at condR_len (by omega) hx
          have hsn := condsS_snoc x (conds.take i) true ⟨#[45, 123]⟩
          rw [← take_snoc2 hx] at hsn
          have HSN := Lib.hid hsn
          have HXX := Lib.hid hx
          clear hxz hx hxn hzn HSN hm
          obtain ⟨xk, xg, xi, xaa, xan, xac, xat, xva, xvn, xvc, xvl, xacc, xca, xcn, xcc, xcs⟩ := x
          obtain ⟨c0, c1, c2, c3, c4, c5, c6⟩ := seven_cells (hcell)
          unfold CondR.val at hX
          simp only at hX
          have hwa : Below w0.heap.size w0 (wr.alloc (.cells #[.int .i64 xk, .bool xg, .string xi, .slice xaa xan xac, .slice xva xvn xvc, .bool xacc, .slice xca xcn xcc] 60)) := hb0.alloc hb0.size _
          have hba : Below wr.heap.size wr (wr.alloc (.cells #[.int .i64 xk, .bool xg, .string xi, .slice xaa xan xac, .slice xva xvn xvc, .bool xacc, .slice xca xcn xcc] 60)) := (Below.refl _ wr).alloc (Nat.le_refl _) _
          have HWA := Lib.hid hwa
          have HBA := Lib.hid hba
          have HX := Lib.hid hX
          clear hX hwa hba hcell
          generalize condS (.mk xk xg xi xaa xan xac xat xva xvn xvc xvl xacc xca xcn xcc xcs) = X at HX hsn hxz2
          by_cases hc0 : i = 0
          · rw [if_pos ⟨by rw [hc0]; rfl, rfl⟩] at hsn
            have HSN := Lib.hid hsn
            have hi0 : ¬ (0 : Int) < (i : Int) := by omega
            have p1 := fun w => run_string_add_sum (P := Try.prog) w (condsS (conds.take i) true ⟨#[45, 123]⟩) X (by omega)
            clear hsn
            clear hc0
            go_wp2_with (go_at_call 38; refine (HX.out _ HWA.out).mono ?_; rintro e w2 ⟨rfl, b2⟩)
            have bb : Below wr.heap.size wr w2 := HBA.out.trans (b2.mono (by simp))
            go_roundw
            case rel => exact ⟨i + 1, by omega, by rw [HSN.out], by go_num, hb0.trans (bb.mono hb0.size), hb1.trans (bb.mono hb1.size)⟩
            case measure => simp [intOf]; omega
          · rw [if_neg (fun h => hc0 (by have := congrArg List.length h.1; rw [List.length_take, HCL.out] at this; simp at this; omega))] at hsn
            have HSN := Lib.hid hsn
            have hi0 : (0 : Int) < (i : Int) := by omega
            have p1 := fun w => run_string_add_sum (P := Try.prog) w (condsS (conds.take i) true ⟨#[45, 123]⟩) ⟨#[32]⟩ (by show _ + 1 ≤ _; omega)
            have p2 := fun w => run_string_add_sum (P := Try.prog) w (condsS (conds.take i) true ⟨#[45, 123]⟩ ++ ⟨#[32]⟩) X (by rw [cat2_size]; show _ + 1 + _ ≤ _; omega)
            clear hsn
            clear hc0
            go_wp2_with (go_at_call 38; refine (HX.out _ HWA.out).mono ?_; rintro e w2 ⟨rfl, b2⟩)
            have bb : Below wr.heap.size wr w2 := HBA.out.trans (b2.mono (by simp))
            go_roundw
            case rel => exact ⟨i + 1, by omega, by rw [HSN.out], by go_num, hb0.trans (bb.mono hb0.size), hb1.trans (bb.mono hb1.size)⟩
            case measure => simp [intOf]; omega
        · obtain rfl : i = cn := by omega
          have htk : Hid (conds.take i = conds) := Lib.hid (List.take_of_length_le (by rw [HCL.out]; omega))
          have p1 := fun w => run_string_add_sum (P := Try.prog) w (condsS (conds.take i) true ⟨#[45, 123]⟩) ⟨#[125]⟩ (by show _ + 1 ≤ _; omega)
          go_wp2
          go_ret
          exact ⟨by rw [htk.out]; rfl, hb1⟩
    · have hal := ha.len
      have hvl := hv.len
      have hwa : Below w0.heap.size w0 (w.alloc (.cells #[.int .i64 kind, .bool goal, .string id, .slice aa an ac, .slice va vn vc, .bool acc, .slice ca cn cc] 60)) := hw.alloc hw.size _
      have hba : Below w.heap.size w (w.alloc (.cells #[.int .i64 kind, .bool goal, .string id, .slice aa an ac, .slice va vn vc, .bool acc, .slice ca cn cc] 60)) := (Below.refl _ w).alloc (Nat.le_refl _) _
      have hbx : BoxC (w.alloc (.cells #[.int .i64 kind, .bool goal, .string id, .slice aa an ac, .slice va vn vc, .bool acc, .slice ca cn cc] 60)) w.heap.size 60 [.int .i64 kind, .bool goal, .string id, .slice aa an ac, .slice va vn vc, .bool acc, .slice ca cn cc] := BoxC.new w _ 60
      have hA := fun W (hb : Below w0.heap.size w0 W) => showField_all aa an ac attr W (ha.kept hb) h1
      have hV := fun W (hb : Below w0.heap.size w0 W) => showField_all va vn vc value W (hv.kept hb) h2
      have hfa := fieldS_size ha.ok (by rw [ha.len]; exact h1)
      have hfv := fieldS_size hv.ok (by rw [hv.len]; exact h2)
      have hza : (if attr.length = 0 then (⟨#[]⟩ : ByteArray) else fieldS attr).size ≤ 1000011010 := by
        split
        · exact Nat.zero_le _
        · exact hfa
      simp only [condS]
      rw [if_neg hk]
      generalize (if attr.length = 0 then (⟨#[]⟩ : ByteArray) else fieldS attr) = FA at hA hza ⊢
      have hmix : Try.prog.follows .mixedOrders = true := by kernel_rfl
      have e3 : (kind == 3) = false := by simp [hk]
      have HA := Lib.hid hA
      have HV := Lib.hid hV
      have HWD : Hid (Below w0.heap.size w0 (w.alloc (.cells #[.int .i64 kind, .bool goal, .string id, .slice aa an ac, .slice va vn vc, .bool acc, .slice ca cn cc] 60)).drew) := Lib.hid ⟨hwa.os, hwa.tape, hwa.output, hwa.size, hwa.block⟩
      have HWA := Lib.hid hwa
      have HBA := Lib.hid hba
      have HBX := Lib.hid hbx
      have HIH := Lib.hid ih
      clear hA hV hwa hba hbx ih hk hcl
      have l1 : (⟨#[41]⟩ : ByteArray).size = 1 := rfl
      have l2 : (⟨#[32, 43]⟩ : ByteArray).size = 2 := rfl
      have l3 : (⟨#[32]⟩ : ByteArray).size = 1 := rfl
      have l4 : (⟨#[62, 32, 94]⟩ : ByteArray).size = 3 := rfl
      have l5 : (⟨#[60]⟩ : ByteArray).size = 1 := rfl
      have l6 : (⟨#[115, 116, 97, 116, 101, 32]⟩ : ByteArray).size = 6 := rfl
      have l7 : (⟨#[45, 40]⟩ : ByteArray).size = 2 := rfl
      have l8 : (⟨#[40]⟩ : ByteArray).size = 1 := rfl
      by_cases hk2 : kind = 2 <;> rcases goal with _ | _
      focus
        rw [if_pos hk2, if_neg (show ¬ (false = true) by decide)]
        have e2 : (kind == 2) = true := by simp [hk2]
        clear hk2
        go_enter Try.func38, Try.ntmps38
        go_wp2
        generalize hSS : (⟨#[45, 40]⟩ : ByteArray) = S
        have hS : S.size ≤ 8 := by rw [← hSS]; decide +kernel
        have HSS := Lib.hid hSS
        clear hSS
      rotate_left
      focus
        rw [if_pos hk2, if_pos (show true = true from rfl)]
        have e2 : (kind == 2) = true := by simp [hk2]
        clear hk2
        go_enter Try.func38, Try.ntmps38
        go_wp2
        generalize hSS : (⟨#[45, 40]⟩ : ByteArray) ++ ⟨#[115, 116, 97, 116, 101, 32]⟩ = S
        have hS : S.size ≤ 8 := by rw [← hSS]; decide +kernel
        have HSS := Lib.hid hSS
        clear hSS
      rotate_left
      focus
        rw [if_neg hk2, if_neg (show ¬ (false = true) by decide)]
        have e2 : (kind == 2) = false := by simp [hk2]
        clear hk2
        go_enter Try.func38, Try.ntmps38
        go_wp2
        generalize hSS : (⟨#[40]⟩ : ByteArray) = S
        have hS : S.size ≤ 8 := by rw [← hSS]; decide +kernel
        have HSS := Lib.hid hSS
        clear hSS
      rotate_left
      focus
        rw [if_neg hk2, if_pos (show true = true from rfl)]
        have e2 : (kind == 2) = false := by simp [hk2]
        clear hk2
        go_enter Try.func38, Try.ntmps38
        go_wp2
        generalize hSS : (⟨#[40]⟩ : ByteArray) ++ ⟨#[115, 116, 97, 116, 101, 32]⟩ = S
        have hS : S.size ≤ 8 := by rw [← hSS]; decide +kernel
        have HSS := Lib.hid hSS
        clear hSS
      rotate_left
      all_goals
        have p1 := fun w => run_string_add_sum (P := Try.prog) w S ⟨#[60]⟩ (by show _ + 1 ≤ _; omega)
        have p2 := fun w => run_string_add_sum (P := Try.prog) w (S ++ ⟨#[60]⟩) id (by rw [cat2_size]; show _ + 1 + _ ≤ _; omega)
        have p3 := fun w => run_string_add_sum (P := Try.prog) w (S ++ ⟨#[60]⟩ ++ id) ⟨#[62, 32, 94]⟩ (by simp only [cat2_size]; show _ + 1 + _ + 3 ≤ _; omega)
        have p4 := fun w => run_string_add_sum (P := Try.prog) w (S ++ ⟨#[60]⟩ ++ id ++ ⟨#[62, 32, 94]⟩) FA (by simp only [cat2_size]; show _ + 1 + _ + 3 + _ ≤ _; omega)
        go_region_held3 (fun w' => w'.cell? ⟨w.heap.size, 2, none⟩ = some (.string id) ∧ w'.cell? ⟨w.heap.size, 3, none⟩ = some (.slice aa an ac)) (first | exact ⟨HBX.out.at_ rfl, HBX.out.at_ rfl⟩ | (have B2 := HBX.out.below (undrew b2); exact ⟨B2.at_ rfl, B2.at_ rfl⟩)) (first | (go_at_call 71; refine (HA.out _ HWD.out).mono ?_; rintro e w2 ⟨rfl, b2⟩))
        have B2 := HBX.out.below (undrew b2)
        have x4 := B2.at_ (j := 4) rfl
        have x5 := B2.at_ (j := 5) rfl
        have HB2 := Lib.hid B2
        have HW2 : Hid (Below w0.heap.size w0 w2) := Lib.hid (HWA.out.trans ((undrew b2).mono (by simpa using HWA.out.size)))
        have HC2 : Hid (Below w.heap.size w w2) := Lib.hid (HBA.out.trans ((undrew b2).mono (by simp)))
        have hT : (S ++ ⟨#[60]⟩ ++ id ++ ⟨#[62, 32, 94]⟩ ++ FA).size ≤ 2000000000 := by simp only [cat2_size]; show _ + 1 + _ + 3 + _ ≤ _; omega
        clear p1 p2 p3 p4 B2 b2
        generalize hTT : (S ++ ⟨#[60]⟩ ++ id ++ ⟨#[62, 32, 94]⟩ ++ FA) = T at hT ⊢
        have HTT := Lib.hid hTT
        clear hTT
        by_cases hv0 : vn = 0
        · have hvc : ¬ (0 : Int) < (vn : Int) := by omega
          have HV0 : Hid (¬ 0 < value.length) := Lib.hid (by omega)
          clear hv0
          rcases acc with _ | _
          · have q1 := fun w => run_string_add_sum (P := Try.prog) w T ⟨#[41]⟩ (by show _ + 1 ≤ _; omega)
            go_wp2
            go_ret
            exact ⟨ret_str (by rw [← HTT.out, ← HSS.out]), HC2.out⟩
          · have q1 := fun w => run_string_add_sum (P := Try.prog) w T ⟨#[32, 43]⟩ (by show _ + 2 ≤ _; omega)
            have q2 := fun w => run_string_add_sum (P := Try.prog) w (T ++ ⟨#[32, 43]⟩) ⟨#[41]⟩ (by rw [cat2_size]; show _ + 2 + 1 ≤ _; omega)
            go_wp2
            go_ret
            exact ⟨ret_str (by rw [← HTT.out, ← HSS.out]), HC2.out⟩
        · have hvc : (0 : Int) < (vn : Int) := by omega
          have HV0 : Hid (0 < value.length) := Lib.hid (by omega)
          clear hv0
          have HV2 : Hid (Calls Try.prog 71 #[.slice va vn vc] w2 fun e w' => e = .returned (.string (fieldS value)) ∧ Below w2.heap.size w2 w') := Lib.hid (by have := HV.out w2 HW2.out; rwa [if_neg (by omega)] at this)
          generalize hFV : fieldS value = FV at HV2 hfv ⊢
          have HFV := Lib.hid hFV
          clear hFV
          have q1 := fun w => run_string_add_sum (P := Try.prog) w T ⟨#[32]⟩ (by show _ + 1 ≤ _; omega)
          have q2 := fun w => run_string_add_sum (P := Try.prog) w (T ++ ⟨#[32]⟩) FV (by rw [cat2_size]; show _ + 1 + _ ≤ _; omega)
          have hT2 : (T ++ ⟨#[32]⟩ ++ FV).size ≤ 4000000000 := by simp only [cat2_size]; show _ + 1 + _ ≤ _; omega
          rcases acc with _ | _
          · have q3 := fun w => run_string_add_sum (P := Try.prog) w (T ++ ⟨#[32]⟩ ++ FV) ⟨#[41]⟩ (by show _ + 1 ≤ _; omega)
            go_wp2_with (go_at_call 71; refine HV2.out.mono ?_; rintro e w3 ⟨rfl, b3⟩; have x53 := (HB2.out.below b3).at_ (j := 5) rfl)
            go_ret
            exact ⟨ret_str (by rw [← HTT.out, ← HSS.out, ← HFV.out]), HC2.out.trans (b3.mono HC2.out.size)⟩
          · have q3 := fun w => run_string_add_sum (P := Try.prog) w (T ++ ⟨#[32]⟩ ++ FV) ⟨#[32, 43]⟩ (by show _ + 2 ≤ _; omega)
            have q4 := fun w => run_string_add_sum (P := Try.prog) w (T ++ ⟨#[32]⟩ ++ FV ++ ⟨#[32, 43]⟩) ⟨#[41]⟩ (by rw [cat2_size]; show _ + 2 + 1 ≤ _; omega)
            go_wp2_with (go_at_call 71; refine HV2.out.mono ?_; rintro e w3 ⟨rfl, b3⟩; have x53 := (HB2.out.below b3).at_ (j := 5) rfl)
            go_ret
            exact ⟨ret_str (by rw [← HTT.out, ← HSS.out, ← HFV.out]), HC2.out.trans (b3.mono HC2.out.size)⟩
end Go.Proofs.Ytgeaccoobhigcaa
namespace Go.Proofs.Ytgeaccoobhigcaa
open Go Go.RowKit

/-- Each condition that is no All has tests of its attribute. -/
inductive CondR.Has : CondR → Prop
  | mk {kind : Int} {goal : Bool} {id : ByteArray} {aa : Option Addr} {an ac : Nat} {attr : List TestR} {va : Option Addr} {vn vc : Nat} {value : List TestR} {acc : Bool} {ca : Option Addr} {cn cc : Nat} {conds : List CondR}
      (ha : kind ≠ 3 → attr.length ≠ 0) (hc : ∀ c ∈ conds, CondR.Has c) :
      CondR.Has (.mk kind goal id aa an ac attr va vn vc value acc ca cn cc conds)

set_option maxRecDepth 100000 in
set_option maxHeartbeats 8000000 in
theorem refCond_any {w0 : World} {c : CondR} (h : c.Ok w0) : c.Fit → c.Has → condN c ≤ 1000 → ∀ w : World, Below w0.heap.size w0 w →
    Calls Try.prog 39 #[c.val] w fun e w' => e = .returned (.string (condS c)) ∧ Below w.heap.size w w' := by
  induction h with
  | @mk kind goal id aa an ac attr va vn vc value acc ca cn cc conds ha hv hs hc ih =>
    intro hf hhas hN w hw
    obtain ⟨hi, h1, h2, h3⟩ := hf
    obtain ⟨g1, g3⟩ := hhas
    have hcl : conds.length = cn := by have := hs.1; rw [rows_length condR_len] at this; omega
    have hsz : ∀ x ∈ conds, (condS x).size + 1 ≤ 3000000000 * condN x := fun x hx => condS_size (hc x hx) (h3 x hx)
    simp only [condN] at hN
    unfold CondR.val
    by_cases hk : kind = 3
    · subst hk
      have HS : Hid (condS (.mk 3 goal id aa an ac attr va vn vc value acc ca cn cc conds) = condsS conds true ⟨#[45, 123]⟩ ++ ⟨#[125]⟩) := Lib.hid (by simp only [condS]; rw [if_pos trivial])
      rw [HS.out]
      have hcap := hs.2.1
      have hmx := hs.2.2.1
      unfold maxLen at hmx
      have HCL := Lib.hid hcl
      have hw1 : Below w0.heap.size w0 (w.alloc (.cells #[.int .i64 3, .bool goal, .string id, .slice aa an ac, .slice va vn vc, .bool acc, .slice ca cn cc] 60)) := hw.alloc hw.size _
      have hbw : Below w.heap.size w (w.alloc (.cells #[.int .i64 3, .bool goal, .string id, .slice aa an ac, .slice va vn vc, .bool acc, .slice ca cn cc] 60)) := (Below.refl _ w).alloc (Nat.le_refl _) _
      have HW1 := Lib.hid hw1
      have HBW := Lib.hid hbw
      have HIH := Lib.hid ih
      have HSZ := Lib.hid hsz
      have HH3 := Lib.hid h3
      have HG3 := Lib.hid g3
      have hbx : BoxC (w.alloc (.cells #[.int .i64 3, .bool goal, .string id, .slice aa an ac, .slice va vn vc, .bool acc, .slice ca cn cc] 60)) w.heap.size 60 [.int .i64 3, .bool goal, .string id, .slice aa an ac, .slice va vn vc, .bool acc, .slice ca cn cc] := BoxC.new w _ 60
      have HBX := Lib.hid hbx
      clear hcl ih hsz h3 hw1 hbw g1 g3 hbx
      go_enter Try.func39, Try.ntmps39
      go_wp2
      go_loopw [3, 4] (fun ts ti wr => ∃ i : Nat, i ≤ cn ∧ ts = .string (condsS (conds.take i) true ⟨#[45, 123]⟩) ∧ ti = .int .i64 i ∧ Below w0.heap.size w0 wr ∧ Below w.heap.size w wr ∧ BoxC wr w.heap.size 60 [.int .i64 3, .bool goal, .string id, .slice aa an ac, .slice va vn vc, .bool acc, .slice ca cn cc]) (fun _ ti _ => cn - (intOf ti).toNat)
      case atStart => exact ⟨0, by omega, rfl, rfl, HW1.out, HBW.out, HBX.out⟩
      case round =>
        obtain ⟨i, hi', rfl, rfl, hb0, hb1, hbr⟩ := hrel
        have x6 := hbr.at_ (j := 6) rfl
        have HBR := Lib.hid hbr
        clear hbr
        have hz := condsS_size (conds.take i) (fun x hx => HSZ.out x (List.mem_of_mem_take hx)) true ⟨#[45, 123]⟩
        have hzn := condsN_take conds i
        have hz2 : (condsS (conds.take i) true ⟨#[45, 123]⟩).size ≤ 2 + 3000000000 * 1000 := Nat.le_trans hz (Nat.add_le_add (Nat.le_refl 2) (Nat.mul_le_mul_left _ (by omega)))
        clear hz
        by_cases hlt : i < cn
        · obtain ⟨x, hx⟩ : ∃ x, conds[i]? = some x := ⟨_, List.getElem?_eq_getElem (by rw [HCL.out]; exact hlt)⟩
          have hm := List.mem_of_getElem? hx
          have hxn := condsN_mem hm
          have hxz := HSZ.out x hm
          have hxz2 : (condS x).size ≤ 3000000000 * 1000 := by
            have : 3000000000 * condN x ≤ 3000000000 * 1000 := Nat.mul_le_mul_left _ (by omega)
            omega
          have hX := HIH.out x hm (HH3.out x hm) (HG3.out x hm) (by omega)
          obtain ⟨g, o, rfl, hcell⟩ := (hs.kept hb0).row_at condR_len (by omega) hx
          have hsn := condsS_snoc x (conds.take i) true ⟨#[45, 123]⟩
          rw [← take_snoc2 hx] at hsn
          have HSN := Lib.hid hsn
          have HXX := Lib.hid hx
          clear hxz hx hxn hzn HSN hm
          obtain ⟨xk, xg, xi, xaa, xan, xac, xat, xva, xvn, xvc, xvl, xacc, xca, xcn, xcc, xcs⟩ := x
          obtain ⟨c0, c1, c2, c3, c4, c5, c6⟩ := seven_cells (hcell)
          unfold CondR.val at hX
          simp only at hX
          have HB0 := Lib.hid hb0
          have HX := Lib.hid hX
          clear hX hcell
          generalize condS (.mk xk xg xi xaa xan xac xat xva xvn xvc xvl xacc xca xcn xcc xcs) = X at HX hsn hxz2
          by_cases hc0 : i = 0
          · rw [if_pos ⟨by rw [hc0]; rfl, rfl⟩] at hsn
            have HSN := Lib.hid hsn
            have hi0 : ¬ (0 : Int) < (i : Int) := by omega
            have p1 := fun w => run_string_add_sum (P := Try.prog) w (condsS (conds.take i) true ⟨#[45, 123]⟩) X (by omega)
            clear hsn
            clear hc0
            go_wp2_with (go_at_call 39; refine (HX.out _ HB0.out).mono ?_; rintro e w2 ⟨rfl, bb⟩)
            go_roundw
            case rel => exact ⟨i + 1, by omega, by rw [HSN.out], by go_num, hb0.trans (bb.mono hb0.size), hb1.trans (bb.mono hb1.size), HBR.out.below bb⟩
            case measure => simp [intOf]; omega
          · rw [if_neg (fun h => hc0 (by have := congrArg List.length h.1; rw [List.length_take, HCL.out] at this; simp at this; omega))] at hsn
            have HSN := Lib.hid hsn
            have hi0 : (0 : Int) < (i : Int) := by omega
            have p1 := fun w => run_string_add_sum (P := Try.prog) w (condsS (conds.take i) true ⟨#[45, 123]⟩) ⟨#[32]⟩ (by show _ + 1 ≤ _; omega)
            have p2 := fun w => run_string_add_sum (P := Try.prog) w (condsS (conds.take i) true ⟨#[45, 123]⟩ ++ ⟨#[32]⟩) X (by rw [cat2_size]; show _ + 1 + _ ≤ _; omega)
            clear hsn
            clear hc0
            go_wp2_with (go_at_call 39; refine (HX.out _ HB0.out).mono ?_; rintro e w2 ⟨rfl, bb⟩)
            go_roundw
            case rel => exact ⟨i + 1, by omega, by rw [HSN.out], by go_num, hb0.trans (bb.mono hb0.size), hb1.trans (bb.mono hb1.size), HBR.out.below bb⟩
            case measure => simp [intOf]; omega
        · obtain rfl : i = cn := by omega
          have htk : Hid (conds.take i = conds) := Lib.hid (List.take_of_length_le (by rw [HCL.out]; omega))
          have p1 := fun w => run_string_add_sum (P := Try.prog) w (condsS (conds.take i) true ⟨#[45, 123]⟩) ⟨#[125]⟩ (by show _ + 1 ≤ _; omega)
          go_wp2
          go_ret
          exact ⟨by rw [htk.out]; rfl, hb1⟩
    · have hal := ha.len
      have hvl := hv.len
      have hwa : Below w0.heap.size w0 (w.alloc (.cells #[.int .i64 kind, .bool goal, .string id, .slice aa an ac, .slice va vn vc, .bool acc, .slice ca cn cc] 60)) := hw.alloc hw.size _
      have hba : Below w.heap.size w (w.alloc (.cells #[.int .i64 kind, .bool goal, .string id, .slice aa an ac, .slice va vn vc, .bool acc, .slice ca cn cc] 60)) := (Below.refl _ w).alloc (Nat.le_refl _) _
      have hbx : BoxC (w.alloc (.cells #[.int .i64 kind, .bool goal, .string id, .slice aa an ac, .slice va vn vc, .bool acc, .slice ca cn cc] 60)) w.heap.size 60 [.int .i64 kind, .bool goal, .string id, .slice aa an ac, .slice va vn vc, .bool acc, .slice ca cn cc] := BoxC.new w _ 60
      have hA := fun W (hb : Below w0.heap.size w0 W) => refField_any aa an ac attr W (ha.kept hb) h1
      have hV := fun W (hb : Below w0.heap.size w0 W) => refField_any va vn vc value W (hv.kept hb) h2
      have hfa := fieldS_size ha.ok (by rw [ha.len]; exact h1)
      have hfv := fieldS_size hv.ok (by rw [hv.len]; exact h2)
      have g0 := g1 hk
      simp only [condS]
      rw [if_neg hk, if_neg g0]
      clear g0 g1
      generalize fieldS attr = FA at hA hfa ⊢
      have hmix : Try.prog.follows .mixedOrders = true := by kernel_rfl
      have e3 : (kind == 3) = false := by simp [hk]
      have HA := Lib.hid hA
      have HV := Lib.hid hV
      have HWD : Hid (Below w0.heap.size w0 (w.alloc (.cells #[.int .i64 kind, .bool goal, .string id, .slice aa an ac, .slice va vn vc, .bool acc, .slice ca cn cc] 60)).drew) := Lib.hid ⟨hwa.os, hwa.tape, hwa.output, hwa.size, hwa.block⟩
      have HWA := Lib.hid hwa
      have HBA := Lib.hid hba
      have HBX := Lib.hid hbx
      have HIH := Lib.hid ih
      clear hA hV hwa hba hbx ih hk hcl g3
      have l1 : (⟨#[41]⟩ : ByteArray).size = 1 := rfl
      have l2 : (⟨#[32, 43]⟩ : ByteArray).size = 2 := rfl
      have l3 : (⟨#[32]⟩ : ByteArray).size = 1 := rfl
      have l4 : (⟨#[62, 32, 94]⟩ : ByteArray).size = 3 := rfl
      have l5 : (⟨#[60]⟩ : ByteArray).size = 1 := rfl
      have l6 : (⟨#[115, 116, 97, 116, 101, 32]⟩ : ByteArray).size = 6 := rfl
      have l7 : (⟨#[45, 40]⟩ : ByteArray).size = 2 := rfl
      have l8 : (⟨#[40]⟩ : ByteArray).size = 1 := rfl
      by_cases hk2 : kind = 2 <;> rcases goal with _ | _
      focus
        rw [if_pos hk2, if_neg (show ¬ (false = true) by decide)]
        have e2 : (kind == 2) = true := by simp [hk2]
        clear hk2
        go_enter Try.func39, Try.ntmps39
        go_wp2
        generalize hSS : (⟨#[45, 40]⟩ : ByteArray) = S
        have hS : S.size ≤ 8 := by rw [← hSS]; decide +kernel
        have HSS := Lib.hid hSS
        clear hSS
      rotate_left
      focus
        rw [if_pos hk2, if_pos (show true = true from rfl)]
        have e2 : (kind == 2) = true := by simp [hk2]
        clear hk2
        go_enter Try.func39, Try.ntmps39
        go_wp2
        generalize hSS : (⟨#[45, 40]⟩ : ByteArray) ++ ⟨#[115, 116, 97, 116, 101, 32]⟩ = S
        have hS : S.size ≤ 8 := by rw [← hSS]; decide +kernel
        have HSS := Lib.hid hSS
        clear hSS
      rotate_left
      focus
        rw [if_neg hk2, if_neg (show ¬ (false = true) by decide)]
        have e2 : (kind == 2) = false := by simp [hk2]
        clear hk2
        go_enter Try.func39, Try.ntmps39
        go_wp2
        generalize hSS : (⟨#[40]⟩ : ByteArray) = S
        have hS : S.size ≤ 8 := by rw [← hSS]; decide +kernel
        have HSS := Lib.hid hSS
        clear hSS
      rotate_left
      focus
        rw [if_neg hk2, if_pos (show true = true from rfl)]
        have e2 : (kind == 2) = false := by simp [hk2]
        clear hk2
        go_enter Try.func39, Try.ntmps39
        go_wp2
        generalize hSS : (⟨#[40]⟩ : ByteArray) ++ ⟨#[115, 116, 97, 116, 101, 32]⟩ = S
        have hS : S.size ≤ 8 := by rw [← hSS]; decide +kernel
        have HSS := Lib.hid hSS
        clear hSS
      rotate_left
      all_goals
        have p1 := fun w => run_string_add_sum (P := Try.prog) w (⟨#[60]⟩ : ByteArray) id (by show 1 + _ ≤ _; omega)
        have p2 := fun w => run_string_add_sum (P := Try.prog) w ((⟨#[60]⟩ : ByteArray) ++ id) ⟨#[62, 32, 94]⟩ (by simp only [cat2_size]; show 1 + _ + 3 ≤ _; omega)
        have p3 := fun w => run_string_add_sum (P := Try.prog) w ((⟨#[60]⟩ : ByteArray) ++ id ++ ⟨#[62, 32, 94]⟩) FA (by simp only [cat2_size]; show 1 + _ + 3 + _ ≤ _; omega)
        have p4 := fun w => run_string_add_sum (P := Try.prog) w S ((⟨#[60]⟩ : ByteArray) ++ id ++ ⟨#[62, 32, 94]⟩ ++ FA) (by simp only [cat2_size]; show _ + (1 + _ + 3 + _) ≤ _; omega)
        go_region_held3 (fun w' => w'.cell? ⟨w.heap.size, 2, none⟩ = some (.string id) ∧ w'.cell? ⟨w.heap.size, 3, none⟩ = some (.slice aa an ac)) (first | exact ⟨HBX.out.at_ rfl, HBX.out.at_ rfl⟩ | (have B2 := HBX.out.below (undrew b2); exact ⟨B2.at_ rfl, B2.at_ rfl⟩)) (first | (go_at_call 72; refine (HA.out _ HWD.out).mono ?_; rintro e w2 ⟨rfl, b2⟩))
        have B2 := HBX.out.below (undrew b2)
        have x4 := B2.at_ (j := 4) rfl
        have x5 := B2.at_ (j := 5) rfl
        have HB2 := Lib.hid B2
        have HW2 : Hid (Below w0.heap.size w0 w2) := Lib.hid (HWA.out.trans ((undrew b2).mono (by simpa using HWA.out.size)))
        have HC2 : Hid (Below w.heap.size w w2) := Lib.hid (HBA.out.trans ((undrew b2).mono (by simp)))
        have hT : (S ++ (⟨#[60]⟩ ++ id ++ ⟨#[62, 32, 94]⟩ ++ FA)).size ≤ 2000000000 := by simp only [cat2_size]; show _ + (1 + _ + 3 + _) ≤ _; omega
        clear p1 p2 p3 p4 B2 b2
        generalize hTT : (S ++ (⟨#[60]⟩ ++ id ++ ⟨#[62, 32, 94]⟩ ++ FA)) = T at hT ⊢
        have HTT := Lib.hid hTT
        clear hTT
        by_cases hv0 : vn = 0
        · have hvc : ¬ (0 : Int) < (vn : Int) := by omega
          have HV0 : Hid (¬ 0 < value.length) := Lib.hid (by omega)
          clear hv0
          rcases acc with _ | _
          · have q1 := fun w => run_string_add_sum (P := Try.prog) w T ⟨#[41]⟩ (by show _ + 1 ≤ _; omega)
            go_wp2
            go_ret
            exact ⟨ret_str (by rw [← HTT.out, ← HSS.out]; simp only [cat_assoc]), HC2.out⟩
          · have q1 := fun w => run_string_add_sum (P := Try.prog) w T ⟨#[32, 43]⟩ (by show _ + 2 ≤ _; omega)
            have q2 := fun w => run_string_add_sum (P := Try.prog) w (T ++ ⟨#[32, 43]⟩) ⟨#[41]⟩ (by rw [cat2_size]; show _ + 2 + 1 ≤ _; omega)
            go_wp2
            go_ret
            exact ⟨ret_str (by rw [← HTT.out, ← HSS.out]; simp only [cat_assoc]), HC2.out⟩
        · have hvc : (0 : Int) < (vn : Int) := by omega
          have HV0 : Hid (0 < value.length) := Lib.hid (by omega)
          clear hv0
          have HV2 : Hid (Calls Try.prog 72 #[.slice va vn vc] w2 fun e w' => e = .returned (.string (fieldS value)) ∧ Below w2.heap.size w2 w') := Lib.hid (HV.out w2 HW2.out)
          generalize hFV : fieldS value = FV at HV2 hfv ⊢
          have HFV := Lib.hid hFV
          clear hFV
          have q1 := fun w => run_string_add_sum (P := Try.prog) w (⟨#[32]⟩ : ByteArray) FV (by show 1 + _ ≤ _; omega)
          have q2 := fun w => run_string_add_sum (P := Try.prog) w T (⟨#[32]⟩ ++ FV) (by rw [cat2_size]; show _ + (1 + _) ≤ _; omega)
          have hT2 : (T ++ (⟨#[32]⟩ ++ FV)).size ≤ 4000000000 := by simp only [cat2_size]; show _ + (1 + _) ≤ _; omega
          rcases acc with _ | _
          · have q3 := fun w => run_string_add_sum (P := Try.prog) w (T ++ (⟨#[32]⟩ ++ FV)) ⟨#[41]⟩ (by show _ + 1 ≤ _; omega)
            go_wp2_with (go_at_call 72; refine HV2.out.mono ?_; rintro e w3 ⟨rfl, b3⟩; have x53 := (HB2.out.below b3).at_ (j := 5) rfl)
            go_ret
            exact ⟨ret_str (by rw [← HTT.out, ← HSS.out, ← HFV.out]; simp only [cat_assoc]), HC2.out.trans (b3.mono HC2.out.size)⟩
          · have q3 := fun w => run_string_add_sum (P := Try.prog) w (T ++ (⟨#[32]⟩ ++ FV)) ⟨#[32, 43]⟩ (by show _ + 2 ≤ _; omega)
            have q4 := fun w => run_string_add_sum (P := Try.prog) w (T ++ (⟨#[32]⟩ ++ FV) ++ ⟨#[32, 43]⟩) ⟨#[41]⟩ (by rw [cat2_size]; show _ + 2 + 1 ≤ _; omega)
            go_wp2_with (go_at_call 72; refine HV2.out.mono ?_; rintro e w3 ⟨rfl, b3⟩; have x53 := (HB2.out.below b3).at_ (j := 5) rfl)
            go_ret
            exact ⟨ret_str (by rw [← HTT.out, ← HSS.out, ← HFV.out]; simp only [cat_assoc]), HC2.out.trans (b3.mono HC2.out.size)⟩
end Go.Proofs.Ytgeaccoobhigcaa
namespace Go.Proofs.Ytgeaccoobhigcaa
open Go Go.RowKit

theorem bcell {W w1 : World} (hb : Below W.heap.size W w1) : (∀ b o, b < W.heap.size → w1.cell? ⟨b, o, none⟩ = W.cell? ⟨b, o, none⟩) ∧ (∀ b o, b < W.heap.size → w1.frozen? ⟨b, o, none⟩ = W.frozen? ⟨b, o, none⟩) ∧ W.heap.size ≤ w1.heap.size :=
  ⟨fun b o h => hb.cell (p := ⟨b, o, none⟩) h, fun b o h => hb.frozen (p := ⟨b, o, none⟩) h, hb.size⟩
theorem bkeep {W w1 : World} (hb : Below W.heap.size W w1) {n : Nat} (hn : n < W.heap.size) : (∀ o, w1.cell? ⟨n, o, none⟩ = W.cell? ⟨n, o, none⟩) ∧ n < w1.heap.size :=
  ⟨fun o => hb.cell (p := ⟨n, o, none⟩) hn, Nat.lt_of_lt_of_le hn hb.size⟩
theorem below_trans {a b c : World} (h : Below a.heap.size a b) (k : Below b.heap.size b c) : Below a.heap.size a c := h.trans (k.mono h.size)
theorem below_new (w : World) (o : Obj) : Below w.heap.size w (w.alloc o) := (Below.refl _ w).alloc (Nat.le_refl _) _
theorem toList_nil {t : ByteArray} : t.toList = [] ↔ t.size = 0 := by
  rw [ByteArray.toList_eq]
  constructor
  · intro h; rw [← size_toList, h]; rfl
  · intro h; exact List.eq_nil_of_length_eq_zero (by rw [size_toList]; exact h)

def noneB (s : Sm) : Bool := decide (s.k = 0) && decide (s.t.size = 0) && decide (s.n = 0)
def constB (s : Sm) : Bool := decide (s.k ≠ 1) && validB s
def atomB (a : Am) : Bool := if a.v.size = 0 then constB a.s else wordB a.v.data.toList && noneB a.s
def emptyB (a : Am) : Bool := decide (a.v.size = 0) && noneB a.s
def strB (a : Am) : Bool := decide (a.v.size = 0) && decide (a.s.k = 3)
def termB (t : Tm) : Bool := decide (0 ≤ t.op ∧ t.op ≤ 3) && atomB t.a && (if t.op = 0 then emptyB t.b else atomB t.b && !strB t.a && !strB t.b)
def actB (a : Ac) : Bool := wordB a.id.data.toList && atomB a.attr && termB a.value && decide (1 ≤ a.pref ∧ a.pref ≤ 10) && (if 8 ≤ a.pref then atomB a.other else emptyB a.other)

theorem none_any (s : Sm) (w : World) : Calls Try.prog 147 #[s.val] w fun e w' => e = .returned (.bool (noneB s)) ∧ Below w.heap.size w w' := by
  obtain ⟨k, t, n⟩ := s
  unfold Sm.val
  simp only
  go_enter Try.func147, Try.ntmps147
  go_wp2
  all_goals
    go_ret
    refine ⟨ret_bool ?_, below_new _ _⟩
    simp_all [noneB, toList_nil]

theorem constant_any (s : Sm) (hs : s.t.size ≤ 9223372036854775807) (w : World) : Calls Try.prog 148 #[s.val] w fun e w' => e = .returned (.bool (constB s)) ∧ Below w.heap.size w w' := by
  have hv := fun w => valid_any s hs w
  obtain ⟨k, t, n⟩ := s
  unfold constB
  generalize validB ⟨k, t, n⟩ = V at hv ⊢
  unfold Sm.val at hv ⊢
  simp only at hv ⊢
  have HV := Lib.hid hv
  have acc := below_new w (.cells #[.int .i64 k, .string t, .int .i64 n] 63)
  clear hv
  by_cases h1 : k = 1
  · have e1 : (k != 1) = false := by simp [h1]
    have HR : Hid ((decide (k ≠ 1) && V) = false) := Lib.hid (by simp [h1])
    rw [HR.out]
    clear h1
    go_enter Try.func148, Try.ntmps148
    go_wp2
    go_ret
    exact ⟨rfl, acc⟩
  · have e1 : (k != 1) = true := by simp [h1]
    have HR : Hid ((decide (k ≠ 1) && V) = V) := Lib.hid (by simp [h1])
    rw [HR.out]
    clear h1
    go_enter Try.func148, Try.ntmps148
    go_wp2_with (go_at_call 112; refine (HV.out _).mono ?_; rintro e w2 ⟨rfl, b2⟩; have acc := below_trans acc b2; obtain ⟨hc, hf, hz⟩ := bcell b2)
    go_ret
    exact ⟨rfl, acc⟩

theorem const_any (s : Sm) (hs : s.t.size ≤ 9223372036854775807) (w : World) : Calls Try.prog 137 #[s.val] w fun e w' => e = .returned (.bool (constB s)) ∧ Below w.heap.size w w' := by
  have hv := fun w => rvalid_any s hs w
  obtain ⟨k, t, n⟩ := s
  unfold constB
  generalize validB ⟨k, t, n⟩ = V at hv ⊢
  unfold Sm.val at hv ⊢
  simp only at hv ⊢
  have HV := Lib.hid hv
  have acc := below_new w (.cells #[.int .i64 k, .string t, .int .i64 n] 63)
  clear hv
  rcases V with _ | _
  · have HR : Hid ((decide (k ≠ 1) && false) = false) := Lib.hid (by simp)
    rw [HR.out]
    go_enter Try.func137, Try.ntmps137
    go_wp2_with (go_at_call 114; refine (HV.out _).mono ?_; rintro e w2 ⟨rfl, b2⟩; have acc := below_trans acc b2; obtain ⟨hc, hf, hz⟩ := bcell b2)
    go_ret
    exact ⟨rfl, acc⟩
  · have HR : Hid ((decide (k ≠ 1) && true) = decide (k ≠ 1)) := Lib.hid (by simp)
    rw [HR.out]
    by_cases h1 : k = 1
    · have e1 : (k != 1) = false := by simp [h1]
      have HR : Hid (decide (k ≠ 1) = false) := Lib.hid (by simp [h1])
      rw [HR.out]
      clear h1
      go_enter Try.func137, Try.ntmps137
      go_wp2_with (go_at_call 114; refine (HV.out _).mono ?_; rintro e w2 ⟨rfl, b2⟩; have acc := below_trans acc b2; obtain ⟨hc, hf, hz⟩ := bcell b2)
      go_ret
      exact ⟨rfl, acc⟩
    · have e1 : (k != 1) = true := by simp [h1]
      have HR : Hid (decide (k ≠ 1) = true) := Lib.hid (by simp [h1])
      rw [HR.out]
      clear h1
      go_enter Try.func137, Try.ntmps137
      go_wp2_with (go_at_call 114; refine (HV.out _).mono ?_; rintro e w2 ⟨rfl, b2⟩; have acc := below_trans acc b2; obtain ⟨hc, hf, hz⟩ := bcell b2)
      go_ret
      exact ⟨rfl, acc⟩
end Go.Proofs.Ytgeaccoobhigcaa
namespace Go.Proofs.Ytgeaccoobhigcaa
open Go Go.RowKit

theorem empty_any (a : Am) (w : World) : Calls Try.prog 134 #[a.val] w fun e w' => e = .returned (.bool (emptyB a)) ∧ Below w.heap.size w w' := by
  have hv := fun w => none_any a.s w
  obtain ⟨v, k, t, n⟩ := a
  unfold emptyB
  simp only at hv ⊢
  generalize noneB ⟨k, t, n⟩ = V at hv ⊢
  unfold Sm.val at hv
  unfold Am.val
  simp only at hv ⊢
  have HV := Lib.hid hv
  have acc := below_new w (.cells #[.string v, .int .i64 k, .string t, .int .i64 n] 65)
  clear hv
  by_cases h1 : v.size = 0
  · have e1 := str_nil h1
    have HR : Hid ((decide (v.size = 0) && V) = V) := Lib.hid (by simp [h1])
    rw [HR.out]
    clear h1
    go_enter Try.func134, Try.ntmps134
    go_wp2_with (go_at_call 147; refine (HV.out _).mono ?_; rintro e w2 ⟨rfl, b2⟩; have acc := below_trans acc b2; obtain ⟨hc, hf, hz⟩ := bcell b2)
    go_ret
    exact ⟨rfl, acc⟩
  · have e1 := str_cons h1
    have HR : Hid ((decide (v.size = 0) && V) = false) := Lib.hid (by simp [h1])
    rw [HR.out]
    clear h1
    go_enter Try.func134, Try.ntmps134
    go_wp2
    go_ret
    exact ⟨rfl, acc⟩

theorem shWord_any (a : Am) (w : World) : Calls Try.prog 149 #[a.val] w fun e w' => e = .returned (.bool (strB a)) ∧ Below w.heap.size w w' := by
  obtain ⟨v, k, t, n⟩ := a
  unfold strB Am.val
  simp only
  have acc := below_new w (.cells #[.string v, .int .i64 k, .string t, .int .i64 n] 65)
  by_cases h1 : v.size = 0
  · have e1 := str_nil h1
    by_cases hk : k = 3
    · have e2 : (k == 3) = true := by simp [hk]
      have HR : Hid ((decide (v.size = 0) && decide (k = 3)) = true) := Lib.hid (by simp [h1, hk])
      rw [HR.out]
      clear h1 hk
      go_enter Try.func149, Try.ntmps149
      go_wp2
      go_ret
      exact ⟨rfl, acc⟩
    · have e2 : (k == 3) = false := by simp [hk]
      have HR : Hid ((decide (v.size = 0) && decide (k = 3)) = false) := Lib.hid (by simp [h1, hk])
      rw [HR.out]
      clear h1 hk
      go_enter Try.func149, Try.ntmps149
      go_wp2
      go_ret
      exact ⟨rfl, acc⟩
  · have e1 := str_cons h1
    have HR : Hid ((decide (v.size = 0) && decide (k = 3)) = false) := Lib.hid (by simp [h1])
    rw [HR.out]
    clear h1
    go_enter Try.func149, Try.ntmps149
    go_wp2
    go_ret
    exact ⟨rfl, acc⟩

set_option maxHeartbeats 1000000 in
theorem shAtom_any (a : Am) (hv : a.v.size ≤ 9223372036854775807) (hs : a.s.t.size ≤ 9223372036854775807) (w : World) : Calls Try.prog 131 #[a.val] w fun e w' => e = .returned (.bool (atomB a)) ∧ Below w.heap.size w w' := by
  have hN := fun w => none_any a.s w
  have hC := fun w => constant_any a.s hs w
  have hW := fun w => word_any a.v hv w
  obtain ⟨v, k, t, n⟩ := a
  unfold atomB
  simp only at hN hC hW hv hs ⊢
  generalize noneB ⟨k, t, n⟩ = N at hN ⊢
  generalize constB ⟨k, t, n⟩ = C at hC ⊢
  generalize wordB v.data.toList = W at hW ⊢
  unfold Sm.val at hN hC
  unfold Am.val
  simp only at hN hC ⊢
  have HN := Lib.hid hN
  have HC := Lib.hid hC
  have HW := Lib.hid hW
  have acc := below_new w (.cells #[.string v, .int .i64 k, .string t, .int .i64 n] 65)
  clear hN hC hW
  by_cases h1 : v.size = 0
  · have e1 := str_nil h1
    rw [if_pos h1]
    clear h1
    go_enter Try.func131, Try.ntmps131
    go_wp2_with (go_at_call 148; refine (HC.out _).mono ?_; rintro e w2 ⟨rfl, b2⟩; have acc := below_trans acc b2; obtain ⟨hc, hf, hz⟩ := bcell b2)
    go_ret
    exact ⟨rfl, acc⟩
  · have e1 := str_cons h1
    rw [if_neg h1]
    clear h1
    rcases W with _ | _
    · rw [Bool.false_and]
      go_enter Try.func131, Try.ntmps131
      go_wp2_with (go_at_call 100; refine (HW.out _).mono ?_; rintro e w2 ⟨rfl, rfl⟩)
      go_ret
      exact ⟨rfl, acc⟩
    · rw [Bool.true_and]
      go_enter Try.func131, Try.ntmps131
      go_wp2_with (first | (go_at_call 100; refine (HW.out _).mono ?_; rintro e w2 ⟨rfl, rfl⟩) | (go_at_call 147; refine (HN.out _).mono ?_; rintro e w2 ⟨rfl, b2⟩; have acc := below_trans acc b2; obtain ⟨hc, hf, hz⟩ := bcell b2))
      go_ret
      exact ⟨rfl, acc⟩

set_option maxHeartbeats 1000000 in
theorem rAtom_any (a : Am) (hv : a.v.size ≤ 9223372036854775807) (hs : a.s.t.size ≤ 9223372036854775807) (w : World) : Calls Try.prog 109 #[a.val] w fun e w' => e = .returned (.bool (atomB a)) ∧ Below w.heap.size w w' := by
  have hC := fun w => const_any a.s hs w
  have hW := fun w => rword_any a.v hv w
  obtain ⟨v, k, t, n⟩ := a
  unfold atomB
  simp only at hC hW hv hs ⊢
  generalize constB ⟨k, t, n⟩ = C at hC ⊢
  generalize wordB v.data.toList = W at hW ⊢
  unfold Sm.val at hC
  unfold Am.val
  simp only at hC ⊢
  have HC := Lib.hid hC
  have HW := Lib.hid hW
  have acc := below_new w (.cells #[.string v, .int .i64 k, .string t, .int .i64 n] 65)
  clear hC hW
  by_cases h1 : v.size = 0
  · have e1 := str_nil h1
    rw [if_pos h1]
    clear h1
    go_enter Try.func109, Try.ntmps109
    go_wp2_with (go_at_call 137; refine (HC.out _).mono ?_; rintro e w2 ⟨rfl, b2⟩; have acc := below_trans acc b2; obtain ⟨hc, hf, hz⟩ := bcell b2)
    go_ret
    exact ⟨rfl, acc⟩
  · have e1 := str_cons h1
    rw [if_neg h1]
    clear h1
    rcases W with _ | _
    · rw [Bool.false_and]
      go_enter Try.func109, Try.ntmps109
      go_wp2_with (go_at_call 67; refine (HW.out _).mono ?_; rintro e w2 ⟨rfl, rfl⟩)
      go_ret
      exact ⟨rfl, acc⟩
    · rw [Bool.true_and]
      go_enter Try.func109, Try.ntmps109
      go_wp2_with (go_at_call 67; refine (HW.out _).mono ?_; rintro e w2 ⟨rfl, rfl⟩)
      all_goals
        go_ret
        refine ⟨ret_bool ?_, below_new _ _⟩
        simp_all [noneB, toList_nil]
end Go.Proofs.Ytgeaccoobhigcaa
namespace Go.Proofs.Ytgeaccoobhigcaa
open Go Go.RowKit

/-- Strings of an atom, as they may come in. -/
structure Am.Big (a : Am) : Prop where
  v : a.v.size ≤ 9223372036854775807
  s : a.s.t.size ≤ 9223372036854775807

set_option maxRecDepth 100000 in
set_option maxHeartbeats 4000000 in
theorem shTerm_any (t : Tm) (ha : t.a.Big) (hb : t.b.Big) (w : World) : Calls Try.prog 132 #[t.val] w fun e w' => e = .returned (.bool (termB t)) ∧ Below w.heap.size w w' := by
  have hA := fun w => shAtom_any t.a ha.v ha.s w
  have hB := fun w => shAtom_any t.b hb.v hb.s w
  have hSA := fun w => shWord_any t.a w
  have hSB := fun w => shWord_any t.b w
  have hE := fun w => empty_any t.b w
  obtain ⟨op, ⟨av, ak, at_, an⟩, ⟨bv, bk, bt, bn⟩⟩ := t
  unfold termB Tm.val
  simp only at hA hB hSA hSB hE ⊢
  clear ha hb
  generalize atomB ⟨av, ak, at_, an⟩ = A at hA ⊢
  generalize atomB ⟨bv, bk, bt, bn⟩ = B at hB ⊢
  generalize strB ⟨av, ak, at_, an⟩ = SA at hSA ⊢
  generalize strB ⟨bv, bk, bt, bn⟩ = SB at hSB ⊢
  generalize emptyB ⟨bv, bk, bt, bn⟩ = E at hE ⊢
  unfold Am.val at hA hB hSA hSB hE
  simp only at hA hB hSA hSB hE
  have HA := Lib.hid hA
  have HB := Lib.hid hB
  have HSA := Lib.hid hSA
  have HSB := Lib.hid hSB
  have HE := Lib.hid hE
  have acc := below_new w (.cells #[.int .i64 op, .string av, .int .i64 ak, .string at_, .int .i64 an, .string bv, .int .i64 bk, .string bt, .int .i64 bn] 67)
  have hlt : w.heap.size < (w.alloc (.cells #[.int .i64 op, .string av, .int .i64 ak, .string at_, .int .i64 an, .string bv, .int .i64 bk, .string bt, .int .i64 bn] 67)).heap.size := by simp
  clear hA hB hSA hSB hE
  rcases (show op < 0 ∨ (¬ op < 0 ∧ 3 < op) ∨ (¬ op < 0 ∧ ¬ 3 < op) by omega) with h1 | ⟨h1, h2⟩ | ⟨h1, h2⟩
  · have HR : Hid ((decide (0 ≤ op ∧ op ≤ 3) && A && (if op = 0 then E else B && !SA && !SB)) = false) := Lib.hid (by rw [decide_eq_false (by omega)]; rfl)
    rw [HR.out]
    go_enter Try.func132, Try.ntmps132
    go_wp2
    go_ret
    exact ⟨rfl, acc⟩
  · have HR : Hid ((decide (0 ≤ op ∧ op ≤ 3) && A && (if op = 0 then E else B && !SA && !SB)) = false) := Lib.hid (by rw [decide_eq_false (by omega)]; rfl)
    rw [HR.out]
    go_enter Try.func132, Try.ntmps132
    go_wp2
    go_ret
    exact ⟨rfl, acc⟩
  · rcases A with _ | _
    · have HR : Hid ((decide (0 ≤ op ∧ op ≤ 3) && false && (if op = 0 then E else B && !SA && !SB)) = false) := Lib.hid (by simp)
      rw [HR.out]
      go_enter Try.func132, Try.ntmps132
      go_wp2_with (go_at_call 131; refine (HA.out _).mono ?_; rintro e w2 ⟨rfl, b2⟩; have acc := below_trans acc b2; obtain ⟨hc, hlt⟩ := bkeep b2 hlt)
      go_ret
      exact ⟨rfl, acc⟩
    · have HR : Hid ((decide (0 ≤ op ∧ op ≤ 3) && true && (if op = 0 then E else B && !SA && !SB)) = if op = 0 then E else B && !SA && !SB) := Lib.hid (by rw [decide_eq_true (by omega)]; simp)
      rw [HR.out]
      by_cases h0 : op = 0
      · rw [if_pos h0]
        have e0 : (op == 0) = true := by simp [h0]
        clear h0
        go_enter Try.func132, Try.ntmps132
        go_wp2_with (first | (go_at_call 131; refine (HA.out _).mono ?_; rintro e w2 ⟨rfl, b2⟩; have acc := below_trans acc b2; obtain ⟨hc, hlt⟩ := bkeep b2 hlt) | (go_at_call 134; refine (HE.out _).mono ?_; rintro e w3 ⟨rfl, b3⟩; have acc := below_trans acc b3))
        go_ret
        exact ⟨rfl, acc⟩
      · rw [if_neg h0]
        have e0 : (op == 0) = false := by simp [h0]
        clear h0
        have tok : True := trivial
        rcases B with _ | _
        · rw [Bool.false_and, Bool.false_and]
          go_enter Try.func132, Try.ntmps132
          go_wp2_with (first | (go_at_call 131; have _t := tok; refine (HA.out _).mono ?_; rintro e w2 ⟨rfl, b2⟩; have acc := below_trans acc b2; obtain ⟨hc, hlt⟩ := bkeep b2 hlt; clear tok) | (go_at_call 131; refine (HB.out _).mono ?_; rintro e w3 ⟨rfl, b3⟩; have acc := below_trans acc b3; obtain ⟨hc2, hlt⟩ := bkeep b3 hlt))
          go_ret
          exact ⟨rfl, acc⟩
        · rw [Bool.true_and]
          rcases SA with _ | _
          · rw [show (!false) = true from rfl, Bool.true_and]
            go_enter Try.func132, Try.ntmps132
            go_wp2_with (first | (go_at_call 131; have _t := tok; refine (HA.out _).mono ?_; rintro e w2 ⟨rfl, b2⟩; have acc := below_trans acc b2; obtain ⟨hc, hlt⟩ := bkeep b2 hlt; clear tok) | (go_at_call 131; refine (HB.out _).mono ?_; rintro e w3 ⟨rfl, b3⟩; have acc := below_trans acc b3; obtain ⟨hc2, hlt⟩ := bkeep b3 hlt) | (go_at_call 149; (with_reducible refine (HSA.out _).mono ?_); rintro e w4 ⟨rfl, b4⟩; have acc := below_trans acc b4; obtain ⟨hc3, hlt⟩ := bkeep b4 hlt) | (go_at_call 149; (with_reducible refine (HSB.out _).mono ?_); rintro e w5 ⟨rfl, b5⟩; have acc := below_trans acc b5))
            go_ret
            exact ⟨rfl, acc⟩
          · rw [show (!true) = false from rfl, Bool.false_and]
            go_enter Try.func132, Try.ntmps132
            go_wp2_with (first | (go_at_call 131; have _t := tok; refine (HA.out _).mono ?_; rintro e w2 ⟨rfl, b2⟩; have acc := below_trans acc b2; obtain ⟨hc, hlt⟩ := bkeep b2 hlt; clear tok) | (go_at_call 131; refine (HB.out _).mono ?_; rintro e w3 ⟨rfl, b3⟩; have acc := below_trans acc b3; obtain ⟨hc2, hlt⟩ := bkeep b3 hlt) | (go_at_call 149; (with_reducible refine (HSA.out _).mono ?_); rintro e w4 ⟨rfl, b4⟩; have acc := below_trans acc b4; obtain ⟨hc3, hlt⟩ := bkeep b4 hlt))
            go_ret
            exact ⟨rfl, acc⟩
end Go.Proofs.Ytgeaccoobhigcaa
namespace Go.Proofs.Ytgeaccoobhigcaa
open Go Go.RowKit

/-- Strings of an action, as they may come in. -/
structure Ac.Big (a : Ac) : Prop where
  id : a.id.size ≤ 9223372036854775807
  attr : a.attr.Big
  va : a.value.a.Big
  vb : a.value.b.Big
  other : a.other.Big

theorem other_any (k : Int) (w : World) : Calls Try.prog 133 #[.int .i64 k] w fun e w' => e = .returned (.bool (decide (8 ≤ k ∧ k ≤ 10))) ∧ w = w' := by
  by_cases h : 8 ≤ k ∧ k ≤ 10
  · have HR : Hid (decide (8 ≤ k ∧ k ≤ 10) = true) := Lib.hid (decide_eq_true h)
    rw [HR.out]
    rcases (show (k == 8) = true ∨ ((k == 8) = false ∧ (k == 9) = true) ∨ ((k == 8) = false ∧ (k == 9) = false ∧ (k == 10) = true) by simp; omega) with e8 | ⟨e8, e9⟩ | ⟨e8, e9, e10⟩
    all_goals
      clear h
      go_enter Try.func133, Try.ntmps133
      go_wp2
      go_ret
      exact ⟨rfl, rfl⟩
  · have HR : Hid (decide (8 ≤ k ∧ k ≤ 10) = false) := Lib.hid (decide_eq_false h)
    rw [HR.out]
    have e8 : (k == 8) = false := by simp; omega
    have e9 : (k == 9) = false := by simp; omega
    have e10 : (k == 10) = false := by simp; omega
    clear h
    go_enter Try.func133, Try.ntmps133
    go_wp2
    go_ret
    exact ⟨rfl, rfl⟩

set_option maxRecDepth 100000 in
set_option maxHeartbeats 4000000 in
theorem shAct_any (a : Ac) (h : a.Big) (w : World) : Calls Try.prog 105 #[a.val] w fun e w' => e = .returned (.bool (actB a)) ∧ Below w.heap.size w w' := by
  have hW := fun w => word_any a.id h.id w
  have hA := fun w => shAtom_any a.attr h.attr.v h.attr.s w
  have hT := fun w => shTerm_any a.value h.va h.vb w
  have hO := fun w => shAtom_any a.other h.other.v h.other.s w
  have hE := fun w => empty_any a.other w
  have hP := fun w => other_any a.pref w
  obtain ⟨id, ⟨cv, ck, ct, cn⟩, ⟨op, ⟨av, ak, at_, an⟩, ⟨bv, bk, bt, bn⟩⟩, pref, ⟨ov, ok, ot, on_⟩⟩ := a
  unfold actB Ac.val
  simp only at hW hA hT hO hE hP ⊢
  clear h
  generalize wordB id.data.toList = W at hW ⊢
  generalize atomB ⟨cv, ck, ct, cn⟩ = A at hA ⊢
  generalize termB ⟨op, ⟨av, ak, at_, an⟩, ⟨bv, bk, bt, bn⟩⟩ = T at hT ⊢
  generalize atomB ⟨ov, ok, ot, on_⟩ = O at hO ⊢
  generalize emptyB ⟨ov, ok, ot, on_⟩ = E at hE ⊢
  unfold Am.val at hA hO hE
  unfold Tm.val at hT
  simp only at hA hO hE hT
  have HW := Lib.hid hW
  have HA := Lib.hid hA
  have HT := Lib.hid hT
  have HO := Lib.hid hO
  have HE := Lib.hid hE
  have HP := Lib.hid hP
  have acc := below_new w (.cells #[.string id, .string cv, .int .i64 ck, .string ct, .int .i64 cn, .int .i64 op, .string av, .int .i64 ak, .string at_, .int .i64 an, .string bv, .int .i64 bk, .string bt, .int .i64 bn, .int .i64 pref, .string ov, .int .i64 ok, .string ot, .int .i64 on_] 69)
  have hlt : w.heap.size < (w.alloc (.cells #[.string id, .string cv, .int .i64 ck, .string ct, .int .i64 cn, .int .i64 op, .string av, .int .i64 ak, .string at_, .int .i64 an, .string bv, .int .i64 bk, .string bt, .int .i64 bn, .int .i64 pref, .string ov, .int .i64 ok, .string ot, .int .i64 on_] 69)).heap.size := by simp
  clear hW hA hT hO hE hP
  rcases W with _ | _
  · have HR : Hid ((false && A && T && decide (1 ≤ pref ∧ pref ≤ 10) && (if 8 ≤ pref then O else E)) = false) := Lib.hid (by simp)
    rw [HR.out]
    have tok : True := trivial
    go_enter Try.func105, Try.ntmps105
    go_wp2_with (first | (go_at_call 100; refine (HW.out _).mono ?_; rintro e w2 ⟨rfl, rfl⟩))
    go_ret
    exact ⟨rfl, acc⟩
  rcases A with _ | _
  · have HR : Hid ((true && false && T && decide (1 ≤ pref ∧ pref ≤ 10) && (if 8 ≤ pref then O else E)) = false) := Lib.hid (by simp)
    rw [HR.out]
    have tok : True := trivial
    go_enter Try.func105, Try.ntmps105
    go_wp2_with (first | (go_at_call 100; refine (HW.out _).mono ?_; rintro e w2 ⟨rfl, rfl⟩) | (go_at_call 131; have _t := tok; refine (HA.out _).mono ?_; rintro e w3 ⟨rfl, b3⟩; have acc := below_trans acc b3; obtain ⟨hc3, hlt⟩ := bkeep b3 hlt; clear tok))
    go_ret
    exact ⟨rfl, acc⟩
  rcases T with _ | _
  · have HR : Hid ((true && true && false && decide (1 ≤ pref ∧ pref ≤ 10) && (if 8 ≤ pref then O else E)) = false) := Lib.hid (by simp)
    rw [HR.out]
    have tok : True := trivial
    go_enter Try.func105, Try.ntmps105
    go_wp2_with (first | (go_at_call 100; refine (HW.out _).mono ?_; rintro e w2 ⟨rfl, rfl⟩) | (go_at_call 131; have _t := tok; refine (HA.out _).mono ?_; rintro e w3 ⟨rfl, b3⟩; have acc := below_trans acc b3; obtain ⟨hc3, hlt⟩ := bkeep b3 hlt; clear tok) | (go_at_call 132; refine (HT.out _).mono ?_; rintro e w4 ⟨rfl, b4⟩; have acc := below_trans acc b4; obtain ⟨hc4, hlt⟩ := bkeep b4 hlt))
    go_ret
    exact ⟨rfl, acc⟩
  rcases (show pref < 1 ∨ (¬ pref < 1 ∧ 10 < pref) ∨ (¬ pref < 1 ∧ ¬ 10 < pref) by omega) with h1 | ⟨h1, h2⟩ | ⟨h1, h2⟩
  · have HR : Hid ((true && true && true && decide (1 ≤ pref ∧ pref ≤ 10) && (if 8 ≤ pref then O else E)) = false) := Lib.hid (by rw [decide_eq_false (by omega)]; simp)
    rw [HR.out]
    have tok : True := trivial
    go_enter Try.func105, Try.ntmps105
    go_wp2_with (first | (go_at_call 100; refine (HW.out _).mono ?_; rintro e w2 ⟨rfl, rfl⟩) | (go_at_call 131; have _t := tok; refine (HA.out _).mono ?_; rintro e w3 ⟨rfl, b3⟩; have acc := below_trans acc b3; obtain ⟨hc3, hlt⟩ := bkeep b3 hlt; clear tok) | (go_at_call 132; refine (HT.out _).mono ?_; rintro e w4 ⟨rfl, b4⟩; have acc := below_trans acc b4; obtain ⟨hc4, hlt⟩ := bkeep b4 hlt))
    go_ret
    exact ⟨rfl, acc⟩
  · have HR : Hid ((true && true && true && decide (1 ≤ pref ∧ pref ≤ 10) && (if 8 ≤ pref then O else E)) = false) := Lib.hid (by rw [decide_eq_false (by omega)]; simp)
    rw [HR.out]
    have tok : True := trivial
    go_enter Try.func105, Try.ntmps105
    go_wp2_with (first | (go_at_call 100; refine (HW.out _).mono ?_; rintro e w2 ⟨rfl, rfl⟩) | (go_at_call 131; have _t := tok; refine (HA.out _).mono ?_; rintro e w3 ⟨rfl, b3⟩; have acc := below_trans acc b3; obtain ⟨hc3, hlt⟩ := bkeep b3 hlt; clear tok) | (go_at_call 132; refine (HT.out _).mono ?_; rintro e w4 ⟨rfl, b4⟩; have acc := below_trans acc b4; obtain ⟨hc4, hlt⟩ := bkeep b4 hlt))
    go_ret
    exact ⟨rfl, acc⟩
  · by_cases h8 : 8 ≤ pref
    · have HR : Hid ((true && true && true && decide (1 ≤ pref ∧ pref ≤ 10) && (if 8 ≤ pref then O else E)) = O) := Lib.hid (by rw [decide_eq_true (by omega), if_pos h8]; simp)
      rw [HR.out]
      have HD : Hid (decide (8 ≤ pref ∧ pref ≤ 10) = true) := Lib.hid (decide_eq_true (by omega))
      rw [HD.out] at HP
      have tok : True := trivial
      go_enter Try.func105, Try.ntmps105
      go_wp2_with (first | (go_at_call 100; refine (HW.out _).mono ?_; rintro e w2 ⟨rfl, rfl⟩) | (go_at_call 131; have _t := tok; refine (HA.out _).mono ?_; rintro e w3 ⟨rfl, b3⟩; have acc := below_trans acc b3; obtain ⟨hc3, hlt⟩ := bkeep b3 hlt; clear tok) | (go_at_call 132; refine (HT.out _).mono ?_; rintro e w4 ⟨rfl, b4⟩; have acc := below_trans acc b4; obtain ⟨hc4, hlt⟩ := bkeep b4 hlt) | (go_at_call 133; refine (HP.out _).mono ?_; rintro e w5 ⟨rfl, rfl⟩) | (go_at_call 131; refine (HO.out _).mono ?_; rintro e w6 ⟨rfl, b6⟩; have acc := below_trans acc b6))
      go_ret
      exact ⟨rfl, acc⟩
    · have HR : Hid ((true && true && true && decide (1 ≤ pref ∧ pref ≤ 10) && (if 8 ≤ pref then O else E)) = E) := Lib.hid (by rw [decide_eq_true (by omega), if_neg h8]; simp)
      rw [HR.out]
      have HD : Hid (decide (8 ≤ pref ∧ pref ≤ 10) = false) := Lib.hid (decide_eq_false (by omega))
      rw [HD.out] at HP
      have tok : True := trivial
      go_enter Try.func105, Try.ntmps105
      go_wp2_with (first | (go_at_call 100; refine (HW.out _).mono ?_; rintro e w2 ⟨rfl, rfl⟩) | (go_at_call 131; have _t := tok; refine (HA.out _).mono ?_; rintro e w3 ⟨rfl, b3⟩; have acc := below_trans acc b3; obtain ⟨hc3, hlt⟩ := bkeep b3 hlt; clear tok) | (go_at_call 132; refine (HT.out _).mono ?_; rintro e w4 ⟨rfl, b4⟩; have acc := below_trans acc b4; obtain ⟨hc4, hlt⟩ := bkeep b4 hlt) | (go_at_call 133; refine (HP.out _).mono ?_; rintro e w5 ⟨rfl, rfl⟩) | (go_at_call 134; refine (HE.out _).mono ?_; rintro e w7 ⟨rfl, b7⟩; have acc := below_trans acc b7))
      go_ret
      exact ⟨rfl, acc⟩
end Go.Proofs.Ytgeaccoobhigcaa
namespace Go.Proofs.Ytgeaccoobhigcaa
open Go Go.RowKit

section
variable {P : Program}
theorem run_loadVar_at (w : World) (ad : Addr) (ty : TypeId) (cs : List Value) (d : TypeDesc) (hc : ∀ j u, cs[j]? = some u → w.cell? (ad.add j) = some u)
    (hu : P.underlying ty = some d) (hd : (match d with | .struct _ | .array _ _ => true | _ => false) = true) (hi : (P.info? ty).map (·.size) = some cs.length) :
    (loadVar ty ad).run P w = .ok (.agg cs.toArray) w := by
  have hl := run_loadCells_list (P := P) (w := w) ad cs hc
  cases hq : P.info? ty with
  | none => simp [hq] at hi
  | some i =>
    have hs : i.size = cs.length := by simpa [hq] using hi
    have hagg : (isAgg ty).run P w = .ok true w := by
      unfold isAgg
      rw [Sem.run_bind, run_underlying hu w]
      cases d <;> simp_all
    simp [loadVar, Sem.run_bind, hagg, sizeOf, typeInfo, hq, hs, hl]
theorem wpList_load_at {ops : Array Oper} {rest : List Oper} {o : Oper} {a : Act} {w : World} {Q : Exit → Act → World → Prop} (hgd : o.guard = none) (ty : TypeId) (x : Operand) (ho : o.op = .load ty x)
    (ad : Addr) (hx : a.eval x = .pointer (some ad)) (cs : List Value) (d : TypeDesc) (hc : ∀ j u, cs[j]? = some u → w.cell? (ad.add j) = some u)
    (hu : P.underlying ty = some d) (hd : (match d with | .struct _ | .array _ _ => true | _ => false) = true) (hi : (P.info? ty).map (·.size) = some cs.length)
    (h : wpList P ops Q rest (a.put o.dst (.agg cs.toArray)) w) : wpList P ops Q (o :: rest) a w :=
  wpList_plain hgd fun K hK => by
    unfold Oper.wp execOp
    simp only [ho, hx, Instr.loadAt, Instr.sureAddr, Sem.run_bind, Sem.run_pure, Result.andThen_ok, run_loadVar_at w ad ty cs d hc hu hd hi]
    exact hK _ _ h
theorem setRow_alloc (w : World) (old cells : Array Value) (t : TypeId) : (w.alloc (.cells old t)).setRow w.heap.size cells = w.alloc (.cells cells t) := by
  unfold World.setRow World.alloc
  simp only [World.mk.injEq, and_true]
  apply Array.ext
  · simp
  · intro k h1 h2
    simp only [Array.getElem_modify, Array.getElem_push]
    simp at h2
    split
    · rename_i hk; subst hk; simp
    · rename_i hk
      have : k < w.heap.size := by simp at h1; omega
      rw [dif_pos this, dif_pos this]
theorem wpList_store_new {ops : Array Oper} {rest : List Oper} {o : Oper} {a : Act} {w : World} {Q : Exit → Act → World → Prop} (hgd : o.guard = none) (ty : TypeId) (x y : Operand) (ho : o.op = .store ty x y)
    (cells : Array Value) (t : TypeId) (old : Array Value) (hx : a.eval x = .pointer (some ⟨w.heap.size, 0, none⟩)) (hy : a.eval y = .agg cells)
    (hi : (P.info? ty).map (·.size) = some cells.size) (hold : old.size = cells.size) (h1 : cells.all (·.oneCell') = true)
    (h : wpList P ops Q rest (a.put o.dst undef) (w.alloc (.cells cells t))) : wpList P ops Q (o :: rest) a (w.alloc (.cells old t)) :=
  wpList_store_row hgd ty x y ho w.heap.size cells hx hy t old (heap_alloc_new _ _) hi hold h1 (by rw [setRow_alloc]; exact h)
end
theorem new_cells (w : World) (cs : List Value) (t : TypeId) : ∀ j u, cs[j]? = some u → (w.alloc (.cells cs.toArray t)).cell? ((⟨w.heap.size, 0, none⟩ : Addr).add j) = some u := by
  intro j u h
  rw [addr_add_lit, cell_of_row _ _ _ _ _ _ (heap_alloc_new w _)]
  simpa using h
/-- A type of so many cells, loaded and stored as one. -/
def AggT (ty : TypeId) (n : Nat) : Prop := (Try.prog.info? ty).map (·.size) = some n ∧ ∃ fs, Try.prog.underlying ty = some (.struct fs)
theorem us69 : ∃ fs, Try.prog.underlying 69 = some (.struct fs) := ⟨Try.prog.fieldsOf 69, by kernel_rfl⟩
theorem agg69 : AggT 69 19 := ⟨by kernel_rfl, us69⟩
theorem us60 : ∃ fs, Try.prog.underlying 60 = some (.struct fs) := ⟨Try.prog.fieldsOf 60, by kernel_rfl⟩
theorem agg60 : AggT 60 7 := ⟨by kernel_rfl, us60⟩
theorem us138 : ∃ fs, Try.prog.underlying 138 = some (.struct fs) := ⟨Try.prog.fieldsOf 138, by kernel_rfl⟩
theorem agg138 : AggT 138 6 := ⟨by kernel_rfl, us138⟩
theorem us63 : ∃ fs, Try.prog.underlying 63 = some (.struct fs) := ⟨Try.prog.fieldsOf 63, by kernel_rfl⟩
theorem agg63 : AggT 63 3 := ⟨by kernel_rfl, us63⟩
theorem us48 : ∃ fs, Try.prog.underlying 48 = some (.struct fs) := ⟨Try.prog.fieldsOf 48, by kernel_rfl⟩
theorem agg48 : AggT 48 3 := ⟨by kernel_rfl, us48⟩
theorem us74 : ∃ fs, Try.prog.underlying 74 = some (.struct fs) := ⟨Try.prog.fieldsOf 74, by kernel_rfl⟩
theorem agg74 : AggT 74 12 := ⟨by kernel_rfl, us74⟩
theorem us30 : ∃ fs, Try.prog.underlying 30 = some (.struct fs) := ⟨Try.prog.fieldsOf 30, by kernel_rfl⟩
theorem agg30 : AggT 30 3 := ⟨by kernel_rfl, us30⟩
theorem wpList_load_agg {ops : Array Oper} {rest : List Oper} {o : Oper} {a : Act} {w : World} {Q : Exit → Act → World → Prop} {ty n : Nat} (hT : AggT ty n) (hgd : o.guard = none) (x : Operand) (ho : o.op = .load ty x)
    (ad : Addr) (hx : a.eval x = .pointer (some ad)) (cs : List Value) (hc : ∀ j u, cs[j]? = some u → w.cell? (ad.add j) = some u) (hn : cs.length = n)
    (h : wpList Try.prog ops Q rest (a.put o.dst (.agg cs.toArray)) w) : wpList Try.prog ops Q (o :: rest) a w := by
  obtain ⟨hi, fs, hu⟩ := hT
  exact wpList_load_at hgd ty x ho ad hx cs _ hc hu rfl (by rw [hi, hn]) h
theorem wpList_store_agg {ops : Array Oper} {rest : List Oper} {o : Oper} {a : Act} {w : World} {Q : Exit → Act → World → Prop} {ty n : Nat} (hT : AggT ty n) (hgd : o.guard = none) (x y : Operand) (ho : o.op = .store ty x y)
    (cells : Array Value) (t : TypeId) (old : Array Value) (hx : a.eval x = .pointer (some ⟨w.heap.size, 0, none⟩)) (hy : a.eval y = .agg cells)
    (hn : cells.size = n) (hold : old.size = n) (h1 : cells.all (·.oneCell') = true)
    (h : wpList Try.prog ops Q rest (a.put o.dst undef) (w.alloc (.cells cells t))) : wpList Try.prog ops Q (o :: rest) a (w.alloc (.cells old t)) :=
  wpList_store_new hgd ty x y ho cells t old hx hy (by rw [hT.1, hn]) (by rw [hold, hn]) h1 h
end Go.Proofs.Ytgeaccoobhigcaa
