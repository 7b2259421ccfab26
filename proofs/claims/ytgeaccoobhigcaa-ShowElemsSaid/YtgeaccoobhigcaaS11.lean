/-
  The texts of tests: the document's.
-/
import Derived.Test.YtgeaccoobhigcaaS10
namespace Go.Proofs.Ytgeaccoobhigcaa
open Go Go.RowKit

theorem nil_cat (a : ByteArray) : (⟨#[]⟩ : ByteArray) ++ a = a := by
  apply str_ext
  simp only [ByteArray.data_append, Array.toList_append]
  rfl
/-- The sign with a blank behind it, or none. -/
def relB (k : Int) : Array UInt8 := if relL k = #[] then #[] else relL k ++ #[32]
theorem relB_cat (k : Int) (A : ByteArray) : (⟨relB k⟩ : ByteArray) ++ A = if relL k = #[] then A else ⟨relL k⟩ ++ ⟨#[32]⟩ ++ A := by
  unfold relB
  split
  · exact nil_cat A
  · congr 1
    apply str_ext
    simp only [ByteArray.data_append, Array.toList_append]
theorem six_cells {W : World} {b : Nat} {t : TypeId} {a0 a1 a2 a3 a4 a5 : Value} (h : BoxC W b t [a0, a1, a2, a3, a4, a5]) : W.cell? ⟨b, 0, none⟩ = some a0 ∧ W.cell? ⟨b, 1, none⟩ = some a1 ∧ W.cell? ⟨b, 2, none⟩ = some a2 ∧ W.cell? ⟨b, 3, none⟩ = some a3 ∧ W.cell? ⟨b, 4, none⟩ = some a4 ∧ W.cell? ⟨b, 5, none⟩ = some a5 :=
  ⟨h.at_ rfl, h.at_ rfl, h.at_ rfl, h.at_ rfl, h.at_ rfl, h.at_ rfl⟩

set_option maxRecDepth 100000 in
set_option maxHeartbeats 8000000 in
theorem refTest_any (t : TestR) (w : World) (h : t.Ok w) :
    Calls Try.prog 111 #[t.val] w fun e w' => e = .returned (.string (testS t)) ∧ Below w.heap.size w w' := by
  obtain ⟨hsl, hln, hv, hs, hlist⟩ := h
  have hA := fun w => refAtom_any ⟨t.v, t.s⟩ hv hs w
  have za := atomS_size ⟨t.v, t.s⟩ hv
  have hlen : t.list.length = t.ln := by have := hsl.1; rw [symsC_length] at this; omega
  obtain ⟨rel, v, ⟨k, tx, n⟩, la, ln, lc, list⟩ := t
  unfold testS TestR.val
  simp only at hsl hln hA za hlist hlen ⊢
  clear hv hs
  generalize atomS ⟨v, ⟨k, tx, n⟩⟩ = A at hA za ⊢
  unfold Am.val at hA
  simp only at hA
  have HA := Lib.hid hA
  have HLEN := Lib.hid hlen
  clear hA hlen
  have hbw : Below w.heap.size w (w.alloc (.cells #[.int .i64 rel, .string v, .int .i64 k, .string tx, .int .i64 n, .slice la ln lc] 138)) := (Below.refl _ w).alloc (Nat.le_refl _) _
  have hbx : BoxC (w.alloc (.cells #[.int .i64 rel, .string v, .int .i64 k, .string tx, .int .i64 n, .slice la ln lc] 138)) w.heap.size 138 [.int .i64 rel, .string v, .int .i64 k, .string tx, .int .i64 n, .slice la ln lc] := BoxC.new w _ 138
  have hsl0 := hsl.kept hbw
  have HBW := Lib.hid hbw
  have HBX := Lib.hid hbx
  clear hbw hbx
  by_cases h8 : rel = 8
  · subst h8
    rw [if_pos rfl]
    go_enter Try.func111, Try.ntmps111
    go_wp2
    go_loopw [3, 4] (fun ts ti wr => ∃ i : Nat, i ≤ ln ∧ ts = .string (listS list i) ∧ ti = .int .i64 i ∧ SlR wr 3 la ln lc (symsC list) ∧ Hid (BoxC wr w.heap.size 138 [.int .i64 8, .string v, .int .i64 k, .string tx, .int .i64 n, .slice la ln lc]) ∧ Below w.heap.size w wr) (fun _ ti _ => ln - (intOf ti).toNat)
    case atStart => exact ⟨0, by omega, rfl, rfl, hsl0, HBX, HBW.out⟩
    case round =>
      clear hsl0
      obtain ⟨i, hi, rfl, rfl, hsl1, hbx1, hb1⟩ := hrel
      have hz := listS_size list i
      have c5 := hbx1.out.at_ (j := 5) rfl
      by_cases hlt : i < ln
      · obtain ⟨x, hx⟩ : ∃ x, list[i]? = some x := ⟨_, List.getElem?_eq_getElem (by rw [HLEN.out]; exact hlt)⟩
        have hT := fun w => refText_any x (hlist x (List.mem_of_getElem? hx)) w
        obtain ⟨g, o, rfl, x0, x1, x2⟩ := hsl1.sym hx
        have HS : Hid (listS list (i + 1) = listS list i ++ (⟨#[32]⟩ ++ symS x)) := Lib.hid (by
          conv => lhs; unfold listS
          rw [List.getD_eq_getElem?_getD, hx, ← cat_assoc]; rfl)
        have hzx := symS_size x
        obtain ⟨xk, xt, xn⟩ := x
        simp only at x0 x1 x2
        unfold Sm.val at hT
        simp only at hT
        generalize symS ⟨xk, xt, xn⟩ = X at hT HS hzx
        have HT := Lib.hid hT
        have HX := Lib.hid hx
        have p1 := fun w => run_string_add_sum (P := Try.prog) w (⟨#[32]⟩ : ByteArray) X (by show 1 + _ ≤ _; omega)
        have p2 := fun w => run_string_add_sum (P := Try.prog) w (listS list i) (⟨#[32]⟩ ++ X) (by rw [cat2_size]; show _ + (1 + _) ≤ _; omega)
        clear hT hx
        go_wp2_with (go_at_call 79; refine (HT.out _).mono ?_; rintro e w2 ⟨rfl, bb⟩)
        go_roundw
        case rel => exact ⟨i + 1, by omega, by rw [HS.out], by go_num, hsl1.kept bb, Lib.hid (hbx1.out.below bb), hb1.trans (bb.mono hb1.size)⟩
        case measure => simp [intOf]; omega
      · obtain rfl : i = ln := by omega
        have p1 := fun w => run_string_add_sum (P := Try.prog) w (listS list i) ⟨#[32, 62, 62]⟩ (by show _ + 3 ≤ _; omega)
        go_wp2
        go_ret
        exact ⟨rfl, hb1⟩
  · rw [if_neg h8]
    have e8 : (rel == 8) = false := by simp [h8]
    rw [← relB_cat]
    have p := fun (R : Array UInt8) (hR : R.size ≤ 4) w => run_string_add_sum (P := Try.prog) w (⟨R⟩ : ByteArray) A (by show R.size + A.size ≤ _; omega)
    have HP := Lib.hid p
    clear p hsl0
    rcases (show rel = 2 ∨ rel = 3 ∨ rel = 4 ∨ rel = 5 ∨ rel = 6 ∨ rel = 7 ∨ (rel ≠ 2 ∧ rel ≠ 3 ∧ rel ≠ 4 ∧ rel ≠ 5 ∧ rel ≠ 6 ∧ rel ≠ 7) by omega) with rfl | rfl | rfl | rfl | rfl | rfl | ⟨h2, h3, h4, h5, h6, h7⟩
    · have p1 := HP.out #[60, 62, 32] (by decide)
      go_enter Try.func111, Try.ntmps111
      go_wp2_with (go_at_call 76; refine (HA.out _).mono ?_; rintro e w3 ⟨rfl, b3⟩)
      go_ret
      exact ⟨rfl, HBW.out.trans (b3.mono (by simp))⟩
    · have p1 := HP.out #[60, 32] (by decide)
      go_enter Try.func111, Try.ntmps111
      go_wp2_with (go_at_call 76; refine (HA.out _).mono ?_; rintro e w3 ⟨rfl, b3⟩)
      go_ret
      exact ⟨rfl, HBW.out.trans (b3.mono (by simp))⟩
    · have p1 := HP.out #[60, 61, 32] (by decide)
      go_enter Try.func111, Try.ntmps111
      go_wp2_with (go_at_call 76; refine (HA.out _).mono ?_; rintro e w3 ⟨rfl, b3⟩)
      go_ret
      exact ⟨rfl, HBW.out.trans (b3.mono (by simp))⟩
    · have p1 := HP.out #[62, 32] (by decide)
      go_enter Try.func111, Try.ntmps111
      go_wp2_with (go_at_call 76; refine (HA.out _).mono ?_; rintro e w3 ⟨rfl, b3⟩)
      go_ret
      exact ⟨rfl, HBW.out.trans (b3.mono (by simp))⟩
    · have p1 := HP.out #[62, 61, 32] (by decide)
      go_enter Try.func111, Try.ntmps111
      go_wp2_with (go_at_call 76; refine (HA.out _).mono ?_; rintro e w3 ⟨rfl, b3⟩)
      go_ret
      exact ⟨rfl, HBW.out.trans (b3.mono (by simp))⟩
    · have p1 := HP.out #[60, 61, 62, 32] (by decide)
      go_enter Try.func111, Try.ntmps111
      go_wp2_with (go_at_call 76; refine (HA.out _).mono ?_; rintro e w3 ⟨rfl, b3⟩)
      go_ret
      exact ⟨rfl, HBW.out.trans (b3.mono (by simp))⟩
    · have hr : relB rel = #[] := by unfold relB relL; rw [if_neg h2, if_neg h3, if_neg h4, if_neg h5, if_neg h6, if_neg h7, if_pos rfl]
      rw [hr]
      have p1 := HP.out #[] (by decide)
      have e2 : (rel == 2) = false := by simp [h2]
      have e3 : (rel == 3) = false := by simp [h3]
      have e4 : (rel == 4) = false := by simp [h4]
      have e5 : (rel == 5) = false := by simp [h5]
      have e6 : (rel == 6) = false := by simp [h6]
      have e7 : (rel == 7) = false := by simp [h7]
      clear hr h2 h3 h4 h5 h6 h7 h8
      go_enter Try.func111, Try.ntmps111
      go_wp2_with (go_at_call 76; refine (HA.out _).mono ?_; rintro e w3 ⟨rfl, b3⟩)
      go_ret
      exact ⟨rfl, HBW.out.trans (b3.mono (by simp))⟩
end Go.Proofs.Ytgeaccoobhigcaa
