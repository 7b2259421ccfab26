/-
  The texts of terms.
-/
import Derived.Test.YtgeaccoobhigcaaS5
import Derived.Deep.RegionHeld3
namespace Go.Proofs.Ytgeaccoobhigcaa
open Go Go.RowKit

/-- A block that holds these cells. -/
def BoxC (W : World) (b : Nat) (t : TypeId) (cs : List Value) : Prop := W.heap[b]? = some (.cells cs.toArray t (0, 0))
theorem BoxC.new (W : World) (cs : List Value) (t : TypeId) : BoxC (W.alloc (.cells cs.toArray t)) W.heap.size t cs := heap_alloc_new W _
theorem BoxC.lt {W : World} {b : Nat} {t : TypeId} {cs : List Value} (h : BoxC W b t cs) : b < W.heap.size := lt_of_block h
theorem BoxC.below {A B : World} {b : Nat} {t : TypeId} {cs : List Value} (h : BoxC A b t cs) (hb : Below A.heap.size A B) : BoxC B b t cs := (hb.block b h.lt).trans h
theorem BoxC.at_ {W : World} {b : Nat} {t : TypeId} {cs : List Value} (h : BoxC W b t cs) {j : Nat} {u : Value} (hj : cs[j]? = some u) : W.cell? ⟨b, j, none⟩ = some u := by
  rw [cell_of_row _ _ _ _ _ _ h]; simpa using hj

theorem BoxC.nine {W : World} {b : Nat} {t : TypeId} {a0 a1 a2 a3 a4 a5 a6 a7 a8 : Value} (h : BoxC W b t [a0, a1, a2, a3, a4, a5, a6, a7, a8]) : W.cell? ⟨b, 0, none⟩ = some a0 ∧ W.cell? ⟨b, 1, none⟩ = some a1 ∧ W.cell? ⟨b, 2, none⟩ = some a2 ∧ W.cell? ⟨b, 3, none⟩ = some a3 ∧ W.cell? ⟨b, 4, none⟩ = some a4 ∧ W.cell? ⟨b, 5, none⟩ = some a5 ∧ W.cell? ⟨b, 6, none⟩ = some a6 ∧ W.cell? ⟨b, 7, none⟩ = some a7 ∧ W.cell? ⟨b, 8, none⟩ = some a8 :=
  ⟨h.at_ rfl, h.at_ rfl, h.at_ rfl, h.at_ rfl, h.at_ rfl, h.at_ rfl, h.at_ rfl, h.at_ rfl, h.at_ rfl⟩

theorem undrew {a b : World} (h : Below a.drew.heap.size a.drew b) : Below a.heap.size a b := ⟨h.os, h.tape, h.output, h.size, h.block⟩
/-- A term. -/
structure Tm where
  op : Int
  a : Am
  b : Am
def Tm.cells (t : Tm) : List Value := .int .i64 t.op :: (t.a.cells ++ t.b.cells)
def Tm.val (t : Tm) : Value := .agg #[.int .i64 t.op, .string t.a.v, .int .i64 t.a.s.k, .string t.a.s.t, .int .i64 t.a.s.n, .string t.b.v, .int .i64 t.b.s.k, .string t.b.s.t, .int .i64 t.b.s.n]
def binS (c : Array UInt8) (a b : ByteArray) : ByteArray := (⟨#[40]⟩ : ByteArray) ++ ⟨c⟩ ++ ⟨#[32]⟩ ++ a ++ ⟨#[32]⟩ ++ b ++ ⟨#[41]⟩
/-- show's text of a term. -/
def termS (t : Tm) : ByteArray := if t.op = 1 then binS #[43] (atomS t.a) (atomS t.b) else if t.op = 2 then binS #[45] (atomS t.a) (atomS t.b) else if t.op = 3 then binS #[42] (atomS t.a) (atomS t.b) else atomS t.a
/-- The document's text of a term. -/
def rtermS (t : Tm) : ByteArray := if t.op = 0 then atomS t.a else if t.op = 1 then binS #[43] (atomS t.a) (atomS t.b) else if t.op = 2 then binS #[45] (atomS t.a) (atomS t.b) else binS #[42] (atomS t.a) (atomS t.b)
theorem termS_eq {t : Tm} (h0 : 0 ≤ t.op) (h3 : t.op ≤ 3) : rtermS t = termS t := by
  unfold rtermS termS
  rcases (show t.op = 0 ∨ t.op = 1 ∨ t.op = 2 ∨ t.op = 3 by omega) with h | h | h | h <;> rw [h] <;> rfl
structure Am.Small (a : Am) : Prop where
  v : a.v.size ≤ 1000000
  s : a.s.t.size ≤ 9223372036854775807

set_option maxRecDepth 100000 in
set_option maxHeartbeats 4000000 in
theorem showTerm_any (t : Tm) (ha : t.a.Small) (hb : t.b.Small) (w : World) :
    Calls Try.prog 74 #[t.val] w fun e w' => e = .returned (.string (termS t)) ∧ Below w.heap.size w w' := by
  have hA := fun w => showAtom_any t.a ha.v ha.s w
  have hB := fun w => showAtom_any t.b hb.v hb.s w
  have za := atomS_size t.a ha.v
  have zb := atomS_size t.b hb.v
  have hmix : Try.prog.follows .mixedOrders = true := by kernel_rfl
  obtain ⟨op, ⟨av, ak, at_, an⟩, ⟨bv, bk, bt, bn⟩⟩ := t
  unfold termS Tm.val
  simp only at hA hB za zb ⊢
  clear ha hb
  generalize atomS ⟨av, ak, at_, an⟩ = A at hA za ⊢
  generalize atomS ⟨bv, bk, bt, bn⟩ = B at hB zb ⊢
  unfold Sm.val at hA hB
  simp only at hA hB
  have HA := Lib.hid hA
  have HB := Lib.hid hB
  clear hA hB
  have hbx := BoxC.new w [.int .i64 op, .string av, .int .i64 ak, .string at_, .int .i64 an, .string bv, .int .i64 bk, .string bt, .int .i64 bn] 67
  have hbw : Below w.heap.size w (w.alloc (.cells #[.int .i64 op, .string av, .int .i64 ak, .string at_, .int .i64 an, .string bv, .int .i64 bk, .string bt, .int .i64 bn] 67)) := (Below.refl _ w).alloc (Nat.le_refl _) _
  have HBX : Hid (BoxC (w.alloc (.cells #[.int .i64 op, .string av, .int .i64 ak, .string at_, .int .i64 an, .string bv, .int .i64 bk, .string bt, .int .i64 bn] 67)) w.heap.size 67 [.int .i64 op, .string av, .int .i64 ak, .string at_, .int .i64 an, .string bv, .int .i64 bk, .string bt, .int .i64 bn]) := Lib.hid hbx
  have HBW := Lib.hid hbw
  clear hbx hbw
  rcases (show op = 1 ∨ op = 2 ∨ op = 3 ∨ (op ≠ 1 ∧ op ≠ 2 ∧ op ≠ 3) by omega) with rfl | rfl | rfl | ⟨h1, h2, h3⟩
  · rw [if_pos rfl]
    unfold binS
    have p1 := fun w => run_string_add_sum (P := Try.prog) w ((⟨#[40]⟩ : ByteArray) ++ ⟨#[43]⟩ ++ ⟨#[32]⟩) A (by simp only [cat2_size]; show 1 + 1 + 1 + A.size ≤ _; omega)
    have p2 := fun w => run_string_add_sum (P := Try.prog) w ((⟨#[40]⟩ : ByteArray) ++ ⟨#[43]⟩ ++ ⟨#[32]⟩ ++ A) ⟨#[32]⟩ (by simp only [cat2_size]; show 1 + 1 + 1 + A.size + 1 ≤ _; omega)
    have p3 := fun w => run_string_add_sum (P := Try.prog) w ((⟨#[40]⟩ : ByteArray) ++ ⟨#[43]⟩ ++ ⟨#[32]⟩ ++ A ++ ⟨#[32]⟩) B (by simp only [cat2_size]; show 1 + 1 + 1 + A.size + 1 + B.size ≤ _; omega)
    have p4 := fun w => run_string_add_sum (P := Try.prog) w ((⟨#[40]⟩ : ByteArray) ++ ⟨#[43]⟩ ++ ⟨#[32]⟩ ++ A ++ ⟨#[32]⟩ ++ B) ⟨#[41]⟩ (by simp only [cat2_size]; show 1 + 1 + 1 + A.size + 1 + B.size + 1 ≤ _; omega)
    go_enter Try.func74, Try.ntmps74
    go_wp2
    go_region_held3 (fun w' => w'.cell? ⟨w.heap.size, 1, none⟩ = some (.string av) ∧ w'.cell? ⟨w.heap.size, 2, none⟩ = some (.int .i64 ak) ∧ w'.cell? ⟨w.heap.size, 3, none⟩ = some (.string at_) ∧ w'.cell? ⟨w.heap.size, 4, none⟩ = some (.int .i64 an) ∧ w'.cell? ⟨w.heap.size, 5, none⟩ = some (.string bv) ∧ w'.cell? ⟨w.heap.size, 6, none⟩ = some (.int .i64 bk) ∧ w'.cell? ⟨w.heap.size, 7, none⟩ = some (.string bt) ∧ w'.cell? ⟨w.heap.size, 8, none⟩ = some (.int .i64 bn)) (first | (have B1 := HBX.out; exact ⟨B1.at_ rfl, B1.at_ rfl, B1.at_ rfl, B1.at_ rfl, B1.at_ rfl, B1.at_ rfl, B1.at_ rfl, B1.at_ rfl⟩) | (have B2 := HBX.out.below (undrew b2); exact ⟨B2.at_ rfl, B2.at_ rfl, B2.at_ rfl, B2.at_ rfl, B2.at_ rfl, B2.at_ rfl, B2.at_ rfl, B2.at_ rfl⟩) | (have B3 := (HBX.out.below (undrew b2)).below b3; exact ⟨B3.at_ rfl, B3.at_ rfl, B3.at_ rfl, B3.at_ rfl, B3.at_ rfl, B3.at_ rfl, B3.at_ rfl, B3.at_ rfl⟩)) (first | (go_at_call 73; (with_reducible refine (HA.out _).mono ?_); rintro e w2 ⟨rfl, b2⟩) | (go_at_call 73; (with_reducible refine (HB.out _).mono ?_); rintro e w3 ⟨rfl, b3⟩))
    all_goals
      go_wp2
      go_ret
      exact ⟨rfl, HBW.out.trans (((undrew b2).mono (by simp)).trans (b3.mono (Nat.le_trans (by simp) b2.size)))⟩
  · rw [if_neg (by decide), if_pos rfl]
    unfold binS
    have p1 := fun w => run_string_add_sum (P := Try.prog) w ((⟨#[40]⟩ : ByteArray) ++ ⟨#[45]⟩ ++ ⟨#[32]⟩) A (by simp only [cat2_size]; show 1 + 1 + 1 + A.size ≤ _; omega)
    have p2 := fun w => run_string_add_sum (P := Try.prog) w ((⟨#[40]⟩ : ByteArray) ++ ⟨#[45]⟩ ++ ⟨#[32]⟩ ++ A) ⟨#[32]⟩ (by simp only [cat2_size]; show 1 + 1 + 1 + A.size + 1 ≤ _; omega)
    have p3 := fun w => run_string_add_sum (P := Try.prog) w ((⟨#[40]⟩ : ByteArray) ++ ⟨#[45]⟩ ++ ⟨#[32]⟩ ++ A ++ ⟨#[32]⟩) B (by simp only [cat2_size]; show 1 + 1 + 1 + A.size + 1 + B.size ≤ _; omega)
    have p4 := fun w => run_string_add_sum (P := Try.prog) w ((⟨#[40]⟩ : ByteArray) ++ ⟨#[45]⟩ ++ ⟨#[32]⟩ ++ A ++ ⟨#[32]⟩ ++ B) ⟨#[41]⟩ (by simp only [cat2_size]; show 1 + 1 + 1 + A.size + 1 + B.size + 1 ≤ _; omega)
    go_enter Try.func74, Try.ntmps74
    go_wp2
    go_region_held3 (fun w' => w'.cell? ⟨w.heap.size, 1, none⟩ = some (.string av) ∧ w'.cell? ⟨w.heap.size, 2, none⟩ = some (.int .i64 ak) ∧ w'.cell? ⟨w.heap.size, 3, none⟩ = some (.string at_) ∧ w'.cell? ⟨w.heap.size, 4, none⟩ = some (.int .i64 an) ∧ w'.cell? ⟨w.heap.size, 5, none⟩ = some (.string bv) ∧ w'.cell? ⟨w.heap.size, 6, none⟩ = some (.int .i64 bk) ∧ w'.cell? ⟨w.heap.size, 7, none⟩ = some (.string bt) ∧ w'.cell? ⟨w.heap.size, 8, none⟩ = some (.int .i64 bn)) (first | (have B1 := HBX.out; exact ⟨B1.at_ rfl, B1.at_ rfl, B1.at_ rfl, B1.at_ rfl, B1.at_ rfl, B1.at_ rfl, B1.at_ rfl, B1.at_ rfl⟩) | (have B2 := HBX.out.below (undrew b2); exact ⟨B2.at_ rfl, B2.at_ rfl, B2.at_ rfl, B2.at_ rfl, B2.at_ rfl, B2.at_ rfl, B2.at_ rfl, B2.at_ rfl⟩) | (have B3 := (HBX.out.below (undrew b2)).below b3; exact ⟨B3.at_ rfl, B3.at_ rfl, B3.at_ rfl, B3.at_ rfl, B3.at_ rfl, B3.at_ rfl, B3.at_ rfl, B3.at_ rfl⟩)) (first | (go_at_call 73; (with_reducible refine (HA.out _).mono ?_); rintro e w2 ⟨rfl, b2⟩) | (go_at_call 73; (with_reducible refine (HB.out _).mono ?_); rintro e w3 ⟨rfl, b3⟩))
    all_goals
      go_wp2
      go_ret
      exact ⟨rfl, HBW.out.trans (((undrew b2).mono (by simp)).trans (b3.mono (Nat.le_trans (by simp) b2.size)))⟩
  · rw [if_neg (by decide), if_neg (by decide), if_pos rfl]
    unfold binS
    have p1 := fun w => run_string_add_sum (P := Try.prog) w ((⟨#[40]⟩ : ByteArray) ++ ⟨#[42]⟩ ++ ⟨#[32]⟩) A (by simp only [cat2_size]; show 1 + 1 + 1 + A.size ≤ _; omega)
    have p2 := fun w => run_string_add_sum (P := Try.prog) w ((⟨#[40]⟩ : ByteArray) ++ ⟨#[42]⟩ ++ ⟨#[32]⟩ ++ A) ⟨#[32]⟩ (by simp only [cat2_size]; show 1 + 1 + 1 + A.size + 1 ≤ _; omega)
    have p3 := fun w => run_string_add_sum (P := Try.prog) w ((⟨#[40]⟩ : ByteArray) ++ ⟨#[42]⟩ ++ ⟨#[32]⟩ ++ A ++ ⟨#[32]⟩) B (by simp only [cat2_size]; show 1 + 1 + 1 + A.size + 1 + B.size ≤ _; omega)
    have p4 := fun w => run_string_add_sum (P := Try.prog) w ((⟨#[40]⟩ : ByteArray) ++ ⟨#[42]⟩ ++ ⟨#[32]⟩ ++ A ++ ⟨#[32]⟩ ++ B) ⟨#[41]⟩ (by simp only [cat2_size]; show 1 + 1 + 1 + A.size + 1 + B.size + 1 ≤ _; omega)
    go_enter Try.func74, Try.ntmps74
    go_wp2
    go_region_held3 (fun w' => w'.cell? ⟨w.heap.size, 1, none⟩ = some (.string av) ∧ w'.cell? ⟨w.heap.size, 2, none⟩ = some (.int .i64 ak) ∧ w'.cell? ⟨w.heap.size, 3, none⟩ = some (.string at_) ∧ w'.cell? ⟨w.heap.size, 4, none⟩ = some (.int .i64 an) ∧ w'.cell? ⟨w.heap.size, 5, none⟩ = some (.string bv) ∧ w'.cell? ⟨w.heap.size, 6, none⟩ = some (.int .i64 bk) ∧ w'.cell? ⟨w.heap.size, 7, none⟩ = some (.string bt) ∧ w'.cell? ⟨w.heap.size, 8, none⟩ = some (.int .i64 bn)) (first | (have B1 := HBX.out; exact ⟨B1.at_ rfl, B1.at_ rfl, B1.at_ rfl, B1.at_ rfl, B1.at_ rfl, B1.at_ rfl, B1.at_ rfl, B1.at_ rfl⟩) | (have B2 := HBX.out.below (undrew b2); exact ⟨B2.at_ rfl, B2.at_ rfl, B2.at_ rfl, B2.at_ rfl, B2.at_ rfl, B2.at_ rfl, B2.at_ rfl, B2.at_ rfl⟩) | (have B3 := (HBX.out.below (undrew b2)).below b3; exact ⟨B3.at_ rfl, B3.at_ rfl, B3.at_ rfl, B3.at_ rfl, B3.at_ rfl, B3.at_ rfl, B3.at_ rfl, B3.at_ rfl⟩)) (first | (go_at_call 73; (with_reducible refine (HA.out _).mono ?_); rintro e w2 ⟨rfl, b2⟩) | (go_at_call 73; (with_reducible refine (HB.out _).mono ?_); rintro e w3 ⟨rfl, b3⟩))
    all_goals
      go_wp2
      go_ret
      exact ⟨rfl, HBW.out.trans (((undrew b2).mono (by simp)).trans (b3.mono (Nat.le_trans (by simp) b2.size)))⟩
  · rw [if_neg h1, if_neg h2, if_neg h3]
    have e1 : (op == 1) = false := by simp [h1]
    have e2 : (op == 2) = false := by simp [h2]
    have e3 : (op == 3) = false := by simp [h3]
    clear h1 h2 h3
    go_enter Try.func74, Try.ntmps74
    go_wp2_with (go_at_call 73; refine (HA.out _).mono ?_; rintro e w2 ⟨rfl, b2⟩)
    go_ret
    exact ⟨rfl, HBW.out.trans (b2.mono (by simp))⟩

set_option maxRecDepth 100000 in
set_option maxHeartbeats 4000000 in
theorem refTerm_any (t : Tm) (ha : t.a.Small) (hb : t.b.Small) (w : World) :
    Calls Try.prog 77 #[t.val] w fun e w' => e = .returned (.string (rtermS t)) ∧ Below w.heap.size w w' := by
  have hA := fun w => refAtom_any t.a ha.v ha.s w
  have hB := fun w => refAtom_any t.b hb.v hb.s w
  have za := atomS_size t.a ha.v
  have zb := atomS_size t.b hb.v
  have hmix : Try.prog.follows .mixedOrders = true := by kernel_rfl
  obtain ⟨op, ⟨av, ak, at_, an⟩, ⟨bv, bk, bt, bn⟩⟩ := t
  unfold rtermS Tm.val
  simp only at hA hB za zb ⊢
  clear ha hb
  generalize atomS ⟨av, ak, at_, an⟩ = A at hA za ⊢
  generalize atomS ⟨bv, bk, bt, bn⟩ = B at hB zb ⊢
  unfold Am.val at hA hB
  simp only at hA hB
  have HA := Lib.hid hA
  have HB := Lib.hid hB
  clear hA hB
  have hbx := BoxC.new w [.int .i64 op, .string av, .int .i64 ak, .string at_, .int .i64 an, .string bv, .int .i64 bk, .string bt, .int .i64 bn] 67
  have hbw : Below w.heap.size w (w.alloc (.cells #[.int .i64 op, .string av, .int .i64 ak, .string at_, .int .i64 an, .string bv, .int .i64 bk, .string bt, .int .i64 bn] 67)) := (Below.refl _ w).alloc (Nat.le_refl _) _
  have HBX : Hid (BoxC (w.alloc (.cells #[.int .i64 op, .string av, .int .i64 ak, .string at_, .int .i64 an, .string bv, .int .i64 bk, .string bt, .int .i64 bn] 67)) w.heap.size 67 [.int .i64 op, .string av, .int .i64 ak, .string at_, .int .i64 an, .string bv, .int .i64 bk, .string bt, .int .i64 bn]) := Lib.hid hbx
  have HBW := Lib.hid hbw
  clear hbx hbw
  rcases (show op = 0 ∨ op = 1 ∨ op = 2 ∨ (op ≠ 0 ∧ op ≠ 1 ∧ op ≠ 2) by omega) with rfl | rfl | rfl | ⟨h1, h2, h3⟩
  · rw [if_pos rfl]
    go_enter Try.func77, Try.ntmps77
    go_wp2_with (go_at_call 76; refine (HA.out _).mono ?_; rintro e w2 ⟨rfl, b2⟩)
    go_ret
    exact ⟨rfl, HBW.out.trans (b2.mono (by simp))⟩
  · rw [if_neg (by decide), if_pos rfl]
    unfold binS
    have p1 := fun w => run_string_add_sum (P := Try.prog) w ((⟨#[40]⟩ : ByteArray) ++ ⟨#[43]⟩ ++ ⟨#[32]⟩) A (by simp only [cat2_size]; show 1 + 1 + 1 + A.size ≤ _; omega)
    have p2 := fun w => run_string_add_sum (P := Try.prog) w ((⟨#[40]⟩ : ByteArray) ++ ⟨#[43]⟩ ++ ⟨#[32]⟩ ++ A) ⟨#[32]⟩ (by simp only [cat2_size]; show 1 + 1 + 1 + A.size + 1 ≤ _; omega)
    have p3 := fun w => run_string_add_sum (P := Try.prog) w ((⟨#[40]⟩ : ByteArray) ++ ⟨#[43]⟩ ++ ⟨#[32]⟩ ++ A ++ ⟨#[32]⟩) B (by simp only [cat2_size]; show 1 + 1 + 1 + A.size + 1 + B.size ≤ _; omega)
    have p4 := fun w => run_string_add_sum (P := Try.prog) w ((⟨#[40]⟩ : ByteArray) ++ ⟨#[43]⟩ ++ ⟨#[32]⟩ ++ A ++ ⟨#[32]⟩ ++ B) ⟨#[41]⟩ (by simp only [cat2_size]; show 1 + 1 + 1 + A.size + 1 + B.size + 1 ≤ _; omega)
    go_enter Try.func77, Try.ntmps77
    go_wp2
    go_region_held3 (fun w' => w'.cell? ⟨w.heap.size, 1, none⟩ = some (.string av) ∧ w'.cell? ⟨w.heap.size, 2, none⟩ = some (.int .i64 ak) ∧ w'.cell? ⟨w.heap.size, 3, none⟩ = some (.string at_) ∧ w'.cell? ⟨w.heap.size, 4, none⟩ = some (.int .i64 an) ∧ w'.cell? ⟨w.heap.size, 5, none⟩ = some (.string bv) ∧ w'.cell? ⟨w.heap.size, 6, none⟩ = some (.int .i64 bk) ∧ w'.cell? ⟨w.heap.size, 7, none⟩ = some (.string bt) ∧ w'.cell? ⟨w.heap.size, 8, none⟩ = some (.int .i64 bn)) (first | (have B1 := HBX.out; exact ⟨B1.at_ rfl, B1.at_ rfl, B1.at_ rfl, B1.at_ rfl, B1.at_ rfl, B1.at_ rfl, B1.at_ rfl, B1.at_ rfl⟩) | (have B2 := HBX.out.below (undrew b2); exact ⟨B2.at_ rfl, B2.at_ rfl, B2.at_ rfl, B2.at_ rfl, B2.at_ rfl, B2.at_ rfl, B2.at_ rfl, B2.at_ rfl⟩) | (have B3 := (HBX.out.below (undrew b2)).below b3; exact ⟨B3.at_ rfl, B3.at_ rfl, B3.at_ rfl, B3.at_ rfl, B3.at_ rfl, B3.at_ rfl, B3.at_ rfl, B3.at_ rfl⟩)) (first | (go_at_call 76; (with_reducible refine (HA.out _).mono ?_); rintro e w2 ⟨rfl, b2⟩) | (go_at_call 76; (with_reducible refine (HB.out _).mono ?_); rintro e w3 ⟨rfl, b3⟩))
    all_goals
      go_wp2
      go_ret
      exact ⟨rfl, HBW.out.trans (((undrew b2).mono (by simp)).trans (b3.mono (Nat.le_trans (by simp) b2.size)))⟩
  · rw [if_neg (by decide), if_neg (by decide), if_pos rfl]
    unfold binS
    have p1 := fun w => run_string_add_sum (P := Try.prog) w ((⟨#[40]⟩ : ByteArray) ++ ⟨#[45]⟩ ++ ⟨#[32]⟩) A (by simp only [cat2_size]; show 1 + 1 + 1 + A.size ≤ _; omega)
    have p2 := fun w => run_string_add_sum (P := Try.prog) w ((⟨#[40]⟩ : ByteArray) ++ ⟨#[45]⟩ ++ ⟨#[32]⟩ ++ A) ⟨#[32]⟩ (by simp only [cat2_size]; show 1 + 1 + 1 + A.size + 1 ≤ _; omega)
    have p3 := fun w => run_string_add_sum (P := Try.prog) w ((⟨#[40]⟩ : ByteArray) ++ ⟨#[45]⟩ ++ ⟨#[32]⟩ ++ A ++ ⟨#[32]⟩) B (by simp only [cat2_size]; show 1 + 1 + 1 + A.size + 1 + B.size ≤ _; omega)
    have p4 := fun w => run_string_add_sum (P := Try.prog) w ((⟨#[40]⟩ : ByteArray) ++ ⟨#[45]⟩ ++ ⟨#[32]⟩ ++ A ++ ⟨#[32]⟩ ++ B) ⟨#[41]⟩ (by simp only [cat2_size]; show 1 + 1 + 1 + A.size + 1 + B.size + 1 ≤ _; omega)
    go_enter Try.func77, Try.ntmps77
    go_wp2
    go_region_held3 (fun w' => w'.cell? ⟨w.heap.size, 1, none⟩ = some (.string av) ∧ w'.cell? ⟨w.heap.size, 2, none⟩ = some (.int .i64 ak) ∧ w'.cell? ⟨w.heap.size, 3, none⟩ = some (.string at_) ∧ w'.cell? ⟨w.heap.size, 4, none⟩ = some (.int .i64 an) ∧ w'.cell? ⟨w.heap.size, 5, none⟩ = some (.string bv) ∧ w'.cell? ⟨w.heap.size, 6, none⟩ = some (.int .i64 bk) ∧ w'.cell? ⟨w.heap.size, 7, none⟩ = some (.string bt) ∧ w'.cell? ⟨w.heap.size, 8, none⟩ = some (.int .i64 bn)) (first | (have B1 := HBX.out; exact ⟨B1.at_ rfl, B1.at_ rfl, B1.at_ rfl, B1.at_ rfl, B1.at_ rfl, B1.at_ rfl, B1.at_ rfl, B1.at_ rfl⟩) | (have B2 := HBX.out.below (undrew b2); exact ⟨B2.at_ rfl, B2.at_ rfl, B2.at_ rfl, B2.at_ rfl, B2.at_ rfl, B2.at_ rfl, B2.at_ rfl, B2.at_ rfl⟩) | (have B3 := (HBX.out.below (undrew b2)).below b3; exact ⟨B3.at_ rfl, B3.at_ rfl, B3.at_ rfl, B3.at_ rfl, B3.at_ rfl, B3.at_ rfl, B3.at_ rfl, B3.at_ rfl⟩)) (first | (go_at_call 76; (with_reducible refine (HA.out _).mono ?_); rintro e w2 ⟨rfl, b2⟩) | (go_at_call 76; (with_reducible refine (HB.out _).mono ?_); rintro e w3 ⟨rfl, b3⟩))
    all_goals
      go_wp2
      go_ret
      exact ⟨rfl, HBW.out.trans (((undrew b2).mono (by simp)).trans (b3.mono (Nat.le_trans (by simp) b2.size)))⟩
  · rw [if_neg h1, if_neg h2, if_neg h3]
    unfold binS
    have e1 : (op == 0) = false := by simp [h1]
    have e2 : (op == 1) = false := by simp [h2]
    have e3 : (op == 2) = false := by simp [h3]
    clear h1 h2 h3
    have p1 := fun w => run_string_add_sum (P := Try.prog) w ((⟨#[40]⟩ : ByteArray) ++ ⟨#[42]⟩ ++ ⟨#[32]⟩) A (by simp only [cat2_size]; show 1 + 1 + 1 + A.size ≤ _; omega)
    have p2 := fun w => run_string_add_sum (P := Try.prog) w ((⟨#[40]⟩ : ByteArray) ++ ⟨#[42]⟩ ++ ⟨#[32]⟩ ++ A) ⟨#[32]⟩ (by simp only [cat2_size]; show 1 + 1 + 1 + A.size + 1 ≤ _; omega)
    have p3 := fun w => run_string_add_sum (P := Try.prog) w ((⟨#[40]⟩ : ByteArray) ++ ⟨#[42]⟩ ++ ⟨#[32]⟩ ++ A ++ ⟨#[32]⟩) B (by simp only [cat2_size]; show 1 + 1 + 1 + A.size + 1 + B.size ≤ _; omega)
    have p4 := fun w => run_string_add_sum (P := Try.prog) w ((⟨#[40]⟩ : ByteArray) ++ ⟨#[42]⟩ ++ ⟨#[32]⟩ ++ A ++ ⟨#[32]⟩ ++ B) ⟨#[41]⟩ (by simp only [cat2_size]; show 1 + 1 + 1 + A.size + 1 + B.size + 1 ≤ _; omega)
    go_enter Try.func77, Try.ntmps77
    go_wp2
    go_region_held3 (fun w' => w'.cell? ⟨w.heap.size, 1, none⟩ = some (.string av) ∧ w'.cell? ⟨w.heap.size, 2, none⟩ = some (.int .i64 ak) ∧ w'.cell? ⟨w.heap.size, 3, none⟩ = some (.string at_) ∧ w'.cell? ⟨w.heap.size, 4, none⟩ = some (.int .i64 an) ∧ w'.cell? ⟨w.heap.size, 5, none⟩ = some (.string bv) ∧ w'.cell? ⟨w.heap.size, 6, none⟩ = some (.int .i64 bk) ∧ w'.cell? ⟨w.heap.size, 7, none⟩ = some (.string bt) ∧ w'.cell? ⟨w.heap.size, 8, none⟩ = some (.int .i64 bn)) (first | (have B1 := HBX.out; exact ⟨B1.at_ rfl, B1.at_ rfl, B1.at_ rfl, B1.at_ rfl, B1.at_ rfl, B1.at_ rfl, B1.at_ rfl, B1.at_ rfl⟩) | (have B2 := HBX.out.below (undrew b2); exact ⟨B2.at_ rfl, B2.at_ rfl, B2.at_ rfl, B2.at_ rfl, B2.at_ rfl, B2.at_ rfl, B2.at_ rfl, B2.at_ rfl⟩) | (have B3 := (HBX.out.below (undrew b2)).below b3; exact ⟨B3.at_ rfl, B3.at_ rfl, B3.at_ rfl, B3.at_ rfl, B3.at_ rfl, B3.at_ rfl, B3.at_ rfl, B3.at_ rfl⟩)) (first | (go_at_call 76; (with_reducible refine (HA.out _).mono ?_); rintro e w2 ⟨rfl, b2⟩) | (go_at_call 76; (with_reducible refine (HB.out _).mono ?_); rintro e w3 ⟨rfl, b3⟩))
    all_goals
      go_wp2
      go_ret
      exact ⟨rfl, HBW.out.trans (((undrew b2).mono (by simp)).trans (b3.mono (Nat.le_trans (by simp) b2.size)))⟩

end Go.Proofs.Ytgeaccoobhigcaa
