/-
  The texts of actions: the document's.
-/
import Derived.Test.YtgeaccoobhigcaaS8
namespace Go.Proofs.Ytgeaccoobhigcaa
open Go Go.RowKit

theorem below_undrew2 {n : Nat} {a b : World} (h : Below n a.drew b) : Below n a b := ⟨h.os, h.tape, h.output, h.size, h.block⟩

def signC : Array Value := #[.string ⟨#[]⟩, .string ⟨#[43]⟩, .string ⟨#[45]⟩, .string ⟨#[33]⟩, .string ⟨#[126]⟩, .string ⟨#[62]⟩, .string ⟨#[60]⟩, .string ⟨#[61]⟩, .string ⟨#[62]⟩, .string ⟨#[60]⟩, .string ⟨#[61]⟩]
theorem signs_cell (p : Int) (h1 : 1 ≤ p) (h2 : p ≤ 10) (W : World) : (W.alloc (.cells #[.string ⟨#[]⟩, .string ⟨#[43]⟩, .string ⟨#[45]⟩, .string ⟨#[33]⟩, .string ⟨#[126]⟩, .string ⟨#[62]⟩, .string ⟨#[60]⟩, .string ⟨#[61]⟩, .string ⟨#[62]⟩, .string ⟨#[60]⟩, .string ⟨#[61]⟩] 9)).cell? ⟨W.heap.size, p.toNat, none⟩ = some (.string ⟨signL p⟩) := by
  rw [cell_of_row _ _ _ _ _ _ (heap_alloc_new W _)]
  rcases (show p = 1 ∨ p = 2 ∨ p = 3 ∨ p = 4 ∨ p = 5 ∨ p = 6 ∨ p = 7 ∨ p = 8 ∨ p = 9 ∨ p = 10 by omega) with rfl | rfl | rfl | rfl | rfl | rfl | rfl | rfl | rfl | rfl <;> rfl

set_option maxRecDepth 100000 in
set_option maxHeartbeats 8000000 in
theorem refAct_any (a : Ac) (h : a.Small) (hp1 : 1 ≤ a.pref) (hp2 : a.pref ≤ 10) (ho1 : 0 ≤ a.value.op) (ho2 : a.value.op ≤ 3) (w : World) :
    Calls Try.prog 41 #[a.val] w fun x w' => x = .returned (.string (actS a)) ∧ Below w.heap.size w w' := by
  have hC := fun w => refAtom_any a.attr h.attr.v h.attr.s w
  have hV := fun w => refTerm_any a.value h.va h.vb w
  rw [termS_eq ho1 ho2] at hV
  have hO := fun w => refAtom_any a.other h.other.v h.other.s w
  have hcell := fun w : World => signs_cell a.pref hp1 hp2 w
  have zi := h.id
  have zc := atomS_size a.attr h.attr.v
  have zv := termS_size a.value h.va h.vb
  have zo := atomS_size a.other h.other.v
  have zg := signL_size a.pref
  have hmix : Try.prog.follows .mixedOrders = true := by kernel_rfl
  obtain ⟨id, ⟨cv, ck, ct, cn⟩, ⟨op, ⟨av, ak, at_, an⟩, ⟨bv, bk, bt, bn⟩⟩, pref, ⟨ov, ok, ot, on_⟩⟩ := a
  unfold actS actHead Ac.val
  simp only at hC hV hO hcell hp1 hp2 zi zc zv zo zg ⊢
  clear h ho1 ho2
  generalize atomS ⟨cv, ck, ct, cn⟩ = C at hC zc ⊢
  generalize termS ⟨op, ⟨av, ak, at_, an⟩, ⟨bv, bk, bt, bn⟩⟩ = V at hV zv ⊢
  generalize atomS ⟨ov, ok, ot, on_⟩ = O at hO zo ⊢
  generalize (⟨signL pref⟩ : ByteArray) = G at hcell zg ⊢
  unfold Am.val at hC hO
  unfold Tm.val at hV
  simp only at hC hV hO
  have HC := Lib.hid hC
  have HV := Lib.hid hV
  have HO := Lib.hid hO
  clear hC hV hO
  have hbx := BoxC.new w [.string id, .string cv, .int .i64 ck, .string ct, .int .i64 cn, .int .i64 op, .string av, .int .i64 ak, .string at_, .int .i64 an, .string bv, .int .i64 bk, .string bt, .int .i64 bn, .int .i64 pref, .string ov, .int .i64 ok, .string ot, .int .i64 on_] 69
  have hbw : Below w.heap.size w (w.alloc (.cells #[.string id, .string cv, .int .i64 ck, .string ct, .int .i64 cn, .int .i64 op, .string av, .int .i64 ak, .string at_, .int .i64 an, .string bv, .int .i64 bk, .string bt, .int .i64 bn, .int .i64 pref, .string ov, .int .i64 ok, .string ot, .int .i64 on_] 69)) := (Below.refl _ w).alloc (Nat.le_refl _) _
  have HBX : Hid (BoxC (w.alloc (.cells #[.string id, .string cv, .int .i64 ck, .string ct, .int .i64 cn, .int .i64 op, .string av, .int .i64 ak, .string at_, .int .i64 an, .string bv, .int .i64 bk, .string bt, .int .i64 bn, .int .i64 pref, .string ov, .int .i64 ok, .string ot, .int .i64 on_] 69)) w.heap.size 69 [.string id, .string cv, .int .i64 ck, .string ct, .int .i64 cn, .int .i64 op, .string av, .int .i64 ak, .string at_, .int .i64 an, .string bv, .int .i64 bk, .string bt, .int .i64 bn, .int .i64 pref, .string ov, .int .i64 ok, .string ot, .int .i64 on_]) := Lib.hid hbx
  have HBW := Lib.hid hbw
  clear hbx hbw
  have p0 := fun w => run_string_add_sum (P := Try.prog) w ((⟨#[40, 60]⟩ : ByteArray)) id (by show 2 + id.size ≤ _; omega)
  have p1 := fun w => run_string_add_sum (P := Try.prog) w ((⟨#[40, 60]⟩ : ByteArray) ++ id) ⟨#[62, 32, 94]⟩ (by simp only [cat2_size]; show 2 + id.size + 3 ≤ _; omega)
  have p2 := fun w => run_string_add_sum (P := Try.prog) w ((⟨#[40, 60]⟩ : ByteArray) ++ id ++ ⟨#[62, 32, 94]⟩) C (by simp only [cat2_size]; show 2 + id.size + 3 + C.size ≤ _; omega)
  have p3 := fun w => run_string_add_sum (P := Try.prog) w ((⟨#[40, 60]⟩ : ByteArray) ++ id ++ ⟨#[62, 32, 94]⟩ ++ C) ⟨#[32]⟩ (by simp only [cat2_size]; show 2 + id.size + 3 + C.size + 1 ≤ _; omega)
  have p4 := fun w => run_string_add_sum (P := Try.prog) w ((⟨#[40, 60]⟩ : ByteArray) ++ id ++ ⟨#[62, 32, 94]⟩ ++ C ++ ⟨#[32]⟩) V (by simp only [cat2_size]; show 2 + id.size + 3 + C.size + 1 + V.size ≤ _; omega)
  have p5 := fun w => run_string_add_sum (P := Try.prog) w ((⟨#[40, 60]⟩ : ByteArray) ++ id ++ ⟨#[62, 32, 94]⟩ ++ C ++ ⟨#[32]⟩ ++ V) ⟨#[32]⟩ (by simp only [cat2_size]; show 2 + id.size + 3 + C.size + 1 + V.size + 1 ≤ _; omega)
  have p6 := fun w => run_string_add_sum (P := Try.prog) w ((⟨#[40, 60]⟩ : ByteArray) ++ id ++ ⟨#[62, 32, 94]⟩ ++ C ++ ⟨#[32]⟩ ++ V ++ ⟨#[32]⟩) G (by simp only [cat2_size]; show 2 + id.size + 3 + C.size + 1 + V.size + 1 + G.size ≤ _; omega)
  have hpp : pref < 11 := by omega
  have hp0 : 0 ≤ pref := by omega
  by_cases hp : 8 ≤ pref
  · rw [if_pos ⟨hp, hp2⟩]
    rw [cat_assoc _ ⟨#[32]⟩ O]
    have q0 := fun w => run_string_add_sum (P := Try.prog) w (⟨#[32]⟩ : ByteArray) O (by show 1 + O.size ≤ _; omega)
    have q1 := fun w => run_string_add_sum (P := Try.prog) w ((⟨#[40, 60]⟩ : ByteArray) ++ id ++ ⟨#[62, 32, 94]⟩ ++ C ++ ⟨#[32]⟩ ++ V ++ ⟨#[32]⟩ ++ G) (⟨#[32]⟩ ++ O) (by simp only [cat2_size]; show 2 + id.size + 3 + C.size + 1 + V.size + 1 + G.size + (1 + O.size) ≤ _; omega)
    have q2 := fun w => run_string_add_sum (P := Try.prog) w ((⟨#[40, 60]⟩ : ByteArray) ++ id ++ ⟨#[62, 32, 94]⟩ ++ C ++ ⟨#[32]⟩ ++ V ++ ⟨#[32]⟩ ++ G ++ (⟨#[32]⟩ ++ O)) ⟨#[41]⟩ (by simp only [cat2_size]; show 2 + id.size + 3 + C.size + 1 + V.size + 1 + G.size + (1 + O.size) + 1 ≤ _; omega)
    go_enter Try.func41, Try.ntmps41
    go_wp2
    go_region_held3 (fun w' => w'.cell? ⟨w.heap.size, 0, none⟩ = some (.string id) ∧ w'.cell? ⟨w.heap.size, 1, none⟩ = some (.string cv) ∧ w'.cell? ⟨w.heap.size, 2, none⟩ = some (.int .i64 ck) ∧ w'.cell? ⟨w.heap.size, 3, none⟩ = some (.string ct) ∧ w'.cell? ⟨w.heap.size, 4, none⟩ = some (.int .i64 cn) ∧ w'.cell? ⟨w.heap.size, 5, none⟩ = some (.int .i64 op) ∧ w'.cell? ⟨w.heap.size, 6, none⟩ = some (.string av) ∧ w'.cell? ⟨w.heap.size, 7, none⟩ = some (.int .i64 ak) ∧ w'.cell? ⟨w.heap.size, 8, none⟩ = some (.string at_) ∧ w'.cell? ⟨w.heap.size, 9, none⟩ = some (.int .i64 an) ∧ w'.cell? ⟨w.heap.size, 10, none⟩ = some (.string bv) ∧ w'.cell? ⟨w.heap.size, 11, none⟩ = some (.int .i64 bk) ∧ w'.cell? ⟨w.heap.size, 12, none⟩ = some (.string bt) ∧ w'.cell? ⟨w.heap.size, 13, none⟩ = some (.int .i64 bn) ∧ w'.cell? ⟨w.heap.size, 14, none⟩ = some (.int .i64 pref)) (first | (have B1 := HBX.out; exact ⟨B1.at_ rfl, B1.at_ rfl, B1.at_ rfl, B1.at_ rfl, B1.at_ rfl, B1.at_ rfl, B1.at_ rfl, B1.at_ rfl, B1.at_ rfl, B1.at_ rfl, B1.at_ rfl, B1.at_ rfl, B1.at_ rfl, B1.at_ rfl, B1.at_ rfl⟩) | (have B2 := HBX.out.below (undrew b2); exact ⟨B2.at_ rfl, B2.at_ rfl, B2.at_ rfl, B2.at_ rfl, B2.at_ rfl, B2.at_ rfl, B2.at_ rfl, B2.at_ rfl, B2.at_ rfl, B2.at_ rfl, B2.at_ rfl, B2.at_ rfl, B2.at_ rfl, B2.at_ rfl, B2.at_ rfl⟩) | (have B3 := (HBX.out.below (undrew b2)).below b3; exact ⟨B3.at_ rfl, B3.at_ rfl, B3.at_ rfl, B3.at_ rfl, B3.at_ rfl, B3.at_ rfl, B3.at_ rfl, B3.at_ rfl, B3.at_ rfl, B3.at_ rfl, B3.at_ rfl, B3.at_ rfl, B3.at_ rfl, B3.at_ rfl, B3.at_ rfl⟩)) (first | (go_at_call 76; (with_reducible refine (HC.out _).mono ?_); rintro e w2 ⟨rfl, b2⟩) | (go_at_call 77; (with_reducible refine (HV.out _).mono ?_); rintro e w3 ⟨rfl, b3⟩))
    have B3 := (HBX.out.below (undrew b2)).below b3
    have B4 := B3.below ((Below.refl _ w3).alloc (Nat.le_refl _) (.cells #[.string ⟨#[]⟩, .string ⟨#[43]⟩, .string ⟨#[45]⟩, .string ⟨#[33]⟩, .string ⟨#[126]⟩, .string ⟨#[62]⟩, .string ⟨#[60]⟩, .string ⟨#[61]⟩, .string ⟨#[62]⟩, .string ⟨#[60]⟩, .string ⟨#[61]⟩] 9))
    have x14 := B4.at_ (j := 14) rfl
    have x15 := B4.at_ (j := 15) rfl
    have x16 := B4.at_ (j := 16) rfl
    have x17 := B4.at_ (j := 17) rfl
    have x18 := B4.at_ (j := 18) rfl
    clear B3 B4
    go_wp2_with (go_at_call 76; refine (HO.out _).mono ?_; rintro e w5 ⟨rfl, b5⟩)
    go_ret
    have bb := HBW.out.trans (((undrew b2).mono (by simp)).trans (b3.mono (Nat.le_trans (by simp) b2.size)))
    exact ⟨rfl, (bb.alloc bb.size _).trans (b5.mono (Nat.le_trans bb.size (by simp)))⟩
  · rw [if_neg (fun h => hp h.1)]
    have q0 := fun w => run_string_add_sum (P := Try.prog) w ((⟨#[40, 60]⟩ : ByteArray) ++ id ++ ⟨#[62, 32, 94]⟩ ++ C ++ ⟨#[32]⟩ ++ V ++ ⟨#[32]⟩ ++ G) ⟨#[41]⟩ (by simp only [cat2_size]; show 2 + id.size + 3 + C.size + 1 + V.size + 1 + G.size + 1 ≤ _; omega)
    go_enter Try.func41, Try.ntmps41
    go_wp2
    go_region_held3 (fun w' => w'.cell? ⟨w.heap.size, 0, none⟩ = some (.string id) ∧ w'.cell? ⟨w.heap.size, 1, none⟩ = some (.string cv) ∧ w'.cell? ⟨w.heap.size, 2, none⟩ = some (.int .i64 ck) ∧ w'.cell? ⟨w.heap.size, 3, none⟩ = some (.string ct) ∧ w'.cell? ⟨w.heap.size, 4, none⟩ = some (.int .i64 cn) ∧ w'.cell? ⟨w.heap.size, 5, none⟩ = some (.int .i64 op) ∧ w'.cell? ⟨w.heap.size, 6, none⟩ = some (.string av) ∧ w'.cell? ⟨w.heap.size, 7, none⟩ = some (.int .i64 ak) ∧ w'.cell? ⟨w.heap.size, 8, none⟩ = some (.string at_) ∧ w'.cell? ⟨w.heap.size, 9, none⟩ = some (.int .i64 an) ∧ w'.cell? ⟨w.heap.size, 10, none⟩ = some (.string bv) ∧ w'.cell? ⟨w.heap.size, 11, none⟩ = some (.int .i64 bk) ∧ w'.cell? ⟨w.heap.size, 12, none⟩ = some (.string bt) ∧ w'.cell? ⟨w.heap.size, 13, none⟩ = some (.int .i64 bn) ∧ w'.cell? ⟨w.heap.size, 14, none⟩ = some (.int .i64 pref)) (first | (have B1 := HBX.out; exact ⟨B1.at_ rfl, B1.at_ rfl, B1.at_ rfl, B1.at_ rfl, B1.at_ rfl, B1.at_ rfl, B1.at_ rfl, B1.at_ rfl, B1.at_ rfl, B1.at_ rfl, B1.at_ rfl, B1.at_ rfl, B1.at_ rfl, B1.at_ rfl, B1.at_ rfl⟩) | (have B2 := HBX.out.below (undrew b2); exact ⟨B2.at_ rfl, B2.at_ rfl, B2.at_ rfl, B2.at_ rfl, B2.at_ rfl, B2.at_ rfl, B2.at_ rfl, B2.at_ rfl, B2.at_ rfl, B2.at_ rfl, B2.at_ rfl, B2.at_ rfl, B2.at_ rfl, B2.at_ rfl, B2.at_ rfl⟩) | (have B3 := (HBX.out.below (undrew b2)).below b3; exact ⟨B3.at_ rfl, B3.at_ rfl, B3.at_ rfl, B3.at_ rfl, B3.at_ rfl, B3.at_ rfl, B3.at_ rfl, B3.at_ rfl, B3.at_ rfl, B3.at_ rfl, B3.at_ rfl, B3.at_ rfl, B3.at_ rfl, B3.at_ rfl, B3.at_ rfl⟩)) (first | (go_at_call 76; (with_reducible refine (HC.out _).mono ?_); rintro e w2 ⟨rfl, b2⟩) | (go_at_call 77; (with_reducible refine (HV.out _).mono ?_); rintro e w3 ⟨rfl, b3⟩))
    have B3 := (HBX.out.below (undrew b2)).below b3
    have B4 := B3.below ((Below.refl _ w3).alloc (Nat.le_refl _) (.cells #[.string ⟨#[]⟩, .string ⟨#[43]⟩, .string ⟨#[45]⟩, .string ⟨#[33]⟩, .string ⟨#[126]⟩, .string ⟨#[62]⟩, .string ⟨#[60]⟩, .string ⟨#[61]⟩, .string ⟨#[62]⟩, .string ⟨#[60]⟩, .string ⟨#[61]⟩] 9))
    have x14 := B4.at_ (j := 14) rfl
    have x15 := B4.at_ (j := 15) rfl
    have x16 := B4.at_ (j := 16) rfl
    have x17 := B4.at_ (j := 17) rfl
    have x18 := B4.at_ (j := 18) rfl
    clear B3 B4
    go_wp2
    go_ret
    have bb := HBW.out.trans (((undrew b2).mono (by simp)).trans (b3.mono (Nat.le_trans (by simp) b2.size)))
    exact ⟨rfl, bb.alloc bb.size _⟩

end Go.Proofs.Ytgeaccoobhigcaa
