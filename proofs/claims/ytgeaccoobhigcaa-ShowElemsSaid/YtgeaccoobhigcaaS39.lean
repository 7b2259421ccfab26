/-
  show's example holds.
-/
import Derived.Test.YtgeaccoobhigcaaS38
namespace Go.Proofs.Ytgeaccoobhigcaa
open Go Go.RowKit

theorem showProd_any (p : ProdR) (w : World) (h : p.Mem w) (hn : condsN p.conds ≤ 1000000) : Calls Try.prog 34 #[p.val] w fun e w' => e = .returned (.tuple #[.string (prodTx p.abs), .int .i64 (shapeE p.abs)]) ∧ Below w.heap.size w w' := by
  by_cases he : shapeE p.abs = 0
  · have := showProd_good p w h hn he
    rw [he]; exact this
  · exact showProd_bad p w h hn he
theorem refProd_any (p : ProdR) (w : World) (h : p.Mem w) (hn : condsN p.conds ≤ 1000000) : Calls Try.prog 35 #[p.val] w fun e w' => e = .returned (.tuple #[.string (prodTx p.abs), .int .i64 (shapeE p.abs)]) ∧ Below w.heap.size w w' := by
  by_cases he : shapeE p.abs = 0
  · have := refProd_good p w h hn he
    rw [he]; exact this
  · exact refProd_bad p w h hn he

def onePd : Pd := ⟨⟨#[97]⟩, [.mk 1 true ⟨#[115]⟩ [⟨1, ⟨#[]⟩, ⟨3, ⟨#[120]⟩, 0⟩, []⟩] [⟨1, ⟨#[]⟩, ⟨2, ⟨#[]⟩, 1⟩, []⟩] false []], [oneAct]⟩
theorem oneP_abs (A B C D : Nat) : (oneP A B C D).abs = onePd := rfl
theorem onePd_shape : shapeE onePd = 0 := by decide +kernel
theorem onePd_text : prodTx onePd = ⟨#[115, 112, 32, 123, 97, 10, 32, 32, 40, 115, 116, 97, 116, 101, 32, 60, 115, 62, 32, 94, 120, 32, 49, 41, 10, 45, 45, 62, 10, 32, 32, 40, 60, 115, 62, 32, 94, 121, 32, 50, 32, 43, 41, 10, 125, 10]⟩ := by decide +kernel

set_option maxRecDepth 100000 in
theorem wakes7_any (w : World) : Calls Try.prog 32 #[] w fun e w' => e = .returned (.bool true) ∧ Below w.heap.size w w' := by
  go_enter Try.func32, Try.ntmps32
  go_wp2_with (first | (go_at_call 61; refine (one_any _).mono ?_; rintro e w2 ⟨A, B, C, D, rfl, hm, b2⟩; have hP := showProd_any _ _ hm (Nat.le_of_ble_eq_true rfl); rw [oneP_abs, onePd_shape, onePd_text] at hP; have HP := Lib.hid hP; have B2 := Lib.hid b2; clear hm b2 hP) | (go_at_call 34; refine HP.out.mono ?_; rintro e w3 ⟨rfl, b3⟩; have B3 := Lib.hid (below_trans B2.out b3)))
  go_ret
  exact ⟨rfl, B3.out⟩
end Go.Proofs.Ytgeaccoobhigcaa
