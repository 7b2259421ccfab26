/-
  The walk of the law ShowElems.
-/
import Derived.Test.YtgeaccoobhigcaaS39
import Derived.Test.YtgeaccoobhigcaaS7
namespace Go.Proofs.Ytgeaccoobhigcaa
open Go Go.RowKit

set_option maxRecDepth 100000 in
set_option maxHeartbeats 4000000 in
theorem showElems_walk (e : El) (w : World) (hi : e.i.t.size ≤ 9223372036854775807) (ha : e.a.t.size ≤ 9223372036854775807) (hv : e.v.t.size ≤ 9223372036854775807) :
    Calls Try.prog 13 #[e.val] w fun x w' => x = .returned (.bool true) ∧ Below w.heap.size w w' := by
  have hE := fun w => showElem_any e hi ha hv w
  have hR := fun w => refElem_any e hi ha hv w
  obtain ⟨⟨ik, it, n1⟩, ⟨ak, at_, n2⟩, ⟨vk, vt, n3⟩, acc, goal, tag⟩ := e
  unfold El.val at hE hR ⊢
  simp only at hE hR hi ha hv ⊢
  generalize elemS _ = S at hE hR
  have HE := Lib.hid hE
  have HR := Lib.hid hR
  have hmix : Try.prog.follows .mixedOrders = true := by kernel_rfl
  have hb1 := below_new w (.cells #[.int .i64 ik, .string it, .int .i64 n1, .int .i64 ak, .string at_, .int .i64 n2, .int .i64 vk, .string vt, .int .i64 n3, .bool acc, .bool goal, .int .i64 tag] 74)
  have hbx : BoxC (w.alloc (.cells #[.int .i64 ik, .string it, .int .i64 n1, .int .i64 ak, .string at_, .int .i64 n2, .int .i64 vk, .string vt, .int .i64 n3, .bool acc, .bool goal, .int .i64 tag] 74)) w.heap.size 74 [.int .i64 ik, .string it, .int .i64 n1, .int .i64 ak, .string at_, .int .i64 n2, .int .i64 vk, .string vt, .int .i64 n3, .bool acc, .bool goal, .int .i64 tag] := BoxC.new w _ 74
  have HB1 := Lib.hid hb1
  have HBX : Hid (BoxC (w.alloc (.cells #[.int .i64 ik, .string it, .int .i64 n1, .int .i64 ak, .string at_, .int .i64 n2, .int .i64 vk, .string vt, .int .i64 n3, .bool acc, .bool goal, .int .i64 tag] 74)) w.heap.size 74 [.int .i64 ik, .string it, .int .i64 n1, .int .i64 ak, .string at_, .int .i64 n2, .int .i64 vk, .string vt, .int .i64 n3, .bool acc, .bool goal, .int .i64 tag]) := Lib.hid hbx
  clear hE hR hb1 hbx
  by_cases h1 : (100 : Int) < (it.size : Int)
  · go_enter Try.func13, Try.ntmps13
    go_wp2_with (go_at_call 32; refine (wakes7_any _).mono ?_; rintro e w2 ⟨rfl, b2⟩)
    go_ret
    exact ⟨rfl, below_trans HB1.out b2⟩
  by_cases h2 : (100 : Int) < (at_.size : Int)
  · go_enter Try.func13, Try.ntmps13
    go_wp2_with (go_at_call 32; refine (wakes7_any _).mono ?_; rintro e w2 ⟨rfl, b2⟩)
    go_ret
    exact ⟨rfl, below_trans HB1.out b2⟩
  by_cases h3 : (100 : Int) < (vt.size : Int)
  · go_enter Try.func13, Try.ntmps13
    go_wp2_with (go_at_call 32; refine (wakes7_any _).mono ?_; rintro e w2 ⟨rfl, b2⟩)
    go_ret
    exact ⟨rfl, below_trans HB1.out b2⟩
  · go_enter Try.func13, Try.ntmps13
    go_wp2
    go_region_held3 (fun w' => w'.cell? ⟨w.heap.size, 0, none⟩ = some (.int .i64 ik) ∧ w'.cell? ⟨w.heap.size, 1, none⟩ = some (.string it) ∧ w'.cell? ⟨w.heap.size, 2, none⟩ = some (.int .i64 n1) ∧ w'.cell? ⟨w.heap.size, 3, none⟩ = some (.int .i64 ak) ∧ w'.cell? ⟨w.heap.size, 4, none⟩ = some (.string at_) ∧ w'.cell? ⟨w.heap.size, 5, none⟩ = some (.int .i64 n2) ∧ w'.cell? ⟨w.heap.size, 6, none⟩ = some (.int .i64 vk) ∧ w'.cell? ⟨w.heap.size, 7, none⟩ = some (.string vt) ∧ w'.cell? ⟨w.heap.size, 8, none⟩ = some (.int .i64 n3) ∧ w'.cell? ⟨w.heap.size, 9, none⟩ = some (.bool acc) ∧ w'.cell? ⟨w.heap.size, 10, none⟩ = some (.bool goal) ∧ w'.cell? ⟨w.heap.size, 11, none⟩ = some (.int .i64 tag)) (first | (have B := ((HBX.out.below (undrew b2)).below b3).below b4; exact ⟨B.at_ rfl, B.at_ rfl, B.at_ rfl, B.at_ rfl, B.at_ rfl, B.at_ rfl, B.at_ rfl, B.at_ rfl, B.at_ rfl, B.at_ rfl, B.at_ rfl, B.at_ rfl⟩) | (have B := ((HBX.out.below (undrew b2)).below b3).below (undrew b4); exact ⟨B.at_ rfl, B.at_ rfl, B.at_ rfl, B.at_ rfl, B.at_ rfl, B.at_ rfl, B.at_ rfl, B.at_ rfl, B.at_ rfl, B.at_ rfl, B.at_ rfl, B.at_ rfl⟩) | (have B := ((HBX.out.below (undrew b2)).below (undrew b3)).below b4; exact ⟨B.at_ rfl, B.at_ rfl, B.at_ rfl, B.at_ rfl, B.at_ rfl, B.at_ rfl, B.at_ rfl, B.at_ rfl, B.at_ rfl, B.at_ rfl, B.at_ rfl, B.at_ rfl⟩) | (have B := ((HBX.out.below (undrew b2)).below (undrew b3)).below (undrew b4); exact ⟨B.at_ rfl, B.at_ rfl, B.at_ rfl, B.at_ rfl, B.at_ rfl, B.at_ rfl, B.at_ rfl, B.at_ rfl, B.at_ rfl, B.at_ rfl, B.at_ rfl, B.at_ rfl⟩) | (have B := ((HBX.out.below b2).below b3).below b4; exact ⟨B.at_ rfl, B.at_ rfl, B.at_ rfl, B.at_ rfl, B.at_ rfl, B.at_ rfl, B.at_ rfl, B.at_ rfl, B.at_ rfl, B.at_ rfl, B.at_ rfl, B.at_ rfl⟩) | (have B := ((HBX.out.below b2).below b3).below (undrew b4); exact ⟨B.at_ rfl, B.at_ rfl, B.at_ rfl, B.at_ rfl, B.at_ rfl, B.at_ rfl, B.at_ rfl, B.at_ rfl, B.at_ rfl, B.at_ rfl, B.at_ rfl, B.at_ rfl⟩) | (have B := ((HBX.out.below b2).below (undrew b3)).below b4; exact ⟨B.at_ rfl, B.at_ rfl, B.at_ rfl, B.at_ rfl, B.at_ rfl, B.at_ rfl, B.at_ rfl, B.at_ rfl, B.at_ rfl, B.at_ rfl, B.at_ rfl, B.at_ rfl⟩) | (have B := ((HBX.out.below b2).below (undrew b3)).below (undrew b4); exact ⟨B.at_ rfl, B.at_ rfl, B.at_ rfl, B.at_ rfl, B.at_ rfl, B.at_ rfl, B.at_ rfl, B.at_ rfl, B.at_ rfl, B.at_ rfl, B.at_ rfl, B.at_ rfl⟩) | (have B := HBX.out; exact ⟨B.at_ rfl, B.at_ rfl, B.at_ rfl, B.at_ rfl, B.at_ rfl, B.at_ rfl, B.at_ rfl, B.at_ rfl, B.at_ rfl, B.at_ rfl, B.at_ rfl, B.at_ rfl⟩) | (have B := HBX.out.below (undrew b2); exact ⟨B.at_ rfl, B.at_ rfl, B.at_ rfl, B.at_ rfl, B.at_ rfl, B.at_ rfl, B.at_ rfl, B.at_ rfl, B.at_ rfl, B.at_ rfl, B.at_ rfl, B.at_ rfl⟩) | (have B := (HBX.out.below (undrew b2)).below b3; exact ⟨B.at_ rfl, B.at_ rfl, B.at_ rfl, B.at_ rfl, B.at_ rfl, B.at_ rfl, B.at_ rfl, B.at_ rfl, B.at_ rfl, B.at_ rfl, B.at_ rfl, B.at_ rfl⟩) | (have B := (HBX.out.below b2).below b3; exact ⟨B.at_ rfl, B.at_ rfl, B.at_ rfl, B.at_ rfl, B.at_ rfl, B.at_ rfl, B.at_ rfl, B.at_ rfl, B.at_ rfl, B.at_ rfl, B.at_ rfl, B.at_ rfl⟩) | (have B := HBX.out.below b2; exact ⟨B.at_ rfl, B.at_ rfl, B.at_ rfl, B.at_ rfl, B.at_ rfl, B.at_ rfl, B.at_ rfl, B.at_ rfl, B.at_ rfl, B.at_ rfl, B.at_ rfl, B.at_ rfl⟩)) (first | (go_at_call 42; refine (HE.out _).mono ?_; rintro e w2 ⟨rfl, b2⟩) | (go_at_call 43; refine (HR.out _).mono ?_; rintro e w3 ⟨rfl, b3⟩) | (go_at_call 32; refine (wakes7_any _).mono ?_; rintro e w4 ⟨rfl, b4⟩))
    all_goals
      go_wp2
      go_ret
      exact ⟨rfl, below_trans (below_trans (below_trans HB1.out (undrew b2)) b3) b4⟩
end Go.Proofs.Ytgeaccoobhigcaa
