/-
  The contracts of Push, where it takes, of the bounded queue, at ints and at strings.
-/
import Derived.Test.YtkogdiglpncolaaLib
import Derived.Deep.QuietTactic
import Derived.BigQuiet
import Derived.Deep.AppendLies
import Derived.Deep.RegionLaw
namespace Go.Proofs.Ytkogdiglpncolaa
open Go.RowKit


set_option maxHeartbeats 4000000 in
theorem push_yes_int (b : Nat) (room : Int) (n c m d : Nat) (ao bo : Option Addr) (w : World) (xs ys : List Value)
   (hb : w.heap[b]? = some (.cells #[.int .i64 room, .slice ao n c] 62 (0, 0))) (hr : 0 ≤ room) (hr2 : room ≤ 65536) (hx : SlR w 1 ao n c xs) (hoff : OffB b ao n) (hy : SlR w 1 bo m d ys)
   (hlt : (m : Int) ≤ room - n) :
    Calls Try.prog 22 #[.pointer (some ⟨b, 0, none⟩), .slice bo m d] w fun e w' => e = .returned (.bool true) ∧
      ∃ go c', w'.heap[b]? = some (.cells #[.int .i64 room, .slice go (n + m) c'] 62 (0, 0)) ∧ SlR w' 1 go (n + m) c' (xs ++ ys) ∧ (∀ K : Nat → Prop, InB K ao n → K w.heap.size → InB K go (n + m)) ∧ w.grownBy w' (some b) := by
  obtain ⟨i0, hi, hz0, hz1, hz2⟩ := info_parts Try.info3
  obtain ⟨h1, h2, h3, h4⟩ := two_cells hb
  have hbl : b < w.heap.size := lt_of_block hb
  have hc : (n : Int) ≤ c := by have := hx.2.1; omega
  have hm : (m : Int) ≤ 65536 := by omega
  have hn : (n : Int) ≤ 65536 := by omega
  have HB := Lib.hid hb; clear hb
  go_enter Try.func22, Try.ntmps22
  go_wp2_with fail
  go_quiet (fail)
  go_wp2_with fail
  go_region_law (
    ((refine step_append_full (by rfl) _ _ _ (by rfl) 3 i0 (.int .i64 0) 1 8 Try.underlying22 hi hz0 hz1 hz2 ao bo n m d xs ys (by rfl) (by rfl) hx.full.drew.drew hy.drew.drew (by unfold maxLen; omega) (by omega) ?_; intro go c' w1 hsl hgrow hwhere; have k0 := (hgrow.cell_far ⟨b, 0, none⟩ hbl (by simp)).trans h1; have k1 := (hgrow.cell_far ⟨b, 1, none⟩ hbl (by simp)).trans h2; have k2 := (hgrow.frozen_far ⟨b, 1, none⟩ hbl (by simp)).trans h4)))
  all_goals go_wp2_with fail
  all_goals go_ret
  all_goals
    have hin' : ∀ K : Nat → Prop, InB K ao n → K w.heap.size → InB K go (n + m) := by
      intro K hK hw a ha hp
      rcases hwhere with ⟨h, h0⟩ | h
      · subst h h0; exact hK a ha (by omega)
      · rw [h] at ha; cases ha; exact hw
    have hoff' : OffB b go (n + m) := hin' (fun k => k ≠ b) hoff (Nat.ne_of_gt hbl)
    exact ⟨rfl, go, c', two_setCell ((hgrow.block b hbl (by simp)).trans HB.out), hsl.grown (grownBy_setCell _ _ _) (fun b' e => by cases e; exact hoff'), hin', grownBy_trans (grownBy_some _ (grownBy_of_drewN (grownBy_of_drew hgrow))) (grownBy_setCell _ _ _)⟩

end Go.Proofs.Ytkogdiglpncolaa

