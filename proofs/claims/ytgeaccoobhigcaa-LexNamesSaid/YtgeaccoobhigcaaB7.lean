/-
  ponderlaw05.wakes.
-/
import Derived.Test.YtgeaccoobhigcaaB6
import Derived.Test.YtgeaccoobhigcaaAl
namespace Go.Proofs.Ytgeaccoobhigcaa
open Go Go.RowKit

theorem wakes_toks : toks [40, 60, 115, 62, 32, 94, 120, 32, 45, 53, 41] = [⟨4, [40], 0⟩, ⟨3, [115], 1⟩, ⟨4, [94], 5⟩, ⟨1, [120], 6⟩, ⟨2, [45, 53], 8⟩, ⟨4, [41], 10⟩, ⟨5, [], 11⟩] := by kernel_rfl

set_option maxHeartbeats 2000000 in
set_option maxRecDepth 100000 in
theorem wakes_any (w : World) : Calls Try.prog 21 #[] w fun e w' => e = .returned (.bool true) ∧ Below w.heap.size w w' := by
  have hla := fun w => lexAll_any ⟨#[40, 60, 115, 62, 32, 94, 120, 32, 45, 53, 41]⟩ (by decide) w
  rw [show (ByteArray.mk #[40, 60, 115, 62, 32, 94, 120, 32, 45, 53, 41]).data.toList = [40, 60, 115, 62, 32, 94, 120, 32, 45, 53, 41] from rfl, wakes_toks] at hla
  have HLA := Lib.hid hla
  clear hla
  go_enter Try.func21, Try.ntmps21
  go_wp2_with (go_at_call 24; refine (HLA.out _).mono ?_; rintro e w1 ⟨go, c, rfl, hsl, _, hbl⟩; obtain ⟨g, o, rfl, x0, x1, x2⟩ := hsl.tok (k := 1) rfl; obtain ⟨g4, o4, e4, y0, y1, y2⟩ := hsl.tok (k := 4) rfl; obtain ⟨g6, o6, e6, z0, z1, z2⟩ := hsl.tok (k := 6) rfl; cases e4; cases e6; unfold strV at x1 y1 z1; simp only [Nat.reduceMul, Nat.add_assoc, Nat.reduceAdd] at x0 x1 x2 y0 y1 y2 z0 z1 z2; clear hsl)
  go_ret
  exact ⟨rfl, hbl⟩
end Go.Proofs.Ytgeaccoobhigcaa
