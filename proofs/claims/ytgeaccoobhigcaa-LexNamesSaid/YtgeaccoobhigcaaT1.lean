/-
  The walk of the law LexTokens.
-/
import Derived.Test.YtgeaccoobhigcaaB7
import Derived.Test.YtgeaccoobhigcaaB5
namespace Go.Proofs.Ytgeaccoobhigcaa
open Go Go.RowKit

theorem below_drew {B : Nat} {a w : World} (h : Below B a w) (n : Nat) : Below B a (w.drewN n) := ⟨h.os, h.tape, h.output, h.size, h.block⟩
/-- What a slice reads behind a call that writes nothing that was there. -/
theorem SlR.kept {w w' : World} {size : Nat} {ao : Option Addr} {n c : Nat} {cs : List Value} (h : SlR w size ao n c cs) (hb : Below w.heap.size w w') : SlR w' size ao n c cs := by
  refine ⟨h.1, h.2.1, h.2.2.1, h.2.2.2.1, fun a ha j u hj => ?_⟩
  have hc := h.2.2.2.2 a ha j u hj
  exact (hb.cell (World.block_lt_of_cell? w _ hc)).trans hc

set_option maxHeartbeats 2000000 in
theorem lexTokens_walk (s : ByteArray) (w : World) (_ : s.size ≤ maxLen) :
    Calls Try.prog 3 #[.string s] w fun e w' => e = .returned (.bool true) ∧ Below w.heap.size w w' := by
  by_cases h3 : s.size ≤ 3000
  · have h3' : ¬ (3000 : Int) < (s.size : Int) := by omega
    have hra := fun w => refAll_any s (by omega) w
    have hla := fun w => lexAll_any s (by omega) w
    have hli := fun w Bt => tokList_any s Bt (by omega) w
    generalize hL : toks s.data.toList = L at hra hla hli
    have HRA := Lib.hid hra
    have HLA := Lib.hid hla
    have HLI := Lib.hid hli
    clear hra hla hli hL
    go_enter Try.func3, Try.ntmps3
    go_wp2_with (first
      | (go_at_call 22; refine (HRA.out _).mono ?_; rintro e w1 ⟨gr, cr, rfl, hr, _, b1⟩)
      | (go_at_call 24; refine (HLA.out _).mono ?_; rintro e w2 ⟨ga, ca, rfl, ha, _, b2⟩; replace hr := hr.kept b2; replace b1 := b1.trans (b2.mono b1.size); clear b2)
      | (go_at_call_of 23 (Value.slice ga L.length ca); refine (same_eq L ga gr ca cr _ ha hr).mono ?_; rintro e w3 ⟨rfl, q3, rfl⟩; clear ha)
      | (go_at_call 26; refine (tokens_any _ _).mono ?_; rintro e w4 ⟨rfl, rfl⟩)
      | (go_at_call 25; refine (HLI.out _ w2.heap.size (Boxed.new (w2.drewN q3) 9 (.string s))).mono ?_; rintro e w5 ⟨gb, cb, rfl, hb, _, b5⟩; have b25 : Below w2.heap.size w2 w5 := ((below_drew (Below.refl _ w2) q3).alloc (Nat.le_refl _) _).trans (b5.mono (by simp)); replace hr := hr.kept b25; replace b1 := b1.trans (b25.mono b1.size); clear b5 b25)
      | (go_at_call_of 23 (Value.slice gb L.length cb); refine (same_eq L gb gr cb cr _ hb hr).mono ?_; rintro e w6 ⟨rfl, q6, rfl⟩; clear hb hr)
      | (go_at_call 21; refine (wakes_any _).mono ?_; rintro e w7 ⟨rfl, b7⟩))
    go_ret
    exact ⟨rfl, (below_drew b1 q6).trans (b7.mono b1.size)⟩
  · have h3' : (3000 : Int) < (s.size : Int) := by omega
    clear h3
    go_enter Try.func3, Try.ntmps3
    go_wp2_with (go_at_call 21; refine (wakes_any _).mono ?_; rintro e w7 ⟨rfl, b7⟩)
    go_ret
    exact ⟨rfl, b7⟩
end Go.Proofs.Ytgeaccoobhigcaa
