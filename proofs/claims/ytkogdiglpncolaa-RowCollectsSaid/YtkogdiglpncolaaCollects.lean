/-
  The walk of the law RowCollects: it returns true and leaves what was there as it was, at every argument.
-/
import Derived.Test.YtkogdiglpncolaaMk
namespace Go.Proofs.Ytkogdiglpncolaa
open Go Go.RowKit

set_option maxHeartbeats 2000000 in
theorem rowCollects_walk (ao : Option Addr) (len cap : Nat) (zs : List Int) (most : Int) (w : World) (hz : IntSl w ao len cap zs) :
    Calls Try.prog 4 #[.slice ao len cap, .int .i64 most] w fun e w' => e = .returned (.bool true) ∧ Below w.heap.size w w' := by
  have bl : len ≤ 9223372036854775807 := by have := hz.2.1; have := hz.2.2.1; unfold maxLen at this; omega
  have hin := SlR.inB hz (by omega)
  have HL : Hid (zs.length = len) := Lib.hid (by have := hz.1; simpa using this)
  by_cases hbig : 100 < len
  · go_enter Try.func4, Try.ntmps4
    go_wp2_with fail
    refine (wakes_any _).mono ?_
    rintro e w' ⟨rfl, hg⟩
    go_wp2_with fail
    go_ret
    exact ⟨rfl, ((Below.refl _ w).alloc (Nat.le_refl _) _).trans (below_of_grown hg (by simp))⟩
  · have hAlloc : ∀ W0 : World, W0 = (w.alloc (.cells #[.slice ao len cap] 22)).alloc (.cells #[.int .i64 0] 3) →
        W0.heap.size = w.heap.size + 2 ∧ Below w.heap.size w W0 ∧ Boxed W0 w.heap.size 22 (.slice ao len cap) ∧ Boxed W0 (w.heap.size + 1) 3 (.int .i64 0) := by
      rintro W0 rfl
      refine ⟨by simp, ((Below.refl _ w).alloc (Nat.le_refl _) _).alloc (by simp) _, (Boxed.new w 22 _).alloc _, ?_⟩
      have := Boxed.new (w.alloc (.cells #[.slice ao len cap] 22)) 3 (.int .i64 0)
      rwa [World.size_alloc] at this
    have hcase : ∀ (n : Nat) (W0 : World), n = min most.toNat len → W0 = (w.alloc (.cells #[.slice ao len cap] 22)).alloc (.cells #[.int .i64 0] 3) →
        Calls Try.prog 16 #[.func (.func 15) #[] #[.pointer (some ⟨w.heap.size, 0, none⟩), .pointer (some ⟨w.heap.size + 1, 0, none⟩)], .int .i64 most] W0 fun e w' =>
          ∃ go c', e = .returned (.slice go n c') ∧ IntSl w' go n c' (zs.take n) ∧ Boxed w' w.heap.size 22 (.slice ao len cap) ∧ Boxed w' (w.heap.size + 1) 3 (.int .i64 n) ∧ IntSl w' ao n cap (zs.take n) ∧ Below w.heap.size w w' := by
      intro n W0 hn hW0
      obtain ⟨hs0, hb0, hx0, hy0⟩ := hAlloc W0 hW0
      clear hW0
      refine (collect_any 15 _ zs most (fun k W => W.heap[w.heap.size]? = some (.cells #[.slice ao len cap] 22 (0, 0)) ∧ IntSl W ao len cap zs ∧ W.heap[w.heap.size + 1]? = some (.cells #[.int .i64 k] 3 (0, 0))) (some (w.heap.size + 1)) W0
        (collects_iter w.heap.size (w.heap.size + 1) len cap ao zs (by omega) (fun a ha hn => by have := hin a ha hn; omega)) (fun _ _ => rfl) ⟨hx0, SlR.below hz hb0 hin, hy0⟩
        (fun k A B h hb => ⟨(hb.block _ (by omega)).trans h.1, SlR.below h.2.1 hb (fun a ha hn => by have := hin a ha hn; omega), (hb.block _ (by omega)).trans h.2.2⟩)
        (fun r h => by cases h; omega) (by rw [HL.out]; omega)).mono ?_
      rintro e w' ⟨go, c', rfl, hsl, hg, h1, h2, h3⟩
      rw [HL.out, ← hn] at hsl h3 ⊢
      have ht : zs.take most.toNat = zs.take n := by
        rcases Nat.lt_or_ge most.toNat len with h | h
        · rw [show n = most.toNat by omega]
        · rw [List.take_of_length_le (by rw [HL.out]; omega), List.take_of_length_le (by rw [HL.out]; omega)]
      rw [ht] at hsl
      exact ⟨go, c', rfl, hsl, h1, h3, SlR.take h2 (by omega), ⟨hg.os.trans hb0.os, hg.tape.trans hb0.tape, hg.output.trans hb0.output, Nat.le_trans hb0.size hg.size, fun i hi => (hg.block i (by omega) (by simp; omega)).trans (hb0.block i hi)⟩⟩
    clear hAlloc
    have hcap : (len : Int) ≤ cap := by have := hz.2.1; omega
    rcases (show most < 0 ∨ (0 ≤ most ∧ most ≤ len) ∨ (len : Int) < most by omega) with h | ⟨h0, h⟩ | h
    · replace hcase := hcase 0 _ (by omega) rfl
      go_enter Try.func4, Try.ntmps4
      go_wp2_with fail
      refine hcase.mono ?_
      rintro e w1 ⟨go, c', rfl, hsl, hx1, hy1, hsl2, hb1⟩
      have hxc := hx1.cell
      have hyc := hy1.cell
      go_wp2_with fail
      refine (ints_any go ao 0 c' 0 cap _ _ _ hsl hsl2).mono ?_
      rintro e w2 ⟨rfl, k, rfl⟩
      rw [decide_eq_true rfl]
      go_wp2_with fail
      refine (wakes_any _).mono ?_
      rintro e w3 ⟨rfl, hg3⟩
      go_wp2_with fail
      go_ret
      exact ⟨rfl, hb1.trans (below_of_grown (grownBy_of_drewN hg3) hb1.size)⟩
    · obtain ⟨n, rfl⟩ := Int.eq_ofNat_of_zero_le h0
      replace hcase := hcase n _ (by omega) rfl
      go_enter Try.func4, Try.ntmps4
      go_wp2_with fail
      refine hcase.mono ?_
      rintro e w1 ⟨go, c', rfl, hsl, hx1, hy1, hsl2, hb1⟩
      have hxc := hx1.cell
      have hyc := hy1.cell
      go_wp2_with fail
      refine (ints_any go ao n c' n cap _ _ _ hsl hsl2).mono ?_
      rintro e w2 ⟨rfl, k, rfl⟩
      rw [decide_eq_true rfl]
      go_wp2_with fail
      refine (wakes_any _).mono ?_
      rintro e w3 ⟨rfl, hg3⟩
      go_wp2_with fail
      go_ret
      exact ⟨rfl, hb1.trans (below_of_grown (grownBy_of_drewN hg3) hb1.size)⟩
    · replace hcase := hcase len _ (by omega) rfl
      go_enter Try.func4, Try.ntmps4
      go_wp2_with fail
      refine hcase.mono ?_
      rintro e w1 ⟨go, c', rfl, hsl, hx1, hy1, hsl2, hb1⟩
      have hxc := hx1.cell
      have hyc := hy1.cell
      go_wp2_with fail
      refine (ints_any go ao len c' len cap _ _ _ hsl hsl2).mono ?_
      rintro e w2 ⟨rfl, k, rfl⟩
      rw [decide_eq_true rfl]
      go_wp2_with fail
      refine (wakes_any _).mono ?_
      rintro e w3 ⟨rfl, hg3⟩
      go_wp2_with fail
      go_ret
      exact ⟨rfl, hb1.trans (below_of_grown (grownBy_of_drewN hg3) hb1.size)⟩
end Go.Proofs.Ytkogdiglpncolaa
