/-
  The walk of the law LexLeft.
-/
import Derived.Test.YtgeaccoobhigcaaT1
import Derived.Test.YtgeaccoobhigcaaB8
import Derived.Test.YtgeaccoobhigcaaB9
import Derived.Deep.RegionWith
namespace Go.Proofs.Ytgeaccoobhigcaa
open Go Go.RowKit

theorem below_undrew {n : Nat} {a b : World} (h : Below n a.drew b) : Below n a b := ⟨h.os, h.tape, h.output, h.size, h.block⟩
theorem below_undrewN {n k : Nat} {a b : World} (h : Below n (a.drewN k) b) : Below n a b := ⟨h.os, h.tape, h.output, h.size, h.block⟩

set_option maxHeartbeats 2000000 in
theorem lexLeft_walk (s : ByteArray) (nn : Int) (w : World) (_ : s.size ≤ maxLen) :
    Calls Try.prog 4 #[.string s, .int .i64 nn] w fun e w' => e = .returned (.bool true) ∧ Below w.heap.size w w' := by
  by_cases h3 : s.size ≤ 3000
  · have h3' : ¬ (3000 : Int) < (s.size : Int) := by omega
    have hra := fun w => refAll_any s (by omega) w
    have hli := fun w Bt => tokList_any s Bt (by omega) w
    have hfi := fun w Bt (k : Int) => tokFirst_any s Bt k (by omega) w
    have hlen := toks_length s.data.toList
    rw [size_toList] at hlen
    generalize hL : toks s.data.toList = L at hra hli hfi hlen
    obtain ⟨n, hn⟩ : ∃ n, n = L.length := ⟨_, rfl⟩
    rw [← hn] at hra hli hfi hlen
    have HNL := Lib.hid hn
    have hw := fun w => within_any nn ((n : Int) + 1) w (by omega) (by omega)
    have k0 : 0 ≤ nn % ((n : Int) + 1) := Int.emod_nonneg _ (by omega)
    have k1 : nn % ((n : Int) + 1) < (n : Int) + 1 := Int.emod_lt_of_pos _ (by omega)
    obtain ⟨k, hk⟩ : ∃ k : Nat, nn % ((n : Int) + 1) = (k : Int) := ⟨(nn % ((n : Int) + 1)).toNat, by omega⟩
    rw [hk] at k0 k1
    simp only [hk] at hw
    clear hk
    have hkn : k ≤ n := by omega
    replace hfi := fun w Bt h => hfi w Bt (k : Int) h
    simp only [Int.toNat_natCast, show min k n = k by omega] at hfi
    have HRA := Lib.hid hra
    have HLI := Lib.hid hli
    have HFI := Lib.hid hfi
    have HW := Lib.hid hw
    have hmix : Try.prog.follows .mixedOrders = true := by kernel_rfl
    clear hra hli hfi hL hw hn
    have hnf := fun B => run_eql_func_nil32 56 #[.pointer (some ⟨B, 0, none⟩)]
    go_enter Try.func4, Try.ntmps4
    go_wp2_with (first
      | (go_at_call 22; refine (HRA.out _).mono ?_; rintro e w1 ⟨gr, cr, rfl, hr, _, b1⟩; have hcr := hr.2.1; have hkc : (k : Int) ≤ cr := (by omega))
      | (go_at_call 27; refine (HW.out _).mono ?_; rintro e w2 ⟨rfl, rfl⟩)
      | (go_at_call 26; refine (tokens_any _ _).mono ?_; rintro e w4 ⟨rfl, rfl⟩))
    have hT : Boxed (w1.alloc (.cells #[.string s] 9)) w1.heap.size 9 (.string s) := Boxed.new w1 9 (.string s)
    have hb4 : Below w1.heap.size w1 (w1.alloc (.cells #[.string s] 9)) := (Below.refl _ w1).alloc (Nat.le_refl _) _
    have hr4 : SlR (w1.alloc (.cells #[.string s] 9)) 3 gr n cr (cellsT L) := hr.kept hb4
    have hB4 := b1.trans (hb4.mono b1.size)
    clear hr b1 hb4
    generalize w1.heap.size = Bt at *
    generalize w1.alloc (.cells #[.string s] 9) = w4 at *
    go_region_with (first
      | (go_at_call 28; refine (HFI.out w4.drew Bt hT).mono ?_; rintro e w5 ⟨gf, cf, rfl, hf, _, b5⟩; replace b5 : Below w4.heap.size w4 w5 := below_undrew b5; have hr5 : SlR w5 3 gr n cr (cellsT L) := hr4.kept (w := w4) b5; have hT5 : Boxed w5 Bt 9 (.string s) := (b5.block Bt hT.lt).trans hT; have hB5 : Below w.heap.size w w5 := hB4.trans (b5.mono hB4.size); have hrk : SlR w5 3 gr k cr (cellsT (L.take k)) := hr5.takeT hkn)
      | (go_at_call 23; (with_reducible refine (same_len (L.take k) k (by rw [List.length_take, ← HNL.out]; omega) gf gr cf cr _ hf hrk).mono ?_); rintro e w6 ⟨rfl, q6, rfl⟩)
      | (go_at_call 25; refine (HLI.out (w5.drewN q6) Bt hT5).mono ?_; rintro e w7 ⟨gl, cl, rfl, hl, _, b7⟩; replace b7 : Below w5.heap.size w5 w7 := below_undrewN b7; have hr7 : SlR w7 3 gr n cr (cellsT L) := hr5.kept (w := w5) b7; have hB7 : Below w.heap.size w w7 := hB5.trans (b7.mono hB5.size))
      | (go_at_call 23; (with_reducible refine (same_len L n HNL.out.symm gl gr cl cr _ hl hr7).mono ?_); rintro e w8 ⟨rfl, q8, rfl⟩)
      | (go_at_call 21; refine (wakes_any _).mono ?_; rintro e w9 ⟨rfl, b9⟩))
    go_wp2
    go_ret
    exact ⟨rfl, (below_drew hB7 q8).trans (b9.mono hB7.size)⟩
  · have h3' : (3000 : Int) < (s.size : Int) := by omega
    clear h3
    go_enter Try.func4, Try.ntmps4
    go_wp2_with (go_at_call 21; refine (wakes_any _).mono ?_; rintro e w7 ⟨rfl, b7⟩)
    go_ret
    exact ⟨rfl, b7⟩
end Go.Proofs.Ytgeaccoobhigcaa
