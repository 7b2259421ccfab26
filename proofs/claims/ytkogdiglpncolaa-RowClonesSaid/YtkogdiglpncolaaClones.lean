/-
  The walk of the law RowClones: it returns true and leaves what was there as it was, at every argument.
-/
import Derived.Test.YtkogdiglpncolaaUs
namespace Go.Proofs.Ytkogdiglpncolaa
open Go Go.RowKit

set_option maxHeartbeats 2000000 in
theorem rowClones_walk (ao : Option Addr) (len cap : Nat) (zs : List Int) (bo : Option Addr) (mlen mcap : Nat) (ms : List Int) (w : World) (hz : IntSl w ao len cap zs) (hm : IntSl w bo mlen mcap ms) :
    Calls Try.prog 7 #[.slice ao len cap, .slice bo mlen mcap] w fun e w' => e = .returned (.bool true) ∧ Below w.heap.size w w' := by
  have HL : Hid (zs.length = len) := Lib.hid (by have := hz.1; simpa using this)
  by_cases hbig : 100 < len
  · go_enter Try.func7, Try.ntmps7
    go_wp2_with fail
    refine (wakes_any _).mono ?_
    rintro e w' ⟨rfl, hg⟩
    go_wp2_with fail
    go_ret
    exact ⟨rfl, below_of_grown hg (Nat.le_refl _)⟩
  by_cases hbig2 : 100 < mlen
  · go_enter Try.func7, Try.ntmps7
    go_wp2_with fail
    refine (wakes_any _).mono ?_
    rintro e w' ⟨rfl, hg⟩
    go_wp2_with fail
    go_ret
    exact ⟨rfl, below_of_grown hg (Nat.le_refl _)⟩
  go_enter Try.func7, Try.ntmps7
  go_wp2_with fail
  refine (made_any ao len cap zs w hz (by omega)).mono ?_
  rintro e w1 ⟨b, rfl, hb0, hg1, go, c1, hb1, hsl1, hoff1⟩
  have hg1w := hg1.size
  go_wp2_with fail
  refine (clone_any b 1000 len c1 go zs w1 hb1 hsl1 (by omega)).mono ?_
  rintro e w2 ⟨b', rfl, hb0', hg2, go', c2, hb2, hsl2, hoff2, hin2⟩
  have hbb := lt_of_block hb1
  have hb1' := (hg2.block b hbb (by simp)).trans hb1
  go_wp2_with fail
  refine (push_yes_int b 1000 len c1 mlen mcap go bo w2 _ (ms.map (Value.int .i64)) hb1' (by omega) (by omega) (SlR.grown hsl1 hg2 (by simp)) hoff1 (SlR.grown (SlR.grown hm hg1 (by simp)) hg2 (by simp)) (by omega)).mono ?_
  rintro e w3 ⟨rfl, go3, c3, hb3, hsl3, hin3, hg3⟩
  have hbb' := lt_of_block hb2
  have hb2' := (hg3.block b' hbb' (by simp; omega)).trans hb2
  have hsl2' := SlR.grown hsl2 hg3 (fun k e => by cases e; exact fun a ha hn => by have := hin2 a ha hn; omega)
  have hpop := pop_quiet b 1000 (len + mlen) c3 go3 (zs ++ ms) w3 hb3 (by rw [← List.map_append] at hsl3; exact hsl3) (hin3 (fun k => k ≠ b) hoff1 (Nat.ne_of_gt (lt_of_block hb1'))) (by omega)
  go_wp2_with fail
  refine hpop.mono ?_
  rintro e w4 ⟨u, ok, rfl, hg4⟩
  have hb2'' := (hg4.block b' (lt_of_block hb2') (by simp; omega)).trans hb2'
  go_wp2_with fail
  refine (all_mk (some ⟨b', 0, none⟩) w4).mono ?_
  rintro e w5 ⟨rfl, rfl⟩
  go_wp2_with fail
  have hsl4 := SlR.grown hsl2' hg4 (fun k e => by cases e; exact fun a ha hn => by have := hin2 a ha hn; omega)
  refine (all_list w4.heap.size b' 1000 len c2 go' zs _ (Boxed.new w4 41 _) ((Below.heap_alloc w4 _ b' (lt_of_block hb2'')).trans hb2'') (SlR.grown hsl4 (World.grownBy_alloc w4 _ none) (by simp)) (by rw [HL.out]; omega)).mono ?_
  rintro e w6 ⟨go6, c6, rfl, hsl6, hg6⟩
  rw [HL.out] at hsl6 ⊢
  have hW : w.grownBy w6 none := grownBy_trans (grownBy_trans (grownBy_new (grownBy_new (grownBy_trans hg1 hg2) hg3 (.inl hb0)) hg4 (.inl hb0)) (World.grownBy_alloc w4 _ none)) hg6
  go_wp2_with fail
  refine (ints_any go6 ao len c6 len cap _ _ _ hsl6 (SlR.grown hz hW (by simp))).mono ?_
  rintro e w7 ⟨rfl, k, rfl⟩
  rw [decide_eq_true rfl]
  go_wp2_with fail
  refine (wakes_any _).mono ?_
  rintro e w8 ⟨rfl, hg8⟩
  go_wp2_with fail
  go_ret
  exact ⟨rfl, below_of_grown (grownBy_trans hW (grownBy_of_drewN hg8)) (Nat.le_refl _)⟩
end Go.Proofs.Ytkogdiglpncolaa
