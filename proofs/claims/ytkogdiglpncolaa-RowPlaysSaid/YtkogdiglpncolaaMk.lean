/-
  The contracts of All, Drain, Clone, of Copy, of the law's own helpers.
-/
import Derived.Test.YtkogdiglpncolaaCo
import Derived.Test.YtkogdiglpncolaaP1
namespace Go.Proofs.Ytkogdiglpncolaa
open Go Go.RowKit

set_option maxHeartbeats 400000 in
theorem all_mk (p : Option Addr) (w : World) :
    Calls Try.prog 20 #[.pointer p] w fun e w' => e = .returned (.func (.func 30) #[] #[.pointer (some ⟨w.heap.size, 0, none⟩)]) ∧ w.alloc (.cells #[.pointer p] 41) = w' := by
  go_enter Try.func20, Try.ntmps20
  go_wp2
  go_ret
  exact ⟨rfl, rfl⟩

set_option maxHeartbeats 400000 in
theorem drain_mk (p : Option Addr) (w : World) :
    Calls Try.prog 28 #[.pointer p] w fun e w' => e = .returned (.func (.func 31) #[] #[.pointer (some ⟨w.heap.size, 0, none⟩)]) ∧ w.alloc (.cells #[.pointer p] 41) = w' := by
  go_enter Try.func28, Try.ntmps28
  go_wp2
  go_ret
  exact ⟨rfl, rfl⟩

set_option maxHeartbeats 400000 in
theorem copy_any (ao : Option Addr) (n c : Nat) (xs : List Int) (w : World) (hx : IntSl w ao n c xs) (hn : n ≤ 65536) :
    Calls Try.prog 29 #[.slice ao n c] w fun e w' => ∃ go c', e = .returned (.slice go n c') ∧ IntSl w' go n c' xs ∧ w.grownBy w' none := by
  obtain ⟨i0, hi, hz0, hz1, hz2⟩ := info_parts Try.info3
  go_enter Try.func29, Try.ntmps29
  go_wp2_with (at_builtin; refine wpList_append_full rfl _ _ 22 rfl 3 i0 (.int .i64 0) 1 8 Try.underlying22 hi hz0 hz1 hz2 none ao 0 n c [] _ rfl rfl (SlR.nil _ _) hx (by unfold maxLen; omega) (by omega) ?_; intro go c' w' hsl hg _)
  go_ret
  refine ⟨go, c', ?_, ?_, hg⟩
  · simp
  · rw [Nat.zero_add] at hsl; exact hsl

set_option maxHeartbeats 2000000 in
theorem clone_any (b : Nat) (room : Int) (n c : Nat) (ao : Option Addr) (xs : List Int) (w : World)
   (hb : w.heap[b]? = some (.cells #[.int .i64 room, .slice ao n c] 62 (0, 0))) (hx : IntSl w ao n c xs) (hn : n ≤ 65536) :
    Calls Try.prog 27 #[.pointer (some ⟨b, 0, none⟩)] w fun e w' => ∃ b', e = .returned (.pointer (some ⟨b', 0, none⟩)) ∧ w.heap.size ≤ b' ∧ w.grownBy w' none ∧
      ∃ go c', w'.heap[b']? = some (.cells #[.int .i64 room, .slice go n c'] 62 (0, 0)) ∧ IntSl w' go n c' xs ∧ OffB b' go n ∧ InB (fun k => w.heap.size ≤ k) go n := by
  obtain ⟨i0, hi, hz0, hz1, hz2⟩ := info_parts Try.info3
  obtain ⟨h1, h2, h3, h4⟩ := two_cells hb
  have hbl : b < w.heap.size := lt_of_block hb
  have HB := Lib.hid hb; clear hb
  have hnew := heap_alloc_new w (.cells #[.int .i64 room, .slice none 0 0] 62)
  obtain ⟨k1, k2, k3, k4⟩ := two_cells hnew
  have j2 := (World.cell?_of_block (a := ⟨b, 1, none⟩) (Below.heap_alloc w (.cells #[.int .i64 room, .slice none 0 0] 62) b hbl)).trans h2
  have hg0 : w.grownBy (w.alloc (.cells #[.int .i64 room, .slice none 0 0] 62)) none := World.grownBy_alloc w _ none
  have hx0 : SlR (w.alloc (.cells #[.int .i64 room, .slice none 0 0] 62)) 1 ao n c (xs.map (Value.int .i64)) := SlR.grown hx hg0 (by simp)
  have hbl' : w.heap.size < (w.alloc (.cells #[.int .i64 room, .slice none 0 0] 62)).heap.size := by simp
  go_enter Try.func27, Try.ntmps27
  go_wp2_with fail
  clear h1 h2 h3 h4
  generalize hwb : w.heap.size = B at *
  generalize w.alloc (.cells #[.int .i64 room, .slice none 0 0] 62) = w0 at *
  have HB := Lib.hid hwb; clear hwb
  have HN := Lib.hid hnew; clear hnew
  go_region_law (
    ((refine step_append_full (by rfl) _ _ _ (by rfl) 3 i0 (.int .i64 0) 1 8 Try.underlying22 hi hz0 hz1 hz2 none ao 0 n c [] (xs.map (Value.int .i64)) (by rfl) (by rfl) (SlR.nil _ _) hx0.drew (by unfold maxLen; omega) (by omega) ?_; intro go c' w1 hsl hgrow hwhere; have q2 := (hgrow.cell_far ⟨B, 1, none⟩ hbl' (by simp)).trans k2; have q4 := (hgrow.frozen_far ⟨B, 1, none⟩ hbl' (by simp)).trans k4)))
  all_goals go_wp2_with fail
  all_goals go_ret
  all_goals
    rw [Nat.zero_add] at hsl
    have hoff : OffB B go n := by
      intro a ha hp
      rcases hwhere with ⟨h, h0⟩ | h
      · subst h0; omega
      · rw [h] at ha; cases ha; exact Nat.ne_of_gt hbl'
    have hinw : InB (fun k => w.heap.size ≤ k) go n := by
      intro a ha hp
      rcases hwhere with ⟨h, h0⟩ | h
      · subst h0; omega
      · rw [h] at ha; cases ha; exact hg0.size
    have hgw := grownBy_trans hg0 (grownBy_of_drew hgrow)
    exact ⟨B, rfl, by rw [HB.out]; exact Nat.le_refl _, grownBy_new hgw (grownBy_setCell _ ⟨B, 1, none⟩ _) (.inl (by rw [HB.out]; exact Nat.le_refl _)), go, c', two_setCell ((hgrow.block B hbl' (by simp)).trans HN.out), hsl.grown (grownBy_setCell _ _ _) (fun b' e => by cases e; exact hoff), hoff, hinw⟩
set_option maxHeartbeats 1000000 in
theorem wakes_any (w : World) :
    Calls Try.prog 14 #[] w fun e w' => e = .returned (.bool true) ∧ w.grownBy w' none := by
  go_enter Try.func14, Try.ntmps14
  go_wp2_with fail
  refine (new_ok_int 2 _ (by omega) (by omega)).mono ?_
  rintro e w1 ⟨rfl, hb1, hg1⟩
  go_wp2_with fail
  generalize hB : w.heap.size = B at *
  refine (push_no_int B 2 0 0 3 3 none _ _ ((Below.heap_alloc w1 _ B (lt_of_block hb1)).trans hb1) (by omega) (by omega) (by omega) (by unfold maxLen; omega) (by omega)).mono ?_
  rintro e w2 ⟨rfl, hg2⟩
  have hgb2 : w1.grownBy w2 none := grownBy_trans (World.grownBy_alloc w1 _ none) hg2
  have hb2 := (hgb2.block B (lt_of_block hb1) (by simp)).trans hb1
  go_wp2_with fail
  refine (len_int B 2 0 0 none w2 hb2).mono ?_
  rintro e w3 ⟨rfl, rfl⟩
  go_wp2_with fail
  have hnew := SlR.new w2 [.int .i64 4] 3 (by simp [maxLen])
  have hb3 := (Below.heap_alloc w2 (.cells #[.int .i64 4] 3) B (lt_of_block hb2)).trans hb2
  refine (push_yes_int B 2 0 0 1 1 none _ _ [] [.int .i64 4] hb3 (by omega) (by omega) (SlR.nil _ _) (by intro a h; cases h) hnew (by omega)).mono ?_
  rintro e w4 ⟨rfl, go, c', hb4, hsl4, hin4, hg4⟩
  go_wp2_with fail
  refine (len_int B 2 (0 + 1) c' go w4 hb4).mono ?_
  rintro e w5 ⟨rfl, rfl⟩
  go_wp2_with fail
  go_ret
  exact ⟨rfl, grownBy_new (grownBy_trans hg1 (grownBy_trans hgb2 (World.grownBy_alloc w2 _ none))) hg4 (.inl (by rw [hB]; exact Nat.le_refl _))⟩

set_option maxHeartbeats 1000000 in
theorem made_any (ao : Option Addr) (n c : Nat) (xs : List Int) (w : World) (hx : IntSl w ao n c xs) (hn : n ≤ 1000) :
    Calls Try.prog 18 #[.slice ao n c] w fun e w' => ∃ b, e = .returned (.pointer (some ⟨b, 0, none⟩)) ∧ w.heap.size ≤ b ∧ w.grownBy w' none ∧
      ∃ go c', w'.heap[b]? = some (.cells #[.int .i64 1000, .slice go n c'] 62 (0, 0)) ∧ IntSl w' go n c' xs ∧ OffB b go n := by
  go_enter Try.func18, Try.ntmps18
  go_wp2_with fail
  refine (new_ok_int 1000 _ (by omega) (by omega)).mono ?_
  rintro e w1 ⟨rfl, hb1, hg1⟩
  have hx1 := SlR.grown hx hg1 (by simp)
  generalize hB : w.heap.size = B at *
  go_wp2_with fail
  refine (push_yes_int B 1000 0 0 n c none ao w1 [] (xs.map (Value.int .i64)) hb1 (by omega) (by omega) (SlR.nil _ _) (by intro a h; cases h) hx1 (by omega)).mono ?_
  rintro e w2 ⟨rfl, go, c', hb2, hsl, hin, hg2⟩
  go_wp2_with fail
  go_ret
  rw [Nat.zero_add] at hsl hb2
  refine ⟨B, rfl, by rw [hB]; exact Nat.le_refl _, grownBy_new hg1 hg2 (.inl (by rw [hB]; exact Nat.le_refl _)), go, c', hb2, hsl, ?_⟩
  have := hin (fun k => k ≠ B) (by intro a h; cases h) (Nat.ne_of_gt (lt_of_block hb1))
  rwa [Nat.zero_add] at this

end Go.Proofs.Ytkogdiglpncolaa
