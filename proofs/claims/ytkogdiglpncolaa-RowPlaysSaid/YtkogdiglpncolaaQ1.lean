/-
  The contracts of New, Len, Push, Pop of the bounded queue, at ints and at strings.
-/
import Derived.Test.YtkogdiglpncolaaLib
import Derived.Deep.QuietTactic
import Derived.BigQuiet
import Derived.Deep.AppendLies
import Derived.Deep.RegionLaw
namespace Go.Proofs.Ytkogdiglpncolaa
open Go.RowKit


set_option maxHeartbeats 400000 in
theorem new_ok_int (room : Int) (w : World) (h1 : 1 ≤ room) (h2 : room ≤ 65536) :
    Calls Try.prog 24 #[.int .i64 room] w fun e w' => e = .returned (.tuple #[.pointer (some ⟨w.heap.size, 0, none⟩), .int .i64 0]) ∧
      w'.heap[w.heap.size]? = some (.cells #[.int .i64 room, .slice none 0 0] 62 (0, 0)) ∧ w.grownBy w' none := by
  go_enter Try.func24, Try.ntmps24
  go_wp2
  go_ret2
  exact ⟨rfl, heap_alloc_new w _, World.grownBy_alloc w _ none⟩

set_option maxHeartbeats 400000 in
theorem len_int (b : Nat) (room : Int) (n c : Nat) (ao : Option Addr) (w : World)
   (hb : w.heap[b]? = some (.cells #[.int .i64 room, .slice ao n c] 62 (0, 0))) :
    Calls Try.prog 23 #[.pointer (some ⟨b, 0, none⟩)] w fun e w' => e = .returned (.int .i64 n) ∧ w = w' := by
  obtain ⟨h1, h2, h3, h4⟩ := two_cells hb
  clear hb
  go_enter Try.func23, Try.ntmps23
  go_wp2
  go_ret
  exact ⟨rfl, rfl⟩

set_option maxHeartbeats 400000 in
theorem push_no_int (b : Nat) (room : Int) (n c m d : Nat) (ao bo : Option Addr) (w : World)
   (hb : w.heap[b]? = some (.cells #[.int .i64 room, .slice ao n c] 62 (0, 0))) (hr : 0 ≤ room) (hr2 : room ≤ 65536) (hn : (n : Int) ≤ 65536) (hm : (m : Int) ≤ maxLen)
   (hlt : room - n < m) :
    Calls Try.prog 22 #[.pointer (some ⟨b, 0, none⟩), .slice bo m d] w fun e w' => e = .returned (.bool false) ∧ w.grownBy w' none := by
  obtain ⟨h1, h2, h3, h4⟩ := two_cells hb
  clear hb
  unfold maxLen at hm
  go_enter Try.func22, Try.ntmps22
  go_wp2_with fail
  go_quiet (fail)
  go_wp2_with fail
  go_ret
  exact ⟨rfl, ⟨rfl, rfl, rfl, Nat.le_refl _, fun _ _ _ => rfl⟩⟩

set_option maxHeartbeats 400000 in
theorem pop_none_int (b : Nat) (room : Int) (c : Nat) (ao : Option Addr) (w : World)
   (hb : w.heap[b]? = some (.cells #[.int .i64 room, .slice ao 0 c] 62 (0, 0))) :
    Calls Try.prog 21 #[.pointer (some ⟨b, 0, none⟩)] w fun e w' => e = .returned (.tuple #[(.int .i64 0), .bool false]) ∧ w = w' := by
  obtain ⟨h1, h2, h3, h4⟩ := two_cells hb
  clear hb
  go_enter Try.func21, Try.ntmps21
  go_wp2
  go_ret2
  exact ⟨rfl, rfl⟩

set_option maxHeartbeats 400000 in
theorem pop_some_int (b : Nat) (room : Int) (n c : Nat) (ao : Option Addr) (w : World) (x : Int) (xs : List Value)
   (hb : w.heap[b]? = some (.cells #[.int .i64 room, .slice ao (n + 1) c] 62 (0, 0))) (hx : SlR w 1 ao (n + 1) c (.int .i64 x :: xs)) (hoff : OffB b ao (n + 1)) (hn : n ≤ 65536) :
    Calls Try.prog 21 #[.pointer (some ⟨b, 0, none⟩)] w fun e w' => e = .returned (.tuple #[.int .i64 x, .bool true]) ∧
      ∃ go c', w'.heap[b]? = some (.cells #[.int .i64 room, .slice go n c'] 62 (0, 0)) ∧ SlR w' 1 go n c' xs ∧ (∀ K : Nat → Prop, InB K ao (n + 1) → InB K go n) ∧ w.grownBy w' (some b) := by
  obtain ⟨h1, h2, h3, h4⟩ := two_cells hb
  obtain ⟨g, off, rfl, hx0, hxt⟩ := hx.head
  obtain ⟨hle, hmx⟩ : n + 1 ≤ c ∧ c ≤ maxLen := ⟨hx.2.1, hx.2.2.1⟩
  unfold maxLen at hmx
  have hne : (((n + 1 : Nat) : Int) == 0) = false := by simp; omega
  have hne2 : (((n : Int) + 1) == 0) = false := by simp; omega
  have HB := Lib.hid hb; clear hb
  have hgb : g ≠ b := hoff _ rfl (by omega)
  have HL : Hid (xs.length = n) := by have := hx.1; simp at this; exact this
  clear hoff hx
  go_enter Try.func21, Try.ntmps21
  go_wp2_with fail
  all_goals go_ret2
  · subst h
    obtain rfl : n = 0 := by omega
    obtain rfl : xs = [] := List.eq_nil_of_length_eq_zero HL.out
    exact ⟨rfl, _, _, two_setCell HB.out, ⟨by simp, by simp, by simp, by simp, fun a _ => CellsAt.nil _ a⟩, fun K _ a _ hp => absurd hp (by omega), grownBy_setCell _ _ _⟩
  · exact ⟨rfl, _, _, two_setCell HB.out, ⟨by have := HL.out; omega, by omega, by unfold maxLen; omega, by simp, fun a ha => by cases ha; exact hxt.grown (grownBy_setCell _ _ _) (fun _ e => hgb (by cases e; rfl))⟩, fun K hK a ha _ => by cases ha; show K g; exact hK ⟨g, off, none⟩ rfl (by omega), grownBy_setCell _ _ _⟩


set_option maxHeartbeats 400000 in
theorem at_out_int (b : Nat) (room i : Int) (n c : Nat) (ao : Option Addr) (w : World)
   (hb : w.heap[b]? = some (.cells #[.int .i64 room, .slice ao n c] 62 (0, 0))) (hi : i < 0 ∨ (n : Int) ≤ i) :
    Calls Try.prog 25 #[.pointer (some ⟨b, 0, none⟩), .int .i64 i] w fun e w' => e = .returned (.tuple #[(.int .i64 0), .bool false]) ∧ w = w' := by
  obtain ⟨h1, h2, h3, h4⟩ := two_cells hb
  clear hb
  by_cases h0 : i < 0
  · clear hi
    go_enter Try.func25, Try.ntmps25
    go_wp2
    go_ret2
    exact ⟨rfl, rfl⟩
  · have h5 : (n : Int) ≤ i := by omega
    clear hi
    go_enter Try.func25, Try.ntmps25
    go_wp2
    go_ret2
    exact ⟨rfl, rfl⟩

set_option maxHeartbeats 400000 in
theorem at_in_int (b : Nat) (room : Int) (k n c : Nat) (ao : Option Addr) (w : World) (x : Int) (xs : List Value)
   (hb : w.heap[b]? = some (.cells #[.int .i64 room, .slice ao n c] 62 (0, 0))) (hx : SlR w 1 ao n c xs) (hk : xs[k]? = some (.int .i64 x)) :
    Calls Try.prog 25 #[.pointer (some ⟨b, 0, none⟩), .int .i64 k] w fun e w' => e = .returned (.tuple #[.int .i64 x, .bool true]) ∧ w = w' := by
  obtain ⟨h1, h2, h3, h4⟩ := two_cells hb
  clear hb
  obtain ⟨g, off, rfl, hx0, hlt, hle⟩ := hx.at hk
  obtain ⟨hnc, hmx⟩ : n ≤ c ∧ c ≤ maxLen := ⟨hx.2.1, hx.2.2.1⟩
  unfold maxLen at hmx
  clear hx hk
  go_enter Try.func25, Try.ntmps25
  go_wp2
  go_ret2
  exact ⟨rfl, rfl⟩

end Go.Proofs.Ytkogdiglpncolaa

