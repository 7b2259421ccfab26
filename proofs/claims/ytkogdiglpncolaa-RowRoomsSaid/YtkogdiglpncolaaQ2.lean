/-
  The contracts of New, Len, Push, Pop of the bounded queue, at ints and at strings.
-/
import Derived.Test.YtkogdiglpncolaaLib
import Derived.Deep.QuietTactic
import Derived.BigQuiet
import Derived.Deep.AppendLies
import Derived.Deep.RegionLaw
namespace Go.Proofs.Ytkogdiglpncolaa
open Go.RowKit


set_option maxHeartbeats 400000 in
theorem new_ok_str (room : Int) (w : World) (h1 : 1 ≤ room) (h2 : room ≤ 65536) :
    Calls Try.prog 10 #[.int .i64 room] w fun e w' => e = .returned (.tuple #[.pointer (some ⟨w.heap.size, 0, none⟩), .int .i64 0]) ∧
      w'.heap[w.heap.size]? = some (.cells #[.int .i64 room, .slice none 0 0] 60 (0, 0)) ∧ w.grownBy w' none := by
  go_enter Try.func10, Try.ntmps10
  go_wp2
  go_ret2
  exact ⟨rfl, heap_alloc_new w _, World.grownBy_alloc w _ none⟩

set_option maxHeartbeats 400000 in
theorem len_str (b : Nat) (room : Int) (n c : Nat) (ao : Option Addr) (w : World)
   (hb : w.heap[b]? = some (.cells #[.int .i64 room, .slice ao n c] 60 (0, 0))) :
    Calls Try.prog 11 #[.pointer (some ⟨b, 0, none⟩)] w fun e w' => e = .returned (.int .i64 n) ∧ w = w' := by
  obtain ⟨h1, h2, h3, h4⟩ := two_cells hb
  clear hb
  go_enter Try.func11, Try.ntmps11
  go_wp2
  go_ret
  exact ⟨rfl, rfl⟩

set_option maxHeartbeats 400000 in
theorem push_no_str (b : Nat) (room : Int) (n c m d : Nat) (ao bo : Option Addr) (w : World)
   (hb : w.heap[b]? = some (.cells #[.int .i64 room, .slice ao n c] 60 (0, 0))) (hr : 0 ≤ room) (hr2 : room ≤ 65536) (hn : (n : Int) ≤ 65536) (hm : (m : Int) ≤ maxLen)
   (hlt : room - n < m) :
    Calls Try.prog 12 #[.pointer (some ⟨b, 0, none⟩), .slice bo m d] w fun e w' => e = .returned (.bool false) ∧ w.grownBy w' none := by
  obtain ⟨h1, h2, h3, h4⟩ := two_cells hb
  clear hb
  unfold maxLen at hm
  go_enter Try.func12, Try.ntmps12
  go_wp2_with fail
  go_quiet (fail)
  go_wp2_with fail
  go_ret
  exact ⟨rfl, ⟨rfl, rfl, rfl, Nat.le_refl _, fun _ _ _ => rfl⟩⟩

set_option maxHeartbeats 400000 in
theorem pop_none_str (b : Nat) (room : Int) (c : Nat) (ao : Option Addr) (w : World)
   (hb : w.heap[b]? = some (.cells #[.int .i64 room, .slice ao 0 c] 60 (0, 0))) :
    Calls Try.prog 13 #[.pointer (some ⟨b, 0, none⟩)] w fun e w' => e = .returned (.tuple #[(.string ⟨#[]⟩), .bool false]) ∧ w = w' := by
  obtain ⟨h1, h2, h3, h4⟩ := two_cells hb
  clear hb
  go_enter Try.func13, Try.ntmps13
  go_wp2
  go_ret2
  exact ⟨rfl, rfl⟩

set_option maxHeartbeats 400000 in
theorem pop_some_str (b : Nat) (room : Int) (n c : Nat) (ao : Option Addr) (w : World) (x : ByteArray) (xs : List Value)
   (hb : w.heap[b]? = some (.cells #[.int .i64 room, .slice ao (n + 1) c] 60 (0, 0))) (hx : SlR w 1 ao (n + 1) c (.string x :: xs)) (hoff : OffB b ao (n + 1)) (hn : n ≤ 65536) :
    Calls Try.prog 13 #[.pointer (some ⟨b, 0, none⟩)] w fun e w' => e = .returned (.tuple #[.string x, .bool true]) ∧
      ∃ go c', w'.heap[b]? = some (.cells #[.int .i64 room, .slice go n c'] 60 (0, 0)) ∧ SlR w' 1 go n c' xs ∧ (∀ K : Nat → Prop, InB K ao (n + 1) → InB K go n) ∧ w.grownBy w' (some b) := by
  obtain ⟨h1, h2, h3, h4⟩ := two_cells hb
  obtain ⟨g, off, rfl, hx0, hxt⟩ := hx.head
  obtain ⟨hle, hmx⟩ : n + 1 ≤ c ∧ c ≤ maxLen := ⟨hx.2.1, hx.2.2.1⟩
  unfold maxLen at hmx
  have hne : (((n + 1 : Nat) : Int) == 0) = false := by simp; omega
  have hne2 : (((n : Int) + 1) == 0) = false := by simp; omega
  have HB := Lib.hid hb; clear hb
  have hgb : g ≠ b := hoff _ rfl (by omega)
  have HL : Hid (xs.length = n) := by have := hx.1; simp at this; exact this
  clear hoff hx
  go_enter Try.func13, Try.ntmps13
  go_wp2_with fail
  all_goals go_ret2
  · subst h
    obtain rfl : n = 0 := by omega
    obtain rfl : xs = [] := List.eq_nil_of_length_eq_zero HL.out
    exact ⟨rfl, _, _, two_setCell HB.out, ⟨by simp, by simp, by simp, by simp, fun a _ => CellsAt.nil _ a⟩, fun K _ a _ hp => absurd hp (by omega), grownBy_setCell _ _ _⟩
  · exact ⟨rfl, _, _, two_setCell HB.out, ⟨by have := HL.out; omega, by omega, by unfold maxLen; omega, by simp, fun a ha => by cases ha; exact hxt.grown (grownBy_setCell _ _ _) (fun _ e => hgb (by cases e; rfl))⟩, fun K hK a ha _ => by cases ha; show K g; exact hK ⟨g, off, none⟩ rfl (by omega), grownBy_setCell _ _ _⟩


end Go.Proofs.Ytkogdiglpncolaa

