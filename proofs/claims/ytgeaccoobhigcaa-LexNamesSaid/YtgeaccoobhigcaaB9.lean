/-
  ponderkeep.Within; the first ones of a slice of tokens.
-/
import Derived.Test.YtgeaccoobhigcaaB6
namespace Go.Proofs.Ytgeaccoobhigcaa
open Go Go.RowKit

set_option maxHeartbeats 400000 in
theorem within_any (v n : Int) (w : World) (h1 : 1 ≤ n) (h2 : n ≤ 9223372036854775807) :
    Calls Try.prog 27 #[.int .i64 v, .int .i64 n] w fun e w' => e = .returned (.int .i64 (v % n)) ∧ w = w' := by
  have e1 : v.tmod n < 0 → v.tmod n + n = v % n := fun h => by
    have := Int.tmod_eq_emod (a := v) (b := n)
    rw [Int.tmod_eq_emod] at h ⊢
    split at h
    · have := Int.emod_nonneg v (show n ≠ 0 by omega); omega
    · rename_i hc; rw [if_neg hc]; omega
  have e2 : ¬ v.tmod n < 0 → v.tmod n = v % n := fun h => by
    rw [Int.tmod_eq_emod] at h ⊢
    split
    · omega
    · rename_i hc
      rw [if_neg hc] at h
      have := Int.emod_lt_of_pos v (show 0 < n by omega)
      omega
  have lo : -n < v.tmod n := Int.lt_tmod_of_pos v (by omega)
  have hi : v.tmod n < n := Int.tmod_lt_of_pos v (by omega)
  obtain ⟨t, ht⟩ : ∃ t, t = v.tmod n := ⟨_, rfl⟩
  have hnn : ¬ n < 1 := by omega
  rw [← ht] at e1 e2 lo hi
  have E1 := Lib.hid e1; clear e1
  have E2 := Lib.hid e2; clear e2
  replace ht : v.tmod n = t := ht.symm
  by_cases hc : t < 0
  · go_enter Try.func27, Try.ntmps27
    go_wp2
    go_ret
    exact ⟨ret_int (E1.out hc), rfl⟩
  · go_enter Try.func27, Try.ntmps27
    go_wp2
    go_ret
    exact ⟨ret_int (E2.out hc), rfl⟩

theorem cellsT_take {L : List Tk} {k : Nat} (hk : k ≤ L.length) : cellsT (L.take k) = (cellsT L).take (k * 3) := by
  have e : cellsT L = cellsT (L.take k) ++ cellsT (L.drop k) := by unfold cellsT; rw [← List.flatMap_append, List.take_append_drop]
  rw [e]
  rw [List.take_left' (by rw [cellsT_length, List.length_take, Nat.min_eq_left hk])]
theorem SlR.takeT {w : World} {ao : Option Addr} {n c k : Nat} {L : List Tk} (h : SlR w 3 ao n c (cellsT L)) (hk : k ≤ n) : SlR w 3 ao k c (cellsT (L.take k)) := by
  have hl : L.length = n := by have := h.1; rw [cellsT_length] at this; omega
  refine ⟨by rw [cellsT_length, List.length_take, hl, Nat.min_eq_left hk], Nat.le_trans hk h.2.1, h.2.2.1, h.2.2.2.1, fun a ha j u hj => h.2.2.2.2 a ha j u ?_⟩
  rw [cellsT_take (by omega), List.getElem?_take] at hj
  split at hj
  · exact hj
  · cases hj
theorem same_len (L : List Tk) (n : Nat) (hn : L.length = n) (a1 a2 : Option Addr) (c1 c2 : Nat) (w : World) (h1 : SlR w 3 a1 n c1 (cellsT L)) (h2 : SlR w 3 a2 n c2 (cellsT L)) :
    Calls Try.prog 23 #[.slice a1 n c1, .slice a2 n c2] w fun e w' => e = .returned (.bool true) ∧ ∃ q, w' = w.drewN q := by
  subst hn
  exact same_eq L a1 a2 c1 c2 w h1 h2
end Go.Proofs.Ytgeaccoobhigcaa
