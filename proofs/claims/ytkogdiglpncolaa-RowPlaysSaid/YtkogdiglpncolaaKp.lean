/-
  The contracts of Within and of Ints: what they compute, at every argument that the premises name.
-/
import Derived.Test.YtkogdiglpncolaaLib
import Derived.Deep.QuietTactic
import Derived.BigQuiet
namespace Go.Proofs.Ytkogdiglpncolaa
open Go.RowKit

set_option maxHeartbeats 400000 in
theorem within_any (v n : Int) (w : World) (h1 : 1 ≤ n) (h2 : n ≤ 9223372036854775807) :
    Calls Try.prog 9 #[.int .i64 v, .int .i64 n] w fun e w' => e = .returned (.int .i64 (v % n)) ∧ w = w' := by
  have e1 : v.tmod n < 0 → v.tmod n + n = v % n := fun h => by
    have := Int.tmod_eq_emod (a := v) (b := n)
    rw [Int.tmod_eq_emod] at h ⊢
    split at h
    · have := Int.emod_nonneg v (show n ≠ 0 by omega); omega
    · rename_i hc; rw [if_neg hc]; omega
  have e2 : ¬ v.tmod n < 0 → v.tmod n = v % n := fun h => by
    rw [Int.tmod_eq_emod] at h ⊢
    split
    · omega
    · rename_i hc
      rw [if_neg hc] at h
      have := Int.emod_lt_of_pos v (show 0 < n by omega)
      omega
  have lo : -n < v.tmod n := Int.lt_tmod_of_pos v (by omega)
  have hi : v.tmod n < n := Int.tmod_lt_of_pos v (by omega)
  obtain ⟨t, ht⟩ : ∃ t, t = v.tmod n := ⟨_, rfl⟩
  have hnn : ¬ n < 1 := by omega
  rw [← ht] at e1 e2 lo hi
  have E1 := Lib.hid e1; clear e1
  have E2 := Lib.hid e2; clear e2
  replace ht : v.tmod n = t := ht.symm
  by_cases hc : t < 0
  · go_enter Try.func9, Try.ntmps9
    go_wp2
    go_ret
    exact ⟨ret_int (E1.out hc), rfl⟩
  · go_enter Try.func9, Try.ntmps9
    go_wp2
    go_ret
    exact ⟨ret_int (E2.out hc), rfl⟩

/-- A slice of ints. -/
def IntSl (w : World) (ao : Option Addr) (n cap : Nat) (xs : List Int) : Prop := SlR w 1 ao n cap (xs.map (Value.int .i64))

theorem IntSl.of_cells {w : World} {x : Addr} {len cap : Nat} {zs : List Int} (hl : len ≤ cap) (hm : cap ≤ maxLen) (hz : zs.length = cap)
    (hc : ∀ i, i < zs.length → w.cell? (x.add i) = some (.int .i64 (zs.getD i 0))) : IntSl w (some x) len cap (zs.take len) := by
  refine ⟨by simp; omega, hl, hm, by simp, fun a ha => ?_⟩
  cases ha
  intro j u hj
  rw [List.getElem?_map, List.getElem?_take] at hj
  split at hj
  · have hlt : j < zs.length := by omega
    rw [hc j hlt]
    rw [List.getElem?_eq_getElem hlt] at hj
    simp [List.getD, List.getElem?_eq_getElem hlt] at hj ⊢
    exact hj
  · simp at hj

set_option maxHeartbeats 400000 in
theorem ints_any (ao bo : Option Addr) (n c m d : Nat) (xs ys : List Int) (w : World) (hx : IntSl w ao n c xs) (hy : IntSl w bo m d ys) :
    Calls Try.prog 17 #[.slice ao n c, .slice bo m d] w fun e w' => e = .returned (.bool (decide (xs = ys))) ∧ ∃ k, w' = w.drewN k := by
  have hn : xs.length = n := by have := hx.1; simpa using this
  have hm : ys.length = m := by have := hy.1; simpa using this
  have bn : n ≤ 9223372036854775807 := by have := hx.2.1; have := hx.2.2.1; unfold maxLen at this; omega
  have bm : m ≤ 9223372036854775807 := by have := hy.2.1; have := hy.2.2.1; unfold maxLen at this; omega
  have HN := Lib.hid hn; clear hn
  have HM := Lib.hid hm; clear hm
  by_cases hnm : n = m
  · subst hnm
    go_enter Try.func17, Try.ntmps17
    go_wp2
    go_loopw [5] (fun i wr => ∃ k : Nat, k ≤ n ∧ i = .int .i64 k ∧ xs.take k = ys.take k ∧ ∃ q, wr = w.drewN q) (fun i _ => n - (intOf i).toNat)
    case atStart => exact ⟨0, by omega, rfl, by simp, 0, rfl⟩
    case round =>
      obtain ⟨k, hk, rfl, heq, q, rfl⟩ := hrel
      have HE := Lib.hid heq; clear heq
      by_cases hlt : k < n
      · have hxk : xs[k]? = some (xs[k]'(by rw [HN.out]; exact hlt)) := by simp
        have hyk : ys[k]? = some (ys[k]'(by rw [HM.out]; exact hlt)) := by simp
        generalize xs[k]'(by rw [HN.out]; exact hlt) = x at hxk
        generalize ys[k]'(by rw [HM.out]; exact hlt) = y at hyk
        obtain ⟨g1, o1, rfl, hc1, _, h1⟩ := hx.at (k := k) (c := .int .i64 x) (by simp [hxk])
        obtain ⟨g2, o2, rfl, hc2, _, h2⟩ := hy.at (k := k) (c := .int .i64 y) (by simp [hyk])
        have HXK := Lib.hid hxk; clear hxk
        have HYK := Lib.hid hyk; clear hyk
        have i0 : (0 : Int) ≤ (k : Int) := by omega
        have i1 : (k : Int) < (n : Int) := by omega
        by_cases hxy : x = y
        · subst hxy
          have hne : (x != x) = false := by simp
          go_wp2
          go_quiet (fail)
          go_wp2
          go_roundw
          case rel => exact ⟨k + 1, by omega, by go_num, by rw [List.take_add_one, List.take_add_one, HE.out, HXK.out, HYK.out], _, rfl⟩
          case measure => simp [intOf]; omega
        · have hne : (x != y) = true := by simp [hxy]
          have hneq : xs ≠ ys := fun e => hxy (by have h1 := HXK.out; have h2 := HYK.out; rw [e, h2] at h1; simpa using h1.symm)
          go_wp2
          go_quiet (fail)
          go_wp2
          go_ret
          exact ⟨by simp [hneq], _, drewN_add _ _ _⟩
      · have hkn : xs = ys := by
          have := HE.out
          rwa [List.take_of_length_le (by rw [HN.out]; omega), List.take_of_length_le (by rw [HM.out]; omega)] at this
        go_wp2
        go_ret
        exact ⟨by simp [hkn], q, rfl⟩
  · have hne : ((n : Int) != m) = true := by simp; omega
    have hneq : xs ≠ ys := fun e => hnm (by rw [← HN.out, ← HM.out, e])
    go_enter Try.func17, Try.ntmps17
    go_wp2
    go_ret
    exact ⟨by simp [hneq], 0, rfl⟩
end Go.Proofs.Ytkogdiglpncolaa
