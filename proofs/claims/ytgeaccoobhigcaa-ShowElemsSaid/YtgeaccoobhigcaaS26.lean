/-
  Lists of tests, which may be.
-/
import Derived.Test.YtgeaccoobhigcaaS25
namespace Go.Proofs.Ytgeaccoobhigcaa
open Go Go.RowKit

def testsB (l : List TestR) : Bool := l.all fun t => testB t.abs

theorem six_cellsT {W : World} {g o : Nat} {a0 a1 a2 a3 a4 a5 : Value} (h : ∀ j u, [a0, a1, a2, a3, a4, a5][j]? = some u → W.cell? ⟨g, o + j, none⟩ = some u) :
    W.cell? ⟨g, o, none⟩ = some a0 ∧ W.cell? ⟨g, o + 1, none⟩ = some a1 ∧ W.cell? ⟨g, o + 2, none⟩ = some a2 ∧ W.cell? ⟨g, o + 3, none⟩ = some a3 ∧ W.cell? ⟨g, o + 4, none⟩ = some a4 ∧ W.cell? ⟨g, o + 5, none⟩ = some a5 :=
  ⟨h 0 _ rfl, h 1 _ rfl, h 2 _ rfl, h 3 _ rfl, h 4 _ rfl, h 5 _ rfl⟩

set_option maxRecDepth 100000 in
set_option maxHeartbeats 4000000 in
theorem shTests_any (ao : Option Addr) (n c : Nat) (l : List TestR) (w : World) (h : TestsMem w ao n c l) : Calls Try.prog 130 #[.slice ao n c] w fun e w' => e = .returned (.bool (testsB l)) ∧ Below w.heap.size w w' := by
  have hl := h.len
  have hcap := h.sl.2.1
  have hmx := h.sl.2.2.1
  unfold maxLen at hmx
  have HL := Lib.hid hl
  clear hl
  go_enter Try.func130, Try.ntmps130
  go_wp2
  go_loopw [7] (fun ti wr => ∃ i : Nat, i ≤ n ∧ ti = .int .i64 i ∧ Hid ((l.take i).all (fun t => testB t.abs) = true) ∧ TestsMem wr ao n c l ∧ Below w.heap.size w wr) (fun ti _ => n - (intOf ti).toNat)
  case atStart => exact ⟨0, by omega, rfl, Lib.hid (by simp), h, Below.refl _ _⟩
  case round =>
    obtain ⟨i, hi, rfl, HT, hin, hb⟩ := hrel
    by_cases hlt : i < n
    · obtain ⟨t, ht⟩ : ∃ t, l[i]? = some t := ⟨_, List.getElem?_eq_getElem (by rw [HL.out]; exact hlt)⟩
      have hok := hin.ok t (List.mem_of_getElem? ht)
      have HAT := Lib.hid (all_take (p := fun t => testB t.abs) ht)
      have HAF := Lib.hid (all_false (p := fun t => testB t.abs) ht)
      obtain ⟨g, o, rfl, hc⟩ := hin.sl.row_at testR_len (by omega) ht
      obtain ⟨c0, c1, c2, c3, c4, c5⟩ := six_cellsT hc
      have hba : Below wr.heap.size wr (wr.alloc (.cells #[.int .i64 t.rel, .string t.v, .int .i64 t.s.k, .string t.s.t, .int .i64 t.s.n, .slice t.la t.ln t.lc] 138)) := below_new wr _
      have hT := shTest_any t _ (hok.kept hba)
      have HBA := Lib.hid hba
      unfold TestR.val at hT
      have HX := Lib.hid ht
      rcases hB : testB t.abs with _ | _
      · have HAF2 := Lib.hid (HAF.out hB)
        rw [hB] at hT
        have HTT := Lib.hid hT
        clear hc hT ht hba hB HAF HAT
        go_wp2_with (go_at_call 146; refine HTT.out.mono ?_; rintro e w2 ⟨rfl, b2⟩)
        have bb : Below wr.heap.size wr w2 := HBA.out.trans (b2.mono (by simp))
        go_ret
        exact ⟨ret_bool (by unfold testsB; rw [HAF2.out]), hb.trans (bb.mono hb.size)⟩
      · have HAT2 : Hid ((l.take (i + 1)).all (fun t => testB t.abs) = true) := Lib.hid (by rw [HAT.out, HT.out, hB]; rfl)
        rw [hB] at hT
        have HTT := Lib.hid hT
        clear hc hT ht hba hB HAF HAT
        go_wp2_with (go_at_call 146; refine HTT.out.mono ?_; rintro e w2 ⟨rfl, b2⟩)
        have bb : Below wr.heap.size wr w2 := HBA.out.trans (b2.mono (by simp))
        go_roundw
        case rel => exact ⟨i + 1, by omega, by go_num, HAT2, hin.kept bb, hb.trans (bb.mono hb.size)⟩
        case measure => simp [intOf]; omega
    · obtain rfl : i = n := by omega
      have HTA : Hid (testsB l = true) := Lib.hid (by have := HT.out; rwa [List.take_of_length_le (by rw [HL.out]; omega)] at this)
      go_wp2
      go_ret
      exact ⟨ret_bool (by rw [HTA.out]), hb⟩

set_option maxRecDepth 100000 in
set_option maxHeartbeats 4000000 in
theorem rTests_any (ao : Option Addr) (n c : Nat) (l : List TestR) (w : World) (h : TestsMem w ao n c l) : Calls Try.prog 136 #[.slice ao n c] w fun e w' => e = .returned (.bool (testsB l)) ∧ Below w.heap.size w w' := by
  have hl := h.len
  have hcap := h.sl.2.1
  have hmx := h.sl.2.2.1
  unfold maxLen at hmx
  have HL := Lib.hid hl
  clear hl
  go_enter Try.func136, Try.ntmps136
  go_wp2
  go_loopw [3] (fun ti wr => ∃ i : Nat, i ≤ n ∧ ti = .int .i64 i ∧ Hid ((l.take i).all (fun t => testB t.abs) = true) ∧ TestsMem wr ao n c l ∧ Below w.heap.size w wr) (fun ti _ => n - (intOf ti).toNat)
  case atStart => exact ⟨0, by omega, rfl, Lib.hid (by simp), h, Below.refl _ _⟩
  case round =>
    obtain ⟨i, hi, rfl, HT, hin, hb⟩ := hrel
    by_cases hlt : i < n
    · obtain ⟨t, ht⟩ : ∃ t, l[i]? = some t := ⟨_, List.getElem?_eq_getElem (by rw [HL.out]; exact hlt)⟩
      have hok := hin.ok t (List.mem_of_getElem? ht)
      have HAT := Lib.hid (all_take (p := fun t => testB t.abs) ht)
      have HAF := Lib.hid (all_false (p := fun t => testB t.abs) ht)
      obtain ⟨g, o, rfl, hc⟩ := hin.sl.row_at testR_len (by omega) ht
      obtain ⟨c0, c1, c2, c3, c4, c5⟩ := six_cellsT hc
      have hT := rTest_any t _ hok
      unfold TestR.val at hT
      have HX := Lib.hid ht
      rcases hB : testB t.abs with _ | _
      · have HAF2 := Lib.hid (HAF.out hB)
        rw [hB] at hT
        have HTT := Lib.hid hT
        clear hc hT ht hB HAF HAT
        go_wp2_with (go_at_call 151; refine HTT.out.mono ?_; rintro e w2 ⟨rfl, bb⟩)
        go_ret
        exact ⟨ret_bool (by unfold testsB; rw [HAF2.out]), hb.trans (bb.mono hb.size)⟩
      · have HAT2 : Hid ((l.take (i + 1)).all (fun t => testB t.abs) = true) := Lib.hid (by rw [HAT.out, HT.out, hB]; rfl)
        rw [hB] at hT
        have HTT := Lib.hid hT
        clear hc hT ht hB HAF HAT
        go_wp2_with (go_at_call 151; refine HTT.out.mono ?_; rintro e w2 ⟨rfl, bb⟩)
        go_roundw
        case rel => exact ⟨i + 1, by omega, by go_num, HAT2, hin.kept bb, hb.trans (bb.mono hb.size)⟩
        case measure => simp [intOf]; omega
    · obtain rfl : i = n := by omega
      have HTA : Hid (testsB l = true) := Lib.hid (by have := HT.out; rwa [List.take_of_length_le (by rw [HL.out]; omega)] at this)
      go_wp2
      go_ret
      exact ⟨ret_bool (by rw [HTA.out]), hb⟩
end Go.Proofs.Ytgeaccoobhigcaa
