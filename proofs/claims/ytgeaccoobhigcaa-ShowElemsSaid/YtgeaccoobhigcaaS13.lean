/-
  The texts of fields: show's and the document's.
-/
import Derived.Test.YtgeaccoobhigcaaS12
namespace Go.Proofs.Ytgeaccoobhigcaa
open Go Go.RowKit

set_option maxRecDepth 100000 in
set_option maxHeartbeats 4000000 in
theorem showField_any (ao : Option Addr) (n c : Nat) (l : List TestR) (w : World) (h : TestsIn w ao n c l) (h1 : 1 ≤ n) (hn : n ≤ 1000) :
    Calls Try.prog 71 #[.slice ao n c] w fun e w' => e = .returned (.string (fieldS l)) ∧ Below w.heap.size w w' := by
  have hl := h.len
  have hcap := h.sl.2.1
  have hmx := h.sl.2.2.1
  unfold maxLen at hmx
  have hz := bracesS_size h.ok
  rw [hl] at hz
  have HL := Lib.hid hl
  have e0 : ((n : Int) == 0) = false := by simp; omega
  by_cases hn1 : n = 1
  · have HF : Hid (fieldS l = testS (l.getD 0 nilT)) := Lib.hid (by unfold fieldS; rw [if_pos (by rw [HL.out]; exact hn1)])
    rw [HF.out]
    obtain ⟨t, ht⟩ : ∃ t, l[0]? = some t := ⟨_, List.getElem?_eq_getElem (by omega)⟩
    have hg : l.getD 0 nilT = t := by rw [List.getD_eq_getElem?_getD, ht]; rfl
    rw [hg]
    have hok := h.ok t (List.mem_of_getElem? ht)
    have hT := showTest_any t w hok
    obtain ⟨g, o, rfl, hc⟩ := h.sl.row_at testR_len (by omega) ht
    have c0 := hc 0 _ rfl
    have c1 := hc 1 _ rfl
    have c2 := hc 2 _ rfl
    have c3 := hc 3 _ rfl
    have c4 := hc 4 _ rfl
    have c5 := hc 5 _ rfl
    rw [Nat.zero_mul, Nat.add_zero] at c0 c1 c2 c3 c4 c5
    have HT := Lib.hid hT
    unfold TestR.val at HT
    subst hn1
    clear hc hg hl hT ht hz
    go_enter Try.func71, Try.ntmps71
    go_wp2_with (go_at_call 110; refine HT.out.mono ?_; rintro e w2 ⟨rfl, b2⟩)
    go_ret
    exact ⟨rfl, b2⟩
  · have HF : Hid (fieldS l = bracesS l n ++ ⟨#[32, 125]⟩) := Lib.hid (by unfold fieldS; rw [if_neg (by rw [HL.out]; exact hn1), HL.out])
    rw [HF.out]
    have e1 : ((n : Int) == 1) = false := by simp; omega
    clear hl hn1
    have HZ := Lib.hid hz
    clear hz
    go_enter Try.func71, Try.ntmps71
    go_wp2
    go_loopw [3, 18] (fun ts ti wr => ∃ i : Nat, i ≤ n ∧ ts = .string (bracesS l i) ∧ ti = .int .i64 i ∧ TestsIn wr ao n c l ∧ Below w.heap.size w wr) (fun _ ti _ => n - (intOf ti).toNat)
    case atStart => exact ⟨0, by omega, rfl, rfl, h, Below.refl _ _⟩
    case round =>
      obtain ⟨i, hi, rfl, rfl, hin, hb⟩ := hrel
      have hz := HZ.out i hi
      by_cases hlt : i < n
      · obtain ⟨t, ht⟩ : ∃ t, l[i]? = some t := ⟨_, List.getElem?_eq_getElem (by rw [HL.out]; exact hlt)⟩
        have hok := hin.ok t (List.mem_of_getElem? ht)
        have hts := testS_size hok
        have HS : Hid (bracesS l (i + 1) = bracesS l i ++ ⟨#[32]⟩ ++ testS t) := Lib.hid (by
          conv => lhs; unfold bracesS
          rw [List.getD_eq_getElem?_getD, ht]; rfl)
        obtain ⟨g, o, rfl, hc⟩ := hin.sl.row_at testR_len (by omega) ht
        have c0 := hc 0 _ rfl
        have c1 := hc 1 _ rfl
        have c2 := hc 2 _ rfl
        have c3 := hc 3 _ rfl
        have c4 := hc 4 _ rfl
        have c5 := hc 5 _ rfl
        rw [Nat.add_zero] at c0
        have hba : Below wr.heap.size wr (wr.alloc (.cells #[.int .i64 t.rel, .string t.v, .int .i64 t.s.k, .string t.s.t, .int .i64 t.s.n, .slice t.la t.ln t.lc] 138)) := (Below.refl _ wr).alloc (Nat.le_refl _) _
        have hT := showTest_any t _ (hok.kept hba)
        have HBA := Lib.hid hba
        have HT := Lib.hid hT
        unfold TestR.val at HT
        have HX := Lib.hid ht
        have p1 := fun w => run_string_add_sum (P := Try.prog) w (bracesS l i) ⟨#[32]⟩ (by show _ + 1 ≤ _; omega)
        have p2 := fun w => run_string_add_sum (P := Try.prog) w (bracesS l i ++ ⟨#[32]⟩) (testS t) (by rw [cat2_size]; show _ + 1 + _ ≤ _; omega)
        clear hc hT ht hba
        go_wp2_with (go_at_call 110; refine HT.out.mono ?_; rintro e w2 ⟨rfl, b2⟩)
        have bb : Below wr.heap.size wr w2 := HBA.out.trans (b2.mono (by simp))
        go_roundw
        case rel => exact ⟨i + 1, by omega, by rw [HS.out], by go_num, hin.kept bb, hb.trans (bb.mono hb.size)⟩
        case measure => simp [intOf]; omega
      · obtain rfl : i = n := by omega
        have p1 := fun w => run_string_add_sum (P := Try.prog) w (bracesS l i) ⟨#[32, 125]⟩ (by show _ + 2 ≤ _; omega)
        go_wp2
        go_ret
        exact ⟨rfl, hb⟩

set_option maxRecDepth 100000 in
set_option maxHeartbeats 4000000 in
theorem refField_any (ao : Option Addr) (n c : Nat) (l : List TestR) (w : World) (h : TestsIn w ao n c l) (hn : n ≤ 1000) :
    Calls Try.prog 72 #[.slice ao n c] w fun e w' => e = .returned (.string (fieldS l)) ∧ Below w.heap.size w w' := by
  have hl := h.len
  have hcap := h.sl.2.1
  have hmx := h.sl.2.2.1
  unfold maxLen at hmx
  have hz := bracesS_size h.ok
  rw [hl] at hz
  have HL := Lib.hid hl
  by_cases hn1 : n = 1
  · have HF : Hid (fieldS l = testS (l.getD 0 nilT)) := Lib.hid (by unfold fieldS; rw [if_pos (by rw [HL.out]; exact hn1)])
    rw [HF.out]
    obtain ⟨t, ht⟩ : ∃ t, l[0]? = some t := ⟨_, List.getElem?_eq_getElem (by omega)⟩
    have hg : l.getD 0 nilT = t := by rw [List.getD_eq_getElem?_getD, ht]; rfl
    rw [hg]
    have hok := h.ok t (List.mem_of_getElem? ht)
    have hT := refTest_any t w hok
    obtain ⟨g, o, rfl, hc⟩ := h.sl.row_at testR_len (by omega) ht
    have c0 := hc 0 _ rfl
    have c1 := hc 1 _ rfl
    have c2 := hc 2 _ rfl
    have c3 := hc 3 _ rfl
    have c4 := hc 4 _ rfl
    have c5 := hc 5 _ rfl
    rw [Nat.zero_mul, Nat.add_zero] at c0 c1 c2 c3 c4 c5
    have HT := Lib.hid hT
    unfold TestR.val at HT
    subst hn1
    clear hc hg hl hT ht hz
    go_enter Try.func72, Try.ntmps72
    go_wp2_with (go_at_call 111; refine HT.out.mono ?_; rintro e w2 ⟨rfl, b2⟩)
    go_ret
    exact ⟨rfl, b2⟩
  · have HF : Hid (fieldS l = bracesS l n ++ ⟨#[32, 125]⟩) := Lib.hid (by unfold fieldS; rw [if_neg (by rw [HL.out]; exact hn1), HL.out])
    rw [HF.out]
    have e1 : ((n : Int) == 1) = false := by simp; omega
    clear hl hn1
    have HZ := Lib.hid hz
    clear hz
    go_enter Try.func72, Try.ntmps72
    go_wp2
    go_loopw [3, 4] (fun ts ti wr => ∃ i : Nat, i ≤ n ∧ ts = .string (bracesS l i) ∧ ti = .int .i64 i ∧ TestsIn wr ao n c l ∧ Below w.heap.size w wr) (fun _ ti _ => n - (intOf ti).toNat)
    case atStart => exact ⟨0, by omega, rfl, rfl, h, Below.refl _ _⟩
    case round =>
      obtain ⟨i, hi, rfl, rfl, hin, hb⟩ := hrel
      have hz := HZ.out i hi
      by_cases hlt : i < n
      · obtain ⟨t, ht⟩ : ∃ t, l[i]? = some t := ⟨_, List.getElem?_eq_getElem (by rw [HL.out]; exact hlt)⟩
        have hok := hin.ok t (List.mem_of_getElem? ht)
        have hts := testS_size hok
        have HS : Hid (bracesS l (i + 1) = bracesS l i ++ (⟨#[32]⟩ ++ testS t)) := Lib.hid (by
          conv => lhs; unfold bracesS
          rw [List.getD_eq_getElem?_getD, ht, ← cat_assoc]; rfl)
        obtain ⟨g, o, rfl, hc⟩ := hin.sl.row_at testR_len (by omega) ht
        have c0 := hc 0 _ rfl
        have c1 := hc 1 _ rfl
        have c2 := hc 2 _ rfl
        have c3 := hc 3 _ rfl
        have c4 := hc 4 _ rfl
        have c5 := hc 5 _ rfl
        rw [Nat.add_zero] at c0
        have hT := refTest_any t wr hok
        have HT := Lib.hid hT
        unfold TestR.val at HT
        have HX := Lib.hid ht
        have p1 := fun w => run_string_add_sum (P := Try.prog) w (⟨#[32]⟩ : ByteArray) (testS t) (by show 1 + _ ≤ _; omega)
        have p2 := fun w => run_string_add_sum (P := Try.prog) w (bracesS l i) (⟨#[32]⟩ ++ testS t) (by rw [cat2_size]; show _ + (1 + _) ≤ _; omega)
        clear hc hT ht
        go_wp2_with (go_at_call 111; refine HT.out.mono ?_; rintro e w2 ⟨rfl, bb⟩)
        go_roundw
        case rel => exact ⟨i + 1, by omega, by rw [HS.out], by go_num, hin.kept bb, hb.trans (bb.mono hb.size)⟩
        case measure => simp [intOf]; omega
      · obtain rfl : i = n := by omega
        have p1 := fun w => run_string_add_sum (P := Try.prog) w (bracesS l i) ⟨#[32, 125]⟩ (by show _ + 2 ≤ _; omega)
        go_wp2
        go_ret
        exact ⟨rfl, hb⟩
end Go.Proofs.Ytgeaccoobhigcaa
