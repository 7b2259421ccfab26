/-
  The texts of symbols: sym.Text and ponderref04.Text.
-/
import Derived.Test.YtgeaccoobhigcaaS3
namespace Go.Proofs.Ytgeaccoobhigcaa
open Go Go.RowKit

/-- A symbol's text. -/
def symS (s : Sm) : ByteArray := if validB s = true then (if s.k = 1 then s.t ++ digS s.n.toNat else if s.k = 3 then s.t else numS s.n) else ⟨#[]⟩
theorem valid_cases {s : Sm} (h : validB s = true) : (s.k = 1 ∧ s.t.size = 1 ∧ 1 ≤ s.n ∧ s.n ≤ 1048576) ∨ (s.k = 2 ∧ -2147483647 ≤ s.n ∧ s.n ≤ 2147483647) ∨ (s.k = 3 ∧ s.n = 0 ∧ wordB s.t.data.toList = true) := by
  unfold validB at h
  split at h
  · simp only [Bool.and_eq_true, decide_eq_true_eq] at h
    exact .inl ⟨‹_›, h.1.1, h.2.1, h.2.2⟩
  · split at h
    · simp only [Bool.and_eq_true, decide_eq_true_eq] at h
      exact .inr (.inl ⟨‹_›, h.2.1, h.2.2⟩)
    · split at h
      · simp only [Bool.and_eq_true, decide_eq_true_eq] at h
        exact .inr (.inr ⟨‹_›, h.1, h.2⟩)
      · cases h
theorem word_size {l : Bs} (h : wordB l = true) : 1 ≤ l.length ∧ l.length ≤ 32 := by
  unfold wordB at h
  simp only [Bool.and_eq_true, decide_eq_true_eq] at h
  exact ⟨h.1.1.1, h.1.1.2⟩
theorem numS_size (n : Int) (h1 : -4294967296 ≤ n) (h2 : n ≤ 4294967296) : (numS n).size ≤ 12 := by
  unfold numS
  split
  · have := digS_size (-n).toNat (by omega)
    rw [cat2_size]
    show 1 + _ ≤ 12
    omega
  · have := digS_size n.toNat (by omega)
    omega
theorem symS_size (s : Sm) : (symS s).size ≤ 32 := by
  unfold symS
  split
  · rename_i h
    rcases valid_cases h with ⟨h1, h2, h3, h4⟩ | ⟨h1, h3, h4⟩ | ⟨h1, h2, h3⟩
    · rw [if_pos h1, cat2_size, h2]
      have := digS_size s.n.toNat (by omega)
      omega
    · rw [if_neg (by omega), if_neg (by omega)]
      have := numS_size s.n (by omega) (by omega)
      omega
    · rw [if_neg (by omega), if_pos h1]
      have := (word_size h3).2
      rw [size_toList] at this
      exact this
  · exact Nat.zero_le _

/-- The cells of a symbol in a box. -/
theorem box3 {W : World} {a b c : Value} {t : TypeId} : (W.alloc (.cells #[a, b, c] t)).cell? ⟨W.heap.size, 0, none⟩ = some a ∧ (W.alloc (.cells #[a, b, c] t)).cell? ⟨W.heap.size, 1, none⟩ = some b ∧ (W.alloc (.cells #[a, b, c] t)).cell? ⟨W.heap.size, 2, none⟩ = some c := by
  have h := heap_alloc_new W (.cells #[a, b, c] t)
  refine ⟨?_, ?_, ?_⟩ <;> rw [cell_of_row _ _ _ _ _ _ h] <;> rfl

set_option maxRecDepth 100000 in
set_option maxHeartbeats 4000000 in
theorem symText_any (s : Sm) (hs : s.t.size ≤ 9223372036854775807) (w : World) :
    Calls Try.prog 78 #[s.val] w fun e w' => e = .returned (.string (symS s)) ∧ Below w.heap.size w w' := by
  have hv := fun w => valid_any s hs w
  have hmix : Try.prog.follows .mixedOrders = true := by kernel_rfl
  rcases hV : validB s with _ | _
  · have HX : Hid (symS s = ⟨#[]⟩) := Lib.hid (by unfold symS; rw [if_neg (by simp [hV])])
    rw [hV] at hv
    rw [HX.out]
    clear HX hV
    obtain ⟨k, t, n⟩ := s
    unfold Sm.val at hv ⊢
    have HV := Lib.hid hv
    clear hv
    go_enter Try.func78, Try.ntmps78
    go_wp2_with (go_at_call 112; refine (HV.out _).mono ?_; rintro e w2 ⟨rfl, b2⟩)
    go_ret
    exact ⟨rfl, ((Below.refl _ w).alloc (Nat.le_refl _) _).trans (b2.mono (by simp))⟩
  · have HX : Hid (symS s = if s.k = 1 then s.t ++ digS s.n.toNat else if s.k = 3 then s.t else numS s.n) := Lib.hid (by unfold symS; rw [if_pos hV])
    have hcs := valid_cases hV
    rw [hV] at hv
    rw [HX.out]
    clear HX hV
    obtain ⟨k, t, n⟩ := s
    unfold Sm.val at hv ⊢
    simp only at hcs hs ⊢
    have HV := Lib.hid hv
    clear hv
    obtain ⟨c0, c1, c2⟩ := @box3 w (.int .i64 k) (.string t) (.int .i64 n) 63
    have hbx : Below w.heap.size w (w.alloc (.cells #[.int .i64 k, .string t, .int .i64 n] 63)) := (Below.refl _ w).alloc (Nat.le_refl _) _
    have hsz : w.heap.size < (w.alloc (.cells #[.int .i64 k, .string t, .int .i64 n] 63)).heap.size := by simp
    have HB := Lib.hid hbx
    rcases hcs with ⟨rfl, h2, h3, h4⟩ | ⟨rfl, h3, h4⟩ | ⟨rfl, rfl, h3⟩
    · rw [if_pos rfl]
      have hts : t.size ≤ 1 := by omega
      clear h2
      have hd := fun w => digits_any (n.toNat + 1) n.toNat (by omega) (by omega) w
      have e : ((n.toNat : Nat) : Int) = n := by omega
      rw [e] at hd
      have hz := digS_size n.toNat (by omega)
      have HD := Lib.hid hd
      clear hd e hbx
      go_enter Try.func78, Try.ntmps78
      go_wp2_with (go_at_call 112; refine (HV.out _).mono ?_; rintro e w2 ⟨rfl, b2⟩; have d0 := (b2.cell (p := ⟨w.heap.size, 0, none⟩) hsz).trans c0; have d1 := (b2.cell (p := ⟨w.heap.size, 1, none⟩) hsz).trans c1; have d2 := (b2.cell (p := ⟨w.heap.size, 2, none⟩) hsz).trans c2; have hsz2 : w.heap.size < w2.heap.size := Nat.lt_of_lt_of_le hsz b2.size)
      go_region_with (go_at_call 113; refine (HD.out _).mono ?_; rintro e w3 ⟨rfl, b3⟩; have f1 : w3.cell? ⟨w.heap.size, 1, none⟩ = some (.string t) := (b3.cell (p := ⟨w.heap.size, 1, none⟩) hsz2).trans d1)
      all_goals
        go_wp2
        go_ret
        exact ⟨rfl, HB.out.trans ((b2.mono (Nat.le_of_lt hsz)).trans ((show Below w2.heap.size w2 w3 from ⟨b3.os, b3.tape, b3.output, b3.size, b3.block⟩).mono (Nat.le_of_lt hsz2)))⟩
    · rw [if_neg (by decide), if_neg (by decide)]
      clear hbx
      by_cases hn : n < 0
      · have hd := fun w => digits_any ((-n).toNat + 1) (-n).toNat (by omega) (by omega) w
        have e : (((-n).toNat : Nat) : Int) = -n := by omega
        rw [e] at hd
        have hz := digS_size (-n).toNat (by omega)
        have HN : Hid (numS n = (⟨#[45]⟩ : ByteArray) ++ digS (-n).toNat) := Lib.hid (by unfold numS; rw [if_pos hn])
        rw [HN.out]
        have HD := Lib.hid hd
        clear hd e
        go_enter Try.func78, Try.ntmps78
        go_wp2_with (first | (go_at_call 112; refine (HV.out _).mono ?_; rintro e w2 ⟨rfl, b2⟩; have d0 := (b2.cell (p := ⟨w.heap.size, 0, none⟩) hsz).trans c0; have d1 := (b2.cell (p := ⟨w.heap.size, 1, none⟩) hsz).trans c1; have d2 := (b2.cell (p := ⟨w.heap.size, 2, none⟩) hsz).trans c2; have hsz2 : w.heap.size < w2.heap.size := Nat.lt_of_lt_of_le hsz b2.size) | (go_at_call 113; refine (HD.out _).mono ?_; rintro e w3 ⟨rfl, b3⟩))
        go_ret
        exact ⟨rfl, HB.out.trans ((b2.mono (Nat.le_of_lt hsz)).trans (b3.mono (Nat.le_of_lt hsz2)))⟩
      · have hd := fun w => digits_any (n.toNat + 1) n.toNat (by omega) (by omega) w
        have e : ((n.toNat : Nat) : Int) = n := by omega
        rw [e] at hd
        have HN : Hid (numS n = digS n.toNat) := Lib.hid (by unfold numS; rw [if_neg hn])
        rw [HN.out]
        have HD := Lib.hid hd
        clear hd e
        go_enter Try.func78, Try.ntmps78
        go_wp2_with (first | (go_at_call 112; refine (HV.out _).mono ?_; rintro e w2 ⟨rfl, b2⟩; have d0 := (b2.cell (p := ⟨w.heap.size, 0, none⟩) hsz).trans c0; have d1 := (b2.cell (p := ⟨w.heap.size, 1, none⟩) hsz).trans c1; have d2 := (b2.cell (p := ⟨w.heap.size, 2, none⟩) hsz).trans c2; have hsz2 : w.heap.size < w2.heap.size := Nat.lt_of_lt_of_le hsz b2.size) | (go_at_call 113; refine (HD.out _).mono ?_; rintro e w3 ⟨rfl, b3⟩))
        go_ret
        exact ⟨rfl, HB.out.trans ((b2.mono (Nat.le_of_lt hsz)).trans (b3.mono (Nat.le_of_lt hsz2)))⟩
    · rw [if_neg (by decide), if_pos rfl]
      clear hbx h3
      go_enter Try.func78, Try.ntmps78
      go_wp2_with (go_at_call 112; refine (HV.out _).mono ?_; rintro e w2 ⟨rfl, b2⟩; have d0 := (b2.cell (p := ⟨w.heap.size, 0, none⟩) hsz).trans c0; have d1 := (b2.cell (p := ⟨w.heap.size, 1, none⟩) hsz).trans c1; have d2 := (b2.cell (p := ⟨w.heap.size, 2, none⟩) hsz).trans c2; have hsz2 : w.heap.size < w2.heap.size := Nat.lt_of_lt_of_le hsz b2.size)
      go_ret
      exact ⟨rfl, HB.out.trans (b2.mono (Nat.le_of_lt hsz))⟩
set_option maxRecDepth 100000 in
set_option maxHeartbeats 4000000 in
theorem refText_any (s : Sm) (hs : s.t.size ≤ 9223372036854775807) (w : World) :
    Calls Try.prog 79 #[s.val] w fun e w' => e = .returned (.string (symS s)) ∧ Below w.heap.size w w' := by
  have hv := fun w => rvalid_any s hs w
  have hmix : Try.prog.follows .mixedOrders = true := by kernel_rfl
  rcases hV : validB s with _ | _
  · have HX : Hid (symS s = ⟨#[]⟩) := Lib.hid (by unfold symS; rw [if_neg (by simp [hV])])
    rw [hV] at hv
    rw [HX.out]
    clear HX hV
    obtain ⟨k, t, n⟩ := s
    unfold Sm.val at hv ⊢
    have HV := Lib.hid hv
    clear hv
    go_enter Try.func79, Try.ntmps79
    go_wp2_with (go_at_call 114; refine (HV.out _).mono ?_; rintro e w2 ⟨rfl, b2⟩)
    go_ret
    exact ⟨rfl, ((Below.refl _ w).alloc (Nat.le_refl _) _).trans (b2.mono (by simp))⟩
  · have HX : Hid (symS s = if s.k = 1 then s.t ++ digS s.n.toNat else if s.k = 3 then s.t else numS s.n) := Lib.hid (by unfold symS; rw [if_pos hV])
    have hcs := valid_cases hV
    rw [hV] at hv
    rw [HX.out]
    clear HX hV
    obtain ⟨k, t, n⟩ := s
    unfold Sm.val at hv ⊢
    simp only at hcs hs ⊢
    have HV := Lib.hid hv
    clear hv
    obtain ⟨c0, c1, c2⟩ := @box3 w (.int .i64 k) (.string t) (.int .i64 n) 63
    have hbx : Below w.heap.size w (w.alloc (.cells #[.int .i64 k, .string t, .int .i64 n] 63)) := (Below.refl _ w).alloc (Nat.le_refl _) _
    have hsz : w.heap.size < (w.alloc (.cells #[.int .i64 k, .string t, .int .i64 n] 63)).heap.size := by simp
    have HB := Lib.hid hbx
    rcases hcs with ⟨rfl, h2, h3, h4⟩ | ⟨rfl, h3, h4⟩ | ⟨rfl, rfl, h3⟩
    · rw [if_pos rfl]
      have hts : t.size ≤ 1 := by omega
      clear h2
      have hd := fun w => number_text n (by omega) (by omega) w
      rw [show numS n = digS n.toNat by unfold numS; rw [if_neg (by omega)]] at hd
      have hz := digS_size n.toNat (by omega)
      have HD := Lib.hid hd
      clear hd hbx
      go_enter Try.func79, Try.ntmps79
      go_wp2_with (go_at_call 114; refine (HV.out _).mono ?_; rintro e w2 ⟨rfl, b2⟩; have d0 := (b2.cell (p := ⟨w.heap.size, 0, none⟩) hsz).trans c0; have d1 := (b2.cell (p := ⟨w.heap.size, 1, none⟩) hsz).trans c1; have d2 := (b2.cell (p := ⟨w.heap.size, 2, none⟩) hsz).trans c2; have hsz2 : w.heap.size < w2.heap.size := Nat.lt_of_lt_of_le hsz b2.size)
      go_region_with (go_at_call 115; refine (HD.out _).mono ?_; rintro e w3 ⟨rfl, b3⟩; have f1 : w3.cell? ⟨w.heap.size, 1, none⟩ = some (.string t) := (b3.cell (p := ⟨w.heap.size, 1, none⟩) hsz2).trans d1)
      all_goals
        go_wp2
        go_ret
        exact ⟨rfl, HB.out.trans ((b2.mono (Nat.le_of_lt hsz)).trans ((show Below w2.heap.size w2 w3 from ⟨b3.os, b3.tape, b3.output, b3.size, b3.block⟩).mono (Nat.le_of_lt hsz2)))⟩
    · rw [if_neg (by decide), if_neg (by decide)]
      clear hbx
      have hd := fun w => number_text n (by omega) (by omega) w
      have HD := Lib.hid hd
      clear hd
      go_enter Try.func79, Try.ntmps79
      go_wp2_with (first | (go_at_call 114; refine (HV.out _).mono ?_; rintro e w2 ⟨rfl, b2⟩; have d0 := (b2.cell (p := ⟨w.heap.size, 0, none⟩) hsz).trans c0; have d1 := (b2.cell (p := ⟨w.heap.size, 1, none⟩) hsz).trans c1; have d2 := (b2.cell (p := ⟨w.heap.size, 2, none⟩) hsz).trans c2; have hsz2 : w.heap.size < w2.heap.size := Nat.lt_of_lt_of_le hsz b2.size) | (go_at_call 115; refine (HD.out _).mono ?_; rintro e w3 ⟨rfl, b3⟩))
      go_ret
      exact ⟨rfl, HB.out.trans ((b2.mono (Nat.le_of_lt hsz)).trans (b3.mono (Nat.le_of_lt hsz2)))⟩
    · rw [if_neg (by decide), if_pos rfl]
      clear hbx h3
      go_enter Try.func79, Try.ntmps79
      go_wp2_with (go_at_call 114; refine (HV.out _).mono ?_; rintro e w2 ⟨rfl, b2⟩; have d0 := (b2.cell (p := ⟨w.heap.size, 0, none⟩) hsz).trans c0; have d1 := (b2.cell (p := ⟨w.heap.size, 1, none⟩) hsz).trans c1; have d2 := (b2.cell (p := ⟨w.heap.size, 2, none⟩) hsz).trans c2; have hsz2 : w.heap.size < w2.heap.size := Nat.lt_of_lt_of_le hsz b2.size)
      go_ret
      exact ⟨rfl, HB.out.trans (b2.mono (Nat.le_of_lt hsz))⟩
end Go.Proofs.Ytgeaccoobhigcaa
