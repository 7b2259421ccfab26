/-
  Symbols: their form, their text; sym's and ponderref04's.
-/
import Derived.Test.YtgeaccoobhigcaaS1
namespace Go.Proofs.Ytgeaccoobhigcaa
open Go Go.RowKit

/-- A symbol. -/
structure Sm where
  k : Int
  t : ByteArray
  n : Int
def Sm.val (s : Sm) : Value := .agg #[.int .i64 s.k, .string s.t, .int .i64 s.n]
def Sm.cells (s : Sm) : List Value := [.int .i64 s.k, .string s.t, .int .i64 s.n]
def headGreat : Bs → Bool
  | [] => false
  | c :: _ => decide (65 ≤ c.toNat ∧ c.toNat ≤ 90)
def validB (s : Sm) : Bool :=
  if s.k = 1 then decide (s.t.size = 1) && headGreat s.t.data.toList && decide (1 ≤ s.n ∧ s.n ≤ 1048576)
  else if s.k = 2 then decide (s.t.size = 0) && decide (-2147483647 ≤ s.n ∧ s.n ≤ 2147483647)
  else if s.k = 3 then decide (s.n = 0) && wordB s.t.data.toList
  else false
theorem headGreat_eq (s : ByteArray) (h : 0 < s.size) : headGreat s.data.toList = decide (65 ≤ s[0].toNat ∧ s[0].toNat ≤ 90) := by rw [toList_cons s h]; rfl
theorem str_nil {s : ByteArray} (h : s.size = 0) : (s.toList == []) = true := by
  rw [ByteArray.toList_eq]
  have : s.data.toList = [] := List.eq_nil_of_length_eq_zero (by rw [size_toList]; exact h)
  rw [this]; rfl
theorem str_cons {s : ByteArray} (h : s.size ≠ 0) : (s.toList == []) = false := by
  rw [ByteArray.toList_eq, toList_cons s (by omega)]; rfl

set_option maxHeartbeats 1000000 in
theorem rword_any (s : ByteArray) (hs : s.size ≤ 9223372036854775807) (w : World) :
    Calls Try.prog 67 #[.string s] w fun e w' => e = .returned (.bool (wordB s.data.toList)) ∧ w' = w := by
  by_cases h0 : 1 ≤ s.size ∧ s.size ≤ 32
  · obtain ⟨h1, h2⟩ := h0
    have h1' : 0 < s.size := h1
    have hc1 : ¬ (s.size : Int) < 1 := by omega
    have hc2 : ¬ (32 : Int) < (s.size : Int) := by omega
    rcases hsm : smallB s[0] with _ | _
    · rw [wordB_no2 s h1' hsm]
      simp only [smallB, decide_eq_false_iff_not] at hsm
      rcases (show s[0].toNat < 97 ∨ (97 ≤ s[0].toNat ∧ 122 < s[0].toNat) by omega) with hlo | ⟨hlo, hhi⟩
      · have q1 : (s[0].toNat : Int) < 97 := by omega
        clear hsm
        go_enter Try.func67, Try.ntmps67
        go_wp2
        go_ret
        exact ⟨rfl, rfl⟩
      · have q1 : ¬ (s[0].toNat : Int) < 97 := by omega
        have q2 : (122 : Int) < (s[0].toNat : Int) := by omega
        clear hsm
        go_enter Try.func67, Try.ntmps67
        go_wp2
        go_ret
        exact ⟨rfl, rfl⟩
    · have HW := Lib.hid (wordB_yes s h1' h2 hsm)
      have hp : partB s[0] = true := by simp [partB, hsm]
      have HA := Lib.hid (all_yes (p := partB) s 0 h1' hp)
      simp only [smallB, decide_eq_true_eq] at hsm
      have q1 : ¬ (s[0].toNat : Int) < 97 := by omega
      have q2 : ¬ (122 : Int) < (s[0].toNat : Int) := by omega
      clear hsm hp
      go_enter Try.func67, Try.ntmps67
      go_wp2
      go_loop [3] (fun t => ∃ k : Nat, k ≤ s.size ∧ Hid ((from_ s 0).all partB = (from_ s k).all partB) ∧ t = .int .i64 k) (fun t => s.size - (intOf t).toNat)
      case atStart => exact ⟨0, by omega, Lib.hid rfl, rfl⟩
      case round =>
        obtain ⟨k, hk, HK, rfl⟩ := hrel
        by_cases hlt : k < s.size
        · rcases hp : partB s[k] with _ | _
          · have HY := Lib.hid (all_no (p := partB) s k hlt hp)
            go_wp2_with (go_at_call 107; refine (part_any _ _).mono ?_; rintro e w' ⟨rfl, rfl⟩)
            go_ret
            exact ⟨ret_bool (by rw [HW.out, ← HA.out, HK.out, HY.out]), rfl⟩
          · have HY := Lib.hid (all_yes (p := partB) s k hlt hp)
            go_wp2_with (go_at_call 107; refine (part_any _ _).mono ?_; rintro e w' ⟨rfl, rfl⟩)
            go_round
            case rel => exact ⟨k + 1, by omega, Lib.hid (by rw [HK.out, HY.out]), by go_num⟩
            case measure => simp [intOf]; omega
        · have HY := Lib.hid (all_end (p := partB) s k (by omega))
          go_wp2
          go_ret
          exact ⟨ret_bool (by rw [HW.out, ← HA.out, HK.out, HY.out]), rfl⟩
  · rw [wordB_no1 s h0]
    by_cases h1 : 1 ≤ s.size
    · have h2 : (32 : Int) < (s.size : Int) := by omega
      have hc1 : ¬ (s.size : Int) < 1 := by omega
      clear h0
      go_enter Try.func67, Try.ntmps67
      go_wp2
      go_ret
      exact ⟨rfl, rfl⟩
    · have hc1 : (s.size : Int) < 1 := by omega
      clear h0
      go_enter Try.func67, Try.ntmps67
      go_wp2
      go_ret
      exact ⟨rfl, rfl⟩

set_option maxHeartbeats 4000000 in
theorem valid_any (s : Sm) (hs : s.t.size ≤ 9223372036854775807) (w : World) :
    Calls Try.prog 112 #[s.val] w fun e w' => e = .returned (.bool (validB s)) ∧ Below w.heap.size w w' := by
  obtain ⟨k, t, n⟩ := s
  unfold Sm.val
  simp only at hs ⊢
  by_cases h1 : k = 1
  · subst h1
    by_cases hz : t.size = 1
    · have h0 : 0 < t.size := by omega
      have hg := headGreat_eq t h0
      have ez : ((t.size : Int) == 1) = true := by simp; omega
      by_cases hG : 65 ≤ t[0].toNat ∧ t[0].toNat ≤ 90
      · rw [decide_eq_true hG] at hg
        have eg : decide (65 ≤ t[0].toNat ∧ t[0].toNat ≤ 90) = true := by simp [hG]
        have g1 : (65 : Int) ≤ (t[0].toNat : Int) := by omega
        have g2 : (t[0].toNat : Int) ≤ 90 := by omega
        rcases (show n < 1 ∨ (1 ≤ n ∧ 1048576 < n) ∨ (1 ≤ n ∧ n ≤ 1048576) by omega) with hn | ⟨hn, hn2⟩ | ⟨hn, hn2⟩
        · have hn' : ¬ 1 ≤ n := by omega
          rw [show validB _ = false by simp [validB, hz, hg, hn']]
          clear hg hz hG
          go_enter Try.func112, Try.ntmps112
          go_wp2_with (first | (go_at_call 124; refine (great_any _ _).mono ?_; rintro e w' ⟨rfl, rfl⟩) | (go_at_call 100; refine (word_any _ hs _).mono ?_; rintro e w' ⟨rfl, rfl⟩))
          go_ret
          exact ⟨rfl, (Below.refl _ _).alloc (Nat.le_refl _) _⟩
        · have hn' : ¬ n ≤ 1048576 := by omega
          have hq : decide (n ≤ 1048576) = false := by simp; omega
          rw [show validB _ = false by simp [validB, hz, hg, hn']]
          clear hg hz hG
          go_enter Try.func112, Try.ntmps112
          go_wp2_with (first | (go_at_call 124; refine (great_any _ _).mono ?_; rintro e w' ⟨rfl, rfl⟩) | (go_at_call 100; refine (word_any _ hs _).mono ?_; rintro e w' ⟨rfl, rfl⟩))
          go_ret
          exact ⟨rfl, (Below.refl _ _).alloc (Nat.le_refl _) _⟩
        · have hq : decide (n ≤ 1048576) = true := by simp; omega
          rw [show validB _ = true by simp [validB, hz, hg, hn, hn2]]
          clear hg hz hG
          go_enter Try.func112, Try.ntmps112
          go_wp2_with (first | (go_at_call 124; refine (great_any _ _).mono ?_; rintro e w' ⟨rfl, rfl⟩) | (go_at_call 100; refine (word_any _ hs _).mono ?_; rintro e w' ⟨rfl, rfl⟩))
          go_ret
          exact ⟨rfl, (Below.refl _ _).alloc (Nat.le_refl _) _⟩
      · rw [decide_eq_false hG] at hg
        have eg : decide (65 ≤ t[0].toNat ∧ t[0].toNat ≤ 90) = false := by simp; omega
        rcases (show t[0].toNat < 65 ∨ (65 ≤ t[0].toNat ∧ 90 < t[0].toNat) by omega) with hlo | ⟨hlo, hhi⟩
        · have g1 : ¬ (65 : Int) ≤ (t[0].toNat : Int) := by omega
          rw [show validB _ = false by simp [validB, hz, hg]]
          clear hg hz hG
          go_enter Try.func112, Try.ntmps112
          go_wp2_with (first | (go_at_call 124; refine (great_any _ _).mono ?_; rintro e w' ⟨rfl, rfl⟩) | (go_at_call 100; refine (word_any _ hs _).mono ?_; rintro e w' ⟨rfl, rfl⟩))
          go_ret
          exact ⟨rfl, (Below.refl _ _).alloc (Nat.le_refl _) _⟩
        · have g1 : (65 : Int) ≤ (t[0].toNat : Int) := by omega
          have g2 : ¬ (t[0].toNat : Int) ≤ 90 := by omega
          rw [show validB _ = false by simp [validB, hz, hg]]
          clear hg hz hG
          go_enter Try.func112, Try.ntmps112
          go_wp2_with (first | (go_at_call 124; refine (great_any _ _).mono ?_; rintro e w' ⟨rfl, rfl⟩) | (go_at_call 100; refine (word_any _ hs _).mono ?_; rintro e w' ⟨rfl, rfl⟩))
          go_ret
          exact ⟨rfl, (Below.refl _ _).alloc (Nat.le_refl _) _⟩
    · have ez : ((t.size : Int) == 1) = false := by simp; omega
      rw [show validB _ = false by simp [validB, hz]]
      clear hz
      go_enter Try.func112, Try.ntmps112
      go_wp2_with (first | (go_at_call 124; refine (great_any _ _).mono ?_; rintro e w' ⟨rfl, rfl⟩) | (go_at_call 100; refine (word_any _ hs _).mono ?_; rintro e w' ⟨rfl, rfl⟩))
      go_ret
      exact ⟨rfl, (Below.refl _ _).alloc (Nat.le_refl _) _⟩
  · have e1 : (k == 1) = false := by simp [h1]
    by_cases h2 : k = 2
    · subst h2
      by_cases hz : t.size = 0
      · have ez := str_nil hz
        rcases (show n < -2147483647 ∨ (-2147483647 ≤ n ∧ 2147483647 < n) ∨ (-2147483647 ≤ n ∧ n ≤ 2147483647) by omega) with hn | ⟨hn, hn2⟩ | ⟨hn, hn2⟩
        · have hn' : ¬ -2147483647 ≤ n := by omega
          rw [show validB _ = false by simp [validB, hz, hn']]
          clear hz h1 e1
          go_enter Try.func112, Try.ntmps112
          go_wp2_with (first | (go_at_call 124; refine (great_any _ _).mono ?_; rintro e w' ⟨rfl, rfl⟩) | (go_at_call 100; refine (word_any _ hs _).mono ?_; rintro e w' ⟨rfl, rfl⟩))
          go_ret
          exact ⟨rfl, (Below.refl _ _).alloc (Nat.le_refl _) _⟩
        · have hn' : ¬ n ≤ 2147483647 := by omega
          have hq : decide (n ≤ 2147483647) = false := by simp; omega
          rw [show validB _ = false by simp [validB, hz, hn']]
          clear hz h1 e1
          go_enter Try.func112, Try.ntmps112
          go_wp2_with (first | (go_at_call 124; refine (great_any _ _).mono ?_; rintro e w' ⟨rfl, rfl⟩) | (go_at_call 100; refine (word_any _ hs _).mono ?_; rintro e w' ⟨rfl, rfl⟩))
          go_ret
          exact ⟨rfl, (Below.refl _ _).alloc (Nat.le_refl _) _⟩
        · have hq : decide (n ≤ 2147483647) = true := by simp; omega
          rw [show validB _ = true by simp [validB, hz, hn, hn2]]
          clear hz h1 e1
          go_enter Try.func112, Try.ntmps112
          go_wp2_with (first | (go_at_call 124; refine (great_any _ _).mono ?_; rintro e w' ⟨rfl, rfl⟩) | (go_at_call 100; refine (word_any _ hs _).mono ?_; rintro e w' ⟨rfl, rfl⟩))
          go_ret
          exact ⟨rfl, (Below.refl _ _).alloc (Nat.le_refl _) _⟩
      · have ez := str_cons hz
        rw [show validB _ = false by simp [validB, hz]]
        clear hz h1 e1
        go_enter Try.func112, Try.ntmps112
        go_wp2_with (first | (go_at_call 124; refine (great_any _ _).mono ?_; rintro e w' ⟨rfl, rfl⟩) | (go_at_call 100; refine (word_any _ hs _).mono ?_; rintro e w' ⟨rfl, rfl⟩))
        go_ret
        exact ⟨rfl, (Below.refl _ _).alloc (Nat.le_refl _) _⟩
    · have e2 : (k == 2) = false := by simp [h2]
      by_cases h3 : k = 3
      · subst h3
        by_cases hn : n = 0
        · subst hn
          rw [show validB _ = wordB t.data.toList by simp [validB]]
          clear h1 h2 e1 e2
          go_enter Try.func112, Try.ntmps112
          go_wp2_with (first | (go_at_call 124; refine (great_any _ _).mono ?_; rintro e w' ⟨rfl, rfl⟩) | (go_at_call 100; refine (word_any _ hs _).mono ?_; rintro e w' ⟨rfl, rfl⟩))
          go_ret
          exact ⟨rfl, (Below.refl _ _).alloc (Nat.le_refl _) _⟩
        · have en : (n == 0) = false := by simp [hn]
          rw [show validB _ = false by simp [validB, hn]]
          clear h1 h2 e1 e2 hn
          go_enter Try.func112, Try.ntmps112
          go_wp2_with (first | (go_at_call 124; refine (great_any _ _).mono ?_; rintro e w' ⟨rfl, rfl⟩) | (go_at_call 100; refine (word_any _ hs _).mono ?_; rintro e w' ⟨rfl, rfl⟩))
          go_ret
          exact ⟨rfl, (Below.refl _ _).alloc (Nat.le_refl _) _⟩
      · have e3 : (k == 3) = false := by simp [h3]
        rw [show validB _ = false by simp [validB, h1, h2, h3]]
        clear h1 h2 h3
        go_enter Try.func112, Try.ntmps112
        go_wp2_with (first | (go_at_call 124; refine (great_any _ _).mono ?_; rintro e w' ⟨rfl, rfl⟩) | (go_at_call 100; refine (word_any _ hs _).mono ?_; rintro e w' ⟨rfl, rfl⟩))
        go_ret
        exact ⟨rfl, (Below.refl _ _).alloc (Nat.le_refl _) _⟩

set_option maxHeartbeats 4000000 in
theorem rvalid_any (s : Sm) (hs : s.t.size ≤ 9223372036854775807) (w : World) :
    Calls Try.prog 114 #[s.val] w fun e w' => e = .returned (.bool (validB s)) ∧ Below w.heap.size w w' := by
  obtain ⟨k, t, n⟩ := s
  unfold Sm.val
  simp only at hs ⊢
  by_cases h1 : k = 1
  · subst h1
    by_cases hz : t.size = 1
    · have h0 : 0 < t.size := by omega
      have hg := headGreat_eq t h0
      have ez : ((t.size : Int) == 1) = true := by simp; omega
      by_cases hG : 65 ≤ t[0].toNat ∧ t[0].toNat ≤ 90
      · rw [decide_eq_true hG] at hg
        have eg : decide (65 ≤ t[0].toNat ∧ t[0].toNat ≤ 90) = true := by simp [hG]
        have g1 : (65 : Int) ≤ (t[0].toNat : Int) := by omega
        have g2 : (t[0].toNat : Int) ≤ 90 := by omega
        rcases (show n < 1 ∨ (1 ≤ n ∧ 1048576 < n) ∨ (1 ≤ n ∧ n ≤ 1048576) by omega) with hn | ⟨hn, hn2⟩ | ⟨hn, hn2⟩
        · have hn' : ¬ 1 ≤ n := by omega
          rw [show validB _ = false by simp [validB, hz, hg, hn']]
          clear hg hz hG
          go_enter Try.func114, Try.ntmps114
          go_wp2_with (first | (go_at_call 67; refine (rword_any _ hs _).mono ?_; rintro e w' ⟨rfl, rfl⟩))
          go_ret
          exact ⟨rfl, (Below.refl _ _).alloc (Nat.le_refl _) _⟩
        · have hn' : ¬ n ≤ 1048576 := by omega
          have hq : decide (n ≤ 1048576) = false := by simp; omega
          rw [show validB _ = false by simp [validB, hz, hg, hn']]
          clear hg hz hG
          go_enter Try.func114, Try.ntmps114
          go_wp2_with (first | (go_at_call 67; refine (rword_any _ hs _).mono ?_; rintro e w' ⟨rfl, rfl⟩))
          go_ret
          exact ⟨rfl, (Below.refl _ _).alloc (Nat.le_refl _) _⟩
        · have hq : decide (n ≤ 1048576) = true := by simp; omega
          rw [show validB _ = true by simp [validB, hz, hg, hn, hn2]]
          clear hg hz hG
          go_enter Try.func114, Try.ntmps114
          go_wp2_with (first | (go_at_call 67; refine (rword_any _ hs _).mono ?_; rintro e w' ⟨rfl, rfl⟩))
          go_ret
          exact ⟨rfl, (Below.refl _ _).alloc (Nat.le_refl _) _⟩
      · rw [decide_eq_false hG] at hg
        have eg : decide (65 ≤ t[0].toNat ∧ t[0].toNat ≤ 90) = false := by simp; omega
        rcases (show t[0].toNat < 65 ∨ (65 ≤ t[0].toNat ∧ 90 < t[0].toNat) by omega) with hlo | ⟨hlo, hhi⟩
        · have g1 : ¬ (65 : Int) ≤ (t[0].toNat : Int) := by omega
          rw [show validB _ = false by simp [validB, hz, hg]]
          clear hg hz hG
          go_enter Try.func114, Try.ntmps114
          go_wp2_with (first | (go_at_call 67; refine (rword_any _ hs _).mono ?_; rintro e w' ⟨rfl, rfl⟩))
          go_ret
          exact ⟨rfl, (Below.refl _ _).alloc (Nat.le_refl _) _⟩
        · have g1 : (65 : Int) ≤ (t[0].toNat : Int) := by omega
          have g2 : ¬ (t[0].toNat : Int) ≤ 90 := by omega
          rw [show validB _ = false by simp [validB, hz, hg]]
          clear hg hz hG
          go_enter Try.func114, Try.ntmps114
          go_wp2_with (first | (go_at_call 67; refine (rword_any _ hs _).mono ?_; rintro e w' ⟨rfl, rfl⟩))
          go_ret
          exact ⟨rfl, (Below.refl _ _).alloc (Nat.le_refl _) _⟩
    · have ez : ((t.size : Int) == 1) = false := by simp; omega
      rw [show validB _ = false by simp [validB, hz]]
      clear hz
      go_enter Try.func114, Try.ntmps114
      go_wp2_with (first | (go_at_call 67; refine (rword_any _ hs _).mono ?_; rintro e w' ⟨rfl, rfl⟩))
      go_ret
      exact ⟨rfl, (Below.refl _ _).alloc (Nat.le_refl _) _⟩
  · have e1 : (k == 1) = false := by simp [h1]
    by_cases h2 : k = 2
    · subst h2
      by_cases hz : t.size = 0
      · have ez := str_nil hz
        rcases (show n < -2147483647 ∨ (-2147483647 ≤ n ∧ 2147483647 < n) ∨ (-2147483647 ≤ n ∧ n ≤ 2147483647) by omega) with hn | ⟨hn, hn2⟩ | ⟨hn, hn2⟩
        · have hn' : ¬ -2147483647 ≤ n := by omega
          rw [show validB _ = false by simp [validB, hz, hn']]
          clear hz h1 e1
          go_enter Try.func114, Try.ntmps114
          go_wp2_with (first | (go_at_call 67; refine (rword_any _ hs _).mono ?_; rintro e w' ⟨rfl, rfl⟩))
          go_ret
          exact ⟨rfl, (Below.refl _ _).alloc (Nat.le_refl _) _⟩
        · have hn' : ¬ n ≤ 2147483647 := by omega
          have hq : decide (n ≤ 2147483647) = false := by simp; omega
          rw [show validB _ = false by simp [validB, hz, hn']]
          clear hz h1 e1
          go_enter Try.func114, Try.ntmps114
          go_wp2_with (first | (go_at_call 67; refine (rword_any _ hs _).mono ?_; rintro e w' ⟨rfl, rfl⟩))
          go_ret
          exact ⟨rfl, (Below.refl _ _).alloc (Nat.le_refl _) _⟩
        · have hq : decide (n ≤ 2147483647) = true := by simp; omega
          rw [show validB _ = true by simp [validB, hz, hn, hn2]]
          clear hz h1 e1
          go_enter Try.func114, Try.ntmps114
          go_wp2_with (first | (go_at_call 67; refine (rword_any _ hs _).mono ?_; rintro e w' ⟨rfl, rfl⟩))
          go_ret
          exact ⟨rfl, (Below.refl _ _).alloc (Nat.le_refl _) _⟩
      · have ez := str_cons hz
        rw [show validB _ = false by simp [validB, hz]]
        clear hz h1 e1
        go_enter Try.func114, Try.ntmps114
        go_wp2_with (first | (go_at_call 67; refine (rword_any _ hs _).mono ?_; rintro e w' ⟨rfl, rfl⟩))
        go_ret
        exact ⟨rfl, (Below.refl _ _).alloc (Nat.le_refl _) _⟩
    · have e2 : (k == 2) = false := by simp [h2]
      by_cases h3 : k = 3
      · subst h3
        by_cases hn : n = 0
        · subst hn
          rw [show validB _ = wordB t.data.toList by simp [validB]]
          clear h1 h2 e1 e2
          go_enter Try.func114, Try.ntmps114
          go_wp2_with (first | (go_at_call 67; refine (rword_any _ hs _).mono ?_; rintro e w' ⟨rfl, rfl⟩))
          go_ret
          exact ⟨rfl, (Below.refl _ _).alloc (Nat.le_refl _) _⟩
        · have en : (n == 0) = false := by simp [hn]
          rw [show validB _ = false by simp [validB, hn]]
          clear h1 h2 e1 e2 hn
          go_enter Try.func114, Try.ntmps114
          go_wp2_with (first | (go_at_call 67; refine (rword_any _ hs _).mono ?_; rintro e w' ⟨rfl, rfl⟩))
          go_ret
          exact ⟨rfl, (Below.refl _ _).alloc (Nat.le_refl _) _⟩
      · have e3 : (k == 3) = false := by simp [h3]
        rw [show validB _ = false by simp [validB, h1, h2, h3]]
        clear h1 h2 h3
        go_enter Try.func114, Try.ntmps114
        go_wp2_with (first | (go_at_call 67; refine (rword_any _ hs _).mono ?_; rintro e w' ⟨rfl, rfl⟩))
        go_ret
        exact ⟨rfl, (Below.refl _ _).alloc (Nat.le_refl _) _⟩

end Go.Proofs.Ytgeaccoobhigcaa
