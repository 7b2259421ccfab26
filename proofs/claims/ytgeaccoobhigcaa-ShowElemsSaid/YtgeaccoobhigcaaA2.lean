/-
  The walks of the functions that pass over blanks, remarks and parts of a word.
-/
import Derived.Test.YtgeaccoobhigcaaA1
namespace Go.Proofs.Ytgeaccoobhigcaa
open Go.RowKit

theorem skip_blank (s : ByteArray) (k : Nat) (h : k < s.size) (hp : blankB s[k] = true) : skipN false (from_ s k) = skipN false (from_ s (k + 1)) + 1 := by
  rw [from_lt s k h]; simp [skipN, hp]
theorem skip_mark (s : ByteArray) (k : Nat) (h : k < s.size) (hp : s[k].toNat = 35) : skipN false (from_ s k) = skipN true (from_ s k) := by
  rw [from_lt s k h]; simp [skipN, hp, blankB]
theorem skip_stop (s : ByteArray) (k : Nat) (h : k < s.size) (hb : blankB s[k] = false) (hp : s[k].toNat ≠ 35) : skipN false (from_ s k) = 0 := by
  rw [from_lt s k h]; simp [skipN, hp, hb]
theorem skip_end (b : Bool) (s : ByteArray) (k : Nat) (h : s.size ≤ k) : skipN b (from_ s k) = 0 := by
  rw [from_ge s k h]; simp [skipN]
theorem skip_in (s : ByteArray) (k : Nat) (h : k < s.size) (hp : s[k].toNat ≠ 10) : skipN true (from_ s k) = skipN true (from_ s (k + 1)) + 1 := by
  rw [from_lt s k h]; simp [skipN, hp]
theorem skip_out (s : ByteArray) (k : Nat) (h : k < s.size) (hp : s[k].toNat = 10) : skipN true (from_ s k) = skipN false (from_ s k) := by
  rw [from_lt s k h]; simp [skipN, hp, blankB]

set_option maxHeartbeats 1000000 in
theorem part_any (c : UInt8) (w : World) : Calls Try.prog 107 #[.int .u8 c.toNat] w fun e w' => e = .returned (.bool (partB c)) ∧ w' = w := by
  have e : partB c = ((decide ((97 : Int) ≤ (c.toNat : Int)) && decide ((c.toNat : Int) ≤ 122)) || (decide ((48 : Int) ≤ (c.toNat : Int)) && decide ((c.toNat : Int) ≤ 57)) || ((c.toNat : Int) == 45) || ((c.toNat : Int) == 95)) := by
    rw [Bool.eq_iff_iff]; simp [partB, smallB, digitB]; omega
  rw [e]
  clear e
  generalize (c.toNat : Int) = n
  have h5 : ((n == 45) = true) ∨ ((n == 45) = false) := by cases (n == 45) <;> simp
  have h6 : ((n == 95) = true) ∨ ((n == 95) = false) := by cases (n == 95) <;> simp
  by_cases h1 : (97 : Int) ≤ n <;> by_cases h2 : n ≤ (122 : Int) <;> by_cases h3 : (48 : Int) ≤ n <;> by_cases h4 : n ≤ (57 : Int) <;> rcases h5 with h5 | h5 <;> rcases h6 with h6 | h6
  all_goals first | (exfalso; simp at h5 h6; omega) | skip
  all_goals
    first | rw [decide_eq_true h1] | rw [decide_eq_false h1]
    first | rw [decide_eq_true h2] | rw [decide_eq_false h2]
    first | rw [decide_eq_true h3] | rw [decide_eq_false h3]
    first | rw [decide_eq_true h4] | rw [decide_eq_false h4]
    rw [h5, h6]
    go_enter Try.func107, Try.ntmps107
    go_wp2
    go_ret
    exact ⟨rfl, rfl⟩

set_option maxHeartbeats 1000000 in
theorem parts_any (s : ByteArray) (i : Nat) (hi : i ≤ s.size) (hs : s.size ≤ maxLen) (w : World) :
    Calls Try.prog 87 #[.string s, .int .i64 i] w fun e w' => e = .returned (.int .i64 ((i + headN partB (from_ s i) : Nat) : Int)) ∧ w' = w := by
  unfold maxLen at hs
  go_enter Try.func87, Try.ntmps87
  go_wp2
  go_loop [1] (fun t => ∃ k : Nat, k ≤ s.size ∧ Hid (k + headN partB (from_ s k) = i + headN partB (from_ s i)) ∧ t = .int .i64 k) (fun t => s.size - (intOf t).toNat)
  case atStart => exact ⟨i, hi, Lib.hid rfl, rfl⟩
  case round =>
    obtain ⟨k, hk, HK, rfl⟩ := hrel
    by_cases hlt : k < s.size
    · rcases hp : partB s[k] with _ | _
      · have HY := Lib.hid (headN_no (p := partB) s k hlt hp)
        go_wp2_with (go_at_call 107; refine (part_any _ _).mono ?_; rintro e w' ⟨rfl, rfl⟩)
        go_ret
        exact ⟨ret_nat (by have := HK.out; have := HY.out; omega), rfl⟩
      · have HY := Lib.hid (headN_yes (p := partB) s k hlt hp)
        go_wp2_with (go_at_call 107; refine (part_any _ _).mono ?_; rintro e w' ⟨rfl, rfl⟩)
        go_round
        case rel => exact ⟨k + 1, by omega, Lib.hid (by have := HK.out; have := HY.out; omega), by go_num⟩
        case measure => simp [intOf]; omega
    · have HY := Lib.hid (headN_end (p := partB) s k (by omega))
      go_wp2
      go_ret
      exact ⟨ret_nat (by have := HK.out; have := HY.out; omega), rfl⟩

theorem rsmall_any (c : Nat) (w : World) : Calls Try.prog 86 #[.int .u8 c] w fun e w' => e = .returned (.bool (decide (97 ≤ c ∧ c ≤ 122))) ∧ w' = w := by
  have e : decide (97 ≤ c ∧ c ≤ 122) = (decide ((97 : Int) ≤ (c : Int)) && decide ((c : Int) ≤ 122)) := by
    rw [Bool.eq_iff_iff]; simp; omega
  rw [e]
  clear e
  by_cases h1 : (97 : Int) ≤ (c : Int)
  · by_cases h2 : (c : Int) ≤ 122
    all_goals
      go_enter Try.func86, Try.ntmps86
      go_wp2
      go_ret
      exact ⟨by simp [h1, h2], rfl⟩
  · go_enter Try.func86, Try.ntmps86
    go_wp2
    go_ret
    exact ⟨by simp; omega, rfl⟩
theorem rdigit_any (c : Nat) (w : World) : Calls Try.prog 89 #[.int .u8 c] w fun e w' => e = .returned (.bool (decide (48 ≤ c ∧ c ≤ 57))) ∧ w' = w := by
  have e : decide (48 ≤ c ∧ c ≤ 57) = (decide ((48 : Int) ≤ (c : Int)) && decide ((c : Int) ≤ 57)) := by
    rw [Bool.eq_iff_iff]; simp; omega
  rw [e]
  clear e
  by_cases h1 : (48 : Int) ≤ (c : Int)
  · by_cases h2 : (c : Int) ≤ 57
    all_goals
      go_enter Try.func89, Try.ntmps89
      go_wp2
      go_ret
      exact ⟨by simp [h1, h2], rfl⟩
  · go_enter Try.func89, Try.ntmps89
    go_wp2
    go_ret
    exact ⟨by simp; omega, rfl⟩
set_option maxHeartbeats 1000000 in
theorem blank_any (c : UInt8) (w : World) : Calls Try.prog 85 #[.int .u8 c.toNat] w fun e w' => e = .returned (.bool (blankB c)) ∧ w' = w := by
  have e : blankB c = (((c.toNat : Int) == 32) || ((c.toNat : Int) == 9) || ((c.toNat : Int) == 10) || ((c.toNat : Int) == 13)) := by
    rw [Bool.eq_iff_iff]; simp [blankB]; omega
  rw [e]
  clear e
  generalize (c.toNat : Int) = n
  rcases h1 : (n == 32) with _ | _ <;> rcases h2 : (n == 9) with _ | _ <;> rcases h3 : (n == 10) with _ | _ <;> rcases h4 : (n == 13) with _ | _
  all_goals first | (exfalso; simp at h1 h2 h3 h4; omega) | skip
  all_goals
    go_enter Try.func85, Try.ntmps85
    go_wp2
    go_ret
    exact ⟨rfl, rfl⟩

set_option maxHeartbeats 1000000 in
theorem skip_any (s : ByteArray) (i : Nat) (hi : i ≤ s.size) (hs : s.size ≤ maxLen) (w : World) :
    Calls Try.prog 54 #[.string s, .int .i64 i] w fun e w' => e = .returned (.int .i64 ((i + skipN false (from_ s i) : Nat) : Int)) ∧ w' = w := by
  unfold maxLen at hs
  go_enter Try.func54, Try.ntmps54
  go_wp2
  go_loop [1] (fun t => ∃ k : Nat, k ≤ s.size ∧ Hid (k + skipN false (from_ s k) = i + skipN false (from_ s i)) ∧ t = .int .i64 k) (fun t => s.size - (intOf t).toNat)
  case atStart => exact ⟨i, hi, Lib.hid rfl, rfl⟩
  case round =>
    obtain ⟨k, hk, HK, rfl⟩ := hrel
    by_cases hlt : k < s.size
    · rcases hp : blankB s[k] with _ | _
      · by_cases h35 : s[k].toNat = 35
        · have HY := Lib.hid (skip_mark s k hlt h35)
          have e35 : ((s[k].toNat : Int) == 35) = true := by simp; omega
          have HN := Lib.hid h35
          clear h35
          go_wp2_with (go_at_call 85; refine (blank_any _ _).mono ?_; rintro e w' ⟨rfl, rfl⟩)
          go_loop [1] (fun t => ∃ m : Nat, k ≤ m ∧ m ≤ s.size ∧ Hid (m + skipN true (from_ s m) = i + skipN false (from_ s i)) ∧ t = .int .i64 m) (fun t => s.size - (intOf t).toNat)
          case atStart => exact ⟨k, Nat.le_refl _, hk, Lib.hid (by have := HK.out; have := HY.out; omega), rfl⟩
          case round =>
            obtain ⟨m, hkm, hm, HM, rfl⟩ := hrel
            by_cases hml : m < s.size
            · by_cases h10 : s[m].toNat = 10
              · have e10 : ((s[m].toNat : Int) != 10) = false := by simp; omega
                have hne : k < m := by
                  rcases Nat.lt_or_ge k m with h | h
                  · exact h
                  · have : k = m := by omega
                    subst this
                    have := HN.out
                    omega
                have HZ := Lib.hid (skip_out s m hml h10)
                clear h10
                go_wp2
                go_round
                case rel => exact ⟨m, by omega, Lib.hid (by have := HM.out; have := HZ.out; omega), rfl⟩
                case measure => simp [intOf]; omega
              · have e10 : ((s[m].toNat : Int) != 10) = true := by simp; omega
                have HZ := Lib.hid (skip_in s m hml h10)
                clear h10
                go_wp2
                go_round
                case rel => exact ⟨m + 1, by omega, by omega, Lib.hid (by have := HM.out; have := HZ.out; omega), by go_num⟩
                case measure => simp [intOf]; omega
            · have HZ := Lib.hid (skip_end true s m (by omega))
              have HZ' := Lib.hid (skip_end false s m (by omega))
              go_wp2
              go_round
              case rel => exact ⟨m, by omega, Lib.hid (by have := HM.out; have := HZ.out; have := HZ'.out; omega), rfl⟩
              case measure => simp [intOf]; omega
        · have HY := Lib.hid (skip_stop s k hlt hp h35)
          have e35 : ((s[k].toNat : Int) == 35) = false := by simp; omega
          clear h35
          go_wp2_with (go_at_call 85; refine (blank_any _ _).mono ?_; rintro e w' ⟨rfl, rfl⟩)
          go_ret
          exact ⟨ret_nat (by have := HK.out; have := HY.out; omega), rfl⟩
      · have HY := Lib.hid (skip_blank s k hlt hp)
        go_wp2_with (go_at_call 85; refine (blank_any _ _).mono ?_; rintro e w' ⟨rfl, rfl⟩)
        go_round
        case rel => exact ⟨k + 1, by omega, Lib.hid (by have := HK.out; have := HY.out; omega), by go_num⟩
        case measure => simp [intOf]; omega
    · have HY := Lib.hid (skip_end false s k (by omega))
      go_wp2
      go_ret
      exact ⟨ret_nat (by have := HK.out; have := HY.out; omega), rfl⟩
end Go.Proofs.Ytgeaccoobhigcaa
