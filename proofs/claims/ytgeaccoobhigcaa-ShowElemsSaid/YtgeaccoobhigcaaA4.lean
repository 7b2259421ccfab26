/-
  The walks of sym's functions over the texts of words and numbers.
-/
import Derived.Test.YtgeaccoobhigcaaA3
namespace Go.Proofs.Ytgeaccoobhigcaa
open Go.RowKit

def valN : Nat → Bs → Nat
  | n, [] => n
  | n, c :: r => valN (10 * n + (c.toNat - 48)) r
def headIs (n : Nat) : Bs → Bool
  | [] => false
  | c :: _ => decide (c.toNat = n)
def headSmall : Bs → Bool
  | [] => false
  | c :: _ => smallB c
/-- A number's digits, shortest, at most 'most'. -/
def numOk (most : Nat) (l : Bs) : Bool := decide (1 ≤ l.length) && decide (l.length ≤ 10) && !(headIs 48 l && decide (1 < l.length)) && l.all digitB && decide (valN 0 l ≤ most)
/-- A word. -/
def wordB (l : Bs) : Bool := decide (1 ≤ l.length) && decide (l.length ≤ 32) && headSmall l && l.all partB

theorem from_zero (s : ByteArray) : from_ s 0 = s.data.toList := by simp [from_]
theorem size_toList (s : ByteArray) : s.data.toList.length = s.size := by simp
theorem toList_cons (s : ByteArray) (h : 0 < s.size) : s.data.toList = s[0] :: from_ s 1 := by rw [← from_zero, from_lt s 0 h]
theorem all_yes {p : UInt8 → Bool} (s : ByteArray) (k : Nat) (h : k < s.size) (hp : p s[k] = true) : (from_ s k).all p = (from_ s (k + 1)).all p := by
  rw [from_lt s k h]; simp [hp]
theorem all_no {p : UInt8 → Bool} (s : ByteArray) (k : Nat) (h : k < s.size) (hp : p s[k] = false) : (from_ s k).all p = false := by
  rw [from_lt s k h]; simp [hp]
theorem all_end {p : UInt8 → Bool} (s : ByteArray) (k : Nat) (h : s.size ≤ k) : (from_ s k).all p = true := by
  rw [from_ge s k h]; rfl

theorem ssmall_any (c : Nat) (w : World) : Calls Try.prog 128 #[.int .u8 c] w fun e w' => e = .returned (.bool (decide (97 ≤ c ∧ c ≤ 122))) ∧ w' = w := by
  have e : decide (97 ≤ c ∧ c ≤ 122) = (decide ((97 : Int) ≤ (c : Int)) && decide ((c : Int) ≤ 122)) := by
    rw [Bool.eq_iff_iff]; simp; omega
  rw [e]
  clear e
  by_cases h1 : (97 : Int) ≤ (c : Int)
  · by_cases h2 : (c : Int) ≤ 122
    all_goals
      go_enter Try.func128, Try.ntmps128
      go_wp2
      go_ret
      exact ⟨by simp [h1, h2], rfl⟩
  · go_enter Try.func128, Try.ntmps128
    go_wp2
    go_ret
    exact ⟨by simp; omega, rfl⟩
theorem sdigit_any (c : Nat) (w : World) : Calls Try.prog 129 #[.int .u8 c] w fun e w' => e = .returned (.bool (decide (48 ≤ c ∧ c ≤ 57))) ∧ w' = w := by
  have e : decide (48 ≤ c ∧ c ≤ 57) = (decide ((48 : Int) ≤ (c : Int)) && decide ((c : Int) ≤ 57)) := by
    rw [Bool.eq_iff_iff]; simp; omega
  rw [e]
  clear e
  by_cases h1 : (48 : Int) ≤ (c : Int)
  · by_cases h2 : (c : Int) ≤ 57
    all_goals
      go_enter Try.func129, Try.ntmps129
      go_wp2
      go_ret
      exact ⟨by simp [h1, h2], rfl⟩
  · go_enter Try.func129, Try.ntmps129
    go_wp2
    go_ret
    exact ⟨by simp; omega, rfl⟩
theorem great_any (c : Nat) (w : World) : Calls Try.prog 124 #[.int .u8 c] w fun e w' => e = .returned (.bool (decide (65 ≤ c ∧ c ≤ 90))) ∧ w' = w := by
  have e : decide (65 ≤ c ∧ c ≤ 90) = (decide ((65 : Int) ≤ (c : Int)) && decide ((c : Int) ≤ 90)) := by
    rw [Bool.eq_iff_iff]; simp; omega
  rw [e]
  clear e
  by_cases h1 : (65 : Int) ≤ (c : Int)
  · by_cases h2 : (c : Int) ≤ 90
    all_goals
      go_enter Try.func124, Try.ntmps124
      go_wp2
      go_ret
      exact ⟨by simp [h1, h2], rfl⟩
  · go_enter Try.func124, Try.ntmps124
    go_wp2
    go_ret
    exact ⟨by simp; omega, rfl⟩

theorem wordB_no1 (s : ByteArray) (h : ¬ (1 ≤ s.size ∧ s.size ≤ 32)) : wordB s.data.toList = false := by
  unfold wordB
  rw [size_toList]
  by_cases h1 : 1 ≤ s.size
  · have : ¬ s.size ≤ 32 := fun h2 => h ⟨h1, h2⟩
    simp [this]
  · simp [h1]
theorem wordB_no2 (s : ByteArray) (h1 : 0 < s.size) (h : smallB s[0] = false) : wordB s.data.toList = false := by
  unfold wordB
  rw [toList_cons s h1]
  simp [headSmall, h]
theorem wordB_yes (s : ByteArray) (h1 : 0 < s.size) (h2 : s.size ≤ 32) (h : smallB s[0] = true) : wordB s.data.toList = (from_ s 1).all partB := by
  unfold wordB
  rw [size_toList, toList_cons s h1]
  have hp : partB s[0] = true := by simp [partB, h]
  simp [headSmall, h, h2, hp]
  omega
theorem ret_bool {a b : Bool} (h : a = b) : Ending.returned (.bool a) = .returned (.bool b) := by rw [h]

set_option maxHeartbeats 1000000 in
theorem word_any (s : ByteArray) (hs : s.size ≤ 9223372036854775807) (w : World) :
    Calls Try.prog 100 #[.string s] w fun e w' => e = .returned (.bool (wordB s.data.toList)) ∧ w' = w := by
  by_cases h0 : 1 ≤ s.size ∧ s.size ≤ 32
  · obtain ⟨h1, h2⟩ := h0
    have h1' : 0 < s.size := h1
    rcases hsm : smallB s[0] with _ | _
    · rw [wordB_no2 s h1' hsm]
      unfold smallB at hsm
      go_enter Try.func100, Try.ntmps100
      go_wp2_with (go_at_call 128; refine (ssmall_any _ _).mono ?_; rintro e w' ⟨rfl, rfl⟩)
      go_ret
      exact ⟨rfl, rfl⟩
    · have HW := Lib.hid (wordB_yes s h1' h2 hsm)
      unfold smallB at hsm
      go_enter Try.func100, Try.ntmps100
      go_wp2_with (go_at_call 128; refine (ssmall_any _ _).mono ?_; rintro e w' ⟨rfl, rfl⟩)
      clear hsm
      go_loop [3] (fun t => ∃ k : Nat, 1 ≤ k ∧ k ≤ s.size ∧ Hid ((from_ s 1).all partB = (from_ s k).all partB) ∧ t = .int .i64 k) (fun t => s.size - (intOf t).toNat)
      case atStart => exact ⟨1, by omega, h1, Lib.hid rfl, rfl⟩
      case round =>
        obtain ⟨k, hk1, hk, HK, rfl⟩ := hrel
        by_cases hlt : k < s.size
        · by_cases a1 : 97 ≤ s[k].toNat ∧ s[k].toNat ≤ 122
          · have e1 := decide_eq_true a1
            have HY := Lib.hid (all_yes (p := partB) s k hlt (by simp [partB, smallB, a1]))
            clear a1
            go_wp2_with (first | (go_at_call 128; refine (ssmall_any _ _).mono ?_; rintro e w' ⟨rfl, rfl⟩) | (go_at_call 129; refine (sdigit_any _ _).mono ?_; rintro e w' ⟨rfl, rfl⟩))
            go_round
            case rel => exact ⟨k + 1, by omega, by omega, Lib.hid (by rw [HK.out, HY.out]), by go_num⟩
            case measure => simp [intOf]; omega
          · have e1 := decide_eq_false a1
            by_cases a2 : 48 ≤ s[k].toNat ∧ s[k].toNat ≤ 57
            · have e2 := decide_eq_true a2
              have HY := Lib.hid (all_yes (p := partB) s k hlt (by simp [partB, digitB, a2]))
              clear a1 a2
              go_wp2_with (first | (go_at_call 128; refine (ssmall_any _ _).mono ?_; rintro e w' ⟨rfl, rfl⟩) | (go_at_call 129; refine (sdigit_any _ _).mono ?_; rintro e w' ⟨rfl, rfl⟩))
              go_round
              case rel => exact ⟨k + 1, by omega, by omega, Lib.hid (by rw [HK.out, HY.out]), by go_num⟩
              case measure => simp [intOf]; omega
            · have e2 := decide_eq_false a2
              by_cases a3 : s[k].toNat = 45
              · have HY := Lib.hid (all_yes (p := partB) s k hlt (by simp [partB, a3]))
                have e3 : ((s[k].toNat : Int) != 45) = false := by simp; omega
                clear a1 a2 a3
                go_wp2_with (first | (go_at_call 128; refine (ssmall_any _ _).mono ?_; rintro e w' ⟨rfl, rfl⟩) | (go_at_call 129; refine (sdigit_any _ _).mono ?_; rintro e w' ⟨rfl, rfl⟩))
                go_round
                case rel => exact ⟨k + 1, by omega, by omega, Lib.hid (by rw [HK.out, HY.out]), by go_num⟩
                case measure => simp [intOf]; omega
              · have e3 : ((s[k].toNat : Int) != 45) = true := by simp; omega
                by_cases a4 : s[k].toNat = 95
                · have HY := Lib.hid (all_yes (p := partB) s k hlt (by simp [partB, a4]))
                  have e4 : ((s[k].toNat : Int) != 95) = false := by simp; omega
                  clear a1 a2 a3 a4
                  go_wp2_with (first | (go_at_call 128; refine (ssmall_any _ _).mono ?_; rintro e w' ⟨rfl, rfl⟩) | (go_at_call 129; refine (sdigit_any _ _).mono ?_; rintro e w' ⟨rfl, rfl⟩))
                  go_round
                  case rel => exact ⟨k + 1, by omega, by omega, Lib.hid (by rw [HK.out, HY.out]), by go_num⟩
                  case measure => simp [intOf]; omega
                · have e4 : ((s[k].toNat : Int) != 95) = true := by simp; omega
                  have HY := Lib.hid (all_no (p := partB) s k hlt (by simp [partB, smallB, digitB, a1, a2, a3, a4]))
                  clear a1 a2 a3 a4
                  go_wp2_with (first | (go_at_call 128; refine (ssmall_any _ _).mono ?_; rintro e w' ⟨rfl, rfl⟩) | (go_at_call 129; refine (sdigit_any _ _).mono ?_; rintro e w' ⟨rfl, rfl⟩))
                  go_ret
                  exact ⟨ret_bool (by rw [HW.out, HK.out, HY.out]), rfl⟩
        · have HY := Lib.hid (all_end (p := partB) s k (by omega))
          go_wp2
          go_ret
          exact ⟨ret_bool (by rw [HW.out, HK.out, HY.out]), rfl⟩
  · rw [wordB_no1 s h0]
    by_cases h1 : 1 ≤ s.size
    · have h2 : ¬ s.size ≤ 32 := fun h => h0 ⟨h1, h⟩
      have h1' : 0 < s.size := h1
      clear h0
      go_enter Try.func100, Try.ntmps100
      go_wp2
      go_ret
      exact ⟨rfl, rfl⟩
    · clear h0
      go_enter Try.func100, Try.ntmps100
      go_wp2
      go_ret
      exact ⟨rfl, rfl⟩
end Go.Proofs.Ytgeaccoobhigcaa
