/-
  The bytes of a text, counted; the walks of the small functions over strings.
-/
import Derived.Test.YtgeaccoobhigcaaRows
import Derived.WalkKit
import Derived.WalkSpells
import Derived.WalkLawsBesides
import Derived.Lib.Hide
namespace Go.Proofs.Ytgeaccoobhigcaa
open Go.RowKit

abbrev Bs := List UInt8
def smallB (c : UInt8) : Bool := decide (97 ≤ c.toNat ∧ c.toNat ≤ 122)
def digitB (c : UInt8) : Bool := decide (48 ≤ c.toNat ∧ c.toNat ≤ 57)
def partB (c : UInt8) : Bool := smallB c || digitB c || decide (c.toNat = 45) || decide (c.toNat = 95)
def blankB (c : UInt8) : Bool := decide (c.toNat = 32 ∨ c.toNat = 9 ∨ c.toNat = 10 ∨ c.toNat = 13)
/-- How many bytes at the head do. -/
def headN (p : UInt8 → Bool) : Bs → Nat
  | [] => 0
  | c :: r => if p c then headN p r + 1 else 0
/-- How many bytes blanks and remarks take; true: within a remark. -/
def skipN : Bool → Bs → Nat
  | _, [] => 0
  | true, c :: r => skipN (decide (c.toNat ≠ 10)) r + 1
  | false, c :: r => if blankB c then skipN false r + 1 else if c.toNat = 35 then skipN true r + 1 else 0

/-- What stands from a place on. -/
def from_ (s : ByteArray) (i : Nat) : Bs := s.data.toList.drop i
theorem from_lt (s : ByteArray) (i : Nat) (h : i < s.size) : from_ s i = s[i] :: from_ s (i + 1) := by
  unfold from_
  rw [List.drop_eq_getElem_cons (by simpa using h)]
  rfl
theorem from_ge (s : ByteArray) (i : Nat) (h : s.size ≤ i) : from_ s i = [] := by
  unfold from_
  exact List.drop_eq_nil_of_le (by simpa using h)
theorem from_length (s : ByteArray) (i : Nat) : (from_ s i).length = s.size - i := by simp [from_]
theorem headN_le (p : UInt8 → Bool) : ∀ l : Bs, headN p l ≤ l.length
  | [] => Nat.le_refl _
  | c :: r => by unfold headN; have := headN_le p r; split <;> simp <;> omega
theorem skipN_le : ∀ (b : Bool) (l : Bs), skipN b l ≤ l.length
  | _, [] => by simp [skipN]
  | true, c :: r => by unfold skipN; have := skipN_le (decide (c.toNat ≠ 10)) r; simp only [List.length_cons]; omega
  | false, c :: r => by unfold skipN; have := skipN_le false r; have := skipN_le true r; simp only [List.length_cons]; split <;> (try split) <;> omega

theorem headN_yes {p : UInt8 → Bool} (s : ByteArray) (k : Nat) (h : k < s.size) (hp : p s[k] = true) : headN p (from_ s k) = headN p (from_ s (k + 1)) + 1 := by
  rw [from_lt s k h]; simp [headN, hp]
theorem headN_no {p : UInt8 → Bool} (s : ByteArray) (k : Nat) (h : k < s.size) (hp : p s[k] = false) : headN p (from_ s k) = 0 := by
  rw [from_lt s k h]; simp [headN, hp]
theorem headN_end {p : UInt8 → Bool} (s : ByteArray) (k : Nat) (h : s.size ≤ k) : headN p (from_ s k) = 0 := by
  rw [from_ge s k h]; rfl

theorem ret_nat {k : IntKind} {a b : Nat} (h : a = b) : Ending.returned (.int k a) = .returned (.int k b) := by rw [h]

theorem small_any (c : Nat) (w : World) : Calls Try.prog 91 #[.int .u8 c] w fun e w' => e = .returned (.bool (decide (97 ≤ c ∧ c ≤ 122))) ∧ w' = w := by
  have e : decide (97 ≤ c ∧ c ≤ 122) = (decide ((97 : Int) ≤ (c : Int)) && decide ((c : Int) ≤ 122)) := by
    rw [Bool.eq_iff_iff]; simp; omega
  rw [e]
  clear e
  by_cases h1 : (97 : Int) ≤ (c : Int)
  · by_cases h2 : (c : Int) ≤ 122
    all_goals
      go_enter Try.func91, Try.ntmps91
      go_wp2
      go_ret
      exact ⟨by simp [h1, h2], rfl⟩
  · go_enter Try.func91, Try.ntmps91
    go_wp2
    go_ret
    exact ⟨by simp; omega, rfl⟩
theorem digit_any (c : Nat) (w : World) : Calls Try.prog 93 #[.int .u8 c] w fun e w' => e = .returned (.bool (decide (48 ≤ c ∧ c ≤ 57))) ∧ w' = w := by
  have e : decide (48 ≤ c ∧ c ≤ 57) = (decide ((48 : Int) ≤ (c : Int)) && decide ((c : Int) ≤ 57)) := by
    rw [Bool.eq_iff_iff]; simp; omega
  rw [e]
  clear e
  by_cases h1 : (48 : Int) ≤ (c : Int)
  · by_cases h2 : (c : Int) ≤ 57
    all_goals
      go_enter Try.func93, Try.ntmps93
      go_wp2
      go_ret
      exact ⟨by simp [h1, h2], rfl⟩
  · go_enter Try.func93, Try.ntmps93
    go_wp2
    go_ret
    exact ⟨by simp; omega, rfl⟩
set_option maxHeartbeats 1000000 in
theorem name_any (s : ByteArray) (i : Nat) (hi : i ≤ s.size) (hs : s.size ≤ maxLen) (w : World) :
    Calls Try.prog 92 #[.string s, .int .i64 i] w fun e w' => e = .returned (.int .i64 ((i + headN partB (from_ s i) : Nat) : Int)) ∧ w' = w := by
  unfold maxLen at hs
  go_enter Try.func92, Try.ntmps92
  go_wp2
  go_loop [1] (fun t => ∃ k : Nat, k ≤ s.size ∧ Hid (k + headN partB (from_ s k) = i + headN partB (from_ s i)) ∧ t = .int .i64 k) (fun t => s.size - (intOf t).toNat)
  case atStart => exact ⟨i, hi, Lib.hid rfl, rfl⟩
  case round =>
    obtain ⟨k, hk, HK, rfl⟩ := hrel
    by_cases hlt : k < s.size
    · by_cases h1 : 97 ≤ s[k].toNat ∧ s[k].toNat ≤ 122
      · have e1 := decide_eq_true h1
        have HY := Lib.hid (headN_yes (p := partB) s k hlt (by simp [partB, smallB, h1]))
        clear h1
        go_wp2_with (go_at_call 91; refine (small_any _ _).mono ?_; rintro e w' ⟨rfl, rfl⟩)
        go_round
        case rel => exact ⟨k + 1, by omega, Lib.hid (by have := HK.out; have := HY.out; omega), by go_num⟩
        case measure => simp [intOf]; omega
      · have e1 := decide_eq_false h1
        by_cases h2 : 48 ≤ s[k].toNat ∧ s[k].toNat ≤ 57
        · have e2 := decide_eq_true h2
          have HY := Lib.hid (headN_yes (p := partB) s k hlt (by simp [partB, digitB, h2]))
          clear h1 h2
          go_wp2_with (first | (go_at_call 91; refine (small_any _ _).mono ?_; rintro e w' ⟨rfl, rfl⟩) | (go_at_call 93; refine (digit_any _ _).mono ?_; rintro e w' ⟨rfl, rfl⟩))
          go_round
          case rel => exact ⟨k + 1, by omega, Lib.hid (by have := HK.out; have := HY.out; omega), by go_num⟩
          case measure => simp [intOf]; omega
        · have e2 := decide_eq_false h2
          by_cases h3 : s[k].toNat = 45
          · have HY := Lib.hid (headN_yes (p := partB) s k hlt (by simp [partB, h3]))
            have e3 : ((s[k].toNat : Int) == 45) = true := by simp; omega
            clear h1 h2 h3
            go_wp2_with (first | (go_at_call 91; refine (small_any _ _).mono ?_; rintro e w' ⟨rfl, rfl⟩) | (go_at_call 93; refine (digit_any _ _).mono ?_; rintro e w' ⟨rfl, rfl⟩))
            go_round
            case rel => exact ⟨k + 1, by omega, Lib.hid (by have := HK.out; have := HY.out; omega), by go_num⟩
            case measure => simp [intOf]; omega
          · have e3 : ((s[k].toNat : Int) == 45) = false := by simp; omega
            by_cases h4 : s[k].toNat = 95
            · have HY := Lib.hid (headN_yes (p := partB) s k hlt (by simp [partB, h4]))
              have e4 : ((s[k].toNat : Int) == 95) = true := by simp; omega
              clear h1 h2 h3 h4
              go_wp2_with (first | (go_at_call 91; refine (small_any _ _).mono ?_; rintro e w' ⟨rfl, rfl⟩) | (go_at_call 93; refine (digit_any _ _).mono ?_; rintro e w' ⟨rfl, rfl⟩))
              go_round
              case rel => exact ⟨k + 1, by omega, Lib.hid (by have := HK.out; have := HY.out; omega), by go_num⟩
              case measure => simp [intOf]; omega
            · have e4 : ((s[k].toNat : Int) == 95) = false := by simp; omega
              have HY := Lib.hid (headN_no (p := partB) s k hlt (by simp [partB, smallB, digitB, h1, h2, h3, h4]))
              clear h1 h2 h3 h4
              go_wp2_with (first | (go_at_call 91; refine (small_any _ _).mono ?_; rintro e w' ⟨rfl, rfl⟩) | (go_at_call 93; refine (digit_any _ _).mono ?_; rintro e w' ⟨rfl, rfl⟩))
              go_ret
              exact ⟨ret_nat (by have := HK.out; have := HY.out; omega), rfl⟩
    · have HY := Lib.hid (headN_end (p := partB) s k (by omega))
      go_wp2
      go_ret
      exact ⟨ret_nat (by have := HK.out; have := HY.out; omega), rfl⟩
end Go.Proofs.Ytgeaccoobhigcaa
