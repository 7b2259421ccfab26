/-
  The bytes of a text, counted; the walks of the small functions over strings. The walks of the functions that pass over blanks, remarks and parts of a word. The walks of lex.blanks, lex.begins and lex.sign. The walks of sym's functions over the texts of words and numbers. Slices as they read in memory, appends onto a full slice, small facts on worlds. No condition of its own. A range over a function, in two pieces: the statement, and one round. Strings: equal by their bytes; one byte as a string; sizes of sums. The digits of numbers: sym.digits and ponderref04's. Symbols: their form, their text; sym's and ponderref04's. The texts of symbols: sym.Text and ponderref04's. The texts of symbols: sym.Text and ponderref04.Text. The texts of atoms; the signs of tests and of preferences. The texts of terms. The texts of elements. The texts of actions: show's. The texts of actions: the document's.
-/
import Derived.Test.YtgeaccoobhigcaaRows
import Derived.WalkKit
import Derived.WalkSpells
import Derived.WalkLawsBesides
import Derived.Lib.Hide
import Derived.Deep.DeepCutAuto
import Derived.Deep.RegionHeld3
import Derived.Deep.AppendLies
import Derived.RangeFuncNested
import Derived.RangeFuncBound
import Derived.RangeFuncCalls
import Derived.RangeFuncLeaves
import Derived.OwnWalkIn
import Derived.TacticsInMore
import Derived.LoopNIn
import Derived.LoopIn
import Derived.Below
import Derived.Laws.BytesArg
import Derived.Deep.RegionWith
import Derived.IntWalk
namespace Go.Proofs.Ytgeaccoobhigcaa
open Go.RowKit

abbrev Bs := List UInt8
def smallB (c : UInt8) : Bool := decide (97 ≤ c.toNat ∧ c.toNat ≤ 122)
def digitB (c : UInt8) : Bool := decide (48 ≤ c.toNat ∧ c.toNat ≤ 57)
def partB (c : UInt8) : Bool := smallB c || digitB c || decide (c.toNat = 45) || decide (c.toNat = 95)
def blankB (c : UInt8) : Bool := decide (c.toNat = 32 ∨ c.toNat = 9 ∨ c.toNat = 10 ∨ c.toNat = 13)
/-- How many bytes at the head do. -/
def headN (p : UInt8 → Bool) : Bs → Nat
  | [] => 0
  | c :: r => if p c then headN p r + 1 else 0
/-- How many bytes blanks and remarks take; true: within a remark. -/
def skipN : Bool → Bs → Nat
  | _, [] => 0
  | true, c :: r => skipN (decide (c.toNat ≠ 10)) r + 1
  | false, c :: r => if blankB c then skipN false r + 1 else if c.toNat = 35 then skipN true r + 1 else 0

/-- What stands from a place on. -/
def from_ (s : ByteArray) (i : Nat) : Bs := s.data.toList.drop i
theorem from_lt (s : ByteArray) (i : Nat) (h : i < s.size) : from_ s i = s[i] :: from_ s (i + 1) := by
  unfold from_
  rw [List.drop_eq_getElem_cons (by simpa using h)]
  rfl
theorem from_ge (s : ByteArray) (i : Nat) (h : s.size ≤ i) : from_ s i = [] := by
  unfold from_
  exact List.drop_eq_nil_of_le (by simpa using h)
theorem from_length (s : ByteArray) (i : Nat) : (from_ s i).length = s.size - i := by simp [from_]
theorem headN_le (p : UInt8 → Bool) : ∀ l : Bs, headN p l ≤ l.length
  | [] => Nat.le_refl _
  | c :: r => by unfold headN; have := headN_le p r; split <;> simp <;> omega
theorem skipN_le : ∀ (b : Bool) (l : Bs), skipN b l ≤ l.length
  | _, [] => by simp [skipN]
  | true, c :: r => by unfold skipN; have := skipN_le (decide (c.toNat ≠ 10)) r; simp only [List.length_cons]; omega
  | false, c :: r => by unfold skipN; have := skipN_le false r; have := skipN_le true r; simp only [List.length_cons]; split <;> (try split) <;> omega

theorem headN_yes {p : UInt8 → Bool} (s : ByteArray) (k : Nat) (h : k < s.size) (hp : p s[k] = true) : headN p (from_ s k) = headN p (from_ s (k + 1)) + 1 := by
  rw [from_lt s k h]; simp [headN, hp]
theorem headN_no {p : UInt8 → Bool} (s : ByteArray) (k : Nat) (h : k < s.size) (hp : p s[k] = false) : headN p (from_ s k) = 0 := by
  rw [from_lt s k h]; simp [headN, hp]
theorem headN_end {p : UInt8 → Bool} (s : ByteArray) (k : Nat) (h : s.size ≤ k) : headN p (from_ s k) = 0 := by
  rw [from_ge s k h]; rfl

theorem ret_nat {k : IntKind} {a b : Nat} (h : a = b) : Ending.returned (.int k a) = .returned (.int k b) := by rw [h]

theorem small_any (c : Nat) (w : World) : Calls Try.prog 91 #[.int .u8 c] w fun e w' => e = .returned (.bool (decide (97 ≤ c ∧ c ≤ 122))) ∧ w' = w := by
  have e : decide (97 ≤ c ∧ c ≤ 122) = (decide ((97 : Int) ≤ (c : Int)) && decide ((c : Int) ≤ 122)) := by
    rw [Bool.eq_iff_iff]; simp; omega
  rw [e]
  clear e
  by_cases h1 : (97 : Int) ≤ (c : Int)
  · by_cases h2 : (c : Int) ≤ 122
    all_goals
      go_enter Try.func91, Try.ntmps91
      go_wp2
      go_ret
      exact ⟨by simp [h1, h2], rfl⟩
  · go_enter Try.func91, Try.ntmps91
    go_wp2
    go_ret
    exact ⟨by simp; omega, rfl⟩
theorem digit_any (c : Nat) (w : World) : Calls Try.prog 93 #[.int .u8 c] w fun e w' => e = .returned (.bool (decide (48 ≤ c ∧ c ≤ 57))) ∧ w' = w := by
  have e : decide (48 ≤ c ∧ c ≤ 57) = (decide ((48 : Int) ≤ (c : Int)) && decide ((c : Int) ≤ 57)) := by
    rw [Bool.eq_iff_iff]; simp; omega
  rw [e]
  clear e
  by_cases h1 : (48 : Int) ≤ (c : Int)
  · by_cases h2 : (c : Int) ≤ 57
    all_goals
      go_enter Try.func93, Try.ntmps93
      go_wp2
      go_ret
      exact ⟨by simp [h1, h2], rfl⟩
  · go_enter Try.func93, Try.ntmps93
    go_wp2
    go_ret
    exact ⟨by simp; omega, rfl⟩
set_option maxHeartbeats 1000000 in
theorem name_any (s : ByteArray) (i : Nat) (hi : i ≤ s.size) (hs : s.size ≤ maxLen) (w : World) :
    Calls Try.prog 92 #[.string s, .int .i64 i] w fun e w' => e = .returned (.int .i64 ((i + headN partB (from_ s i) : Nat) : Int)) ∧ w' = w := by
  unfold maxLen at hs
  go_enter Try.func92, Try.ntmps92
  go_wp2
  go_loop [1] (fun t => ∃ k : Nat, k ≤ s.size ∧ Hid (k + headN partB (from_ s k) = i + headN partB (from_ s i)) ∧ t = .int .i64 k) (fun t => s.size - (intOf t).toNat)
  case atStart => exact ⟨i, hi, Lib.hid rfl, rfl⟩
  case round =>
    obtain ⟨k, hk, HK, rfl⟩ := hrel
    by_cases hlt : k < s.size
    · by_cases h1 : 97 ≤ s[k].toNat ∧ s[k].toNat ≤ 122
      · have e1 := decide_eq_true h1
        have HY := Lib.hid (headN_yes (p := partB) s k hlt (by simp [partB, smallB, h1]))
        clear h1
        go_wp2_with (go_at_call 91; refine (small_any _ _).mono ?_; rintro e w' ⟨rfl, rfl⟩)
        go_round
        case rel => exact ⟨k + 1, by omega, Lib.hid (by have := HK.out; have := HY.out; omega), by go_num⟩
        case measure => simp [intOf]; omega
      · have e1 := decide_eq_false h1
        by_cases h2 : 48 ≤ s[k].toNat ∧ s[k].toNat ≤ 57
        · have e2 := decide_eq_true h2
          have HY := Lib.hid (headN_yes (p := partB) s k hlt (by simp [partB, digitB, h2]))
          clear h1 h2
          go_wp2_with (first | (go_at_call 91; refine (small_any _ _).mono ?_; rintro e w' ⟨rfl, rfl⟩) | (go_at_call 93; refine (digit_any _ _).mono ?_; rintro e w' ⟨rfl, rfl⟩))
          go_round
          case rel => exact ⟨k + 1, by omega, Lib.hid (by have := HK.out; have := HY.out; omega), by go_num⟩
          case measure => simp [intOf]; omega
        · have e2 := decide_eq_false h2
          by_cases h3 : s[k].toNat = 45
          · have HY := Lib.hid (headN_yes (p := partB) s k hlt (by simp [partB, h3]))
            have e3 : ((s[k].toNat : Int) == 45) = true := by simp; omega
            clear h1 h2 h3
            go_wp2_with (first | (go_at_call 91; refine (small_any _ _).mono ?_; rintro e w' ⟨rfl, rfl⟩) | (go_at_call 93; refine (digit_any _ _).mono ?_; rintro e w' ⟨rfl, rfl⟩))
            go_round
            case rel => exact ⟨k + 1, by omega, Lib.hid (by have := HK.out; have := HY.out; omega), by go_num⟩
            case measure => simp [intOf]; omega
          · have e3 : ((s[k].toNat : Int) == 45) = false := by simp; omega
            by_cases h4 : s[k].toNat = 95
            · have HY := Lib.hid (headN_yes (p := partB) s k hlt (by simp [partB, h4]))
              have e4 : ((s[k].toNat : Int) == 95) = true := by simp; omega
              clear h1 h2 h3 h4
              go_wp2_with (first | (go_at_call 91; refine (small_any _ _).mono ?_; rintro e w' ⟨rfl, rfl⟩) | (go_at_call 93; refine (digit_any _ _).mono ?_; rintro e w' ⟨rfl, rfl⟩))
              go_round
              case rel => exact ⟨k + 1, by omega, Lib.hid (by have := HK.out; have := HY.out; omega), by go_num⟩
              case measure => simp [intOf]; omega
            · have e4 : ((s[k].toNat : Int) == 95) = false := by simp; omega
              have HY := Lib.hid (headN_no (p := partB) s k hlt (by simp [partB, smallB, digitB, h1, h2, h3, h4]))
              clear h1 h2 h3 h4
              go_wp2_with (first | (go_at_call 91; refine (small_any _ _).mono ?_; rintro e w' ⟨rfl, rfl⟩) | (go_at_call 93; refine (digit_any _ _).mono ?_; rintro e w' ⟨rfl, rfl⟩))
              go_ret
              exact ⟨ret_nat (by have := HK.out; have := HY.out; omega), rfl⟩
    · have HY := Lib.hid (headN_end (p := partB) s k (by omega))
      go_wp2
      go_ret
      exact ⟨ret_nat (by have := HK.out; have := HY.out; omega), rfl⟩
end Go.Proofs.Ytgeaccoobhigcaa
namespace Go.Proofs.Ytgeaccoobhigcaa
open Go.RowKit

theorem skip_blank (s : ByteArray) (k : Nat) (h : k < s.size) (hp : blankB s[k] = true) : skipN false (from_ s k) = skipN false (from_ s (k + 1)) + 1 := by
  rw [from_lt s k h]; simp [skipN, hp]
theorem skip_mark (s : ByteArray) (k : Nat) (h : k < s.size) (hp : s[k].toNat = 35) : skipN false (from_ s k) = skipN true (from_ s k) := by
  rw [from_lt s k h]; simp [skipN, hp, blankB]
theorem skip_stop (s : ByteArray) (k : Nat) (h : k < s.size) (hb : blankB s[k] = false) (hp : s[k].toNat ≠ 35) : skipN false (from_ s k) = 0 := by
  rw [from_lt s k h]; simp [skipN, hp, hb]
theorem skip_end (b : Bool) (s : ByteArray) (k : Nat) (h : s.size ≤ k) : skipN b (from_ s k) = 0 := by
  rw [from_ge s k h]; simp [skipN]
theorem skip_in (s : ByteArray) (k : Nat) (h : k < s.size) (hp : s[k].toNat ≠ 10) : skipN true (from_ s k) = skipN true (from_ s (k + 1)) + 1 := by
  rw [from_lt s k h]; simp [skipN, hp]
theorem skip_out (s : ByteArray) (k : Nat) (h : k < s.size) (hp : s[k].toNat = 10) : skipN true (from_ s k) = skipN false (from_ s k) := by
  rw [from_lt s k h]; simp [skipN, hp, blankB]

set_option maxHeartbeats 1000000 in
theorem part_any (c : UInt8) (w : World) : Calls Try.prog 107 #[.int .u8 c.toNat] w fun e w' => e = .returned (.bool (partB c)) ∧ w' = w := by
  have e : partB c = ((decide ((97 : Int) ≤ (c.toNat : Int)) && decide ((c.toNat : Int) ≤ 122)) || (decide ((48 : Int) ≤ (c.toNat : Int)) && decide ((c.toNat : Int) ≤ 57)) || ((c.toNat : Int) == 45) || ((c.toNat : Int) == 95)) := by
    rw [Bool.eq_iff_iff]; simp [partB, smallB, digitB]; omega
  rw [e]
  clear e
  generalize (c.toNat : Int) = n
  have h5 : ((n == 45) = true) ∨ ((n == 45) = false) := by cases (n == 45) <;> simp
  have h6 : ((n == 95) = true) ∨ ((n == 95) = false) := by cases (n == 95) <;> simp
  by_cases h1 : (97 : Int) ≤ n <;> by_cases h2 : n ≤ (122 : Int) <;> by_cases h3 : (48 : Int) ≤ n <;> by_cases h4 : n ≤ (57 : Int) <;> rcases h5 with h5 | h5 <;> rcases h6 with h6 | h6
  all_goals first | (exfalso; simp at h5 h6; omega) | skip
  all_goals
    first | rw [decide_eq_true h1] | rw [decide_eq_false h1]
    first | rw [decide_eq_true h2] | rw [decide_eq_false h2]
    first | rw [decide_eq_true h3] | rw [decide_eq_false h3]
    first | rw [decide_eq_true h4] | rw [decide_eq_false h4]
    rw [h5, h6]
    go_enter Try.func107, Try.ntmps107
    go_wp2
    go_ret
    exact ⟨rfl, rfl⟩

set_option maxHeartbeats 1000000 in
theorem parts_any (s : ByteArray) (i : Nat) (hi : i ≤ s.size) (hs : s.size ≤ maxLen) (w : World) :
    Calls Try.prog 87 #[.string s, .int .i64 i] w fun e w' => e = .returned (.int .i64 ((i + headN partB (from_ s i) : Nat) : Int)) ∧ w' = w := by
  unfold maxLen at hs
  go_enter Try.func87, Try.ntmps87
  go_wp2
  go_loop [1] (fun t => ∃ k : Nat, k ≤ s.size ∧ Hid (k + headN partB (from_ s k) = i + headN partB (from_ s i)) ∧ t = .int .i64 k) (fun t => s.size - (intOf t).toNat)
  case atStart => exact ⟨i, hi, Lib.hid rfl, rfl⟩
  case round =>
    obtain ⟨k, hk, HK, rfl⟩ := hrel
    by_cases hlt : k < s.size
    · rcases hp : partB s[k] with _ | _
      · have HY := Lib.hid (headN_no (p := partB) s k hlt hp)
        go_wp2_with (go_at_call 107; refine (part_any _ _).mono ?_; rintro e w' ⟨rfl, rfl⟩)
        go_ret
        exact ⟨ret_nat (by have := HK.out; have := HY.out; omega), rfl⟩
      · have HY := Lib.hid (headN_yes (p := partB) s k hlt hp)
        go_wp2_with (go_at_call 107; refine (part_any _ _).mono ?_; rintro e w' ⟨rfl, rfl⟩)
        go_round
        case rel => exact ⟨k + 1, by omega, Lib.hid (by have := HK.out; have := HY.out; omega), by go_num⟩
        case measure => simp [intOf]; omega
    · have HY := Lib.hid (headN_end (p := partB) s k (by omega))
      go_wp2
      go_ret
      exact ⟨ret_nat (by have := HK.out; have := HY.out; omega), rfl⟩

theorem rsmall_any (c : Nat) (w : World) : Calls Try.prog 86 #[.int .u8 c] w fun e w' => e = .returned (.bool (decide (97 ≤ c ∧ c ≤ 122))) ∧ w' = w := by
  have e : decide (97 ≤ c ∧ c ≤ 122) = (decide ((97 : Int) ≤ (c : Int)) && decide ((c : Int) ≤ 122)) := by
    rw [Bool.eq_iff_iff]; simp; omega
  rw [e]
  clear e
  by_cases h1 : (97 : Int) ≤ (c : Int)
  · by_cases h2 : (c : Int) ≤ 122
    all_goals
      go_enter Try.func86, Try.ntmps86
      go_wp2
      go_ret
      exact ⟨by simp [h1, h2], rfl⟩
  · go_enter Try.func86, Try.ntmps86
    go_wp2
    go_ret
    exact ⟨by simp; omega, rfl⟩
theorem rdigit_any (c : Nat) (w : World) : Calls Try.prog 89 #[.int .u8 c] w fun e w' => e = .returned (.bool (decide (48 ≤ c ∧ c ≤ 57))) ∧ w' = w := by
  have e : decide (48 ≤ c ∧ c ≤ 57) = (decide ((48 : Int) ≤ (c : Int)) && decide ((c : Int) ≤ 57)) := by
    rw [Bool.eq_iff_iff]; simp; omega
  rw [e]
  clear e
  by_cases h1 : (48 : Int) ≤ (c : Int)
  · by_cases h2 : (c : Int) ≤ 57
    all_goals
      go_enter Try.func89, Try.ntmps89
      go_wp2
      go_ret
      exact ⟨by simp [h1, h2], rfl⟩
  · go_enter Try.func89, Try.ntmps89
    go_wp2
    go_ret
    exact ⟨by simp; omega, rfl⟩
set_option maxHeartbeats 1000000 in
theorem blank_any (c : UInt8) (w : World) : Calls Try.prog 85 #[.int .u8 c.toNat] w fun e w' => e = .returned (.bool (blankB c)) ∧ w' = w := by
  have e : blankB c = (((c.toNat : Int) == 32) || ((c.toNat : Int) == 9) || ((c.toNat : Int) == 10) || ((c.toNat : Int) == 13)) := by
    rw [Bool.eq_iff_iff]; simp [blankB]; omega
  rw [e]
  clear e
  generalize (c.toNat : Int) = n
  rcases h1 : (n == 32) with _ | _ <;> rcases h2 : (n == 9) with _ | _ <;> rcases h3 : (n == 10) with _ | _ <;> rcases h4 : (n == 13) with _ | _
  all_goals first | (exfalso; simp at h1 h2 h3 h4; omega) | skip
  all_goals
    go_enter Try.func85, Try.ntmps85
    go_wp2
    go_ret
    exact ⟨rfl, rfl⟩

set_option maxHeartbeats 1000000 in
theorem skip_any (s : ByteArray) (i : Nat) (hi : i ≤ s.size) (hs : s.size ≤ maxLen) (w : World) :
    Calls Try.prog 54 #[.string s, .int .i64 i] w fun e w' => e = .returned (.int .i64 ((i + skipN false (from_ s i) : Nat) : Int)) ∧ w' = w := by
  unfold maxLen at hs
  go_enter Try.func54, Try.ntmps54
  go_wp2
  go_loop [1] (fun t => ∃ k : Nat, k ≤ s.size ∧ Hid (k + skipN false (from_ s k) = i + skipN false (from_ s i)) ∧ t = .int .i64 k) (fun t => s.size - (intOf t).toNat)
  case atStart => exact ⟨i, hi, Lib.hid rfl, rfl⟩
  case round =>
    obtain ⟨k, hk, HK, rfl⟩ := hrel
    by_cases hlt : k < s.size
    · rcases hp : blankB s[k] with _ | _
      · by_cases h35 : s[k].toNat = 35
        · have HY := Lib.hid (skip_mark s k hlt h35)
          have e35 : ((s[k].toNat : Int) == 35) = true := by simp; omega
          have HN := Lib.hid h35
          clear h35
          go_wp2_with (go_at_call 85; refine (blank_any _ _).mono ?_; rintro e w' ⟨rfl, rfl⟩)
          go_loop [1] (fun t => ∃ m : Nat, k ≤ m ∧ m ≤ s.size ∧ Hid (m + skipN true (from_ s m) = i + skipN false (from_ s i)) ∧ t = .int .i64 m) (fun t => s.size - (intOf t).toNat)
          case atStart => exact ⟨k, Nat.le_refl _, hk, Lib.hid (by have := HK.out; have := HY.out; omega), rfl⟩
          case round =>
            obtain ⟨m, hkm, hm, HM, rfl⟩ := hrel
            by_cases hml : m < s.size
            · by_cases h10 : s[m].toNat = 10
              · have e10 : ((s[m].toNat : Int) != 10) = false := by simp; omega
                have hne : k < m := by
                  rcases Nat.lt_or_ge k m with h | h
                  · exact h
                  · have : k = m := by omega
                    subst this
                    have := HN.out
                    omega
                have HZ := Lib.hid (skip_out s m hml h10)
                clear h10
                go_wp2
                go_round
                case rel => exact ⟨m, by omega, Lib.hid (by have := HM.out; have := HZ.out; omega), rfl⟩
                case measure => simp [intOf]; omega
              · have e10 : ((s[m].toNat : Int) != 10) = true := by simp; omega
                have HZ := Lib.hid (skip_in s m hml h10)
                clear h10
                go_wp2
                go_round
                case rel => exact ⟨m + 1, by omega, by omega, Lib.hid (by have := HM.out; have := HZ.out; omega), by go_num⟩
                case measure => simp [intOf]; omega
            · have HZ := Lib.hid (skip_end true s m (by omega))
              have HZ' := Lib.hid (skip_end false s m (by omega))
              go_wp2
              go_round
              case rel => exact ⟨m, by omega, Lib.hid (by have := HM.out; have := HZ.out; have := HZ'.out; omega), rfl⟩
              case measure => simp [intOf]; omega
        · have HY := Lib.hid (skip_stop s k hlt hp h35)
          have e35 : ((s[k].toNat : Int) == 35) = false := by simp; omega
          clear h35
          go_wp2_with (go_at_call 85; refine (blank_any _ _).mono ?_; rintro e w' ⟨rfl, rfl⟩)
          go_ret
          exact ⟨ret_nat (by have := HK.out; have := HY.out; omega), rfl⟩
      · have HY := Lib.hid (skip_blank s k hlt hp)
        go_wp2_with (go_at_call 85; refine (blank_any _ _).mono ?_; rintro e w' ⟨rfl, rfl⟩)
        go_round
        case rel => exact ⟨k + 1, by omega, Lib.hid (by have := HK.out; have := HY.out; omega), by go_num⟩
        case measure => simp [intOf]; omega
    · have HY := Lib.hid (skip_end false s k (by omega))
      go_wp2
      go_ret
      exact ⟨ret_nat (by have := HK.out; have := HY.out; omega), rfl⟩
end Go.Proofs.Ytgeaccoobhigcaa
namespace Go.Proofs.Ytgeaccoobhigcaa
open Go.RowKit

set_option maxHeartbeats 2000000 in
theorem blanks_any (s : ByteArray) (i : Nat) (hi : i ≤ s.size) (hs : s.size ≤ maxLen) (w : World) :
    Calls Try.prog 57 #[.string s, .int .i64 i] w fun e w' => e = .returned (.int .i64 ((i + skipN false (from_ s i) : Nat) : Int)) ∧ w' = w := by
  unfold maxLen at hs
  go_enter Try.func57, Try.ntmps57
  go_wp2
  go_loop [1] (fun t => ∃ k : Nat, k ≤ s.size ∧ Hid (k + skipN false (from_ s k) = i + skipN false (from_ s i)) ∧ t = .int .i64 k) (fun t => s.size - (intOf t).toNat)
  case atStart => exact ⟨i, hi, Lib.hid rfl, rfl⟩
  case round =>
    obtain ⟨k, hk, HK, rfl⟩ := hrel
    by_cases hlt : k < s.size
    · rcases hp : blankB s[k] with _ | _
      · have hp' := hp
        simp only [blankB, decide_eq_false_iff_not, not_or] at hp'
        have b1 : ((s[k].toNat : Int) == 32) = false := by simp; omega
        have b2 : ((s[k].toNat : Int) == 9) = false := by simp; omega
        have b3 : ((s[k].toNat : Int) == 10) = false := by simp; omega
        have b4 : ((s[k].toNat : Int) == 13) = false := by simp; omega
        clear hp'
        by_cases h35 : s[k].toNat = 35
        · have HY := Lib.hid (skip_mark s k hlt h35)
          have e35 : ((s[k].toNat : Int) == 35) = true := by simp; omega
          have HN := Lib.hid h35
          clear h35
          go_wp2
          go_loop [1] (fun t => ∃ m : Nat, k ≤ m ∧ m ≤ s.size ∧ Hid (m + skipN true (from_ s m) = i + skipN false (from_ s i)) ∧ t = .int .i64 m) (fun t => s.size - (intOf t).toNat)
          case atStart => exact ⟨k, Nat.le_refl _, hk, Lib.hid (by have := HK.out; have := HY.out; omega), rfl⟩
          case round =>
            obtain ⟨m, hkm, hm, HM, rfl⟩ := hrel
            by_cases hml : m < s.size
            · by_cases h10 : s[m].toNat = 10
              · have e10 : ((s[m].toNat : Int) != 10) = false := by simp; omega
                have hne : k < m := by
                  rcases Nat.lt_or_ge k m with h | h
                  · exact h
                  · have : k = m := by omega
                    subst this
                    have := HN.out
                    omega
                have HZ := Lib.hid (skip_out s m hml h10)
                clear h10
                go_wp2
                go_round
                case rel => exact ⟨m, by omega, Lib.hid (by have := HM.out; have := HZ.out; omega), rfl⟩
                case measure => simp [intOf]; omega
              · have e10 : ((s[m].toNat : Int) != 10) = true := by simp; omega
                have HZ := Lib.hid (skip_in s m hml h10)
                clear h10
                go_wp2
                go_round
                case rel => exact ⟨m + 1, by omega, by omega, Lib.hid (by have := HM.out; have := HZ.out; omega), by go_num⟩
                case measure => simp [intOf]; omega
            · have HZ := Lib.hid (skip_end true s m (by omega))
              have HZ' := Lib.hid (skip_end false s m (by omega))
              go_wp2
              go_round
              case rel => exact ⟨m, by omega, Lib.hid (by have := HM.out; have := HZ.out; have := HZ'.out; omega), rfl⟩
              case measure => simp [intOf]; omega
        · have HY := Lib.hid (skip_stop s k hlt hp h35)
          have e35 : ((s[k].toNat : Int) == 35) = false := by simp; omega
          clear h35
          go_wp2
          go_ret
          exact ⟨ret_nat (by have := HK.out; have := HY.out; omega), rfl⟩
      · have HY := Lib.hid (skip_blank s k hlt hp)
        have hp' := hp
        simp only [blankB, decide_eq_true_iff] at hp'
        have b1 : ((s[k].toNat : Int) == 32) = true ∨ (((s[k].toNat : Int) == 32) = false ∧ ((s[k].toNat : Int) == 9) = true) ∨ (((s[k].toNat : Int) == 32) = false ∧ ((s[k].toNat : Int) == 9) = false ∧ ((s[k].toNat : Int) == 10) = true) ∨
          (((s[k].toNat : Int) == 32) = false ∧ ((s[k].toNat : Int) == 9) = false ∧ ((s[k].toNat : Int) == 10) = false ∧ ((s[k].toNat : Int) == 13) = true) := by simp; omega
        clear hp' hp
        rcases b1 with b1 | ⟨b1, b2⟩ | ⟨b1, b2, b3⟩ | ⟨b1, b2, b3, b4⟩
        all_goals
          go_wp2
          go_round
          case rel => exact ⟨k + 1, by omega, Lib.hid (by have := HK.out; have := HY.out; omega), by go_num⟩
          case measure => simp [intOf]; omega
    · have HY := Lib.hid (skip_end false s k (by omega))
      go_wp2
      go_ret
      exact ⟨ret_nat (by have := HK.out; have := HY.out; omega), rfl⟩

/-- Does a piece stand at the head? -/
def headB (x l : Bs) : Bool := x.isPrefixOf l

theorem ext_toList (s : ByteArray) (i j : Nat) : (s.extract i j).toList = (from_ s i).take (j - i) := by
  rw [ByteArray.toList_eq]
  simp [from_, List.take_drop, ByteArray.data_extract]

theorem headB_of_ext (s x : ByteArray) (i : Nat) : ((s.extract i (i + x.size)).toList == x.toList) = headB x.data.toList (from_ s i) := by
  rw [ext_toList, ByteArray.toList_eq, Bool.eq_iff_iff]
  simp only [headB, beq_iff_eq, List.isPrefixOf_iff_prefix]
  rw [List.prefix_iff_eq_take]
  have : x.data.toList.length = i + x.size - i := by simp
  rw [this]
  exact eq_comm
theorem headB_short (s x : ByteArray) (i : Nat) (h : s.size < i + x.size) (hi : i ≤ s.size) : headB x.data.toList (from_ s i) = false := by
  rw [Bool.eq_false_iff]
  intro hh
  have := (List.isPrefixOf_iff_prefix.1 hh).length_le
  rw [from_length] at this
  simp at this
  omega

theorem begins_any (s x : ByteArray) (i : Nat) (hi : i ≤ s.size) (hs : s.size ≤ 1099511627776) (hx : x.size ≤ 100) (w : World) :
    Calls Try.prog 126 #[.string s, .int .i64 i, .string x] w fun e w' => e = .returned (.bool (headB x.data.toList (from_ s i))) ∧ w' = w := by
  by_cases h : i + x.size ≤ s.size
  · rw [← headB_of_ext s x i]
    have hc : ((i : Int) + (x.size : Int)).toNat = i + x.size := by omega
    go_enter Try.func126, Try.ntmps126
    go_wp2
    go_ret
    exact ⟨rfl, rfl⟩
  · rw [headB_short s x i (by omega) hi]
    go_enter Try.func126, Try.ntmps126
    go_wp2
    go_ret
    exact ⟨rfl, rfl⟩

/-- The signs, the longest first. -/
def signs : List Bs := [[45, 45, 62], [60, 61, 62], [60, 60], [62, 62], [60, 62], [60, 61], [62, 61], [40], [41], [123], [125], [94], [43], [45], [33], [126], [60], [62], [61], [42]]
/-- The first of these that stands at the head; empty: none does. -/
def firstAt (l : Bs) : List Bs → Bs
  | [] => []
  | x :: r => if headB x l then x else firstAt l r
def signT (l : Bs) : Bs := firstAt l signs
def strV (l : Bs) : Value := .string ⟨l.toArray⟩
theorem firstAt_drop_no (l : Bs) (k : Nat) (hk : k < signs.length) (h : headB signs[k] l = false) : firstAt l (signs.drop k) = firstAt l (signs.drop (k + 1)) := by
  rw [List.drop_eq_getElem_cons hk]; simp [firstAt, h]
theorem firstAt_drop_yes (l : Bs) (k : Nat) (hk : k < signs.length) (h : headB signs[k] l = true) : firstAt l (signs.drop k) = signs[k] := by
  rw [List.drop_eq_getElem_cons hk]; simp [firstAt, h]
theorem signs_size (k : Nat) (hk : k < signs.length) : signs[k].length ≤ 100 := by
  have : ∀ x ∈ signs, x.length ≤ 100 := by decide
  exact this _ (List.getElem_mem hk)
theorem signs_len : signs.length = 20 := rfl

def SV : Value := .agg (signs.map strV).toArray
theorem und153 : Try.prog.underlying 153 = some (.array 20 9) := by kernel_rfl
theorem run_index_signs (k : Nat) (hk : k < signs.length) (w : World) : (Instr.index 153 SV (.int .i64 (k:Int))).run Try.prog w = .ok (strV (signs[k])) w := by
  have hk' : k < 20 := hk
  have h1 : (0 : Int) ≤ (k : Int) ∧ (k : Int) < 20 := by omega
  simp [Instr.index, SV, run_underlying und153, asIntOf, h1, go_sem, hk', List.getElem?_eq_getElem hk]
theorem sv_size (l : Bs) : (⟨l.toArray⟩ : ByteArray).size = l.length := rfl

set_option maxHeartbeats 1000000 in
theorem sign_any (s : ByteArray) (i : Nat) (hi : i ≤ s.size) (hs : s.size ≤ 1099511627776) (w : World) :
    Calls Try.prog 95 #[.string s, .int .i64 i] w fun e w' => e = .returned (strV (signT (from_ s i))) ∧ w' = w := by
  go_enter Try.func95, Try.ntmps95
  go_upto_region 1 with fail
  go_cut [7, 8] (fun a b wx => a = SV ∧ b = .int .i64 0 ∧ wx = w)
  case first =>
    go_wp2_with fail
    go_meet
    exact ⟨rfl, rfl, rfl⟩
  obtain ⟨rfl, rfl, rfl⟩ := hcut
  go_wp2
  go_loop [8] (fun t => ∃ k : Nat, k ≤ 20 ∧ Hid (signT (from_ s i) = firstAt (from_ s i) (signs.drop k)) ∧ t = .int .i64 k) (fun t => 20 - (intOf t).toNat)
  case atStart => exact ⟨0, by omega, Lib.hid rfl, rfl⟩
  case round =>
    obtain ⟨k, hk, HK, rfl⟩ := hrel
    by_cases hlt : k < signs.length
    · have hlt' : k < 20 := hlt
      have hix := run_index_signs k hlt
      have hsz := signs_size k hlt
      have HN := Lib.hid (firstAt_drop_no (from_ s i) k hlt)
      have HY := Lib.hid (firstAt_drop_yes (from_ s i) k hlt)
      generalize signs[k] = x at hix hsz HN HY
      rw [strV] at hix
      have hb : headB x (from_ s i) = headB (ByteArray.mk x.toArray).data.toList (from_ s i) := by simp
      rw [hb] at HN HY
      have hc := begins_any s ⟨x.toArray⟩ i hi hs hsz
      clear hb
      rcases hb : headB (ByteArray.mk x.toArray).data.toList (from_ s i) with _ | _
      · rw [hb] at hc HN
        clear hb
        have HC := Lib.hid hc
        clear hc
        have HN' := Lib.hid (HN.out rfl)
        generalize hX : ByteArray.mk x.toArray = X at hix HC
        clear hX hsz HN HY
        go_wp2_with (go_at_call 126; refine (HC.out _).mono ?_; rintro e w' ⟨rfl, rfl⟩)
        go_round
        case rel => exact ⟨k + 1, by omega, Lib.hid (by rw [HK.out, HN'.out]), by go_num⟩
        case measure => simp [intOf]; omega
      · rw [hb] at hc HY
        clear hb
        have HC := Lib.hid hc
        clear hc
        have HY' := Lib.hid (HY.out rfl)
        generalize hX : ByteArray.mk x.toArray = X at hix HC
        have HX := Lib.hid hX
        clear hX hsz HN HY
        go_wp2_with (go_at_call 126; refine (HC.out _).mono ?_; rintro e w' ⟨rfl, rfl⟩)
        go_ret
        exact ⟨by rw [HK.out, HY'.out, strV, HX.out]; rfl, rfl⟩
    · have hnlt : ¬ k < 20 := hlt
      have HZ := Lib.hid (show signs.drop k = [] from List.drop_eq_nil_of_le (by rw [signs_len] at hlt ⊢; omega))
      go_wp2
      go_ret
      exact ⟨by rw [HK.out, HZ.out]; rfl, rfl⟩
end Go.Proofs.Ytgeaccoobhigcaa
namespace Go.Proofs.Ytgeaccoobhigcaa
open Go.RowKit

def valN : Nat → Bs → Nat
  | n, [] => n
  | n, c :: r => valN (10 * n + (c.toNat - 48)) r
def headIs (n : Nat) : Bs → Bool
  | [] => false
  | c :: _ => decide (c.toNat = n)
def headSmall : Bs → Bool
  | [] => false
  | c :: _ => smallB c
/-- A number's digits, shortest, at most 'most'. -/
def numOk (most : Nat) (l : Bs) : Bool := decide (1 ≤ l.length) && decide (l.length ≤ 10) && !(headIs 48 l && decide (1 < l.length)) && l.all digitB && decide (valN 0 l ≤ most)
/-- A word. -/
def wordB (l : Bs) : Bool := decide (1 ≤ l.length) && decide (l.length ≤ 32) && headSmall l && l.all partB

theorem from_zero (s : ByteArray) : from_ s 0 = s.data.toList := by simp [from_]
theorem size_toList (s : ByteArray) : s.data.toList.length = s.size := by simp
theorem toList_cons (s : ByteArray) (h : 0 < s.size) : s.data.toList = s[0] :: from_ s 1 := by rw [← from_zero, from_lt s 0 h]
theorem all_yes {p : UInt8 → Bool} (s : ByteArray) (k : Nat) (h : k < s.size) (hp : p s[k] = true) : (from_ s k).all p = (from_ s (k + 1)).all p := by
  rw [from_lt s k h]; simp [hp]
theorem all_no {p : UInt8 → Bool} (s : ByteArray) (k : Nat) (h : k < s.size) (hp : p s[k] = false) : (from_ s k).all p = false := by
  rw [from_lt s k h]; simp [hp]
theorem all_end {p : UInt8 → Bool} (s : ByteArray) (k : Nat) (h : s.size ≤ k) : (from_ s k).all p = true := by
  rw [from_ge s k h]; rfl

theorem ssmall_any (c : Nat) (w : World) : Calls Try.prog 128 #[.int .u8 c] w fun e w' => e = .returned (.bool (decide (97 ≤ c ∧ c ≤ 122))) ∧ w' = w := by
  have e : decide (97 ≤ c ∧ c ≤ 122) = (decide ((97 : Int) ≤ (c : Int)) && decide ((c : Int) ≤ 122)) := by
    rw [Bool.eq_iff_iff]; simp; omega
  rw [e]
  clear e
  by_cases h1 : (97 : Int) ≤ (c : Int)
  · by_cases h2 : (c : Int) ≤ 122
    all_goals
      go_enter Try.func128, Try.ntmps128
      go_wp2
      go_ret
      exact ⟨by simp [h1, h2], rfl⟩
  · go_enter Try.func128, Try.ntmps128
    go_wp2
    go_ret
    exact ⟨by simp; omega, rfl⟩
theorem sdigit_any (c : Nat) (w : World) : Calls Try.prog 129 #[.int .u8 c] w fun e w' => e = .returned (.bool (decide (48 ≤ c ∧ c ≤ 57))) ∧ w' = w := by
  have e : decide (48 ≤ c ∧ c ≤ 57) = (decide ((48 : Int) ≤ (c : Int)) && decide ((c : Int) ≤ 57)) := by
    rw [Bool.eq_iff_iff]; simp; omega
  rw [e]
  clear e
  by_cases h1 : (48 : Int) ≤ (c : Int)
  · by_cases h2 : (c : Int) ≤ 57
    all_goals
      go_enter Try.func129, Try.ntmps129
      go_wp2
      go_ret
      exact ⟨by simp [h1, h2], rfl⟩
  · go_enter Try.func129, Try.ntmps129
    go_wp2
    go_ret
    exact ⟨by simp; omega, rfl⟩
theorem great_any (c : Nat) (w : World) : Calls Try.prog 124 #[.int .u8 c] w fun e w' => e = .returned (.bool (decide (65 ≤ c ∧ c ≤ 90))) ∧ w' = w := by
  have e : decide (65 ≤ c ∧ c ≤ 90) = (decide ((65 : Int) ≤ (c : Int)) && decide ((c : Int) ≤ 90)) := by
    rw [Bool.eq_iff_iff]; simp; omega
  rw [e]
  clear e
  by_cases h1 : (65 : Int) ≤ (c : Int)
  · by_cases h2 : (c : Int) ≤ 90
    all_goals
      go_enter Try.func124, Try.ntmps124
      go_wp2
      go_ret
      exact ⟨by simp [h1, h2], rfl⟩
  · go_enter Try.func124, Try.ntmps124
    go_wp2
    go_ret
    exact ⟨by simp; omega, rfl⟩

theorem wordB_no1 (s : ByteArray) (h : ¬ (1 ≤ s.size ∧ s.size ≤ 32)) : wordB s.data.toList = false := by
  unfold wordB
  rw [size_toList]
  by_cases h1 : 1 ≤ s.size
  · have : ¬ s.size ≤ 32 := fun h2 => h ⟨h1, h2⟩
    simp [this]
  · simp [h1]
theorem wordB_no2 (s : ByteArray) (h1 : 0 < s.size) (h : smallB s[0] = false) : wordB s.data.toList = false := by
  unfold wordB
  rw [toList_cons s h1]
  simp [headSmall, h]
theorem wordB_yes (s : ByteArray) (h1 : 0 < s.size) (h2 : s.size ≤ 32) (h : smallB s[0] = true) : wordB s.data.toList = (from_ s 1).all partB := by
  unfold wordB
  rw [size_toList, toList_cons s h1]
  have hp : partB s[0] = true := by simp [partB, h]
  simp [headSmall, h, h2, hp]
  omega
theorem ret_bool {a b : Bool} (h : a = b) : Ending.returned (.bool a) = .returned (.bool b) := by rw [h]

set_option maxHeartbeats 1000000 in
theorem word_any (s : ByteArray) (hs : s.size ≤ 9223372036854775807) (w : World) :
    Calls Try.prog 100 #[.string s] w fun e w' => e = .returned (.bool (wordB s.data.toList)) ∧ w' = w := by
  by_cases h0 : 1 ≤ s.size ∧ s.size ≤ 32
  · obtain ⟨h1, h2⟩ := h0
    have h1' : 0 < s.size := h1
    rcases hsm : smallB s[0] with _ | _
    · rw [wordB_no2 s h1' hsm]
      unfold smallB at hsm
      go_enter Try.func100, Try.ntmps100
      go_wp2_with (go_at_call 128; refine (ssmall_any _ _).mono ?_; rintro e w' ⟨rfl, rfl⟩)
      go_ret
      exact ⟨rfl, rfl⟩
    · have HW := Lib.hid (wordB_yes s h1' h2 hsm)
      unfold smallB at hsm
      go_enter Try.func100, Try.ntmps100
      go_wp2_with (go_at_call 128; refine (ssmall_any _ _).mono ?_; rintro e w' ⟨rfl, rfl⟩)
      clear hsm
      go_loop [3] (fun t => ∃ k : Nat, 1 ≤ k ∧ k ≤ s.size ∧ Hid ((from_ s 1).all partB = (from_ s k).all partB) ∧ t = .int .i64 k) (fun t => s.size - (intOf t).toNat)
      case atStart => exact ⟨1, by omega, h1, Lib.hid rfl, rfl⟩
      case round =>
        obtain ⟨k, hk1, hk, HK, rfl⟩ := hrel
        by_cases hlt : k < s.size
        · by_cases a1 : 97 ≤ s[k].toNat ∧ s[k].toNat ≤ 122
          · have e1 := decide_eq_true a1
            have HY := Lib.hid (all_yes (p := partB) s k hlt (by simp [partB, smallB, a1]))
            clear a1
            go_wp2_with (first | (go_at_call 128; refine (ssmall_any _ _).mono ?_; rintro e w' ⟨rfl, rfl⟩) | (go_at_call 129; refine (sdigit_any _ _).mono ?_; rintro e w' ⟨rfl, rfl⟩))
            go_round
            case rel => exact ⟨k + 1, by omega, by omega, Lib.hid (by rw [HK.out, HY.out]), by go_num⟩
            case measure => simp [intOf]; omega
          · have e1 := decide_eq_false a1
            by_cases a2 : 48 ≤ s[k].toNat ∧ s[k].toNat ≤ 57
            · have e2 := decide_eq_true a2
              have HY := Lib.hid (all_yes (p := partB) s k hlt (by simp [partB, digitB, a2]))
              clear a1 a2
              go_wp2_with (first | (go_at_call 128; refine (ssmall_any _ _).mono ?_; rintro e w' ⟨rfl, rfl⟩) | (go_at_call 129; refine (sdigit_any _ _).mono ?_; rintro e w' ⟨rfl, rfl⟩))
              go_round
              case rel => exact ⟨k + 1, by omega, by omega, Lib.hid (by rw [HK.out, HY.out]), by go_num⟩
              case measure => simp [intOf]; omega
            · have e2 := decide_eq_false a2
              by_cases a3 : s[k].toNat = 45
              · have HY := Lib.hid (all_yes (p := partB) s k hlt (by simp [partB, a3]))
                have e3 : ((s[k].toNat : Int) != 45) = false := by simp; omega
                clear a1 a2 a3
                go_wp2_with (first | (go_at_call 128; refine (ssmall_any _ _).mono ?_; rintro e w' ⟨rfl, rfl⟩) | (go_at_call 129; refine (sdigit_any _ _).mono ?_; rintro e w' ⟨rfl, rfl⟩))
                go_round
                case rel => exact ⟨k + 1, by omega, by omega, Lib.hid (by rw [HK.out, HY.out]), by go_num⟩
                case measure => simp [intOf]; omega
              · have e3 : ((s[k].toNat : Int) != 45) = true := by simp; omega
                by_cases a4 : s[k].toNat = 95
                · have HY := Lib.hid (all_yes (p := partB) s k hlt (by simp [partB, a4]))
                  have e4 : ((s[k].toNat : Int) != 95) = false := by simp; omega
                  clear a1 a2 a3 a4
                  go_wp2_with (first | (go_at_call 128; refine (ssmall_any _ _).mono ?_; rintro e w' ⟨rfl, rfl⟩) | (go_at_call 129; refine (sdigit_any _ _).mono ?_; rintro e w' ⟨rfl, rfl⟩))
                  go_round
                  case rel => exact ⟨k + 1, by omega, by omega, Lib.hid (by rw [HK.out, HY.out]), by go_num⟩
                  case measure => simp [intOf]; omega
                · have e4 : ((s[k].toNat : Int) != 95) = true := by simp; omega
                  have HY := Lib.hid (all_no (p := partB) s k hlt (by simp [partB, smallB, digitB, a1, a2, a3, a4]))
                  clear a1 a2 a3 a4
                  go_wp2_with (first | (go_at_call 128; refine (ssmall_any _ _).mono ?_; rintro e w' ⟨rfl, rfl⟩) | (go_at_call 129; refine (sdigit_any _ _).mono ?_; rintro e w' ⟨rfl, rfl⟩))
                  go_ret
                  exact ⟨ret_bool (by rw [HW.out, HK.out, HY.out]), rfl⟩
        · have HY := Lib.hid (all_end (p := partB) s k (by omega))
          go_wp2
          go_ret
          exact ⟨ret_bool (by rw [HW.out, HK.out, HY.out]), rfl⟩
  · rw [wordB_no1 s h0]
    by_cases h1 : 1 ≤ s.size
    · have h2 : ¬ s.size ≤ 32 := fun h => h0 ⟨h1, h⟩
      have h1' : 0 < s.size := h1
      clear h0
      go_enter Try.func100, Try.ntmps100
      go_wp2
      go_ret
      exact ⟨rfl, rfl⟩
    · clear h0
      go_enter Try.func100, Try.ntmps100
      go_wp2
      go_ret
      exact ⟨rfl, rfl⟩
end Go.Proofs.Ytgeaccoobhigcaa
namespace Go.Proofs.Ytgeaccoobhigcaa
open Go.RowKit

/-- Cells from an address on. -/
def CellsAt (w : World) (a : Addr) (cs : List Value) : Prop := ∀ j u, cs[j]? = some u → w.cell? (a.add j) = some u

/-- '.slice ao n cap' is a slice of n elements of 'size' cells each; its cells read 'cs'. -/
def SlR (w : World) (size : Nat) (ao : Option Addr) (n cap : Nat) (cs : List Value) : Prop :=
  cs.length = n * size ∧ n ≤ cap ∧ cap ≤ maxLen ∧ (ao = none → cap = 0) ∧ ∀ a, ao = some a → CellsAt w a cs

theorem addr_add_zero (a : Addr) : a.add 0 = a := by simp [Addr.add]
theorem addr_add_lit (b o j : Nat) : (⟨b, o, none⟩ : Addr).add j = ⟨b, o + j, none⟩ := by
  unfold Addr.add; split <;> simp_all

theorem CellsAt.nil (w : World) (a : Addr) : CellsAt w a [] := by intro j u h; simp at h

theorem CellsAt.block_lt {w : World} {a : Addr} {cs : List Value} (h : CellsAt w a cs) (hne : cs ≠ []) : a.block < w.heap.size := by
  cases cs with
  | nil => exact absurd rfl hne
  | cons c cs =>
    have h0 := h 0 c (by simp)
    rw [addr_add_zero] at h0
    exact World.block_lt_of_cell? w a h0

theorem CellsAt.of_block {w : World} {g : Nat} {cur : Array Value} {e : TypeId} {fz : Nat × Nat} (hg : w.heap[g]? = some (.cells cur e fz)) (off : Nat) (cs : List Value)
    (h : ∀ j u, cs[j]? = some u → cur[off + j]? = some u) : CellsAt w ⟨g, off, none⟩ cs := by
  intro j u hj
  rw [addr_add_lit, cell_of_row w g (off + j) cur e fz hg]
  exact h j u hj

theorem SlR.nil (w : World) (size : Nat) : SlR w size none 0 0 [] := ⟨by simp, by simp, by simp, by simp, by simp⟩

/-- APPEND onto a slice whose capacity is its length: what is appended lies in new memory, or nothing is. -/
theorem run_append_full {P : Program} (w : World) (t ty e : TypeId) (i : TypeInfo) (z : Value) (size bytes : Nat) (ht : P.underlying t = some (.slice e)) (hi : P.info? e = some i) (hz : i.zero = some z)
    (hsize : i.size = size) (hby : i.bytes = bytes)
    (ao bo : Option Addr) (n m c : Nat) (xs ys : List Value) (hs : SlR w size ao n n xs) (hx : SlR w size bo m c ys)
    (h63 : n + m ≤ maxLen) (hbytes : (n + m) * bytes ≤ 140737488355328) :
    ∃ go c' w', (Builtin.append_ #[t, t] ty #[.slice ao n n, .slice bo m c]).run P w = .ok (.slice go (n + m) c') w' ∧ SlR w' size go (n + m) c' (xs ++ ys) ∧ w.grownBy w' none ∧ ((go = ao ∧ m = 0) ∨ go = some ⟨w.heap.size, 0, none⟩) := by
  subst hsize
  subst hby
  obtain ⟨hxl, hle, hmx, hxn, hc⟩ := hx
  obtain ⟨hsl, _, hmx', hsn, hc'⟩ := hs
  have hlen : (xs ++ ys).length = (n + m) * i.size := by rw [List.length_append, hsl, hxl, Nat.add_mul]
  have hh : n + m ≤ 9223372036854775807 := by simp only [maxLen] at h63; omega
  rcases Nat.eq_zero_or_pos m with rfl | hm
  · have hy : ys = [] := List.eq_nil_of_length_eq_zero (by simpa using hxl)
    subst hy
    refine ⟨ao, n, w, ?_, ⟨hlen, Nat.le_refl _, hmx', hsn, by simpa using hc'⟩, ⟨rfl, rfl, rfl, Nat.le_refl _, fun _ _ _ => rfl⟩, .inl ⟨rfl, rfl⟩⟩
    cases ao <;> cases bo <;>
    simp [Builtin.append_, run_underlying ht, sizeOf, typeInfo, hi, Builtin.lenOf, Builtin.firstCells, loadCells, loadCellsFrom, storeCells]
  · cases bo with
    | none => have := hxn rfl; omega
    | some b =>
      replace hc := hc b rfl
      have fin : ∀ (newcap : Nat), n + m ≤ newcap → newcap ≤ maxLen → SlR (w.drew.alloc (.cells (xs.toArray ++ ys.toArray ++ Builtin.zeroCells z.cells (newcap - (n + m))) e)) i.size (some ⟨w.heap.size, 0, none⟩) (n + m) newcap (xs ++ ys) ∧
          w.grownBy (w.drew.alloc (.cells (xs.toArray ++ ys.toArray ++ Builtin.zeroCells z.cells (newcap - (n + m))) e)) none := by
        intro newcap h1 h2
        refine ⟨⟨hlen, h1, h2, by simp, ?_⟩, ⟨rfl, rfl, rfl, by simp, fun k hk _ => Below.heap_alloc w.drew _ k hk⟩⟩
        intro a ha
        cases ha
        refine CellsAt.of_block (heap_alloc_new w.drew _) 0 _ ?_
        intro j u hj
        have hjl : j < (xs ++ ys).length := (List.getElem?_eq_some_iff.1 hj).1
        rw [Nat.zero_add, Array.getElem?_append_left (by simpa using hjl)]
        rw [show xs.toArray ++ ys.toArray = (xs ++ ys).toArray by simp]
        simpa using hj
      have hge := grownCap_ge w (n + m) n e
      have hcm := grownCap_le_maxLen w (n + m) n e h63
      cases ao with
      | none =>
        obtain rfl := hsn rfl
        have hx0 : xs = [] := List.eq_nil_of_length_eq_zero (by simpa using hsl)
        subst hx0
        have hr := run_append_nil (P := P) w t ty e i z ht hi hz b m c ys hxl hc hm (by omega) (by have hb := hbytes; simp only [Nat.zero_add] at hb; omega)
        have f := fin (grownCap w (0 + m) 0 e) hge hcm
        simp only [Nat.zero_add, List.nil_append, Array.empty_append] at f ⊢
        exact ⟨_, _, _, hr, f.1, f.2, .inr rfl⟩
      | some a =>
        have hr := run_append_grow (P := P) w t ty e i z ht hi hz a n n xs hsl (hc' a rfl) b m c ys hxl hc (by omega) (by omega) (growslice_fits (by omega) hbytes)
        exact ⟨_, _, _, hr, (fin _ hge hcm).1, (fin _ hge hcm).2, .inr rfl⟩

theorem wp_append_full {P : Program} {w : World} {o : Oper} {a : Act} {K : Act → World → Prop} {Q : Exit → Act → World → Prop} (s x : Operand) (t : TypeId)
    (ho : o.op = .call { callee := .builtin .append, args := #[s, x], argTypes := #[t, t] })
    (e : TypeId) (i : TypeInfo) (z : Value) (size bytes : Nat) (ht : P.underlying t = some (.slice e)) (hi : P.info? e = some i) (hz : i.zero = some z)
    (hsize : i.size = size) (hby : i.bytes = bytes)
    (ao bo : Option Addr) (n m c : Nat) (xs ys : List Value) (hes : a.eval s = .slice ao n n) (hex : a.eval x = .slice bo m c) (hs : SlR w size ao n n xs) (hx : SlR w size bo m c ys)
    (h63 : n + m ≤ maxLen) (hbytes : (n + m) * bytes ≤ 140737488355328)
    (h : ∀ go c' w', SlR w' size go (n + m) c' (xs ++ ys) → w.grownBy w' none → ((go = ao ∧ m = 0) ∨ go = some ⟨w.heap.size, 0, none⟩) → K (a.put o.dst (.slice go (n + m) c')) w') : o.wp P a w K Q := by
  obtain ⟨go, c', w', hr, h2, h3, h4⟩ := run_append_full (P := P) w t o.type e i z size bytes ht hi hz hsize hby ao bo n m c xs ys hs hx h63 hbytes
  unfold Oper.wp execOp
  simp only [ho, resolve, invoke, builtin, Sem.run_bind, Sem.run_pure, Result.andThen_ok, List.map_toArray, List.map_cons, List.map_nil, hes, hex, hr]
  exact h go c' w' h2 h3 h4

theorem wpList_append_full {P : Program} {w : World} {ops : Array Oper} {rest : List Oper} {o : Oper} {a : Act} {Q : Exit → Act → World → Prop} (hgd : o.guard = none) (s x : Operand) (t : TypeId)
    (ho : o.op = .call { callee := .builtin .append, args := #[s, x], argTypes := #[t, t] })
    (e : TypeId) (i : TypeInfo) (z : Value) (size bytes : Nat) (ht : P.underlying t = some (.slice e)) (hi : P.info? e = some i) (hz : i.zero = some z)
    (hsize : i.size = size) (hby : i.bytes = bytes)
    (ao bo : Option Addr) (n m c : Nat) (xs ys : List Value) (hes : a.eval s = .slice ao n n) (hex : a.eval x = .slice bo m c) (hs : SlR w size ao n n xs) (hx : SlR w size bo m c ys)
    (h63 : n + m ≤ maxLen) (hbytes : (n + m) * bytes ≤ 140737488355328)
    (h : ∀ go c' w', SlR w' size go (n + m) c' (xs ++ ys) → w.grownBy w' none → ((go = ao ∧ m = 0) ∨ go = some ⟨w.heap.size, 0, none⟩) → wpList P ops Q rest (a.put o.dst (.slice go (n + m) c')) w') : wpList P ops Q (o :: rest) a w :=
  wpList_plain hgd fun _ hK => wp_append_full s x t ho e i z size bytes ht hi hz hsize hby ao bo n m c xs ys hes hex hs hx h63 hbytes fun go c' w' h2 h3 h4 => hK _ _ (h go c' w' h2 h3 h4)

theorem step_append_full {P : Program} {w : World} {ops : Array Oper} {o : Oper} {a : Act} {K : Act → World → Prop} {Q : Exit → Act → World → Prop} {E : Prop} (hgd : o.guard = none) (s x : Operand) (t : TypeId)
    (ho : o.op = .call { callee := .builtin .append, args := #[s, x], argTypes := #[t, t] })
    (e : TypeId) (i : TypeInfo) (z : Value) (size bytes : Nat) (ht : P.underlying t = some (.slice e)) (hi : P.info? e = some i) (hz : i.zero = some z)
    (hsize : i.size = size) (hby : i.bytes = bytes)
    (ao bo : Option Addr) (n m c : Nat) (xs ys : List Value) (hes : a.eval s = .slice ao n n) (hex : a.eval x = .slice bo m c) (hs : SlR w size ao n n xs) (hx : SlR w size bo m c ys)
    (h63 : n + m ≤ maxLen) (hbytes : (n + m) * bytes ≤ 140737488355328)
    (h : ∀ go c' w', SlR w' size go (n + m) c' (xs ++ ys) → w.grownBy w' none → ((go = ao ∧ m = 0) ∨ go = some ⟨w.heap.size, 0, none⟩) → K (a.put o.dst (.slice go (n + m) c')) w') :
    if Region.wanted o (yielded ops a.tmps) = true then Oper.wp P o a w K Q else E := by
  have hw : Region.wanted o (yielded ops a.tmps) = true := by simp [Region.wanted, hgd]
  rw [if_pos hw]
  exact wp_append_full s x t ho e i z size bytes ht hi hz hsize hby ao bo n m c xs ys hes hex hs hx h63 hbytes h

theorem two_cells {w : World} {b : Nat} {x y : Value} {t : TypeId} (h : w.heap[b]? = some (.cells #[x, y] t (0, 0))) :
  w.cell? ⟨b, 0, none⟩ = some x ∧ w.cell? ⟨b, 1, none⟩ = some y ∧ w.frozen? ⟨b, 0, none⟩ = false ∧ w.frozen? ⟨b, 1, none⟩ = false := by
  simp [World.cell?, World.frozen?, h]

theorem CellsAt.drew {w : World} {a : Addr} {cs : List Value} (h : CellsAt w a cs) : CellsAt w.drew a cs := h
theorem SlR.drew {w : World} {size : Nat} {ao : Option Addr} {n cap : Nat} {cs : List Value} (h : SlR w size ao n cap cs) : SlR w.drew size ao n cap cs := h
theorem SlR.drewN {w : World} {size : Nat} {ao : Option Addr} {n cap : Nat} {cs : List Value} (h : SlR w size ao n cap cs) (k : Nat) : SlR (w.drewN k) size ao n cap cs := h

theorem SlR.full {w : World} {size : Nat} {ao : Option Addr} {n cap : Nat} {cs : List Value} (h : SlR w size ao n cap cs) : SlR w size ao n n cs :=
  ⟨h.1, Nat.le_refl _, Nat.le_trans h.2.1 h.2.2.1, fun e => by have := h.2.2.2.1 e; have := h.2.1; omega, h.2.2.2.2⟩

theorem two_setCell {w : World} {b : Nat} {x y u : Value} {t : TypeId} (h : w.heap[b]? = some (.cells #[x, y] t (0, 0))) : (w.setCell ⟨b, 1, none⟩ u).heap[b]? = some (.cells #[x, u] t (0, 0)) := by
  have hlt := lt_of_block h
  have h' : w.heap[b] = .cells #[x, y] t (0, 0) := by simpa [Array.getElem?_eq_getElem hlt] using h
  show (w.heap.modify b _)[b]? = _
  rw [Array.getElem?_eq_getElem (by simpa using hlt), Array.getElem_modify_self, h']
  rfl

/-- The data of a slice lie outside block b. -/
def OffB (b : Nat) (ao : Option Addr) (n : Nat) : Prop := ∀ a, ao = some a → 0 < n → a.block ≠ b
/-- The data of a slice lie in blocks of some kind. -/
def InB (K : Nat → Prop) (ao : Option Addr) (n : Nat) : Prop := ∀ a, ao = some a → 0 < n → K a.block

theorem CellsAt.grown {w w' : World} {row : Option Nat} {a : Addr} {cs : List Value} (h : CellsAt w a cs) (hg : w.grownBy w' row) (hne : cs ≠ [] → some a.block ≠ row) : CellsAt w' a cs := by
  intro j u hj
  have h1 := h j u hj
  have hb : (a.add j).block = a.block := by unfold Addr.add; split <;> rfl
  refine (World.cell?_of_block (hg.block _ (World.block_lt_of_cell? w _ h1) ?_)).trans h1
  rw [hb]
  exact hne (by rintro rfl; simp at hj)

theorem SlR.grown {w w' : World} {row : Option Nat} {size : Nat} {ao : Option Addr} {n cap : Nat} {cs : List Value} (h : SlR w size ao n cap cs) (hg : w.grownBy w' row)
    (hne : ∀ b, row = some b → OffB b ao n) : SlR w' size ao n cap cs :=
  ⟨h.1, h.2.1, h.2.2.1, h.2.2.2.1, fun a ha => (h.2.2.2.2 a ha).grown hg fun hcs e => by
    have hn : 0 < n := by
      rcases Nat.eq_zero_or_pos n with h0 | h0
      · exact absurd (List.eq_nil_of_length_eq_zero (by rw [h.1, h0]; simp)) hcs
      · exact h0
    exact hne _ e.symm a ha hn rfl⟩

theorem grownBy_refl (w : World) (row : Option Nat) : w.grownBy w row := ⟨rfl, rfl, rfl, Nat.le_refl _, fun _ _ _ => rfl⟩
theorem grownBy_drew {w w' : World} {row : Option Nat} (h : w.grownBy w' row) : w.grownBy w'.drew row := ⟨h.os, h.tape, h.output, h.size, h.block⟩
theorem grownBy_drewN {w w' : World} {row : Option Nat} (h : w.grownBy w' row) (k : Nat) : w.grownBy (w'.drewN k) row := ⟨h.os, h.tape, h.output, h.size, h.block⟩
theorem grownBy_of_drew {w w' : World} {row : Option Nat} (h : w.drew.grownBy w' row) : w.grownBy w' row := ⟨h.os, h.tape, h.output, h.size, h.block⟩
theorem grownBy_of_drewN {w w' : World} {row : Option Nat} {k : Nat} (h : (w.drewN k).grownBy w' row) : w.grownBy w' row := ⟨h.os, h.tape, h.output, h.size, h.block⟩
theorem grownBy_trans {a b c : World} {row : Option Nat} (h : a.grownBy b row) (k : b.grownBy c row) : a.grownBy c row :=
  ⟨k.os.trans h.os, k.tape.trans h.tape, k.output.trans h.output, Nat.le_trans h.size k.size, fun i hi hr => (k.block i (Nat.lt_of_lt_of_le hi h.size) hr).trans (h.block i hi hr)⟩
theorem grownBy_some {a b : World} (row : Option Nat) (h : a.grownBy b none) : a.grownBy b row := ⟨h.os, h.tape, h.output, h.size, fun i hi _ => h.block i hi (by simp)⟩
theorem grownBy_setCell (w : World) (a : Addr) (v : Value) : w.grownBy (w.setCell a v) (some a.block) :=
  ⟨rfl, rfl, rfl, by simp [World.setCell], fun k _ hr => Below.heap_setCell _ _ _ _ (fun e => hr (by rw [e]))⟩
/-- A block that was made since may be written besides. -/
theorem grownBy_new {a b c : World} {row : Option Nat} {k : Nat} (h : a.grownBy b row) (g : b.grownBy c (some k)) (hk : a.heap.size ≤ k ∨ row = some k) : a.grownBy c row :=
  ⟨g.os.trans h.os, g.tape.trans h.tape, g.output.trans h.output, Nat.le_trans h.size g.size, fun i hi hr => (g.block i (Nat.lt_of_lt_of_le hi h.size) (fun e => by
    cases e
    rcases hk with hk | hk
    · omega
    · exact hr hk.symm)).trans (h.block i hi hr)⟩

/-- A slice that is not empty: where it lies, its first cell, and the rest of it. -/
theorem SlR.head {w : World} {ao : Option Addr} {n cap : Nat} {c : Value} {cs : List Value} (h : SlR w 1 ao (n + 1) cap (c :: cs)) :
    ∃ g off, ao = some ⟨g, off, none⟩ ∧ w.cell? ⟨g, off, none⟩ = some c ∧ CellsAt w ⟨g, off + 1, none⟩ cs := by
  cases ao with
  | none => have := h.2.2.2.1 rfl; have := h.2.1; omega
  | some a =>
    have hc := h.2.2.2.2 a rfl
    have h0 := hc 0 c (by simp)
    rw [addr_add_zero] at h0
    obtain ⟨g, off, spot⟩ := a
    have hs : spot = none := World.cell?_spot h0
    subst hs
    refine ⟨g, off, rfl, h0, ?_⟩
    intro j u hj
    have := hc (j + 1) u (by simpa using hj)
    rw [addr_add_lit] at this ⊢
    rw [← this]
    congr 2
    omega

/-- The k-th element of a slice of one-cell elements. -/
theorem SlR.at {w : World} {ao : Option Addr} {n cap k : Nat} {c : Value} {cs : List Value} (h : SlR w 1 ao n cap cs) (hk : cs[k]? = some c) :
    ∃ g off, ao = some ⟨g, off, none⟩ ∧ w.cell? ⟨g, off + k, none⟩ = some c ∧ k < n ∧ n ≤ cap := by
  have hkl : k < cs.length := (List.getElem?_eq_some_iff.1 hk).1
  have hln : cs.length = n := by rw [h.1]; omega
  cases ao with
  | none => have := h.2.2.2.1 rfl; have := h.2.1; omega
  | some a =>
    have hc := h.2.2.2.2 a rfl
    obtain ⟨c0, h00⟩ : ∃ c0, cs[0]? = some c0 := ⟨cs[0], by simp⟩
    have h0 := hc 0 c0 h00
    rw [addr_add_zero] at h0
    obtain ⟨g, off, spot⟩ := a
    have hs : spot = none := World.cell?_spot h0
    subst hs
    have h1 := hc k c hk
    rw [addr_add_lit] at h1
    exact ⟨g, off, rfl, h1, by omega, h.2.1⟩

theorem ret_int {k : IntKind} {a b : Int} (h : a = b) : Ending.returned (.int k a) = .returned (.int k b) := by rw [h]
theorem drewN_add (w : World) (a b : Nat) : (w.drewN a).drewN b = w.drewN (a + b) := by simp [World.drewN, Nat.add_assoc]
theorem drew_drewN (w : World) (a : Nat) : (w.drewN a).drew = w.drewN (a + 1) := by simp [World.drewN, World.drew, Nat.add_assoc]

theorem Try.info3 : (Try.prog.info? 3).map (fun i => (i.zero, i.size, i.bytes)) = some (some (.int .i64 0), 1, 8) := by kernel_rfl
theorem Try.info9 : (Try.prog.info? 9).map (fun i => (i.zero, i.size, i.bytes)) = some (some (.string ⟨#[]⟩), 1, 16) := by kernel_rfl

theorem SlR.inB {w : World} {size : Nat} {ao : Option Addr} {n cap : Nat} {cs : List Value} (h : SlR w size ao n cap cs) (hs : 0 < size) : InB (fun k => k < w.heap.size) ao n := by
  intro a ha hn
  refine (h.2.2.2.2 a ha).block_lt ?_
  rintro rfl
  have h1 := h.1
  have h2 : 0 < n * size := Nat.mul_pos hn hs
  simp at h1
  omega

theorem SlR.below {w w' : World} {size : Nat} {ao : Option Addr} {n cap : Nat} {cs : List Value} {n₀ : Nat} (h : SlR w size ao n cap cs) (hb : Below n₀ w w') (hin : InB (fun k => k < n₀) ao n) : SlR w' size ao n cap cs := by
  refine ⟨h.1, h.2.1, h.2.2.1, h.2.2.2.1, fun a ha j u hj => ?_⟩
  have hn : 0 < n := by
    rcases Nat.eq_zero_or_pos n with h0 | h0
    · have : cs = [] := List.eq_nil_of_length_eq_zero (by rw [h.1, h0]; simp)
      subst this; simp at hj
    · exact h0
  have hbk : (a.add j).block = a.block := by unfold Addr.add; split <;> rfl
  exact (hb.cell (p := a.add j) (by rw [hbk]; exact hin a ha hn)).trans (h.2.2.2.2 a ha j u hj)

/-- The slice over a block that has just been laid. -/
theorem SlR.new (w : World) (vs : List Value) (t : TypeId) (h : vs.length ≤ maxLen) : SlR (w.alloc (.cells vs.toArray t)) 1 (some ⟨w.heap.size, 0, none⟩) vs.length vs.length vs := by
  refine ⟨by simp, Nat.le_refl _, h, by simp, fun a ha => ?_⟩
  cases ha
  exact CellsAt.of_block (heap_alloc_new w _) 0 _ (fun j u hj => by simpa using hj)

/-- The first ones of a slice. -/
theorem SlR.take {w : World} {ao : Option Addr} {n cap k : Nat} {α : Type} {f : α → Value} {xs : List α} (h : SlR w 1 ao n cap (xs.map f)) (hk : k ≤ n) : SlR w 1 ao k cap ((xs.take k).map f) := by
  have hl := h.1
  rw [List.length_map] at hl
  refine ⟨by simp; omega, Nat.le_trans hk h.2.1, h.2.2.1, h.2.2.2.1, fun a ha j u hj => h.2.2.2.2 a ha j u ?_⟩
  rw [List.map_take, List.getElem?_take] at hj
  split at hj
  · exact hj
  · cases hj

end Go.Proofs.Ytgeaccoobhigcaa
namespace Go.Proofs.Ytgeaccoobhigcaa
open Go Go.RowKit

/-- The record of a loop over a function. -/
def rfRec (fn : FuncId) (tmps : Array Value) (ps : Array Tmp) (assign body : Code) (D : Nat) (st : LoopState) (pe : Option Code) : Loop :=
  { state := st, pending := pe, fn, tmps, params := ps, assign, body, defers := D }

/-- THE STATEMENT: the record is laid; the iterator is called; behind it the pending jump. -/
theorem rf_stmt {n : Nat} {P : Program} {g : Operand} {ps : Array Tmp} {assign body : Code} {Q : Exit → Act → World → Prop} {a : Act} {w : World} {gf : Nat} {lb : Array Value}
    (hg : a.eval g = .func (.func gf) #[] lb) (eg : ∀ args w, (callFunc gf args).run P w = .ok (.enter gf args) w)
    (H : ∀ fn W1, Below w.heap.size w W1 → W1.heap.size = w.heap.size + 2 → W1.heap[w.heap.size]? = some (.deferred (some [])) → W1.heap[w.heap.size + 1]? = some (.loop (rfRec fn a.tmps ps assign body w.heap.size .ready none)) →
      CallsIn Fence.wide (n - 1) P gf (#[.func (.yield (w.heap.size + 1)) #[] #[]] ++ lb) W1 fun e W2 => (∃ v, e = .returned v) ∧ ∃ st pe, st ≠ .busy ∧ W2.heap[w.heap.size + 1]? = some (.loop (rfRec fn a.tmps ps assign body w.heap.size st pe)) ∧
        (∀ re, match pe with
         | none => Q .normal { a with defers := { target := .collected w.heap.size, args := #[] } :: a.defers } (W2.putObj (w.heap.size + 1) (.loop re))
         | some c => c.wpIn Fence.wide n P Q { a with defers := { target := .collected w.heap.size, args := #[] } :: a.defers } (W2.putObj (w.heap.size + 1) (.loop re)))) :
    (Code.rangeFunc g ps assign body).wpIn Fence.wide n P Q a w := by
  refine wpIn_rangeFunc ?_
  intro fn _
  obtain ⟨W1, hW1⟩ : ∃ W1, (w.alloc (.deferred (some []))).alloc (.loop (rfRec fn a.tmps ps assign body w.heap.size .ready none)) = W1 := ⟨_, rfl⟩
  have hL1 : W1.heap[w.heap.size + 1]? = some (.loop (rfRec fn a.tmps ps assign body w.heap.size .ready none)) := by
    rw [← hW1]; have := World.alloc_heap_new (w.alloc (.deferred (some []))) (.loop (rfRec fn a.tmps ps assign body w.heap.size .ready none)); rwa [World.size_alloc] at this
  have hK1 : W1.heap[w.heap.size]? = some (.deferred (some [])) := by
    rw [← hW1]; exact (Below.heap_alloc _ _ _ (by simp)).trans (World.alloc_heap_new w _)
  have hb1 : Below w.heap.size w W1 := by
    rw [← hW1]; exact ((Below.refl _ w).alloc (Nat.le_refl _) _).alloc (by simp) _
  have hs1 : W1.heap.size = w.heap.size + 2 := by rw [← hW1]; simp
  refine ⟨w.heap.size + 1, [{ target := .collected w.heap.size, args := #[] }], W1, { target := .fn (.func gf) lb, args := #[.func (.yield (w.heap.size + 1)) #[] #[]] }, W1, gf,
    #[.func (.yield (w.heap.size + 1)) #[] #[]] ++ lb, W1, ?_, ?_, ?_, ?_, fun h => by simp [Fence.wide] at h, ?_⟩
  · rw [← hW1]; exact run_enterLoop_outer _ _ _ _ _
  · simp only [resolve, hg]
    simp [go_sem]
  · intro f' _; trivial
  · simp [invoke, go_sem, eg]
  · refine (H fn W1 hb1 hs1 hK1 hL1).mono ?_
    rintro e W2 ⟨⟨v, rfl⟩, st, pe, hst, hl, hp⟩
    have := run_endLoop (P := P) hl (by simpa [rfRec] using hst)
    exact ⟨pe, _, this, by cases pe <;> exact hp _⟩

/-- How a round's body may be left. -/
def rfEnd (l : Nat) (rb : Loop) (rec : LoopState → Option Code → Loop) (R : Ending → World → Prop) : Exit → Act → World → Prop
  | .normal, _, W => W.heap[l]? = some (.loop rb) ∧ R (.returned (.bool true)) (W.putObj l (.loop (rec .ready none)))
  | .ret, _, W => W.heap[l]? = some (.loop rb) ∧ R (.returned (.bool false)) (W.putObj l (.loop (rec .done (some .ret))))
  | .exit id, _, W => W.heap[l]? = some (.loop rb) ∧ R (.returned (.bool false)) (W.putObj l (.loop (rec .done (some (.exit id)))))
  | .goto t, _, W => W.heap[l]? = some (.loop rb) ∧ R (.returned (.bool false)) (W.putObj l (.loop (rec .done (some (.goto t)))))
  | .panic _, _, _ => False
  | .outgrown, _, _ => False

/-- ONE ROUND. -/
theorem rf_round {m : Nat} {P : Program} {l D : Nat} {fn : FuncId} {tmps : Array Value} {ps : Array Tmp} {assign body : Code} {args : Array Value} {W : World} {R : Ending → World → Prop}
    (hl : W.heap[l]? = some (.loop (rfRec fn tmps ps assign body D .ready none))) (hps : args.size = ps.size)
    (H : assign.wpIn (Fence.wide.inRound l) m P (Exit.then (fun a₁ W1 => W1.heap[l]? = some (.loop (rfRec fn tmps ps assign body D .ready none)) ∧
        body.wpIn (Fence.wide.inRound l) m P (rfEnd l (rfRec fn tmps ps assign body D .busy none) (rfRec fn tmps ps assign body D) R) a₁ (W1.putObj l (.loop (rfRec fn tmps ps assign body D .busy none)))) (fun _ _ _ => False))
      { tmps := (ps.zip args).foldl (fun t (p, v) => t.setIfInBounds p v) tmps, defers := [] } W) :
    YieldAt Fence.wide m P l args W R := by
  refine ⟨fn, _, assign, body, run_yield (P := P) (args := args) hl (by simpa [rfRec] using hps), roundIn_of_wpIn trivial (wpIn_mono H ?_)⟩
  intro e a₁ W1 h
  cases e with
  | normal =>
    obtain ⟨h1, h2⟩ := h
    refine ⟨_, run_beginRound h1 rfl, wpIn_mono h2 ?_⟩
    intro e a₂ W2 h
    cases e with
    | normal => exact ⟨_, _, run_endRound none h.1, h.2⟩
    | ret => exact ⟨_, _, run_endRound (some .ret) h.1, h.2⟩
    | exit id => exact ⟨_, _, run_endRound (some (.exit id)) h.1, h.2⟩
    | goto t => exact ⟨_, _, run_endRound (some (.goto t)) h.1, h.2⟩
    | panic c => exact h.elim
    | outgrown => exact h.elim
  | _ => exact h.elim

/-- ONE ROUND whose assignment to the loop's variables touches no memory. -/
theorem rf_round1 {m : Nat} {P : Program} {l D : Nat} {fn : FuncId} {tmps : Array Value} {ps : Array Tmp} {assign body : Code} {args : Array Value} {W : World} {R : Ending → World → Prop} (a₁ : Act)
    (hl : W.heap[l]? = some (.loop (rfRec fn tmps ps assign body D .ready none))) (hps : args.size = ps.size)
    (hassign : ∀ K : Act → World → Prop, K a₁ W → assign.wpIn (Fence.wide.inRound l) m P (Exit.then K (fun _ _ _ => False)) { tmps := (ps.zip args).foldl (fun t (p, v) => t.setIfInBounds p v) tmps, defers := [] } W)
    (hbody : ∀ rb, body.wpIn (Fence.wide.inRound l) m P (rfEnd l rb (rfRec fn tmps ps assign body D) R) a₁ (W.putObj l (.loop rb))) :
    YieldAt Fence.wide m P l args W R :=
  rf_round hl hps (hassign _ ⟨hl, hbody _⟩)

/-- What a turn of a block that holds no cells keeps. -/
theorem grownBy_putObj (W : World) (l : Nat) (o : Obj) : W.grownBy (W.putObj l o) (some l) := grownBy_putObj' W l o

end Go.Proofs.Ytgeaccoobhigcaa
namespace Go.Proofs.Ytgeaccoobhigcaa
open Go Go.RowKit

theorem conv_one (wx : World) (q : Int) :
    (convert 43 9 (.slice (some ⟨wx.heap.size, 0, none⟩) 1 1)).run Try.prog (wx.alloc (.cells #[.int .u8 q] 5)) = .ok (.string (strOfNums [q])) (wx.alloc (.cells #[.int .u8 q] 5)) := by
  refine run_convert_bytes_arg (P := Try.prog) (wx.alloc (.cells #[.int .u8 q] 5)) 43 5 Try.underlying43 Try.underlying5 wx.heap.size 0 1 1 [q] rfl ?_ 9 Try.underlying9
  intro i hi
  obtain rfl : i = 0 := by omega
  simp
theorem str_ext {a b : ByteArray} (h : a.data.toList = b.data.toList) : a = b := by
  apply ByteArray.ext
  apply Array.toList_inj.1
  exact h
theorem one_size (q : Int) : (strOfNums [q]).size = 1 := strOfNums_size _
theorem cat2_size (a b : ByteArray) : (a ++ b).size = a.size + b.size := by simp
theorem below_drew {B : Nat} {a w : World} (h : Below B a w) (n : Nat) : Below B a (w.drewN n) := ⟨h.os, h.tape, h.output, h.size, h.block⟩
/-- What a slice reads behind a call that writes nothing that was there. -/
theorem SlR.kept {w w' : World} {size : Nat} {ao : Option Addr} {n c : Nat} {cs : List Value} (h : SlR w size ao n c cs) (hb : Below w.heap.size w w') : SlR w' size ao n c cs := by
  refine ⟨h.1, h.2.1, h.2.2.1, h.2.2.2.1, fun a ha j u hj => ?_⟩
  have hc := h.2.2.2.2 a ha j u hj
  exact (hb.cell (World.block_lt_of_cell? w _ hc)).trans hc
theorem take_snoc2 {α : Type} {l : List α} {k : Nat} {x : α} (h : l[k]? = some x) : l.take (k + 1) = l.take k ++ [x] := by
  rw [List.take_add_one, h]; rfl
end Go.Proofs.Ytgeaccoobhigcaa
namespace Go.Proofs.Ytgeaccoobhigcaa
open Go Go.RowKit

def digF : Nat → Nat → Bs
  | 0, _ => []
  | f + 1, n => if n < 10 then [UInt8.ofNat (48 + n)] else digF f (n / 10) ++ [UInt8.ofNat (48 + n % 10)]
/-- A number's digits. -/
def digL (n : Nat) : Bs := digF (n + 1) n
theorem digF_fuel : ∀ (f g n : Nat), n < f → n < g → digF f n = digF g n
  | 0, _, _, h, _ => by omega
  | _ + 1, 0, _, _, h => by omega
  | f + 1, g + 1, n, hf, hg => by
    unfold digF
    by_cases h : n < 10
    · rw [if_pos h, if_pos h]
    · rw [if_neg h, if_neg h, digF_fuel f g (n / 10) (by omega) (by omega)]
theorem digL_lt {n : Nat} (h : n < 10) : digL n = [UInt8.ofNat (48 + n)] := by unfold digL digF; rw [if_pos h]
theorem digL_ge {n : Nat} (h : ¬ n < 10) : digL n = digL (n / 10) ++ [UInt8.ofNat (48 + n % 10)] := by
  unfold digL
  conv => lhs; unfold digF
  rw [if_neg h, digF_fuel n (n / 10 + 1) (n / 10) (by omega) (by omega)]
theorem digL_len : ∀ (k n : Nat), n < 10 ^ (k + 1) → (digL n).length ≤ k + 1
  | 0, n, h => by rw [digL_lt (by simpa using h)]; simp
  | k + 1, n, h => by
    by_cases h10 : n < 10
    · rw [digL_lt h10]; simp
    · have := digL_len k (n / 10) (by rw [Nat.pow_succ] at h; omega)
      rw [digL_ge h10, List.length_append]
      simp only [List.length_cons, List.length_nil]
      omega
def digS (n : Nat) : ByteArray := ⟨(digL n).toArray⟩
theorem mk_list_size (l : Bs) : (⟨l.toArray⟩ : ByteArray).size = l.length := by show l.toArray.size = _; simp
theorem digS_size (n : Nat) (h : n ≤ 4294967296) : (digS n).size ≤ 11 := by unfold digS; rw [mk_list_size]; exact digL_len 10 n (Nat.lt_of_le_of_lt h (by decide +kernel))
theorem digS_lt {n : Nat} (h : n < 10) : strOfNums [48 + (n : Int)] = digS n := by
  apply str_ext
  rw [strOfNums_data]
  show _ = digL n
  rw [digL_lt h]
  simp only [List.map_cons, List.map_nil]
  congr 2
theorem digS_ge {n : Nat} (h : ¬ n < 10) : digS (n / 10) ++ strOfNums [48 + (n : Int) % 10] = digS n := by
  apply str_ext
  rw [ByteArray.data_append, Array.toList_append, strOfNums_data]
  show digL (n / 10) ++ _ = digL n
  rw [digL_ge h]
  simp only [List.map_cons, List.map_nil]
  congr 2

theorem conv_at (W : World) (b : Nat) (q : Int) (h : W.cell? ⟨b, 0, none⟩ = some (.int .u8 q)) : (convert 43 9 (.slice (some ⟨b, 0, none⟩) 1 1)).run Try.prog W = .ok (.string (strOfNums [q])) W := by
  refine run_convert_bytes_arg (P := Try.prog) W 43 5 Try.underlying43 Try.underlying5 b 0 1 1 [q] rfl ?_ 9 Try.underlying9
  intro i hi
  obtain rfl : i = 0 := by omega
  exact h

set_option maxHeartbeats 2000000 in
set_option maxRecDepth 100000 in
theorem digits_any : ∀ (f n : Nat), n < f → n ≤ 4294967296 → ∀ w : World, Calls Try.prog 113 #[.int .i64 n] w fun e w' => e = .returned (.string (digS n)) ∧ Below w.heap.size w w'
  | 0, _, h, _, _ => by omega
  | f + 1, n, hf, hn, w => by
    by_cases h10 : n < 10
    · have hs := digS_lt h10
      have hcv := fun w => conv_one w (48 + (n : Int))
      rw [hs] at hcv
      have h10' : (n : Int) < 10 := by omega
      clear hs
      go_enter Try.func113, Try.ntmps113
      go_wp2
      go_ret
      exact ⟨rfl, (Below.refl _ _).alloc (Nat.le_refl _) _⟩
    · have ih := fun w => digits_any f (n / 10) (by omega) (by omega) w
      have hz := digS_size (n / 10) (by omega)
      have hcv := fun w => conv_one w (48 + (n : Int) % 10)
      have ho := one_size (48 + (n : Int) % 10)
      have HS := Lib.hid (digS_ge h10)
      have IH := Lib.hid ih
      have h10' : ¬ (n : Int) < 10 := by omega
      have hn' : (n : Int) ≤ 4294967296 := by omega
      have hmix : Try.prog.follows .mixedOrders = true := by kernel_rfl
      clear ih hf hn h10
      have q1 : IntKind.i64.wrap ((n : Int) / 10) = (n : Int) / 10 := IntWalk.i64_in _ (by omega)
      have q2 : (n : Int).tmod 10 = (n : Int) % 10 := Int.tmod_eq_emod_of_nonneg (by omega)
      have q3 : IntKind.i64.wrap (48 + (n : Int) % 10) = 48 + (n : Int) % 10 := IntWalk.i64_in _ (by omega)
      have q4 : IntKind.u8.wrap (48 + (n : Int) % 10) = 48 + (n : Int) % 10 := IntWalk.u8_in _ (by omega)
      go_enter Try.func113, Try.ntmps113
      go_wp2
      have hcd : (convert 43 9 (.slice (some ⟨w.heap.size, 0, none⟩) 1 1)).run Try.prog (w.alloc (.cells #[.int .u8 (48 + (n : Int) % 10)] 5)).drew = .ok (.string (strOfNums [48 + (n : Int) % 10])) (w.alloc (.cells #[.int .u8 (48 + (n : Int) % 10)] 5)).drew :=
        conv_at _ _ _ (Boxed.new w 5 (.int .u8 (48 + (n : Int) % 10))).cell
      go_region_with (go_at_call 113; refine (IH.out _).mono ?_; rintro e w2 ⟨rfl, b2⟩; (first | (have hcv2 := conv_at w2 w.heap.size _ ((b2.cell (p := ⟨w.heap.size, 0, none⟩) (by simp)).trans (Boxed.new w 5 (.int .u8 (48 + (n : Int) % 10))).cell)) | skip))
      all_goals
        go_wp2
        go_ret
        rw [HS.out]
        first
          | exact ⟨rfl, (show Below w.heap.size w w2 from ⟨b2.os, b2.tape, b2.output, b2.size, b2.block⟩).alloc b2.size _⟩
          | exact ⟨rfl, ((Below.refl _ w).alloc (Nat.le_refl _) (.cells #[.int .u8 (48 + (n : Int) % 10)] 5)).trans (show Below w.heap.size (w.alloc (.cells #[.int .u8 (48 + (n : Int) % 10)] 5)) w2 from ⟨b2.os, b2.tape, b2.output, b2.size, fun k hk => b2.block k (by simp; omega)⟩)⟩
end Go.Proofs.Ytgeaccoobhigcaa
namespace Go.Proofs.Ytgeaccoobhigcaa
open Go Go.RowKit

/-- A symbol. -/
structure Sm where
  k : Int
  t : ByteArray
  n : Int
def Sm.val (s : Sm) : Value := .agg #[.int .i64 s.k, .string s.t, .int .i64 s.n]
def Sm.cells (s : Sm) : List Value := [.int .i64 s.k, .string s.t, .int .i64 s.n]
def headGreat : Bs → Bool
  | [] => false
  | c :: _ => decide (65 ≤ c.toNat ∧ c.toNat ≤ 90)
def validB (s : Sm) : Bool :=
  if s.k = 1 then decide (s.t.size = 1) && headGreat s.t.data.toList && decide (1 ≤ s.n ∧ s.n ≤ 1048576)
  else if s.k = 2 then decide (s.t.size = 0) && decide (-2147483647 ≤ s.n ∧ s.n ≤ 2147483647)
  else if s.k = 3 then decide (s.n = 0) && wordB s.t.data.toList
  else false
theorem headGreat_eq (s : ByteArray) (h : 0 < s.size) : headGreat s.data.toList = decide (65 ≤ s[0].toNat ∧ s[0].toNat ≤ 90) := by rw [toList_cons s h]; rfl
theorem str_nil {s : ByteArray} (h : s.size = 0) : (s.toList == []) = true := by
  rw [ByteArray.toList_eq]
  have : s.data.toList = [] := List.eq_nil_of_length_eq_zero (by rw [size_toList]; exact h)
  rw [this]; rfl
theorem str_cons {s : ByteArray} (h : s.size ≠ 0) : (s.toList == []) = false := by
  rw [ByteArray.toList_eq, toList_cons s (by omega)]; rfl

set_option maxHeartbeats 1000000 in
theorem rword_any (s : ByteArray) (hs : s.size ≤ 9223372036854775807) (w : World) :
    Calls Try.prog 67 #[.string s] w fun e w' => e = .returned (.bool (wordB s.data.toList)) ∧ w' = w := by
  by_cases h0 : 1 ≤ s.size ∧ s.size ≤ 32
  · obtain ⟨h1, h2⟩ := h0
    have h1' : 0 < s.size := h1
    have hc1 : ¬ (s.size : Int) < 1 := by omega
    have hc2 : ¬ (32 : Int) < (s.size : Int) := by omega
    rcases hsm : smallB s[0] with _ | _
    · rw [wordB_no2 s h1' hsm]
      simp only [smallB, decide_eq_false_iff_not] at hsm
      rcases (show s[0].toNat < 97 ∨ (97 ≤ s[0].toNat ∧ 122 < s[0].toNat) by omega) with hlo | ⟨hlo, hhi⟩
      · have q1 : (s[0].toNat : Int) < 97 := by omega
        clear hsm
        go_enter Try.func67, Try.ntmps67
        go_wp2
        go_ret
        exact ⟨rfl, rfl⟩
      · have q1 : ¬ (s[0].toNat : Int) < 97 := by omega
        have q2 : (122 : Int) < (s[0].toNat : Int) := by omega
        clear hsm
        go_enter Try.func67, Try.ntmps67
        go_wp2
        go_ret
        exact ⟨rfl, rfl⟩
    · have HW := Lib.hid (wordB_yes s h1' h2 hsm)
      have hp : partB s[0] = true := by simp [partB, hsm]
      have HA := Lib.hid (all_yes (p := partB) s 0 h1' hp)
      simp only [smallB, decide_eq_true_eq] at hsm
      have q1 : ¬ (s[0].toNat : Int) < 97 := by omega
      have q2 : ¬ (122 : Int) < (s[0].toNat : Int) := by omega
      clear hsm hp
      go_enter Try.func67, Try.ntmps67
      go_wp2
      go_loop [3] (fun t => ∃ k : Nat, k ≤ s.size ∧ Hid ((from_ s 0).all partB = (from_ s k).all partB) ∧ t = .int .i64 k) (fun t => s.size - (intOf t).toNat)
      case atStart => exact ⟨0, by omega, Lib.hid rfl, rfl⟩
      case round =>
        obtain ⟨k, hk, HK, rfl⟩ := hrel
        by_cases hlt : k < s.size
        · rcases hp : partB s[k] with _ | _
          · have HY := Lib.hid (all_no (p := partB) s k hlt hp)
            go_wp2_with (go_at_call 107; refine (part_any _ _).mono ?_; rintro e w' ⟨rfl, rfl⟩)
            go_ret
            exact ⟨ret_bool (by rw [HW.out, ← HA.out, HK.out, HY.out]), rfl⟩
          · have HY := Lib.hid (all_yes (p := partB) s k hlt hp)
            go_wp2_with (go_at_call 107; refine (part_any _ _).mono ?_; rintro e w' ⟨rfl, rfl⟩)
            go_round
            case rel => exact ⟨k + 1, by omega, Lib.hid (by rw [HK.out, HY.out]), by go_num⟩
            case measure => simp [intOf]; omega
        · have HY := Lib.hid (all_end (p := partB) s k (by omega))
          go_wp2
          go_ret
          exact ⟨ret_bool (by rw [HW.out, ← HA.out, HK.out, HY.out]), rfl⟩
  · rw [wordB_no1 s h0]
    by_cases h1 : 1 ≤ s.size
    · have h2 : (32 : Int) < (s.size : Int) := by omega
      have hc1 : ¬ (s.size : Int) < 1 := by omega
      clear h0
      go_enter Try.func67, Try.ntmps67
      go_wp2
      go_ret
      exact ⟨rfl, rfl⟩
    · have hc1 : (s.size : Int) < 1 := by omega
      clear h0
      go_enter Try.func67, Try.ntmps67
      go_wp2
      go_ret
      exact ⟨rfl, rfl⟩

set_option maxHeartbeats 4000000 in
theorem valid_any (s : Sm) (hs : s.t.size ≤ 9223372036854775807) (w : World) :
    Calls Try.prog 112 #[s.val] w fun e w' => e = .returned (.bool (validB s)) ∧ Below w.heap.size w w' := by
  obtain ⟨k, t, n⟩ := s
  unfold Sm.val
  simp only at hs ⊢
  by_cases h1 : k = 1
  · subst h1
    by_cases hz : t.size = 1
    · have h0 : 0 < t.size := by omega
      have hg := headGreat_eq t h0
      have ez : ((t.size : Int) == 1) = true := by simp; omega
      by_cases hG : 65 ≤ t[0].toNat ∧ t[0].toNat ≤ 90
      · rw [decide_eq_true hG] at hg
        have eg : decide (65 ≤ t[0].toNat ∧ t[0].toNat ≤ 90) = true := by simp [hG]
        have g1 : (65 : Int) ≤ (t[0].toNat : Int) := by omega
        have g2 : (t[0].toNat : Int) ≤ 90 := by omega
        rcases (show n < 1 ∨ (1 ≤ n ∧ 1048576 < n) ∨ (1 ≤ n ∧ n ≤ 1048576) by omega) with hn | ⟨hn, hn2⟩ | ⟨hn, hn2⟩
        · have hn' : ¬ 1 ≤ n := by omega
          rw [show validB _ = false by simp [validB, hz, hg, hn']]
          clear hg hz hG
          go_enter Try.func112, Try.ntmps112
          go_wp2_with (first | (go_at_call 124; refine (great_any _ _).mono ?_; rintro e w' ⟨rfl, rfl⟩) | (go_at_call 100; refine (word_any _ hs _).mono ?_; rintro e w' ⟨rfl, rfl⟩))
          go_ret
          exact ⟨rfl, (Below.refl _ _).alloc (Nat.le_refl _) _⟩
        · have hn' : ¬ n ≤ 1048576 := by omega
          have hq : decide (n ≤ 1048576) = false := by simp; omega
          rw [show validB _ = false by simp [validB, hz, hg, hn']]
          clear hg hz hG
          go_enter Try.func112, Try.ntmps112
          go_wp2_with (first | (go_at_call 124; refine (great_any _ _).mono ?_; rintro e w' ⟨rfl, rfl⟩) | (go_at_call 100; refine (word_any _ hs _).mono ?_; rintro e w' ⟨rfl, rfl⟩))
          go_ret
          exact ⟨rfl, (Below.refl _ _).alloc (Nat.le_refl _) _⟩
        · have hq : decide (n ≤ 1048576) = true := by simp; omega
          rw [show validB _ = true by simp [validB, hz, hg, hn, hn2]]
          clear hg hz hG
          go_enter Try.func112, Try.ntmps112
          go_wp2_with (first | (go_at_call 124; refine (great_any _ _).mono ?_; rintro e w' ⟨rfl, rfl⟩) | (go_at_call 100; refine (word_any _ hs _).mono ?_; rintro e w' ⟨rfl, rfl⟩))
          go_ret
          exact ⟨rfl, (Below.refl _ _).alloc (Nat.le_refl _) _⟩
      · rw [decide_eq_false hG] at hg
        have eg : decide (65 ≤ t[0].toNat ∧ t[0].toNat ≤ 90) = false := by simp; omega
        rcases (show t[0].toNat < 65 ∨ (65 ≤ t[0].toNat ∧ 90 < t[0].toNat) by omega) with hlo | ⟨hlo, hhi⟩
        · have g1 : ¬ (65 : Int) ≤ (t[0].toNat : Int) := by omega
          rw [show validB _ = false by simp [validB, hz, hg]]
          clear hg hz hG
          go_enter Try.func112, Try.ntmps112
          go_wp2_with (first | (go_at_call 124; refine (great_any _ _).mono ?_; rintro e w' ⟨rfl, rfl⟩) | (go_at_call 100; refine (word_any _ hs _).mono ?_; rintro e w' ⟨rfl, rfl⟩))
          go_ret
          exact ⟨rfl, (Below.refl _ _).alloc (Nat.le_refl _) _⟩
        · have g1 : (65 : Int) ≤ (t[0].toNat : Int) := by omega
          have g2 : ¬ (t[0].toNat : Int) ≤ 90 := by omega
          rw [show validB _ = false by simp [validB, hz, hg]]
          clear hg hz hG
          go_enter Try.func112, Try.ntmps112
          go_wp2_with (first | (go_at_call 124; refine (great_any _ _).mono ?_; rintro e w' ⟨rfl, rfl⟩) | (go_at_call 100; refine (word_any _ hs _).mono ?_; rintro e w' ⟨rfl, rfl⟩))
          go_ret
          exact ⟨rfl, (Below.refl _ _).alloc (Nat.le_refl _) _⟩
    · have ez : ((t.size : Int) == 1) = false := by simp; omega
      rw [show validB _ = false by simp [validB, hz]]
      clear hz
      go_enter Try.func112, Try.ntmps112
      go_wp2_with (first | (go_at_call 124; refine (great_any _ _).mono ?_; rintro e w' ⟨rfl, rfl⟩) | (go_at_call 100; refine (word_any _ hs _).mono ?_; rintro e w' ⟨rfl, rfl⟩))
      go_ret
      exact ⟨rfl, (Below.refl _ _).alloc (Nat.le_refl _) _⟩
  · have e1 : (k == 1) = false := by simp [h1]
    by_cases h2 : k = 2
    · subst h2
      by_cases hz : t.size = 0
      · have ez := str_nil hz
        rcases (show n < -2147483647 ∨ (-2147483647 ≤ n ∧ 2147483647 < n) ∨ (-2147483647 ≤ n ∧ n ≤ 2147483647) by omega) with hn | ⟨hn, hn2⟩ | ⟨hn, hn2⟩
        · have hn' : ¬ -2147483647 ≤ n := by omega
          rw [show validB _ = false by simp [validB, hz, hn']]
          clear hz h1 e1
          go_enter Try.func112, Try.ntmps112
          go_wp2_with (first | (go_at_call 124; refine (great_any _ _).mono ?_; rintro e w' ⟨rfl, rfl⟩) | (go_at_call 100; refine (word_any _ hs _).mono ?_; rintro e w' ⟨rfl, rfl⟩))
          go_ret
          exact ⟨rfl, (Below.refl _ _).alloc (Nat.le_refl _) _⟩
        · have hn' : ¬ n ≤ 2147483647 := by omega
          have hq : decide (n ≤ 2147483647) = false := by simp; omega
          rw [show validB _ = false by simp [validB, hz, hn']]
          clear hz h1 e1
          go_enter Try.func112, Try.ntmps112
          go_wp2_with (first | (go_at_call 124; refine (great_any _ _).mono ?_; rintro e w' ⟨rfl, rfl⟩) | (go_at_call 100; refine (word_any _ hs _).mono ?_; rintro e w' ⟨rfl, rfl⟩))
          go_ret
          exact ⟨rfl, (Below.refl _ _).alloc (Nat.le_refl _) _⟩
        · have hq : decide (n ≤ 2147483647) = true := by simp; omega
          rw [show validB _ = true by simp [validB, hz, hn, hn2]]
          clear hz h1 e1
          go_enter Try.func112, Try.ntmps112
          go_wp2_with (first | (go_at_call 124; refine (great_any _ _).mono ?_; rintro e w' ⟨rfl, rfl⟩) | (go_at_call 100; refine (word_any _ hs _).mono ?_; rintro e w' ⟨rfl, rfl⟩))
          go_ret
          exact ⟨rfl, (Below.refl _ _).alloc (Nat.le_refl _) _⟩
      · have ez := str_cons hz
        rw [show validB _ = false by simp [validB, hz]]
        clear hz h1 e1
        go_enter Try.func112, Try.ntmps112
        go_wp2_with (first | (go_at_call 124; refine (great_any _ _).mono ?_; rintro e w' ⟨rfl, rfl⟩) | (go_at_call 100; refine (word_any _ hs _).mono ?_; rintro e w' ⟨rfl, rfl⟩))
        go_ret
        exact ⟨rfl, (Below.refl _ _).alloc (Nat.le_refl _) _⟩
    · have e2 : (k == 2) = false := by simp [h2]
      by_cases h3 : k = 3
      · subst h3
        by_cases hn : n = 0
        · subst hn
          rw [show validB _ = wordB t.data.toList by simp [validB]]
          clear h1 h2 e1 e2
          go_enter Try.func112, Try.ntmps112
          go_wp2_with (first | (go_at_call 124; refine (great_any _ _).mono ?_; rintro e w' ⟨rfl, rfl⟩) | (go_at_call 100; refine (word_any _ hs _).mono ?_; rintro e w' ⟨rfl, rfl⟩))
          go_ret
          exact ⟨rfl, (Below.refl _ _).alloc (Nat.le_refl _) _⟩
        · have en : (n == 0) = false := by simp [hn]
          rw [show validB _ = false by simp [validB, hn]]
          clear h1 h2 e1 e2 hn
          go_enter Try.func112, Try.ntmps112
          go_wp2_with (first | (go_at_call 124; refine (great_any _ _).mono ?_; rintro e w' ⟨rfl, rfl⟩) | (go_at_call 100; refine (word_any _ hs _).mono ?_; rintro e w' ⟨rfl, rfl⟩))
          go_ret
          exact ⟨rfl, (Below.refl _ _).alloc (Nat.le_refl _) _⟩
      · have e3 : (k == 3) = false := by simp [h3]
        rw [show validB _ = false by simp [validB, h1, h2, h3]]
        clear h1 h2 h3
        go_enter Try.func112, Try.ntmps112
        go_wp2_with (first | (go_at_call 124; refine (great_any _ _).mono ?_; rintro e w' ⟨rfl, rfl⟩) | (go_at_call 100; refine (word_any _ hs _).mono ?_; rintro e w' ⟨rfl, rfl⟩))
        go_ret
        exact ⟨rfl, (Below.refl _ _).alloc (Nat.le_refl _) _⟩

set_option maxHeartbeats 4000000 in
theorem rvalid_any (s : Sm) (hs : s.t.size ≤ 9223372036854775807) (w : World) :
    Calls Try.prog 114 #[s.val] w fun e w' => e = .returned (.bool (validB s)) ∧ Below w.heap.size w w' := by
  obtain ⟨k, t, n⟩ := s
  unfold Sm.val
  simp only at hs ⊢
  by_cases h1 : k = 1
  · subst h1
    by_cases hz : t.size = 1
    · have h0 : 0 < t.size := by omega
      have hg := headGreat_eq t h0
      have ez : ((t.size : Int) == 1) = true := by simp; omega
      by_cases hG : 65 ≤ t[0].toNat ∧ t[0].toNat ≤ 90
      · rw [decide_eq_true hG] at hg
        have eg : decide (65 ≤ t[0].toNat ∧ t[0].toNat ≤ 90) = true := by simp [hG]
        have g1 : (65 : Int) ≤ (t[0].toNat : Int) := by omega
        have g2 : (t[0].toNat : Int) ≤ 90 := by omega
        rcases (show n < 1 ∨ (1 ≤ n ∧ 1048576 < n) ∨ (1 ≤ n ∧ n ≤ 1048576) by omega) with hn | ⟨hn, hn2⟩ | ⟨hn, hn2⟩
        · have hn' : ¬ 1 ≤ n := by omega
          rw [show validB _ = false by simp [validB, hz, hg, hn']]
          clear hg hz hG
          go_enter Try.func114, Try.ntmps114
          go_wp2_with (first | (go_at_call 67; refine (rword_any _ hs _).mono ?_; rintro e w' ⟨rfl, rfl⟩))
          go_ret
          exact ⟨rfl, (Below.refl _ _).alloc (Nat.le_refl _) _⟩
        · have hn' : ¬ n ≤ 1048576 := by omega
          have hq : decide (n ≤ 1048576) = false := by simp; omega
          rw [show validB _ = false by simp [validB, hz, hg, hn']]
          clear hg hz hG
          go_enter Try.func114, Try.ntmps114
          go_wp2_with (first | (go_at_call 67; refine (rword_any _ hs _).mono ?_; rintro e w' ⟨rfl, rfl⟩))
          go_ret
          exact ⟨rfl, (Below.refl _ _).alloc (Nat.le_refl _) _⟩
        · have hq : decide (n ≤ 1048576) = true := by simp; omega
          rw [show validB _ = true by simp [validB, hz, hg, hn, hn2]]
          clear hg hz hG
          go_enter Try.func114, Try.ntmps114
          go_wp2_with (first | (go_at_call 67; refine (rword_any _ hs _).mono ?_; rintro e w' ⟨rfl, rfl⟩))
          go_ret
          exact ⟨rfl, (Below.refl _ _).alloc (Nat.le_refl _) _⟩
      · rw [decide_eq_false hG] at hg
        have eg : decide (65 ≤ t[0].toNat ∧ t[0].toNat ≤ 90) = false := by simp; omega
        rcases (show t[0].toNat < 65 ∨ (65 ≤ t[0].toNat ∧ 90 < t[0].toNat) by omega) with hlo | ⟨hlo, hhi⟩
        · have g1 : ¬ (65 : Int) ≤ (t[0].toNat : Int) := by omega
          rw [show validB _ = false by simp [validB, hz, hg]]
          clear hg hz hG
          go_enter Try.func114, Try.ntmps114
          go_wp2_with (first | (go_at_call 67; refine (rword_any _ hs _).mono ?_; rintro e w' ⟨rfl, rfl⟩))
          go_ret
          exact ⟨rfl, (Below.refl _ _).alloc (Nat.le_refl _) _⟩
        · have g1 : (65 : Int) ≤ (t[0].toNat : Int) := by omega
          have g2 : ¬ (t[0].toNat : Int) ≤ 90 := by omega
          rw [show validB _ = false by simp [validB, hz, hg]]
          clear hg hz hG
          go_enter Try.func114, Try.ntmps114
          go_wp2_with (first | (go_at_call 67; refine (rword_any _ hs _).mono ?_; rintro e w' ⟨rfl, rfl⟩))
          go_ret
          exact ⟨rfl, (Below.refl _ _).alloc (Nat.le_refl _) _⟩
    · have ez : ((t.size : Int) == 1) = false := by simp; omega
      rw [show validB _ = false by simp [validB, hz]]
      clear hz
      go_enter Try.func114, Try.ntmps114
      go_wp2_with (first | (go_at_call 67; refine (rword_any _ hs _).mono ?_; rintro e w' ⟨rfl, rfl⟩))
      go_ret
      exact ⟨rfl, (Below.refl _ _).alloc (Nat.le_refl _) _⟩
  · have e1 : (k == 1) = false := by simp [h1]
    by_cases h2 : k = 2
    · subst h2
      by_cases hz : t.size = 0
      · have ez := str_nil hz
        rcases (show n < -2147483647 ∨ (-2147483647 ≤ n ∧ 2147483647 < n) ∨ (-2147483647 ≤ n ∧ n ≤ 2147483647) by omega) with hn | ⟨hn, hn2⟩ | ⟨hn, hn2⟩
        · have hn' : ¬ -2147483647 ≤ n := by omega
          rw [show validB _ = false by simp [validB, hz, hn']]
          clear hz h1 e1
          go_enter Try.func114, Try.ntmps114
          go_wp2_with (first | (go_at_call 67; refine (rword_any _ hs _).mono ?_; rintro e w' ⟨rfl, rfl⟩))
          go_ret
          exact ⟨rfl, (Below.refl _ _).alloc (Nat.le_refl _) _⟩
        · have hn' : ¬ n ≤ 2147483647 := by omega
          have hq : decide (n ≤ 2147483647) = false := by simp; omega
          rw [show validB _ = false by simp [validB, hz, hn']]
          clear hz h1 e1
          go_enter Try.func114, Try.ntmps114
          go_wp2_with (first | (go_at_call 67; refine (rword_any _ hs _).mono ?_; rintro e w' ⟨rfl, rfl⟩))
          go_ret
          exact ⟨rfl, (Below.refl _ _).alloc (Nat.le_refl _) _⟩
        · have hq : decide (n ≤ 2147483647) = true := by simp; omega
          rw [show validB _ = true by simp [validB, hz, hn, hn2]]
          clear hz h1 e1
          go_enter Try.func114, Try.ntmps114
          go_wp2_with (first | (go_at_call 67; refine (rword_any _ hs _).mono ?_; rintro e w' ⟨rfl, rfl⟩))
          go_ret
          exact ⟨rfl, (Below.refl _ _).alloc (Nat.le_refl _) _⟩
      · have ez := str_cons hz
        rw [show validB _ = false by simp [validB, hz]]
        clear hz h1 e1
        go_enter Try.func114, Try.ntmps114
        go_wp2_with (first | (go_at_call 67; refine (rword_any _ hs _).mono ?_; rintro e w' ⟨rfl, rfl⟩))
        go_ret
        exact ⟨rfl, (Below.refl _ _).alloc (Nat.le_refl _) _⟩
    · have e2 : (k == 2) = false := by simp [h2]
      by_cases h3 : k = 3
      · subst h3
        by_cases hn : n = 0
        · subst hn
          rw [show validB _ = wordB t.data.toList by simp [validB]]
          clear h1 h2 e1 e2
          go_enter Try.func114, Try.ntmps114
          go_wp2_with (first | (go_at_call 67; refine (rword_any _ hs _).mono ?_; rintro e w' ⟨rfl, rfl⟩))
          go_ret
          exact ⟨rfl, (Below.refl _ _).alloc (Nat.le_refl _) _⟩
        · have en : (n == 0) = false := by simp [hn]
          rw [show validB _ = false by simp [validB, hn]]
          clear h1 h2 e1 e2 hn
          go_enter Try.func114, Try.ntmps114
          go_wp2_with (first | (go_at_call 67; refine (rword_any _ hs _).mono ?_; rintro e w' ⟨rfl, rfl⟩))
          go_ret
          exact ⟨rfl, (Below.refl _ _).alloc (Nat.le_refl _) _⟩
      · have e3 : (k == 3) = false := by simp [h3]
        rw [show validB _ = false by simp [validB, h1, h2, h3]]
        clear h1 h2 h3
        go_enter Try.func114, Try.ntmps114
        go_wp2_with (first | (go_at_call 67; refine (rword_any _ hs _).mono ?_; rintro e w' ⟨rfl, rfl⟩))
        go_ret
        exact ⟨rfl, (Below.refl _ _).alloc (Nat.le_refl _) _⟩

end Go.Proofs.Ytgeaccoobhigcaa
namespace Go.Proofs.Ytgeaccoobhigcaa
open Go Go.RowKit

theorem cat_assoc (a b c : ByteArray) : a ++ b ++ c = a ++ (b ++ c) := by
  apply str_ext
  simp only [ByteArray.data_append, Array.toList_append, List.append_assoc]
theorem cat_nil (a : ByteArray) : a ++ (⟨#[]⟩ : ByteArray) = a := by
  apply str_ext
  simp only [ByteArray.data_append, Array.toList_append]
  exact List.append_nil _

set_option maxHeartbeats 2000000 in
theorem rdigits_any (n : Nat) (hn : n ≤ 4294967296) (w : World) : Calls Try.prog 139 #[.int .i64 n] w fun e w' => e = .returned (.string (digS n)) ∧ Below w.heap.size w w' := by
  have hz := digS_size n hn
  go_enter Try.func139, Try.ntmps139
  go_wp2
  go_loopw [0, 3] (fun tn ts wr => ∃ (k : Nat) (S : ByteArray), k ≤ 4294967296 ∧ tn = .int .i64 k ∧ ts = .string S ∧ Hid (digS k ++ S = digS n) ∧ Below w.heap.size w wr) (fun tn _ _ => (intOf tn).toNat)
  case atStart => exact ⟨n, ⟨#[]⟩, hn, rfl, rfl, Lib.hid (cat_nil _), Below.refl _ _⟩
  case round =>
    obtain ⟨k, S, hk, rfl, rfl, HS, hb⟩ := hrel
    have hSz : S.size ≤ 11 := by have := congrArg ByteArray.size HS.out; rw [cat2_size] at this; omega
    by_cases h10 : k < 10
    · have h9 : ¬ (9 : Int) < (k : Int) := by omega
      have hcv := fun w => conv_one w (48 + (k : Int))
      have ho := one_size (48 + (k : Int))
      have HD := Lib.hid (digS_lt h10)
      clear h10
      go_wp2
      go_ret
      exact ⟨by rw [HD.out, HS.out]; rfl, hb.alloc hb.size _⟩
    · have h9 : (9 : Int) < (k : Int) := by omega
      have hcv := fun w => conv_one w (48 + (k : Int) % 10)
      have ho := one_size (48 + (k : Int) % 10)
      have HD := Lib.hid (digS_ge h10)
      clear h10
      go_wp2
      go_roundw
      case rel => exact ⟨k / 10, _, by omega, by go_num, rfl, Lib.hid (by rw [← cat_assoc, HD.out, HS.out]), hb.alloc hb.size _⟩
      case measure => simp [intOf]; omega

/-- A number's text. -/
def numS (n : Int) : ByteArray := if n < 0 then (⟨#[45]⟩ : ByteArray) ++ digS (-n).toNat else digS n.toNat
theorem number_text (n : Int) (h1 : -4294967296 ≤ n) (h2 : n ≤ 4294967296) (w : World) : Calls Try.prog 115 #[.int .i64 n] w fun e w' => e = .returned (.string (numS n)) ∧ Below w.heap.size w w' := by
  by_cases h : n < 0
  · have hd := fun w => rdigits_any (-n).toNat (by omega) w
    have e : (((-n).toNat : Nat) : Int) = -n := by omega
    rw [e] at hd
    have hz := digS_size (-n).toNat (by omega)
    have HE : Hid (numS n = (⟨#[45]⟩ : ByteArray) ++ digS (-n).toNat) := Lib.hid (by unfold numS; rw [if_pos h])
    have HD := Lib.hid hd
    clear hd e
    rw [HE.out]
    generalize digS (-n).toNat = D at HD hz
    go_enter Try.func115, Try.ntmps115
    go_wp2_with (go_at_call 139; refine (HD.out _).mono ?_; rintro e w2 ⟨rfl, b2⟩)
    go_ret
    exact ⟨rfl, b2⟩
  · have hd := fun w => rdigits_any n.toNat (by omega) w
    have e : ((n.toNat : Nat) : Int) = n := by omega
    rw [e] at hd
    have HE : Hid (numS n = digS n.toNat) := Lib.hid (by unfold numS; rw [if_neg h])
    have HD := Lib.hid hd
    clear hd e
    rw [HE.out]
    go_enter Try.func115, Try.ntmps115
    go_wp2_with (go_at_call 139; refine (HD.out _).mono ?_; rintro e w2 ⟨rfl, b2⟩)
    go_ret
    exact ⟨rfl, b2⟩
end Go.Proofs.Ytgeaccoobhigcaa
namespace Go.Proofs.Ytgeaccoobhigcaa
open Go Go.RowKit

/-- A symbol's text. -/
def symS (s : Sm) : ByteArray := if validB s = true then (if s.k = 1 then s.t ++ digS s.n.toNat else if s.k = 3 then s.t else numS s.n) else ⟨#[]⟩
theorem valid_cases {s : Sm} (h : validB s = true) : (s.k = 1 ∧ s.t.size = 1 ∧ 1 ≤ s.n ∧ s.n ≤ 1048576) ∨ (s.k = 2 ∧ -2147483647 ≤ s.n ∧ s.n ≤ 2147483647) ∨ (s.k = 3 ∧ s.n = 0 ∧ wordB s.t.data.toList = true) := by
  unfold validB at h
  split at h
  · simp only [Bool.and_eq_true, decide_eq_true_eq] at h
    exact .inl ⟨‹_›, h.1.1, h.2.1, h.2.2⟩
  · split at h
    · simp only [Bool.and_eq_true, decide_eq_true_eq] at h
      exact .inr (.inl ⟨‹_›, h.2.1, h.2.2⟩)
    · split at h
      · simp only [Bool.and_eq_true, decide_eq_true_eq] at h
        exact .inr (.inr ⟨‹_›, h.1, h.2⟩)
      · cases h
theorem word_size {l : Bs} (h : wordB l = true) : 1 ≤ l.length ∧ l.length ≤ 32 := by
  unfold wordB at h
  simp only [Bool.and_eq_true, decide_eq_true_eq] at h
  exact ⟨h.1.1.1, h.1.1.2⟩
theorem numS_size (n : Int) (h1 : -4294967296 ≤ n) (h2 : n ≤ 4294967296) : (numS n).size ≤ 12 := by
  unfold numS
  split
  · have := digS_size (-n).toNat (by omega)
    rw [cat2_size]
    show 1 + _ ≤ 12
    omega
  · have := digS_size n.toNat (by omega)
    omega
theorem symS_size (s : Sm) : (symS s).size ≤ 32 := by
  unfold symS
  split
  · rename_i h
    rcases valid_cases h with ⟨h1, h2, h3, h4⟩ | ⟨h1, h3, h4⟩ | ⟨h1, h2, h3⟩
    · rw [if_pos h1, cat2_size, h2]
      have := digS_size s.n.toNat (by omega)
      omega
    · rw [if_neg (by omega), if_neg (by omega)]
      have := numS_size s.n (by omega) (by omega)
      omega
    · rw [if_neg (by omega), if_pos h1]
      have := (word_size h3).2
      rw [size_toList] at this
      exact this
  · exact Nat.zero_le _

/-- The cells of a symbol in a box. -/
theorem box3 {W : World} {a b c : Value} {t : TypeId} : (W.alloc (.cells #[a, b, c] t)).cell? ⟨W.heap.size, 0, none⟩ = some a ∧ (W.alloc (.cells #[a, b, c] t)).cell? ⟨W.heap.size, 1, none⟩ = some b ∧ (W.alloc (.cells #[a, b, c] t)).cell? ⟨W.heap.size, 2, none⟩ = some c := by
  have h := heap_alloc_new W (.cells #[a, b, c] t)
  refine ⟨?_, ?_, ?_⟩ <;> rw [cell_of_row _ _ _ _ _ _ h] <;> rfl

set_option maxRecDepth 100000 in
set_option maxHeartbeats 4000000 in
theorem symText_any (s : Sm) (hs : s.t.size ≤ 9223372036854775807) (w : World) :
    Calls Try.prog 78 #[s.val] w fun e w' => e = .returned (.string (symS s)) ∧ Below w.heap.size w w' := by
  have hv := fun w => valid_any s hs w
  have hmix : Try.prog.follows .mixedOrders = true := by kernel_rfl
  rcases hV : validB s with _ | _
  · have HX : Hid (symS s = ⟨#[]⟩) := Lib.hid (by unfold symS; rw [if_neg (by simp [hV])])
    rw [hV] at hv
    rw [HX.out]
    clear HX hV
    obtain ⟨k, t, n⟩ := s
    unfold Sm.val at hv ⊢
    have HV := Lib.hid hv
    clear hv
    go_enter Try.func78, Try.ntmps78
    go_wp2_with (go_at_call 112; refine (HV.out _).mono ?_; rintro e w2 ⟨rfl, b2⟩)
    go_ret
    exact ⟨rfl, ((Below.refl _ w).alloc (Nat.le_refl _) _).trans (b2.mono (by simp))⟩
  · have HX : Hid (symS s = if s.k = 1 then s.t ++ digS s.n.toNat else if s.k = 3 then s.t else numS s.n) := Lib.hid (by unfold symS; rw [if_pos hV])
    have hcs := valid_cases hV
    rw [hV] at hv
    rw [HX.out]
    clear HX hV
    obtain ⟨k, t, n⟩ := s
    unfold Sm.val at hv ⊢
    simp only at hcs hs ⊢
    have HV := Lib.hid hv
    clear hv
    obtain ⟨c0, c1, c2⟩ := @box3 w (.int .i64 k) (.string t) (.int .i64 n) 63
    have hbx : Below w.heap.size w (w.alloc (.cells #[.int .i64 k, .string t, .int .i64 n] 63)) := (Below.refl _ w).alloc (Nat.le_refl _) _
    have hsz : w.heap.size < (w.alloc (.cells #[.int .i64 k, .string t, .int .i64 n] 63)).heap.size := by simp
    have HB := Lib.hid hbx
    rcases hcs with ⟨rfl, h2, h3, h4⟩ | ⟨rfl, h3, h4⟩ | ⟨rfl, rfl, h3⟩
    · rw [if_pos rfl]
      have hts : t.size ≤ 1 := by omega
      clear h2
      have hd := fun w => digits_any (n.toNat + 1) n.toNat (by omega) (by omega) w
      have e : ((n.toNat : Nat) : Int) = n := by omega
      rw [e] at hd
      have hz := digS_size n.toNat (by omega)
      have HD := Lib.hid hd
      clear hd e hbx
      go_enter Try.func78, Try.ntmps78
      go_wp2_with (go_at_call 112; refine (HV.out _).mono ?_; rintro e w2 ⟨rfl, b2⟩; have d0 := (b2.cell (p := ⟨w.heap.size, 0, none⟩) hsz).trans c0; have d1 := (b2.cell (p := ⟨w.heap.size, 1, none⟩) hsz).trans c1; have d2 := (b2.cell (p := ⟨w.heap.size, 2, none⟩) hsz).trans c2; have hsz2 : w.heap.size < w2.heap.size := Nat.lt_of_lt_of_le hsz b2.size)
      go_region_with (go_at_call 113; refine (HD.out _).mono ?_; rintro e w3 ⟨rfl, b3⟩; have f1 : w3.cell? ⟨w.heap.size, 1, none⟩ = some (.string t) := (b3.cell (p := ⟨w.heap.size, 1, none⟩) hsz2).trans d1)
      all_goals
        go_wp2
        go_ret
        exact ⟨rfl, HB.out.trans ((b2.mono (Nat.le_of_lt hsz)).trans ((show Below w2.heap.size w2 w3 from ⟨b3.os, b3.tape, b3.output, b3.size, b3.block⟩).mono (Nat.le_of_lt hsz2)))⟩
    · rw [if_neg (by decide), if_neg (by decide)]
      clear hbx
      by_cases hn : n < 0
      · have hd := fun w => digits_any ((-n).toNat + 1) (-n).toNat (by omega) (by omega) w
        have e : (((-n).toNat : Nat) : Int) = -n := by omega
        rw [e] at hd
        have hz := digS_size (-n).toNat (by omega)
        have HN : Hid (numS n = (⟨#[45]⟩ : ByteArray) ++ digS (-n).toNat) := Lib.hid (by unfold numS; rw [if_pos hn])
        rw [HN.out]
        have HD := Lib.hid hd
        clear hd e
        go_enter Try.func78, Try.ntmps78
        go_wp2_with (first | (go_at_call 112; refine (HV.out _).mono ?_; rintro e w2 ⟨rfl, b2⟩; have d0 := (b2.cell (p := ⟨w.heap.size, 0, none⟩) hsz).trans c0; have d1 := (b2.cell (p := ⟨w.heap.size, 1, none⟩) hsz).trans c1; have d2 := (b2.cell (p := ⟨w.heap.size, 2, none⟩) hsz).trans c2; have hsz2 : w.heap.size < w2.heap.size := Nat.lt_of_lt_of_le hsz b2.size) | (go_at_call 113; refine (HD.out _).mono ?_; rintro e w3 ⟨rfl, b3⟩))
        go_ret
        exact ⟨rfl, HB.out.trans ((b2.mono (Nat.le_of_lt hsz)).trans (b3.mono (Nat.le_of_lt hsz2)))⟩
      · have hd := fun w => digits_any (n.toNat + 1) n.toNat (by omega) (by omega) w
        have e : ((n.toNat : Nat) : Int) = n := by omega
        rw [e] at hd
        have HN : Hid (numS n = digS n.toNat) := Lib.hid (by unfold numS; rw [if_neg hn])
        rw [HN.out]
        have HD := Lib.hid hd
        clear hd e
        go_enter Try.func78, Try.ntmps78
        go_wp2_with (first | (go_at_call 112; refine (HV.out _).mono ?_; rintro e w2 ⟨rfl, b2⟩; have d0 := (b2.cell (p := ⟨w.heap.size, 0, none⟩) hsz).trans c0; have d1 := (b2.cell (p := ⟨w.heap.size, 1, none⟩) hsz).trans c1; have d2 := (b2.cell (p := ⟨w.heap.size, 2, none⟩) hsz).trans c2; have hsz2 : w.heap.size < w2.heap.size := Nat.lt_of_lt_of_le hsz b2.size) | (go_at_call 113; refine (HD.out _).mono ?_; rintro e w3 ⟨rfl, b3⟩))
        go_ret
        exact ⟨rfl, HB.out.trans ((b2.mono (Nat.le_of_lt hsz)).trans (b3.mono (Nat.le_of_lt hsz2)))⟩
    · rw [if_neg (by decide), if_pos rfl]
      clear hbx h3
      go_enter Try.func78, Try.ntmps78
      go_wp2_with (go_at_call 112; refine (HV.out _).mono ?_; rintro e w2 ⟨rfl, b2⟩; have d0 := (b2.cell (p := ⟨w.heap.size, 0, none⟩) hsz).trans c0; have d1 := (b2.cell (p := ⟨w.heap.size, 1, none⟩) hsz).trans c1; have d2 := (b2.cell (p := ⟨w.heap.size, 2, none⟩) hsz).trans c2; have hsz2 : w.heap.size < w2.heap.size := Nat.lt_of_lt_of_le hsz b2.size)
      go_ret
      exact ⟨rfl, HB.out.trans (b2.mono (Nat.le_of_lt hsz))⟩
set_option maxRecDepth 100000 in
set_option maxHeartbeats 4000000 in
theorem refText_any (s : Sm) (hs : s.t.size ≤ 9223372036854775807) (w : World) :
    Calls Try.prog 79 #[s.val] w fun e w' => e = .returned (.string (symS s)) ∧ Below w.heap.size w w' := by
  have hv := fun w => rvalid_any s hs w
  have hmix : Try.prog.follows .mixedOrders = true := by kernel_rfl
  rcases hV : validB s with _ | _
  · have HX : Hid (symS s = ⟨#[]⟩) := Lib.hid (by unfold symS; rw [if_neg (by simp [hV])])
    rw [hV] at hv
    rw [HX.out]
    clear HX hV
    obtain ⟨k, t, n⟩ := s
    unfold Sm.val at hv ⊢
    have HV := Lib.hid hv
    clear hv
    go_enter Try.func79, Try.ntmps79
    go_wp2_with (go_at_call 114; refine (HV.out _).mono ?_; rintro e w2 ⟨rfl, b2⟩)
    go_ret
    exact ⟨rfl, ((Below.refl _ w).alloc (Nat.le_refl _) _).trans (b2.mono (by simp))⟩
  · have HX : Hid (symS s = if s.k = 1 then s.t ++ digS s.n.toNat else if s.k = 3 then s.t else numS s.n) := Lib.hid (by unfold symS; rw [if_pos hV])
    have hcs := valid_cases hV
    rw [hV] at hv
    rw [HX.out]
    clear HX hV
    obtain ⟨k, t, n⟩ := s
    unfold Sm.val at hv ⊢
    simp only at hcs hs ⊢
    have HV := Lib.hid hv
    clear hv
    obtain ⟨c0, c1, c2⟩ := @box3 w (.int .i64 k) (.string t) (.int .i64 n) 63
    have hbx : Below w.heap.size w (w.alloc (.cells #[.int .i64 k, .string t, .int .i64 n] 63)) := (Below.refl _ w).alloc (Nat.le_refl _) _
    have hsz : w.heap.size < (w.alloc (.cells #[.int .i64 k, .string t, .int .i64 n] 63)).heap.size := by simp
    have HB := Lib.hid hbx
    rcases hcs with ⟨rfl, h2, h3, h4⟩ | ⟨rfl, h3, h4⟩ | ⟨rfl, rfl, h3⟩
    · rw [if_pos rfl]
      have hts : t.size ≤ 1 := by omega
      clear h2
      have hd := fun w => number_text n (by omega) (by omega) w
      rw [show numS n = digS n.toNat by unfold numS; rw [if_neg (by omega)]] at hd
      have hz := digS_size n.toNat (by omega)
      have HD := Lib.hid hd
      clear hd hbx
      go_enter Try.func79, Try.ntmps79
      go_wp2_with (go_at_call 114; refine (HV.out _).mono ?_; rintro e w2 ⟨rfl, b2⟩; have d0 := (b2.cell (p := ⟨w.heap.size, 0, none⟩) hsz).trans c0; have d1 := (b2.cell (p := ⟨w.heap.size, 1, none⟩) hsz).trans c1; have d2 := (b2.cell (p := ⟨w.heap.size, 2, none⟩) hsz).trans c2; have hsz2 : w.heap.size < w2.heap.size := Nat.lt_of_lt_of_le hsz b2.size)
      go_region_with (go_at_call 115; refine (HD.out _).mono ?_; rintro e w3 ⟨rfl, b3⟩; have f1 : w3.cell? ⟨w.heap.size, 1, none⟩ = some (.string t) := (b3.cell (p := ⟨w.heap.size, 1, none⟩) hsz2).trans d1)
      all_goals
        go_wp2
        go_ret
        exact ⟨rfl, HB.out.trans ((b2.mono (Nat.le_of_lt hsz)).trans ((show Below w2.heap.size w2 w3 from ⟨b3.os, b3.tape, b3.output, b3.size, b3.block⟩).mono (Nat.le_of_lt hsz2)))⟩
    · rw [if_neg (by decide), if_neg (by decide)]
      clear hbx
      have hd := fun w => number_text n (by omega) (by omega) w
      have HD := Lib.hid hd
      clear hd
      go_enter Try.func79, Try.ntmps79
      go_wp2_with (first | (go_at_call 114; refine (HV.out _).mono ?_; rintro e w2 ⟨rfl, b2⟩; have d0 := (b2.cell (p := ⟨w.heap.size, 0, none⟩) hsz).trans c0; have d1 := (b2.cell (p := ⟨w.heap.size, 1, none⟩) hsz).trans c1; have d2 := (b2.cell (p := ⟨w.heap.size, 2, none⟩) hsz).trans c2; have hsz2 : w.heap.size < w2.heap.size := Nat.lt_of_lt_of_le hsz b2.size) | (go_at_call 115; refine (HD.out _).mono ?_; rintro e w3 ⟨rfl, b3⟩))
      go_ret
      exact ⟨rfl, HB.out.trans ((b2.mono (Nat.le_of_lt hsz)).trans (b3.mono (Nat.le_of_lt hsz2)))⟩
    · rw [if_neg (by decide), if_pos rfl]
      clear hbx h3
      go_enter Try.func79, Try.ntmps79
      go_wp2_with (go_at_call 114; refine (HV.out _).mono ?_; rintro e w2 ⟨rfl, b2⟩; have d0 := (b2.cell (p := ⟨w.heap.size, 0, none⟩) hsz).trans c0; have d1 := (b2.cell (p := ⟨w.heap.size, 1, none⟩) hsz).trans c1; have d2 := (b2.cell (p := ⟨w.heap.size, 2, none⟩) hsz).trans c2; have hsz2 : w.heap.size < w2.heap.size := Nat.lt_of_lt_of_le hsz b2.size)
      go_ret
      exact ⟨rfl, HB.out.trans (b2.mono (Nat.le_of_lt hsz))⟩
end Go.Proofs.Ytgeaccoobhigcaa
namespace Go.Proofs.Ytgeaccoobhigcaa
open Go Go.RowKit

/-- An atom. -/
structure Am where
  v : ByteArray
  s : Sm
def Am.cells (a : Am) : List Value := .string a.v :: a.s.cells
def Am.val (a : Am) : Value := .agg #[.string a.v, .int .i64 a.s.k, .string a.s.t, .int .i64 a.s.n]
def atomS (a : Am) : ByteArray := if a.v.size = 0 then symS a.s else (⟨#[60]⟩ : ByteArray) ++ a.v ++ (⟨#[62]⟩ : ByteArray)
theorem atomS_size (a : Am) (h : a.v.size ≤ 1000000) : (atomS a).size ≤ 1000002 := by
  unfold atomS
  split
  · have := symS_size a.s; omega
  · rw [cat2_size, cat2_size]
    show 1 + _ + 1 ≤ _
    omega

set_option maxRecDepth 100000 in
set_option maxHeartbeats 1000000 in
theorem showAtom_any (a : Am) (hv : a.v.size ≤ 1000000) (hs : a.s.t.size ≤ 9223372036854775807) (w : World) :
    Calls Try.prog 73 #[.string a.v, a.s.val] w fun e w' => e = .returned (.string (atomS a)) ∧ Below w.heap.size w w' := by
  have hT := fun w => symText_any a.s hs w
  obtain ⟨v, k, t, n⟩ := a
  simp only at hv hs hT ⊢
  unfold atomS
  simp only
  generalize symS ⟨k, t, n⟩ = T at hT ⊢
  unfold Sm.val at hT ⊢
  simp only at hT ⊢
  have HT := Lib.hid hT
  clear hT
  by_cases h0 : v.size = 0
  · rw [if_pos h0]
    have e0 := str_nil h0
    clear h0
    go_enter Try.func73, Try.ntmps73
    go_wp2_with (go_at_call 78; refine (HT.out _).mono ?_; rintro e w2 ⟨rfl, b2⟩)
    go_ret
    exact ⟨rfl, ((Below.refl _ w).alloc (Nat.le_refl _) _).trans (b2.mono (by simp))⟩
  · rw [if_neg h0]
    have e0 := str_cons h0
    clear h0
    go_enter Try.func73, Try.ntmps73
    go_wp2
    go_ret
    exact ⟨rfl, (Below.refl _ _).alloc (Nat.le_refl _) _⟩

set_option maxRecDepth 100000 in
set_option maxHeartbeats 1000000 in
theorem refAtom_any (a : Am) (hv : a.v.size ≤ 1000000) (hs : a.s.t.size ≤ 9223372036854775807) (w : World) :
    Calls Try.prog 76 #[a.val] w fun e w' => e = .returned (.string (atomS a)) ∧ Below w.heap.size w w' := by
  have hT := fun w => refText_any a.s hs w
  obtain ⟨v, k, t, n⟩ := a
  simp only at hv hs hT ⊢
  unfold atomS Am.val
  simp only
  generalize symS ⟨k, t, n⟩ = T at hT ⊢
  unfold Sm.val at hT
  simp only at hT ⊢
  have HT := Lib.hid hT
  clear hT
  by_cases h0 : v.size = 0
  · rw [if_pos h0]
    have e0 := str_nil h0
    clear h0
    go_enter Try.func76, Try.ntmps76
    go_wp2_with (go_at_call 79; refine (HT.out _).mono ?_; rintro e w2 ⟨rfl, b2⟩)
    go_ret
    exact ⟨rfl, ((Below.refl _ w).alloc (Nat.le_refl _) _).trans (b2.mono (by simp))⟩
  · rw [if_neg h0]
    have e0 := str_cons h0
    clear h0
    go_enter Try.func76, Try.ntmps76
    go_wp2
    go_ret
    exact ⟨rfl, (Below.refl _ _).alloc (Nat.le_refl _) _⟩

/-- The sign of a test's kind. -/
def relL (k : Int) : Array UInt8 :=
  if k = 2 then #[60, 62] else if k = 3 then #[60] else if k = 4 then #[60, 61] else if k = 5 then #[62] else if k = 6 then #[62, 61] else if k = 7 then #[60, 61, 62] else #[]
set_option maxHeartbeats 1000000 in
theorem rel_any (k : Int) (w : World) : Calls Try.prog 138 #[.int .i64 k] w fun e w' => e = .returned (.string ⟨relL k⟩) ∧ w' = w := by
  rcases (show k = 2 ∨ k = 3 ∨ k = 4 ∨ k = 5 ∨ k = 6 ∨ k = 7 ∨ (k ≠ 2 ∧ k ≠ 3 ∧ k ≠ 4 ∧ k ≠ 5 ∧ k ≠ 6 ∧ k ≠ 7) by omega) with rfl | rfl | rfl | rfl | rfl | rfl | ⟨h2, h3, h4, h5, h6, h7⟩
  all_goals first
    | (have e2 : (k == 2) = false := by simp [h2]
       have e3 : (k == 3) = false := by simp [h3]
       have e4 : (k == 4) = false := by simp [h4]
       have e5 : (k == 5) = false := by simp [h5]
       have e6 : (k == 6) = false := by simp [h6]
       have e7 : (k == 7) = false := by simp [h7]
       have hr : relL k = #[] := by unfold relL; rw [if_neg h2, if_neg h3, if_neg h4, if_neg h5, if_neg h6, if_neg h7]
       rw [hr]
       clear hr h2 h3 h4 h5 h6 h7
       go_enter Try.func138, Try.ntmps138
       go_wp2
       go_ret
       exact ⟨rfl, rfl⟩)
    | (go_enter Try.func138, Try.ntmps138
       go_wp2
       go_ret
       exact ⟨rfl, rfl⟩)

/-- The sign of a kind of preferences. -/
def signL (k : Int) : Array UInt8 :=
  if k = 1 then #[43] else if k = 2 then #[45] else if k = 3 then #[33] else if k = 4 then #[126] else if k = 5 then #[62] else if k = 8 then #[62] else if k = 6 then #[60] else if k = 9 then #[60] else #[61]
end Go.Proofs.Ytgeaccoobhigcaa
namespace Go.Proofs.Ytgeaccoobhigcaa
open Go Go.RowKit

/-- A block that holds these cells. -/
def BoxC (W : World) (b : Nat) (t : TypeId) (cs : List Value) : Prop := W.heap[b]? = some (.cells cs.toArray t (0, 0))
theorem BoxC.new (W : World) (cs : List Value) (t : TypeId) : BoxC (W.alloc (.cells cs.toArray t)) W.heap.size t cs := heap_alloc_new W _
theorem BoxC.lt {W : World} {b : Nat} {t : TypeId} {cs : List Value} (h : BoxC W b t cs) : b < W.heap.size := lt_of_block h
theorem BoxC.below {A B : World} {b : Nat} {t : TypeId} {cs : List Value} (h : BoxC A b t cs) (hb : Below A.heap.size A B) : BoxC B b t cs := (hb.block b h.lt).trans h
theorem BoxC.at_ {W : World} {b : Nat} {t : TypeId} {cs : List Value} (h : BoxC W b t cs) {j : Nat} {u : Value} (hj : cs[j]? = some u) : W.cell? ⟨b, j, none⟩ = some u := by
  rw [cell_of_row _ _ _ _ _ _ h]; simpa using hj

theorem BoxC.nine {W : World} {b : Nat} {t : TypeId} {a0 a1 a2 a3 a4 a5 a6 a7 a8 : Value} (h : BoxC W b t [a0, a1, a2, a3, a4, a5, a6, a7, a8]) : W.cell? ⟨b, 0, none⟩ = some a0 ∧ W.cell? ⟨b, 1, none⟩ = some a1 ∧ W.cell? ⟨b, 2, none⟩ = some a2 ∧ W.cell? ⟨b, 3, none⟩ = some a3 ∧ W.cell? ⟨b, 4, none⟩ = some a4 ∧ W.cell? ⟨b, 5, none⟩ = some a5 ∧ W.cell? ⟨b, 6, none⟩ = some a6 ∧ W.cell? ⟨b, 7, none⟩ = some a7 ∧ W.cell? ⟨b, 8, none⟩ = some a8 :=
  ⟨h.at_ rfl, h.at_ rfl, h.at_ rfl, h.at_ rfl, h.at_ rfl, h.at_ rfl, h.at_ rfl, h.at_ rfl, h.at_ rfl⟩

theorem undrew {a b : World} (h : Below a.drew.heap.size a.drew b) : Below a.heap.size a b := ⟨h.os, h.tape, h.output, h.size, h.block⟩
/-- A term. -/
structure Tm where
  op : Int
  a : Am
  b : Am
def Tm.cells (t : Tm) : List Value := .int .i64 t.op :: (t.a.cells ++ t.b.cells)
def Tm.val (t : Tm) : Value := .agg #[.int .i64 t.op, .string t.a.v, .int .i64 t.a.s.k, .string t.a.s.t, .int .i64 t.a.s.n, .string t.b.v, .int .i64 t.b.s.k, .string t.b.s.t, .int .i64 t.b.s.n]
def binS (c : Array UInt8) (a b : ByteArray) : ByteArray := (⟨#[40]⟩ : ByteArray) ++ ⟨c⟩ ++ ⟨#[32]⟩ ++ a ++ ⟨#[32]⟩ ++ b ++ ⟨#[41]⟩
/-- show's text of a term. -/
def termS (t : Tm) : ByteArray := if t.op = 1 then binS #[43] (atomS t.a) (atomS t.b) else if t.op = 2 then binS #[45] (atomS t.a) (atomS t.b) else if t.op = 3 then binS #[42] (atomS t.a) (atomS t.b) else atomS t.a
/-- The document's text of a term. -/
def rtermS (t : Tm) : ByteArray := if t.op = 0 then atomS t.a else if t.op = 1 then binS #[43] (atomS t.a) (atomS t.b) else if t.op = 2 then binS #[45] (atomS t.a) (atomS t.b) else binS #[42] (atomS t.a) (atomS t.b)
theorem termS_eq {t : Tm} (h0 : 0 ≤ t.op) (h3 : t.op ≤ 3) : rtermS t = termS t := by
  unfold rtermS termS
  rcases (show t.op = 0 ∨ t.op = 1 ∨ t.op = 2 ∨ t.op = 3 by omega) with h | h | h | h <;> rw [h] <;> rfl
structure Am.Small (a : Am) : Prop where
  v : a.v.size ≤ 1000000
  s : a.s.t.size ≤ 9223372036854775807

set_option maxRecDepth 100000 in
set_option maxHeartbeats 4000000 in
theorem showTerm_any (t : Tm) (ha : t.a.Small) (hb : t.b.Small) (w : World) :
    Calls Try.prog 74 #[t.val] w fun e w' => e = .returned (.string (termS t)) ∧ Below w.heap.size w w' := by
  have hA := fun w => showAtom_any t.a ha.v ha.s w
  have hB := fun w => showAtom_any t.b hb.v hb.s w
  have za := atomS_size t.a ha.v
  have zb := atomS_size t.b hb.v
  have hmix : Try.prog.follows .mixedOrders = true := by kernel_rfl
  obtain ⟨op, ⟨av, ak, at_, an⟩, ⟨bv, bk, bt, bn⟩⟩ := t
  unfold termS Tm.val
  simp only at hA hB za zb ⊢
  clear ha hb
  generalize atomS ⟨av, ak, at_, an⟩ = A at hA za ⊢
  generalize atomS ⟨bv, bk, bt, bn⟩ = B at hB zb ⊢
  unfold Sm.val at hA hB
  simp only at hA hB
  have HA := Lib.hid hA
  have HB := Lib.hid hB
  clear hA hB
  have hbx := BoxC.new w [.int .i64 op, .string av, .int .i64 ak, .string at_, .int .i64 an, .string bv, .int .i64 bk, .string bt, .int .i64 bn] 67
  have hbw : Below w.heap.size w (w.alloc (.cells #[.int .i64 op, .string av, .int .i64 ak, .string at_, .int .i64 an, .string bv, .int .i64 bk, .string bt, .int .i64 bn] 67)) := (Below.refl _ w).alloc (Nat.le_refl _) _
  have HBX : Hid (BoxC (w.alloc (.cells #[.int .i64 op, .string av, .int .i64 ak, .string at_, .int .i64 an, .string bv, .int .i64 bk, .string bt, .int .i64 bn] 67)) w.heap.size 67 [.int .i64 op, .string av, .int .i64 ak, .string at_, .int .i64 an, .string bv, .int .i64 bk, .string bt, .int .i64 bn]) := Lib.hid hbx
  have HBW := Lib.hid hbw
  clear hbx hbw
  rcases (show op = 1 ∨ op = 2 ∨ op = 3 ∨ (op ≠ 1 ∧ op ≠ 2 ∧ op ≠ 3) by omega) with rfl | rfl | rfl | ⟨h1, h2, h3⟩
  · rw [if_pos rfl]
    unfold binS
    have p1 := fun w => run_string_add_sum (P := Try.prog) w ((⟨#[40]⟩ : ByteArray) ++ ⟨#[43]⟩ ++ ⟨#[32]⟩) A (by simp only [cat2_size]; show 1 + 1 + 1 + A.size ≤ _; omega)
    have p2 := fun w => run_string_add_sum (P := Try.prog) w ((⟨#[40]⟩ : ByteArray) ++ ⟨#[43]⟩ ++ ⟨#[32]⟩ ++ A) ⟨#[32]⟩ (by simp only [cat2_size]; show 1 + 1 + 1 + A.size + 1 ≤ _; omega)
    have p3 := fun w => run_string_add_sum (P := Try.prog) w ((⟨#[40]⟩ : ByteArray) ++ ⟨#[43]⟩ ++ ⟨#[32]⟩ ++ A ++ ⟨#[32]⟩) B (by simp only [cat2_size]; show 1 + 1 + 1 + A.size + 1 + B.size ≤ _; omega)
    have p4 := fun w => run_string_add_sum (P := Try.prog) w ((⟨#[40]⟩ : ByteArray) ++ ⟨#[43]⟩ ++ ⟨#[32]⟩ ++ A ++ ⟨#[32]⟩ ++ B) ⟨#[41]⟩ (by simp only [cat2_size]; show 1 + 1 + 1 + A.size + 1 + B.size + 1 ≤ _; omega)
    go_enter Try.func74, Try.ntmps74
    go_wp2
    go_region_held3 (fun w' => w'.cell? ⟨w.heap.size, 1, none⟩ = some (.string av) ∧ w'.cell? ⟨w.heap.size, 2, none⟩ = some (.int .i64 ak) ∧ w'.cell? ⟨w.heap.size, 3, none⟩ = some (.string at_) ∧ w'.cell? ⟨w.heap.size, 4, none⟩ = some (.int .i64 an) ∧ w'.cell? ⟨w.heap.size, 5, none⟩ = some (.string bv) ∧ w'.cell? ⟨w.heap.size, 6, none⟩ = some (.int .i64 bk) ∧ w'.cell? ⟨w.heap.size, 7, none⟩ = some (.string bt) ∧ w'.cell? ⟨w.heap.size, 8, none⟩ = some (.int .i64 bn)) (first | (have B1 := HBX.out; exact ⟨B1.at_ rfl, B1.at_ rfl, B1.at_ rfl, B1.at_ rfl, B1.at_ rfl, B1.at_ rfl, B1.at_ rfl, B1.at_ rfl⟩) | (have B2 := HBX.out.below (undrew b2); exact ⟨B2.at_ rfl, B2.at_ rfl, B2.at_ rfl, B2.at_ rfl, B2.at_ rfl, B2.at_ rfl, B2.at_ rfl, B2.at_ rfl⟩) | (have B3 := (HBX.out.below (undrew b2)).below b3; exact ⟨B3.at_ rfl, B3.at_ rfl, B3.at_ rfl, B3.at_ rfl, B3.at_ rfl, B3.at_ rfl, B3.at_ rfl, B3.at_ rfl⟩)) (first | (go_at_call 73; (with_reducible refine (HA.out _).mono ?_); rintro e w2 ⟨rfl, b2⟩) | (go_at_call 73; (with_reducible refine (HB.out _).mono ?_); rintro e w3 ⟨rfl, b3⟩))
    all_goals
      go_wp2
      go_ret
      exact ⟨rfl, HBW.out.trans (((undrew b2).mono (by simp)).trans (b3.mono (Nat.le_trans (by simp) b2.size)))⟩
  · rw [if_neg (by decide), if_pos rfl]
    unfold binS
    have p1 := fun w => run_string_add_sum (P := Try.prog) w ((⟨#[40]⟩ : ByteArray) ++ ⟨#[45]⟩ ++ ⟨#[32]⟩) A (by simp only [cat2_size]; show 1 + 1 + 1 + A.size ≤ _; omega)
    have p2 := fun w => run_string_add_sum (P := Try.prog) w ((⟨#[40]⟩ : ByteArray) ++ ⟨#[45]⟩ ++ ⟨#[32]⟩ ++ A) ⟨#[32]⟩ (by simp only [cat2_size]; show 1 + 1 + 1 + A.size + 1 ≤ _; omega)
    have p3 := fun w => run_string_add_sum (P := Try.prog) w ((⟨#[40]⟩ : ByteArray) ++ ⟨#[45]⟩ ++ ⟨#[32]⟩ ++ A ++ ⟨#[32]⟩) B (by simp only [cat2_size]; show 1 + 1 + 1 + A.size + 1 + B.size ≤ _; omega)
    have p4 := fun w => run_string_add_sum (P := Try.prog) w ((⟨#[40]⟩ : ByteArray) ++ ⟨#[45]⟩ ++ ⟨#[32]⟩ ++ A ++ ⟨#[32]⟩ ++ B) ⟨#[41]⟩ (by simp only [cat2_size]; show 1 + 1 + 1 + A.size + 1 + B.size + 1 ≤ _; omega)
    go_enter Try.func74, Try.ntmps74
    go_wp2
    go_region_held3 (fun w' => w'.cell? ⟨w.heap.size, 1, none⟩ = some (.string av) ∧ w'.cell? ⟨w.heap.size, 2, none⟩ = some (.int .i64 ak) ∧ w'.cell? ⟨w.heap.size, 3, none⟩ = some (.string at_) ∧ w'.cell? ⟨w.heap.size, 4, none⟩ = some (.int .i64 an) ∧ w'.cell? ⟨w.heap.size, 5, none⟩ = some (.string bv) ∧ w'.cell? ⟨w.heap.size, 6, none⟩ = some (.int .i64 bk) ∧ w'.cell? ⟨w.heap.size, 7, none⟩ = some (.string bt) ∧ w'.cell? ⟨w.heap.size, 8, none⟩ = some (.int .i64 bn)) (first | (have B1 := HBX.out; exact ⟨B1.at_ rfl, B1.at_ rfl, B1.at_ rfl, B1.at_ rfl, B1.at_ rfl, B1.at_ rfl, B1.at_ rfl, B1.at_ rfl⟩) | (have B2 := HBX.out.below (undrew b2); exact ⟨B2.at_ rfl, B2.at_ rfl, B2.at_ rfl, B2.at_ rfl, B2.at_ rfl, B2.at_ rfl, B2.at_ rfl, B2.at_ rfl⟩) | (have B3 := (HBX.out.below (undrew b2)).below b3; exact ⟨B3.at_ rfl, B3.at_ rfl, B3.at_ rfl, B3.at_ rfl, B3.at_ rfl, B3.at_ rfl, B3.at_ rfl, B3.at_ rfl⟩)) (first | (go_at_call 73; (with_reducible refine (HA.out _).mono ?_); rintro e w2 ⟨rfl, b2⟩) | (go_at_call 73; (with_reducible refine (HB.out _).mono ?_); rintro e w3 ⟨rfl, b3⟩))
    all_goals
      go_wp2
      go_ret
      exact ⟨rfl, HBW.out.trans (((undrew b2).mono (by simp)).trans (b3.mono (Nat.le_trans (by simp) b2.size)))⟩
  · rw [if_neg (by decide), if_neg (by decide), if_pos rfl]
    unfold binS
    have p1 := fun w => run_string_add_sum (P := Try.prog) w ((⟨#[40]⟩ : ByteArray) ++ ⟨#[42]⟩ ++ ⟨#[32]⟩) A (by simp only [cat2_size]; show 1 + 1 + 1 + A.size ≤ _; omega)
    have p2 := fun w => run_string_add_sum (P := Try.prog) w ((⟨#[40]⟩ : ByteArray) ++ ⟨#[42]⟩ ++ ⟨#[32]⟩ ++ A) ⟨#[32]⟩ (by simp only [cat2_size]; show 1 + 1 + 1 + A.size + 1 ≤ _; omega)
    have p3 := fun w => run_string_add_sum (P := Try.prog) w ((⟨#[40]⟩ : ByteArray) ++ ⟨#[42]⟩ ++ ⟨#[32]⟩ ++ A ++ ⟨#[32]⟩) B (by simp only [cat2_size]; show 1 + 1 + 1 + A.size + 1 + B.size ≤ _; omega)
    have p4 := fun w => run_string_add_sum (P := Try.prog) w ((⟨#[40]⟩ : ByteArray) ++ ⟨#[42]⟩ ++ ⟨#[32]⟩ ++ A ++ ⟨#[32]⟩ ++ B) ⟨#[41]⟩ (by simp only [cat2_size]; show 1 + 1 + 1 + A.size + 1 + B.size + 1 ≤ _; omega)
    go_enter Try.func74, Try.ntmps74
    go_wp2
    go_region_held3 (fun w' => w'.cell? ⟨w.heap.size, 1, none⟩ = some (.string av) ∧ w'.cell? ⟨w.heap.size, 2, none⟩ = some (.int .i64 ak) ∧ w'.cell? ⟨w.heap.size, 3, none⟩ = some (.string at_) ∧ w'.cell? ⟨w.heap.size, 4, none⟩ = some (.int .i64 an) ∧ w'.cell? ⟨w.heap.size, 5, none⟩ = some (.string bv) ∧ w'.cell? ⟨w.heap.size, 6, none⟩ = some (.int .i64 bk) ∧ w'.cell? ⟨w.heap.size, 7, none⟩ = some (.string bt) ∧ w'.cell? ⟨w.heap.size, 8, none⟩ = some (.int .i64 bn)) (first | (have B1 := HBX.out; exact ⟨B1.at_ rfl, B1.at_ rfl, B1.at_ rfl, B1.at_ rfl, B1.at_ rfl, B1.at_ rfl, B1.at_ rfl, B1.at_ rfl⟩) | (have B2 := HBX.out.below (undrew b2); exact ⟨B2.at_ rfl, B2.at_ rfl, B2.at_ rfl, B2.at_ rfl, B2.at_ rfl, B2.at_ rfl, B2.at_ rfl, B2.at_ rfl⟩) | (have B3 := (HBX.out.below (undrew b2)).below b3; exact ⟨B3.at_ rfl, B3.at_ rfl, B3.at_ rfl, B3.at_ rfl, B3.at_ rfl, B3.at_ rfl, B3.at_ rfl, B3.at_ rfl⟩)) (first | (go_at_call 73; (with_reducible refine (HA.out _).mono ?_); rintro e w2 ⟨rfl, b2⟩) | (go_at_call 73; (with_reducible refine (HB.out _).mono ?_); rintro e w3 ⟨rfl, b3⟩))
    all_goals
      go_wp2
      go_ret
      exact ⟨rfl, HBW.out.trans (((undrew b2).mono (by simp)).trans (b3.mono (Nat.le_trans (by simp) b2.size)))⟩
  · rw [if_neg h1, if_neg h2, if_neg h3]
    have e1 : (op == 1) = false := by simp [h1]
    have e2 : (op == 2) = false := by simp [h2]
    have e3 : (op == 3) = false := by simp [h3]
    clear h1 h2 h3
    go_enter Try.func74, Try.ntmps74
    go_wp2_with (go_at_call 73; refine (HA.out _).mono ?_; rintro e w2 ⟨rfl, b2⟩)
    go_ret
    exact ⟨rfl, HBW.out.trans (b2.mono (by simp))⟩

set_option maxRecDepth 100000 in
set_option maxHeartbeats 4000000 in
theorem refTerm_any (t : Tm) (ha : t.a.Small) (hb : t.b.Small) (w : World) :
    Calls Try.prog 77 #[t.val] w fun e w' => e = .returned (.string (rtermS t)) ∧ Below w.heap.size w w' := by
  have hA := fun w => refAtom_any t.a ha.v ha.s w
  have hB := fun w => refAtom_any t.b hb.v hb.s w
  have za := atomS_size t.a ha.v
  have zb := atomS_size t.b hb.v
  have hmix : Try.prog.follows .mixedOrders = true := by kernel_rfl
  obtain ⟨op, ⟨av, ak, at_, an⟩, ⟨bv, bk, bt, bn⟩⟩ := t
  unfold rtermS Tm.val
  simp only at hA hB za zb ⊢
  clear ha hb
  generalize atomS ⟨av, ak, at_, an⟩ = A at hA za ⊢
  generalize atomS ⟨bv, bk, bt, bn⟩ = B at hB zb ⊢
  unfold Am.val at hA hB
  simp only at hA hB
  have HA := Lib.hid hA
  have HB := Lib.hid hB
  clear hA hB
  have hbx := BoxC.new w [.int .i64 op, .string av, .int .i64 ak, .string at_, .int .i64 an, .string bv, .int .i64 bk, .string bt, .int .i64 bn] 67
  have hbw : Below w.heap.size w (w.alloc (.cells #[.int .i64 op, .string av, .int .i64 ak, .string at_, .int .i64 an, .string bv, .int .i64 bk, .string bt, .int .i64 bn] 67)) := (Below.refl _ w).alloc (Nat.le_refl _) _
  have HBX : Hid (BoxC (w.alloc (.cells #[.int .i64 op, .string av, .int .i64 ak, .string at_, .int .i64 an, .string bv, .int .i64 bk, .string bt, .int .i64 bn] 67)) w.heap.size 67 [.int .i64 op, .string av, .int .i64 ak, .string at_, .int .i64 an, .string bv, .int .i64 bk, .string bt, .int .i64 bn]) := Lib.hid hbx
  have HBW := Lib.hid hbw
  clear hbx hbw
  rcases (show op = 0 ∨ op = 1 ∨ op = 2 ∨ (op ≠ 0 ∧ op ≠ 1 ∧ op ≠ 2) by omega) with rfl | rfl | rfl | ⟨h1, h2, h3⟩
  · rw [if_pos rfl]
    go_enter Try.func77, Try.ntmps77
    go_wp2_with (go_at_call 76; refine (HA.out _).mono ?_; rintro e w2 ⟨rfl, b2⟩)
    go_ret
    exact ⟨rfl, HBW.out.trans (b2.mono (by simp))⟩
  · rw [if_neg (by decide), if_pos rfl]
    unfold binS
    have p1 := fun w => run_string_add_sum (P := Try.prog) w ((⟨#[40]⟩ : ByteArray) ++ ⟨#[43]⟩ ++ ⟨#[32]⟩) A (by simp only [cat2_size]; show 1 + 1 + 1 + A.size ≤ _; omega)
    have p2 := fun w => run_string_add_sum (P := Try.prog) w ((⟨#[40]⟩ : ByteArray) ++ ⟨#[43]⟩ ++ ⟨#[32]⟩ ++ A) ⟨#[32]⟩ (by simp only [cat2_size]; show 1 + 1 + 1 + A.size + 1 ≤ _; omega)
    have p3 := fun w => run_string_add_sum (P := Try.prog) w ((⟨#[40]⟩ : ByteArray) ++ ⟨#[43]⟩ ++ ⟨#[32]⟩ ++ A ++ ⟨#[32]⟩) B (by simp only [cat2_size]; show 1 + 1 + 1 + A.size + 1 + B.size ≤ _; omega)
    have p4 := fun w => run_string_add_sum (P := Try.prog) w ((⟨#[40]⟩ : ByteArray) ++ ⟨#[43]⟩ ++ ⟨#[32]⟩ ++ A ++ ⟨#[32]⟩ ++ B) ⟨#[41]⟩ (by simp only [cat2_size]; show 1 + 1 + 1 + A.size + 1 + B.size + 1 ≤ _; omega)
    go_enter Try.func77, Try.ntmps77
    go_wp2
    go_region_held3 (fun w' => w'.cell? ⟨w.heap.size, 1, none⟩ = some (.string av) ∧ w'.cell? ⟨w.heap.size, 2, none⟩ = some (.int .i64 ak) ∧ w'.cell? ⟨w.heap.size, 3, none⟩ = some (.string at_) ∧ w'.cell? ⟨w.heap.size, 4, none⟩ = some (.int .i64 an) ∧ w'.cell? ⟨w.heap.size, 5, none⟩ = some (.string bv) ∧ w'.cell? ⟨w.heap.size, 6, none⟩ = some (.int .i64 bk) ∧ w'.cell? ⟨w.heap.size, 7, none⟩ = some (.string bt) ∧ w'.cell? ⟨w.heap.size, 8, none⟩ = some (.int .i64 bn)) (first | (have B1 := HBX.out; exact ⟨B1.at_ rfl, B1.at_ rfl, B1.at_ rfl, B1.at_ rfl, B1.at_ rfl, B1.at_ rfl, B1.at_ rfl, B1.at_ rfl⟩) | (have B2 := HBX.out.below (undrew b2); exact ⟨B2.at_ rfl, B2.at_ rfl, B2.at_ rfl, B2.at_ rfl, B2.at_ rfl, B2.at_ rfl, B2.at_ rfl, B2.at_ rfl⟩) | (have B3 := (HBX.out.below (undrew b2)).below b3; exact ⟨B3.at_ rfl, B3.at_ rfl, B3.at_ rfl, B3.at_ rfl, B3.at_ rfl, B3.at_ rfl, B3.at_ rfl, B3.at_ rfl⟩)) (first | (go_at_call 76; (with_reducible refine (HA.out _).mono ?_); rintro e w2 ⟨rfl, b2⟩) | (go_at_call 76; (with_reducible refine (HB.out _).mono ?_); rintro e w3 ⟨rfl, b3⟩))
    all_goals
      go_wp2
      go_ret
      exact ⟨rfl, HBW.out.trans (((undrew b2).mono (by simp)).trans (b3.mono (Nat.le_trans (by simp) b2.size)))⟩
  · rw [if_neg (by decide), if_neg (by decide), if_pos rfl]
    unfold binS
    have p1 := fun w => run_string_add_sum (P := Try.prog) w ((⟨#[40]⟩ : ByteArray) ++ ⟨#[45]⟩ ++ ⟨#[32]⟩) A (by simp only [cat2_size]; show 1 + 1 + 1 + A.size ≤ _; omega)
    have p2 := fun w => run_string_add_sum (P := Try.prog) w ((⟨#[40]⟩ : ByteArray) ++ ⟨#[45]⟩ ++ ⟨#[32]⟩ ++ A) ⟨#[32]⟩ (by simp only [cat2_size]; show 1 + 1 + 1 + A.size + 1 ≤ _; omega)
    have p3 := fun w => run_string_add_sum (P := Try.prog) w ((⟨#[40]⟩ : ByteArray) ++ ⟨#[45]⟩ ++ ⟨#[32]⟩ ++ A ++ ⟨#[32]⟩) B (by simp only [cat2_size]; show 1 + 1 + 1 + A.size + 1 + B.size ≤ _; omega)
    have p4 := fun w => run_string_add_sum (P := Try.prog) w ((⟨#[40]⟩ : ByteArray) ++ ⟨#[45]⟩ ++ ⟨#[32]⟩ ++ A ++ ⟨#[32]⟩ ++ B) ⟨#[41]⟩ (by simp only [cat2_size]; show 1 + 1 + 1 + A.size + 1 + B.size + 1 ≤ _; omega)
    go_enter Try.func77, Try.ntmps77
    go_wp2
    go_region_held3 (fun w' => w'.cell? ⟨w.heap.size, 1, none⟩ = some (.string av) ∧ w'.cell? ⟨w.heap.size, 2, none⟩ = some (.int .i64 ak) ∧ w'.cell? ⟨w.heap.size, 3, none⟩ = some (.string at_) ∧ w'.cell? ⟨w.heap.size, 4, none⟩ = some (.int .i64 an) ∧ w'.cell? ⟨w.heap.size, 5, none⟩ = some (.string bv) ∧ w'.cell? ⟨w.heap.size, 6, none⟩ = some (.int .i64 bk) ∧ w'.cell? ⟨w.heap.size, 7, none⟩ = some (.string bt) ∧ w'.cell? ⟨w.heap.size, 8, none⟩ = some (.int .i64 bn)) (first | (have B1 := HBX.out; exact ⟨B1.at_ rfl, B1.at_ rfl, B1.at_ rfl, B1.at_ rfl, B1.at_ rfl, B1.at_ rfl, B1.at_ rfl, B1.at_ rfl⟩) | (have B2 := HBX.out.below (undrew b2); exact ⟨B2.at_ rfl, B2.at_ rfl, B2.at_ rfl, B2.at_ rfl, B2.at_ rfl, B2.at_ rfl, B2.at_ rfl, B2.at_ rfl⟩) | (have B3 := (HBX.out.below (undrew b2)).below b3; exact ⟨B3.at_ rfl, B3.at_ rfl, B3.at_ rfl, B3.at_ rfl, B3.at_ rfl, B3.at_ rfl, B3.at_ rfl, B3.at_ rfl⟩)) (first | (go_at_call 76; (with_reducible refine (HA.out _).mono ?_); rintro e w2 ⟨rfl, b2⟩) | (go_at_call 76; (with_reducible refine (HB.out _).mono ?_); rintro e w3 ⟨rfl, b3⟩))
    all_goals
      go_wp2
      go_ret
      exact ⟨rfl, HBW.out.trans (((undrew b2).mono (by simp)).trans (b3.mono (Nat.le_trans (by simp) b2.size)))⟩
  · rw [if_neg h1, if_neg h2, if_neg h3]
    unfold binS
    have e1 : (op == 0) = false := by simp [h1]
    have e2 : (op == 1) = false := by simp [h2]
    have e3 : (op == 2) = false := by simp [h3]
    clear h1 h2 h3
    have p1 := fun w => run_string_add_sum (P := Try.prog) w ((⟨#[40]⟩ : ByteArray) ++ ⟨#[42]⟩ ++ ⟨#[32]⟩) A (by simp only [cat2_size]; show 1 + 1 + 1 + A.size ≤ _; omega)
    have p2 := fun w => run_string_add_sum (P := Try.prog) w ((⟨#[40]⟩ : ByteArray) ++ ⟨#[42]⟩ ++ ⟨#[32]⟩ ++ A) ⟨#[32]⟩ (by simp only [cat2_size]; show 1 + 1 + 1 + A.size + 1 ≤ _; omega)
    have p3 := fun w => run_string_add_sum (P := Try.prog) w ((⟨#[40]⟩ : ByteArray) ++ ⟨#[42]⟩ ++ ⟨#[32]⟩ ++ A ++ ⟨#[32]⟩) B (by simp only [cat2_size]; show 1 + 1 + 1 + A.size + 1 + B.size ≤ _; omega)
    have p4 := fun w => run_string_add_sum (P := Try.prog) w ((⟨#[40]⟩ : ByteArray) ++ ⟨#[42]⟩ ++ ⟨#[32]⟩ ++ A ++ ⟨#[32]⟩ ++ B) ⟨#[41]⟩ (by simp only [cat2_size]; show 1 + 1 + 1 + A.size + 1 + B.size + 1 ≤ _; omega)
    go_enter Try.func77, Try.ntmps77
    go_wp2
    go_region_held3 (fun w' => w'.cell? ⟨w.heap.size, 1, none⟩ = some (.string av) ∧ w'.cell? ⟨w.heap.size, 2, none⟩ = some (.int .i64 ak) ∧ w'.cell? ⟨w.heap.size, 3, none⟩ = some (.string at_) ∧ w'.cell? ⟨w.heap.size, 4, none⟩ = some (.int .i64 an) ∧ w'.cell? ⟨w.heap.size, 5, none⟩ = some (.string bv) ∧ w'.cell? ⟨w.heap.size, 6, none⟩ = some (.int .i64 bk) ∧ w'.cell? ⟨w.heap.size, 7, none⟩ = some (.string bt) ∧ w'.cell? ⟨w.heap.size, 8, none⟩ = some (.int .i64 bn)) (first | (have B1 := HBX.out; exact ⟨B1.at_ rfl, B1.at_ rfl, B1.at_ rfl, B1.at_ rfl, B1.at_ rfl, B1.at_ rfl, B1.at_ rfl, B1.at_ rfl⟩) | (have B2 := HBX.out.below (undrew b2); exact ⟨B2.at_ rfl, B2.at_ rfl, B2.at_ rfl, B2.at_ rfl, B2.at_ rfl, B2.at_ rfl, B2.at_ rfl, B2.at_ rfl⟩) | (have B3 := (HBX.out.below (undrew b2)).below b3; exact ⟨B3.at_ rfl, B3.at_ rfl, B3.at_ rfl, B3.at_ rfl, B3.at_ rfl, B3.at_ rfl, B3.at_ rfl, B3.at_ rfl⟩)) (first | (go_at_call 76; (with_reducible refine (HA.out _).mono ?_); rintro e w2 ⟨rfl, b2⟩) | (go_at_call 76; (with_reducible refine (HB.out _).mono ?_); rintro e w3 ⟨rfl, b3⟩))
    all_goals
      go_wp2
      go_ret
      exact ⟨rfl, HBW.out.trans (((undrew b2).mono (by simp)).trans (b3.mono (Nat.le_trans (by simp) b2.size)))⟩

end Go.Proofs.Ytgeaccoobhigcaa
namespace Go.Proofs.Ytgeaccoobhigcaa
open Go Go.RowKit

theorem BoxC.ten {W : World} {b : Nat} {t : TypeId} {a0 a1 a2 a3 a4 a5 a6 a7 a8 a9 a10 a11 : Value} (h : BoxC W b t [a0, a1, a2, a3, a4, a5, a6, a7, a8, a9, a10, a11]) : W.cell? ⟨b, 0, none⟩ = some a0 ∧ W.cell? ⟨b, 1, none⟩ = some a1 ∧ W.cell? ⟨b, 2, none⟩ = some a2 ∧ W.cell? ⟨b, 3, none⟩ = some a3 ∧ W.cell? ⟨b, 4, none⟩ = some a4 ∧ W.cell? ⟨b, 5, none⟩ = some a5 ∧ W.cell? ⟨b, 6, none⟩ = some a6 ∧ W.cell? ⟨b, 7, none⟩ = some a7 ∧ W.cell? ⟨b, 8, none⟩ = some a8 ∧ W.cell? ⟨b, 9, none⟩ = some a9 :=
  ⟨h.at_ rfl, h.at_ rfl, h.at_ rfl, h.at_ rfl, h.at_ rfl, h.at_ rfl, h.at_ rfl, h.at_ rfl, h.at_ rfl, h.at_ rfl⟩

/-- An element. -/
structure El where
  i : Sm
  a : Sm
  v : Sm
  acc : Bool
  goal : Bool
  tag : Int
def El.cells (e : El) : List Value := e.i.cells ++ (e.a.cells ++ (e.v.cells ++ [.bool e.acc, .bool e.goal, .int .i64 e.tag]))
def El.val (e : El) : Value := .agg #[.int .i64 e.i.k, .string e.i.t, .int .i64 e.i.n, .int .i64 e.a.k, .string e.a.t, .int .i64 e.a.n, .int .i64 e.v.k, .string e.v.t, .int .i64 e.v.n, .bool e.acc, .bool e.goal, .int .i64 e.tag]
def elemS (e : El) : ByteArray :=
  let s := (⟨#[40]⟩ : ByteArray) ++ symS e.i ++ ⟨#[32, 94]⟩ ++ symS e.a ++ ⟨#[32]⟩ ++ symS e.v
  if e.acc then s ++ ⟨#[32, 43]⟩ ++ ⟨#[41]⟩ else s ++ ⟨#[41]⟩
theorem mk2_size (a b : UInt8) : (⟨#[a, b]⟩ : ByteArray).size = 2 := rfl

set_option maxRecDepth 100000 in
set_option maxHeartbeats 4000000 in
theorem showElem_any (e : El) (hi : e.i.t.size ≤ 9223372036854775807) (ha : e.a.t.size ≤ 9223372036854775807) (hv : e.v.t.size ≤ 9223372036854775807) (w : World) :
    Calls Try.prog 42 #[e.val] w fun x w' => x = .returned (.string (elemS e)) ∧ Below w.heap.size w w' := by
  have hI := fun w => symText_any e.i hi w
  have hA := fun w => symText_any e.a ha w
  have hV := fun w => symText_any e.v hv w
  have zi := symS_size e.i
  have za := symS_size e.a
  have zv := symS_size e.v
  have hmix : Try.prog.follows .mixedOrders = true := by kernel_rfl
  obtain ⟨⟨ik, it, in_⟩, ⟨ak, at_, an⟩, ⟨vk, vt, vn⟩, acc, goal, tag⟩ := e
  unfold elemS El.val
  simp only at hI hA hV zi za zv ⊢
  clear hi ha hv
  generalize symS ⟨ik, it, in_⟩ = I at hI zi ⊢
  generalize symS ⟨ak, at_, an⟩ = A at hA za ⊢
  generalize symS ⟨vk, vt, vn⟩ = V at hV zv ⊢
  unfold Sm.val at hI hA hV
  simp only at hI hA hV
  have HI := Lib.hid hI
  have HA := Lib.hid hA
  have HV := Lib.hid hV
  clear hI hA hV
  have hbx := BoxC.new w [.int .i64 ik, .string it, .int .i64 in_, .int .i64 ak, .string at_, .int .i64 an, .int .i64 vk, .string vt, .int .i64 vn, .bool acc, .bool goal, .int .i64 tag] 74
  have hbw : Below w.heap.size w (w.alloc (.cells #[.int .i64 ik, .string it, .int .i64 in_, .int .i64 ak, .string at_, .int .i64 an, .int .i64 vk, .string vt, .int .i64 vn, .bool acc, .bool goal, .int .i64 tag] 74)) := (Below.refl _ w).alloc (Nat.le_refl _) _
  have HBX : Hid (BoxC (w.alloc (.cells #[.int .i64 ik, .string it, .int .i64 in_, .int .i64 ak, .string at_, .int .i64 an, .int .i64 vk, .string vt, .int .i64 vn, .bool acc, .bool goal, .int .i64 tag] 74)) w.heap.size 74 [.int .i64 ik, .string it, .int .i64 in_, .int .i64 ak, .string at_, .int .i64 an, .int .i64 vk, .string vt, .int .i64 vn, .bool acc, .bool goal, .int .i64 tag]) := Lib.hid hbx
  have HBW := Lib.hid hbw
  clear hbx hbw
  have p0 := fun w => run_string_add_sum (P := Try.prog) w ((⟨#[40]⟩ : ByteArray)) I (by show 1 + I.size ≤ _; omega)
  have p1 := fun w => run_string_add_sum (P := Try.prog) w ((⟨#[40]⟩ : ByteArray) ++ I) ⟨#[32, 94]⟩ (by simp only [cat2_size]; show 1 + I.size + 2 ≤ _; omega)
  have p2 := fun w => run_string_add_sum (P := Try.prog) w ((⟨#[40]⟩ : ByteArray) ++ I ++ ⟨#[32, 94]⟩) A (by simp only [cat2_size]; show 1 + I.size + 2 + A.size ≤ _; omega)
  have p3 := fun w => run_string_add_sum (P := Try.prog) w ((⟨#[40]⟩ : ByteArray) ++ I ++ ⟨#[32, 94]⟩ ++ A) ⟨#[32]⟩ (by simp only [cat2_size]; show 1 + I.size + 2 + A.size + 1 ≤ _; omega)
  have p4 := fun w => run_string_add_sum (P := Try.prog) w ((⟨#[40]⟩ : ByteArray) ++ I ++ ⟨#[32, 94]⟩ ++ A ++ ⟨#[32]⟩) V (by simp only [cat2_size]; show 1 + I.size + 2 + A.size + 1 + V.size ≤ _; omega)
  rcases acc with _ | _
  · rw [if_neg (by decide)]
    have p5 := fun w => run_string_add_sum (P := Try.prog) w ((⟨#[40]⟩ : ByteArray) ++ I ++ ⟨#[32, 94]⟩ ++ A ++ ⟨#[32]⟩ ++ V) ⟨#[41]⟩ (by simp only [cat2_size]; show 1 + I.size + 2 + A.size + 1 + V.size + 1 ≤ _; omega)
    go_enter Try.func42, Try.ntmps42
    go_wp2
    go_region_held3 (fun w' => w'.cell? ⟨w.heap.size, 0, none⟩ = some (.int .i64 ik) ∧ w'.cell? ⟨w.heap.size, 1, none⟩ = some (.string it) ∧ w'.cell? ⟨w.heap.size, 2, none⟩ = some (.int .i64 in_) ∧ w'.cell? ⟨w.heap.size, 3, none⟩ = some (.int .i64 ak) ∧ w'.cell? ⟨w.heap.size, 4, none⟩ = some (.string at_) ∧ w'.cell? ⟨w.heap.size, 5, none⟩ = some (.int .i64 an) ∧ w'.cell? ⟨w.heap.size, 6, none⟩ = some (.int .i64 vk) ∧ w'.cell? ⟨w.heap.size, 7, none⟩ = some (.string vt) ∧ w'.cell? ⟨w.heap.size, 8, none⟩ = some (.int .i64 vn)) (first | (have B1 := HBX.out; exact ⟨B1.at_ rfl, B1.at_ rfl, B1.at_ rfl, B1.at_ rfl, B1.at_ rfl, B1.at_ rfl, B1.at_ rfl, B1.at_ rfl, B1.at_ rfl⟩) | (have B2 := HBX.out.below (undrew b2); exact ⟨B2.at_ rfl, B2.at_ rfl, B2.at_ rfl, B2.at_ rfl, B2.at_ rfl, B2.at_ rfl, B2.at_ rfl, B2.at_ rfl, B2.at_ rfl⟩) | (have B3 := (HBX.out.below (undrew b2)).below b3; exact ⟨B3.at_ rfl, B3.at_ rfl, B3.at_ rfl, B3.at_ rfl, B3.at_ rfl, B3.at_ rfl, B3.at_ rfl, B3.at_ rfl, B3.at_ rfl⟩) | (have B4 := ((HBX.out.below (undrew b2)).below b3).below b4; exact ⟨B4.at_ rfl, B4.at_ rfl, B4.at_ rfl, B4.at_ rfl, B4.at_ rfl, B4.at_ rfl, B4.at_ rfl, B4.at_ rfl, B4.at_ rfl⟩)) (first | (go_at_call 78; (with_reducible refine (HI.out _).mono ?_); rintro e w2 ⟨rfl, b2⟩) | (go_at_call 78; (with_reducible refine (HA.out _).mono ?_); rintro e w3 ⟨rfl, b3⟩) | (go_at_call 78; (with_reducible refine (HV.out _).mono ?_); rintro e w4 ⟨rfl, b4⟩))
    all_goals
      have q9 := (((HBX.out.below (undrew b2)).below b3).below b4).at_ (j := 9) rfl
      go_wp2
      go_ret
      exact ⟨rfl, HBW.out.trans (((undrew b2).mono (by simp)).trans ((b3.mono (Nat.le_trans (by simp) b2.size)).trans (b4.mono (Nat.le_trans (Nat.le_trans (by simp) b2.size) b3.size))))⟩
  · rw [if_pos rfl]
    have p5 := fun w => run_string_add_sum (P := Try.prog) w ((⟨#[40]⟩ : ByteArray) ++ I ++ ⟨#[32, 94]⟩ ++ A ++ ⟨#[32]⟩ ++ V) ⟨#[32, 43]⟩ (by simp only [cat2_size]; show 1 + I.size + 2 + A.size + 1 + V.size + 2 ≤ _; omega)
    have p6 := fun w => run_string_add_sum (P := Try.prog) w ((⟨#[40]⟩ : ByteArray) ++ I ++ ⟨#[32, 94]⟩ ++ A ++ ⟨#[32]⟩ ++ V ++ ⟨#[32, 43]⟩) ⟨#[41]⟩ (by simp only [cat2_size]; show 1 + I.size + 2 + A.size + 1 + V.size + 2 + 1 ≤ _; omega)
    go_enter Try.func42, Try.ntmps42
    go_wp2
    go_region_held3 (fun w' => w'.cell? ⟨w.heap.size, 0, none⟩ = some (.int .i64 ik) ∧ w'.cell? ⟨w.heap.size, 1, none⟩ = some (.string it) ∧ w'.cell? ⟨w.heap.size, 2, none⟩ = some (.int .i64 in_) ∧ w'.cell? ⟨w.heap.size, 3, none⟩ = some (.int .i64 ak) ∧ w'.cell? ⟨w.heap.size, 4, none⟩ = some (.string at_) ∧ w'.cell? ⟨w.heap.size, 5, none⟩ = some (.int .i64 an) ∧ w'.cell? ⟨w.heap.size, 6, none⟩ = some (.int .i64 vk) ∧ w'.cell? ⟨w.heap.size, 7, none⟩ = some (.string vt) ∧ w'.cell? ⟨w.heap.size, 8, none⟩ = some (.int .i64 vn)) (first | (have B1 := HBX.out; exact ⟨B1.at_ rfl, B1.at_ rfl, B1.at_ rfl, B1.at_ rfl, B1.at_ rfl, B1.at_ rfl, B1.at_ rfl, B1.at_ rfl, B1.at_ rfl⟩) | (have B2 := HBX.out.below (undrew b2); exact ⟨B2.at_ rfl, B2.at_ rfl, B2.at_ rfl, B2.at_ rfl, B2.at_ rfl, B2.at_ rfl, B2.at_ rfl, B2.at_ rfl, B2.at_ rfl⟩) | (have B3 := (HBX.out.below (undrew b2)).below b3; exact ⟨B3.at_ rfl, B3.at_ rfl, B3.at_ rfl, B3.at_ rfl, B3.at_ rfl, B3.at_ rfl, B3.at_ rfl, B3.at_ rfl, B3.at_ rfl⟩) | (have B4 := ((HBX.out.below (undrew b2)).below b3).below b4; exact ⟨B4.at_ rfl, B4.at_ rfl, B4.at_ rfl, B4.at_ rfl, B4.at_ rfl, B4.at_ rfl, B4.at_ rfl, B4.at_ rfl, B4.at_ rfl⟩)) (first | (go_at_call 78; (with_reducible refine (HI.out _).mono ?_); rintro e w2 ⟨rfl, b2⟩) | (go_at_call 78; (with_reducible refine (HA.out _).mono ?_); rintro e w3 ⟨rfl, b3⟩) | (go_at_call 78; (with_reducible refine (HV.out _).mono ?_); rintro e w4 ⟨rfl, b4⟩))
    all_goals
      have q9 := (((HBX.out.below (undrew b2)).below b3).below b4).at_ (j := 9) rfl
      go_wp2
      go_ret
      exact ⟨rfl, HBW.out.trans (((undrew b2).mono (by simp)).trans ((b3.mono (Nat.le_trans (by simp) b2.size)).trans (b4.mono (Nat.le_trans (Nat.le_trans (by simp) b2.size) b3.size))))⟩

set_option maxRecDepth 100000 in
set_option maxHeartbeats 4000000 in
theorem refElem_any (e : El) (hi : e.i.t.size ≤ 9223372036854775807) (ha : e.a.t.size ≤ 9223372036854775807) (hv : e.v.t.size ≤ 9223372036854775807) (w : World) :
    Calls Try.prog 43 #[e.val] w fun x w' => x = .returned (.string (elemS e)) ∧ Below w.heap.size w w' := by
  have hI := fun w => refText_any e.i hi w
  have hA := fun w => refText_any e.a ha w
  have hV := fun w => refText_any e.v hv w
  have zi := symS_size e.i
  have za := symS_size e.a
  have zv := symS_size e.v
  have hmix : Try.prog.follows .mixedOrders = true := by kernel_rfl
  obtain ⟨⟨ik, it, in_⟩, ⟨ak, at_, an⟩, ⟨vk, vt, vn⟩, acc, goal, tag⟩ := e
  unfold elemS El.val
  simp only at hI hA hV zi za zv ⊢
  clear hi ha hv
  generalize symS ⟨ik, it, in_⟩ = I at hI zi ⊢
  generalize symS ⟨ak, at_, an⟩ = A at hA za ⊢
  generalize symS ⟨vk, vt, vn⟩ = V at hV zv ⊢
  unfold Sm.val at hI hA hV
  simp only at hI hA hV
  have HI := Lib.hid hI
  have HA := Lib.hid hA
  have HV := Lib.hid hV
  clear hI hA hV
  have hbx := BoxC.new w [.int .i64 ik, .string it, .int .i64 in_, .int .i64 ak, .string at_, .int .i64 an, .int .i64 vk, .string vt, .int .i64 vn, .bool acc, .bool goal, .int .i64 tag] 74
  have hbw : Below w.heap.size w (w.alloc (.cells #[.int .i64 ik, .string it, .int .i64 in_, .int .i64 ak, .string at_, .int .i64 an, .int .i64 vk, .string vt, .int .i64 vn, .bool acc, .bool goal, .int .i64 tag] 74)) := (Below.refl _ w).alloc (Nat.le_refl _) _
  have HBX : Hid (BoxC (w.alloc (.cells #[.int .i64 ik, .string it, .int .i64 in_, .int .i64 ak, .string at_, .int .i64 an, .int .i64 vk, .string vt, .int .i64 vn, .bool acc, .bool goal, .int .i64 tag] 74)) w.heap.size 74 [.int .i64 ik, .string it, .int .i64 in_, .int .i64 ak, .string at_, .int .i64 an, .int .i64 vk, .string vt, .int .i64 vn, .bool acc, .bool goal, .int .i64 tag]) := Lib.hid hbx
  have HBW := Lib.hid hbw
  clear hbx hbw
  have p0 := fun w => run_string_add_sum (P := Try.prog) w ((⟨#[40]⟩ : ByteArray)) I (by show 1 + I.size ≤ _; omega)
  have p1 := fun w => run_string_add_sum (P := Try.prog) w ((⟨#[40]⟩ : ByteArray) ++ I) ⟨#[32, 94]⟩ (by simp only [cat2_size]; show 1 + I.size + 2 ≤ _; omega)
  have p2 := fun w => run_string_add_sum (P := Try.prog) w ((⟨#[40]⟩ : ByteArray) ++ I ++ ⟨#[32, 94]⟩) A (by simp only [cat2_size]; show 1 + I.size + 2 + A.size ≤ _; omega)
  have p3 := fun w => run_string_add_sum (P := Try.prog) w ((⟨#[40]⟩ : ByteArray) ++ I ++ ⟨#[32, 94]⟩ ++ A) ⟨#[32]⟩ (by simp only [cat2_size]; show 1 + I.size + 2 + A.size + 1 ≤ _; omega)
  have p4 := fun w => run_string_add_sum (P := Try.prog) w ((⟨#[40]⟩ : ByteArray) ++ I ++ ⟨#[32, 94]⟩ ++ A ++ ⟨#[32]⟩) V (by simp only [cat2_size]; show 1 + I.size + 2 + A.size + 1 + V.size ≤ _; omega)
  rcases acc with _ | _
  · rw [if_neg (by decide)]
    have p5 := fun w => run_string_add_sum (P := Try.prog) w ((⟨#[40]⟩ : ByteArray) ++ I ++ ⟨#[32, 94]⟩ ++ A ++ ⟨#[32]⟩ ++ V) ⟨#[41]⟩ (by simp only [cat2_size]; show 1 + I.size + 2 + A.size + 1 + V.size + 1 ≤ _; omega)
    go_enter Try.func43, Try.ntmps43
    go_wp2
    go_region_held3 (fun w' => w'.cell? ⟨w.heap.size, 0, none⟩ = some (.int .i64 ik) ∧ w'.cell? ⟨w.heap.size, 1, none⟩ = some (.string it) ∧ w'.cell? ⟨w.heap.size, 2, none⟩ = some (.int .i64 in_) ∧ w'.cell? ⟨w.heap.size, 3, none⟩ = some (.int .i64 ak) ∧ w'.cell? ⟨w.heap.size, 4, none⟩ = some (.string at_) ∧ w'.cell? ⟨w.heap.size, 5, none⟩ = some (.int .i64 an) ∧ w'.cell? ⟨w.heap.size, 6, none⟩ = some (.int .i64 vk) ∧ w'.cell? ⟨w.heap.size, 7, none⟩ = some (.string vt) ∧ w'.cell? ⟨w.heap.size, 8, none⟩ = some (.int .i64 vn)) (first | (have B1 := HBX.out; exact ⟨B1.at_ rfl, B1.at_ rfl, B1.at_ rfl, B1.at_ rfl, B1.at_ rfl, B1.at_ rfl, B1.at_ rfl, B1.at_ rfl, B1.at_ rfl⟩) | (have B2 := HBX.out.below (undrew b2); exact ⟨B2.at_ rfl, B2.at_ rfl, B2.at_ rfl, B2.at_ rfl, B2.at_ rfl, B2.at_ rfl, B2.at_ rfl, B2.at_ rfl, B2.at_ rfl⟩) | (have B3 := (HBX.out.below (undrew b2)).below b3; exact ⟨B3.at_ rfl, B3.at_ rfl, B3.at_ rfl, B3.at_ rfl, B3.at_ rfl, B3.at_ rfl, B3.at_ rfl, B3.at_ rfl, B3.at_ rfl⟩) | (have B4 := ((HBX.out.below (undrew b2)).below b3).below b4; exact ⟨B4.at_ rfl, B4.at_ rfl, B4.at_ rfl, B4.at_ rfl, B4.at_ rfl, B4.at_ rfl, B4.at_ rfl, B4.at_ rfl, B4.at_ rfl⟩)) (first | (go_at_call 79; (with_reducible refine (HI.out _).mono ?_); rintro e w2 ⟨rfl, b2⟩) | (go_at_call 79; (with_reducible refine (HA.out _).mono ?_); rintro e w3 ⟨rfl, b3⟩) | (go_at_call 79; (with_reducible refine (HV.out _).mono ?_); rintro e w4 ⟨rfl, b4⟩))
    all_goals
      have q9 := (((HBX.out.below (undrew b2)).below b3).below b4).at_ (j := 9) rfl
      go_wp2
      go_ret
      exact ⟨rfl, HBW.out.trans (((undrew b2).mono (by simp)).trans ((b3.mono (Nat.le_trans (by simp) b2.size)).trans (b4.mono (Nat.le_trans (Nat.le_trans (by simp) b2.size) b3.size))))⟩
  · rw [if_pos rfl]
    have p5 := fun w => run_string_add_sum (P := Try.prog) w ((⟨#[40]⟩ : ByteArray) ++ I ++ ⟨#[32, 94]⟩ ++ A ++ ⟨#[32]⟩ ++ V) ⟨#[32, 43]⟩ (by simp only [cat2_size]; show 1 + I.size + 2 + A.size + 1 + V.size + 2 ≤ _; omega)
    have p6 := fun w => run_string_add_sum (P := Try.prog) w ((⟨#[40]⟩ : ByteArray) ++ I ++ ⟨#[32, 94]⟩ ++ A ++ ⟨#[32]⟩ ++ V ++ ⟨#[32, 43]⟩) ⟨#[41]⟩ (by simp only [cat2_size]; show 1 + I.size + 2 + A.size + 1 + V.size + 2 + 1 ≤ _; omega)
    go_enter Try.func43, Try.ntmps43
    go_wp2
    go_region_held3 (fun w' => w'.cell? ⟨w.heap.size, 0, none⟩ = some (.int .i64 ik) ∧ w'.cell? ⟨w.heap.size, 1, none⟩ = some (.string it) ∧ w'.cell? ⟨w.heap.size, 2, none⟩ = some (.int .i64 in_) ∧ w'.cell? ⟨w.heap.size, 3, none⟩ = some (.int .i64 ak) ∧ w'.cell? ⟨w.heap.size, 4, none⟩ = some (.string at_) ∧ w'.cell? ⟨w.heap.size, 5, none⟩ = some (.int .i64 an) ∧ w'.cell? ⟨w.heap.size, 6, none⟩ = some (.int .i64 vk) ∧ w'.cell? ⟨w.heap.size, 7, none⟩ = some (.string vt) ∧ w'.cell? ⟨w.heap.size, 8, none⟩ = some (.int .i64 vn)) (first | (have B1 := HBX.out; exact ⟨B1.at_ rfl, B1.at_ rfl, B1.at_ rfl, B1.at_ rfl, B1.at_ rfl, B1.at_ rfl, B1.at_ rfl, B1.at_ rfl, B1.at_ rfl⟩) | (have B2 := HBX.out.below (undrew b2); exact ⟨B2.at_ rfl, B2.at_ rfl, B2.at_ rfl, B2.at_ rfl, B2.at_ rfl, B2.at_ rfl, B2.at_ rfl, B2.at_ rfl, B2.at_ rfl⟩) | (have B3 := (HBX.out.below (undrew b2)).below b3; exact ⟨B3.at_ rfl, B3.at_ rfl, B3.at_ rfl, B3.at_ rfl, B3.at_ rfl, B3.at_ rfl, B3.at_ rfl, B3.at_ rfl, B3.at_ rfl⟩) | (have B4 := ((HBX.out.below (undrew b2)).below b3).below b4; exact ⟨B4.at_ rfl, B4.at_ rfl, B4.at_ rfl, B4.at_ rfl, B4.at_ rfl, B4.at_ rfl, B4.at_ rfl, B4.at_ rfl, B4.at_ rfl⟩)) (first | (go_at_call 79; (with_reducible refine (HI.out _).mono ?_); rintro e w2 ⟨rfl, b2⟩) | (go_at_call 79; (with_reducible refine (HA.out _).mono ?_); rintro e w3 ⟨rfl, b3⟩) | (go_at_call 79; (with_reducible refine (HV.out _).mono ?_); rintro e w4 ⟨rfl, b4⟩))
    all_goals
      have q9 := (((HBX.out.below (undrew b2)).below b3).below b4).at_ (j := 9) rfl
      go_wp2
      go_ret
      exact ⟨rfl, HBW.out.trans (((undrew b2).mono (by simp)).trans ((b3.mono (Nat.le_trans (by simp) b2.size)).trans (b4.mono (Nat.le_trans (Nat.le_trans (by simp) b2.size) b3.size))))⟩

end Go.Proofs.Ytgeaccoobhigcaa
namespace Go.Proofs.Ytgeaccoobhigcaa
open Go Go.RowKit

set_option maxHeartbeats 1000000 in
theorem sign_text (k : Int) (w : World) : Calls Try.prog 75 #[.int .i64 k] w fun e w' => e = .returned (.string ⟨signL k⟩) ∧ w' = w := by
  rcases (show k = 1 ∨ k = 2 ∨ k = 3 ∨ k = 4 ∨ k = 5 ∨ k = 6 ∨ k = 8 ∨ k = 9 ∨ (k ≠ 1 ∧ k ≠ 2 ∧ k ≠ 3 ∧ k ≠ 4 ∧ k ≠ 5 ∧ k ≠ 6 ∧ k ≠ 8 ∧ k ≠ 9) by omega) with rfl | rfl | rfl | rfl | rfl | rfl | rfl | rfl | ⟨h1, h2, h3, h4, h5, h6, h8, h9⟩
  all_goals first
    | (have e1 : (k == 1) = false := by simp [h1]
       have e2 : (k == 2) = false := by simp [h2]
       have e3 : (k == 3) = false := by simp [h3]
       have e4 : (k == 4) = false := by simp [h4]
       have e5 : (k == 5) = false := by simp [h5]
       have e6 : (k == 6) = false := by simp [h6]
       have e8 : (k == 8) = false := by simp [h8]
       have e9 : (k == 9) = false := by simp [h9]
       have hr : signL k = #[61] := by unfold signL; rw [if_neg h1, if_neg h2, if_neg h3, if_neg h4, if_neg h5, if_neg h8, if_neg h6, if_neg h9]
       rw [hr]
       clear hr h1 h2 h3 h4 h5 h6 h8 h9
       go_enter Try.func75, Try.ntmps75
       go_wp2
       go_ret
       exact ⟨rfl, rfl⟩)
    | (go_enter Try.func75, Try.ntmps75
       go_wp2
       go_ret
       exact ⟨rfl, rfl⟩)
theorem signL_size (k : Int) : (⟨signL k⟩ : ByteArray).size ≤ 1 := by
  show (signL k).size ≤ 1
  unfold signL
  repeat' split
  all_goals decide
theorem termS_size (t : Tm) (ha : t.a.Small) (hb : t.b.Small) : (termS t).size ≤ 2000010 := by
  have h1 := atomS_size t.a ha.v
  have h2 := atomS_size t.b hb.v
  have hb : ∀ c : UInt8, (binS #[c] (atomS t.a) (atomS t.b)).size ≤ 2000010 := fun c => by
    unfold binS
    simp only [cat2_size]
    show 1 + 1 + 1 + (atomS t.a).size + 1 + (atomS t.b).size + 1 ≤ _
    omega
  unfold termS
  split
  · exact hb _
  · split
    · exact hb _
    · split
      · exact hb _
      · omega

/-- An action. -/
structure Ac where
  id : ByteArray
  attr : Am
  value : Tm
  pref : Int
  other : Am
def Ac.cells (a : Ac) : List Value := .string a.id :: (a.attr.cells ++ (a.value.cells ++ (.int .i64 a.pref :: a.other.cells)))
def Ac.val (a : Ac) : Value := .agg #[.string a.id, .string a.attr.v, .int .i64 a.attr.s.k, .string a.attr.s.t, .int .i64 a.attr.s.n, .int .i64 a.value.op, .string a.value.a.v, .int .i64 a.value.a.s.k, .string a.value.a.s.t, .int .i64 a.value.a.s.n, .string a.value.b.v, .int .i64 a.value.b.s.k, .string a.value.b.s.t, .int .i64 a.value.b.s.n, .int .i64 a.pref, .string a.other.v, .int .i64 a.other.s.k, .string a.other.s.t, .int .i64 a.other.s.n]
structure Ac.Small (a : Ac) : Prop where
  id : a.id.size ≤ 1000000
  attr : a.attr.Small
  va : a.value.a.Small
  vb : a.value.b.Small
  other : a.other.Small
def actHead (id attr value : ByteArray) (sign : Array UInt8) : ByteArray := (⟨#[40, 60]⟩ : ByteArray) ++ id ++ ⟨#[62, 32, 94]⟩ ++ attr ++ ⟨#[32]⟩ ++ value ++ ⟨#[32]⟩ ++ ⟨sign⟩
def actS (a : Ac) : ByteArray := if 8 ≤ a.pref ∧ a.pref ≤ 10 then actHead a.id (atomS a.attr) (termS a.value) (signL a.pref) ++ ⟨#[32]⟩ ++ atomS a.other ++ ⟨#[41]⟩ else actHead a.id (atomS a.attr) (termS a.value) (signL a.pref) ++ ⟨#[41]⟩

set_option maxRecDepth 100000 in
set_option maxHeartbeats 8000000 in
theorem showAct_any (a : Ac) (h : a.Small) (w : World) :
    Calls Try.prog 40 #[a.val] w fun x w' => x = .returned (.string (actS a)) ∧ Below w.heap.size w w' := by
  have hC := fun w => showAtom_any a.attr h.attr.v h.attr.s w
  have hV := fun w => showTerm_any a.value h.va h.vb w
  have hO := fun w => showAtom_any a.other h.other.v h.other.s w
  have hG := fun w => sign_text a.pref w
  have zi := h.id
  have zc := atomS_size a.attr h.attr.v
  have zv := termS_size a.value h.va h.vb
  have zo := atomS_size a.other h.other.v
  have zg := signL_size a.pref
  have hmix : Try.prog.follows .mixedOrders = true := by kernel_rfl
  obtain ⟨id, ⟨cv, ck, ct, cn⟩, ⟨op, ⟨av, ak, at_, an⟩, ⟨bv, bk, bt, bn⟩⟩, pref, ⟨ov, ok, ot, on_⟩⟩ := a
  unfold actS actHead Ac.val
  simp only at hC hV hO hG zi zc zv zo zg ⊢
  clear h
  generalize atomS ⟨cv, ck, ct, cn⟩ = C at hC zc ⊢
  generalize termS ⟨op, ⟨av, ak, at_, an⟩, ⟨bv, bk, bt, bn⟩⟩ = V at hV zv ⊢
  generalize atomS ⟨ov, ok, ot, on_⟩ = O at hO zo ⊢
  generalize (⟨signL pref⟩ : ByteArray) = G at hG zg ⊢
  unfold Sm.val at hC hO
  unfold Tm.val at hV
  simp only at hC hV hO
  have HC := Lib.hid hC
  have HV := Lib.hid hV
  have HO := Lib.hid hO
  have HG := Lib.hid hG
  clear hC hV hO hG
  have hbx := BoxC.new w [.string id, .string cv, .int .i64 ck, .string ct, .int .i64 cn, .int .i64 op, .string av, .int .i64 ak, .string at_, .int .i64 an, .string bv, .int .i64 bk, .string bt, .int .i64 bn, .int .i64 pref, .string ov, .int .i64 ok, .string ot, .int .i64 on_] 69
  have hbw : Below w.heap.size w (w.alloc (.cells #[.string id, .string cv, .int .i64 ck, .string ct, .int .i64 cn, .int .i64 op, .string av, .int .i64 ak, .string at_, .int .i64 an, .string bv, .int .i64 bk, .string bt, .int .i64 bn, .int .i64 pref, .string ov, .int .i64 ok, .string ot, .int .i64 on_] 69)) := (Below.refl _ w).alloc (Nat.le_refl _) _
  have HBX : Hid (BoxC (w.alloc (.cells #[.string id, .string cv, .int .i64 ck, .string ct, .int .i64 cn, .int .i64 op, .string av, .int .i64 ak, .string at_, .int .i64 an, .string bv, .int .i64 bk, .string bt, .int .i64 bn, .int .i64 pref, .string ov, .int .i64 ok, .string ot, .int .i64 on_] 69)) w.heap.size 69 [.string id, .string cv, .int .i64 ck, .string ct, .int .i64 cn, .int .i64 op, .string av, .int .i64 ak, .string at_, .int .i64 an, .string bv, .int .i64 bk, .string bt, .int .i64 bn, .int .i64 pref, .string ov, .int .i64 ok, .string ot, .int .i64 on_]) := Lib.hid hbx
  have HBW := Lib.hid hbw
  clear hbx hbw
  have p0 := fun w => run_string_add_sum (P := Try.prog) w ((⟨#[40, 60]⟩ : ByteArray)) id (by show 2 + id.size ≤ _; omega)
  have p1 := fun w => run_string_add_sum (P := Try.prog) w ((⟨#[40, 60]⟩ : ByteArray) ++ id) ⟨#[62, 32, 94]⟩ (by simp only [cat2_size]; show 2 + id.size + 3 ≤ _; omega)
  have p2 := fun w => run_string_add_sum (P := Try.prog) w ((⟨#[40, 60]⟩ : ByteArray) ++ id ++ ⟨#[62, 32, 94]⟩) C (by simp only [cat2_size]; show 2 + id.size + 3 + C.size ≤ _; omega)
  have p3 := fun w => run_string_add_sum (P := Try.prog) w ((⟨#[40, 60]⟩ : ByteArray) ++ id ++ ⟨#[62, 32, 94]⟩ ++ C) ⟨#[32]⟩ (by simp only [cat2_size]; show 2 + id.size + 3 + C.size + 1 ≤ _; omega)
  have p4 := fun w => run_string_add_sum (P := Try.prog) w ((⟨#[40, 60]⟩ : ByteArray) ++ id ++ ⟨#[62, 32, 94]⟩ ++ C ++ ⟨#[32]⟩) V (by simp only [cat2_size]; show 2 + id.size + 3 + C.size + 1 + V.size ≤ _; omega)
  have p5 := fun w => run_string_add_sum (P := Try.prog) w ((⟨#[40, 60]⟩ : ByteArray) ++ id ++ ⟨#[62, 32, 94]⟩ ++ C ++ ⟨#[32]⟩ ++ V) ⟨#[32]⟩ (by simp only [cat2_size]; show 2 + id.size + 3 + C.size + 1 + V.size + 1 ≤ _; omega)
  have p6 := fun w => run_string_add_sum (P := Try.prog) w ((⟨#[40, 60]⟩ : ByteArray) ++ id ++ ⟨#[62, 32, 94]⟩ ++ C ++ ⟨#[32]⟩ ++ V ++ ⟨#[32]⟩) G (by simp only [cat2_size]; show 2 + id.size + 3 + C.size + 1 + V.size + 1 + G.size ≤ _; omega)
  by_cases hp : 8 ≤ pref ∧ pref ≤ 10
  · rw [if_pos hp]
    have q0 := fun w => run_string_add_sum (P := Try.prog) w ((⟨#[40, 60]⟩ : ByteArray) ++ id ++ ⟨#[62, 32, 94]⟩ ++ C ++ ⟨#[32]⟩ ++ V ++ ⟨#[32]⟩ ++ G) ⟨#[32]⟩ (by simp only [cat2_size]; show 2 + id.size + 3 + C.size + 1 + V.size + 1 + G.size + 1 ≤ _; omega)
    have q1 := fun w => run_string_add_sum (P := Try.prog) w ((⟨#[40, 60]⟩ : ByteArray) ++ id ++ ⟨#[62, 32, 94]⟩ ++ C ++ ⟨#[32]⟩ ++ V ++ ⟨#[32]⟩ ++ G ++ ⟨#[32]⟩) O (by simp only [cat2_size]; show 2 + id.size + 3 + C.size + 1 + V.size + 1 + G.size + 1 + O.size ≤ _; omega)
    have q2 := fun w => run_string_add_sum (P := Try.prog) w ((⟨#[40, 60]⟩ : ByteArray) ++ id ++ ⟨#[62, 32, 94]⟩ ++ C ++ ⟨#[32]⟩ ++ V ++ ⟨#[32]⟩ ++ G ++ ⟨#[32]⟩ ++ O) ⟨#[41]⟩ (by simp only [cat2_size]; show 2 + id.size + 3 + C.size + 1 + V.size + 1 + G.size + 1 + O.size + 1 ≤ _; omega)
    rcases (show (pref == 8) = true ∨ ((pref == 8) = false ∧ (pref == 9) = true) ∨ ((pref == 8) = false ∧ (pref == 9) = false ∧ (pref == 10) = true) by simp; omega) with e8 | ⟨e8, e9⟩ | ⟨e8, e9, e10⟩
    all_goals
      clear hp
      go_enter Try.func40, Try.ntmps40
      go_wp2
      go_region_held3 (fun w' => w'.cell? ⟨w.heap.size, 0, none⟩ = some (.string id) ∧ w'.cell? ⟨w.heap.size, 1, none⟩ = some (.string cv) ∧ w'.cell? ⟨w.heap.size, 2, none⟩ = some (.int .i64 ck) ∧ w'.cell? ⟨w.heap.size, 3, none⟩ = some (.string ct) ∧ w'.cell? ⟨w.heap.size, 4, none⟩ = some (.int .i64 cn) ∧ w'.cell? ⟨w.heap.size, 5, none⟩ = some (.int .i64 op) ∧ w'.cell? ⟨w.heap.size, 6, none⟩ = some (.string av) ∧ w'.cell? ⟨w.heap.size, 7, none⟩ = some (.int .i64 ak) ∧ w'.cell? ⟨w.heap.size, 8, none⟩ = some (.string at_) ∧ w'.cell? ⟨w.heap.size, 9, none⟩ = some (.int .i64 an) ∧ w'.cell? ⟨w.heap.size, 10, none⟩ = some (.string bv) ∧ w'.cell? ⟨w.heap.size, 11, none⟩ = some (.int .i64 bk) ∧ w'.cell? ⟨w.heap.size, 12, none⟩ = some (.string bt) ∧ w'.cell? ⟨w.heap.size, 13, none⟩ = some (.int .i64 bn) ∧ w'.cell? ⟨w.heap.size, 14, none⟩ = some (.int .i64 pref)) (first | (have B1 := HBX.out; exact ⟨B1.at_ rfl, B1.at_ rfl, B1.at_ rfl, B1.at_ rfl, B1.at_ rfl, B1.at_ rfl, B1.at_ rfl, B1.at_ rfl, B1.at_ rfl, B1.at_ rfl, B1.at_ rfl, B1.at_ rfl, B1.at_ rfl, B1.at_ rfl, B1.at_ rfl⟩) | (have B2 := HBX.out.below (undrew b2); exact ⟨B2.at_ rfl, B2.at_ rfl, B2.at_ rfl, B2.at_ rfl, B2.at_ rfl, B2.at_ rfl, B2.at_ rfl, B2.at_ rfl, B2.at_ rfl, B2.at_ rfl, B2.at_ rfl, B2.at_ rfl, B2.at_ rfl, B2.at_ rfl, B2.at_ rfl⟩) | (have B3 := (HBX.out.below (undrew b2)).below b3; exact ⟨B3.at_ rfl, B3.at_ rfl, B3.at_ rfl, B3.at_ rfl, B3.at_ rfl, B3.at_ rfl, B3.at_ rfl, B3.at_ rfl, B3.at_ rfl, B3.at_ rfl, B3.at_ rfl, B3.at_ rfl, B3.at_ rfl, B3.at_ rfl, B3.at_ rfl⟩)) (first | (go_at_call 73; (with_reducible refine (HC.out _).mono ?_); rintro e w2 ⟨rfl, b2⟩) | (go_at_call 74; (with_reducible refine (HV.out _).mono ?_); rintro e w3 ⟨rfl, b3⟩) | (go_at_call 75; refine (HG.out _).mono ?_; rintro e w4 ⟨rfl, rfl⟩))
      have B3 := (HBX.out.below (undrew b2)).below b3
      have x14 := B3.at_ (j := 14) rfl
      have x15 := B3.at_ (j := 15) rfl
      have x16 := B3.at_ (j := 16) rfl
      have x17 := B3.at_ (j := 17) rfl
      have x18 := B3.at_ (j := 18) rfl
      clear B3
      go_wp2_with (go_at_call 73; refine (HO.out _).mono ?_; rintro e w5 ⟨rfl, b5⟩)
      go_ret
      exact ⟨rfl, (HBW.out.trans (((undrew b2).mono (by simp)).trans (b3.mono (Nat.le_trans (by simp) b2.size)))).trans (b5.mono (HBW.out.trans (((undrew b2).mono (by simp)).trans (b3.mono (Nat.le_trans (by simp) b2.size)))).size)⟩
  · rw [if_neg hp]
    have q0 := fun w => run_string_add_sum (P := Try.prog) w ((⟨#[40, 60]⟩ : ByteArray) ++ id ++ ⟨#[62, 32, 94]⟩ ++ C ++ ⟨#[32]⟩ ++ V ++ ⟨#[32]⟩ ++ G) ⟨#[41]⟩ (by simp only [cat2_size]; show 2 + id.size + 3 + C.size + 1 + V.size + 1 + G.size + 1 ≤ _; omega)
    have e8 : (pref == 8) = false := by simp; omega
    have e9 : (pref == 9) = false := by simp; omega
    have e10 : (pref == 10) = false := by simp; omega
    clear hp
    go_enter Try.func40, Try.ntmps40
    go_wp2
    go_region_held3 (fun w' => w'.cell? ⟨w.heap.size, 0, none⟩ = some (.string id) ∧ w'.cell? ⟨w.heap.size, 1, none⟩ = some (.string cv) ∧ w'.cell? ⟨w.heap.size, 2, none⟩ = some (.int .i64 ck) ∧ w'.cell? ⟨w.heap.size, 3, none⟩ = some (.string ct) ∧ w'.cell? ⟨w.heap.size, 4, none⟩ = some (.int .i64 cn) ∧ w'.cell? ⟨w.heap.size, 5, none⟩ = some (.int .i64 op) ∧ w'.cell? ⟨w.heap.size, 6, none⟩ = some (.string av) ∧ w'.cell? ⟨w.heap.size, 7, none⟩ = some (.int .i64 ak) ∧ w'.cell? ⟨w.heap.size, 8, none⟩ = some (.string at_) ∧ w'.cell? ⟨w.heap.size, 9, none⟩ = some (.int .i64 an) ∧ w'.cell? ⟨w.heap.size, 10, none⟩ = some (.string bv) ∧ w'.cell? ⟨w.heap.size, 11, none⟩ = some (.int .i64 bk) ∧ w'.cell? ⟨w.heap.size, 12, none⟩ = some (.string bt) ∧ w'.cell? ⟨w.heap.size, 13, none⟩ = some (.int .i64 bn) ∧ w'.cell? ⟨w.heap.size, 14, none⟩ = some (.int .i64 pref)) (first | (have B1 := HBX.out; exact ⟨B1.at_ rfl, B1.at_ rfl, B1.at_ rfl, B1.at_ rfl, B1.at_ rfl, B1.at_ rfl, B1.at_ rfl, B1.at_ rfl, B1.at_ rfl, B1.at_ rfl, B1.at_ rfl, B1.at_ rfl, B1.at_ rfl, B1.at_ rfl, B1.at_ rfl⟩) | (have B2 := HBX.out.below (undrew b2); exact ⟨B2.at_ rfl, B2.at_ rfl, B2.at_ rfl, B2.at_ rfl, B2.at_ rfl, B2.at_ rfl, B2.at_ rfl, B2.at_ rfl, B2.at_ rfl, B2.at_ rfl, B2.at_ rfl, B2.at_ rfl, B2.at_ rfl, B2.at_ rfl, B2.at_ rfl⟩) | (have B3 := (HBX.out.below (undrew b2)).below b3; exact ⟨B3.at_ rfl, B3.at_ rfl, B3.at_ rfl, B3.at_ rfl, B3.at_ rfl, B3.at_ rfl, B3.at_ rfl, B3.at_ rfl, B3.at_ rfl, B3.at_ rfl, B3.at_ rfl, B3.at_ rfl, B3.at_ rfl, B3.at_ rfl, B3.at_ rfl⟩)) (first | (go_at_call 73; (with_reducible refine (HC.out _).mono ?_); rintro e w2 ⟨rfl, b2⟩) | (go_at_call 74; (with_reducible refine (HV.out _).mono ?_); rintro e w3 ⟨rfl, b3⟩) | (go_at_call 75; refine (HG.out _).mono ?_; rintro e w4 ⟨rfl, rfl⟩))
    all_goals
      have B3 := (HBX.out.below (undrew b2)).below b3
      have x14 := B3.at_ (j := 14) rfl
      have x15 := B3.at_ (j := 15) rfl
      have x16 := B3.at_ (j := 16) rfl
      have x17 := B3.at_ (j := 17) rfl
      have x18 := B3.at_ (j := 18) rfl
      clear B3
      go_wp2
      go_ret
      exact ⟨rfl, HBW.out.trans (((undrew b2).mono (by simp)).trans (b3.mono (Nat.le_trans (by simp) b2.size)))⟩

end Go.Proofs.Ytgeaccoobhigcaa
namespace Go.Proofs.Ytgeaccoobhigcaa
open Go Go.RowKit

theorem below_undrew2 {n : Nat} {a b : World} (h : Below n a.drew b) : Below n a b := ⟨h.os, h.tape, h.output, h.size, h.block⟩

def signC : Array Value := #[.string ⟨#[]⟩, .string ⟨#[43]⟩, .string ⟨#[45]⟩, .string ⟨#[33]⟩, .string ⟨#[126]⟩, .string ⟨#[62]⟩, .string ⟨#[60]⟩, .string ⟨#[61]⟩, .string ⟨#[62]⟩, .string ⟨#[60]⟩, .string ⟨#[61]⟩]
theorem signs_cell (p : Int) (h1 : 1 ≤ p) (h2 : p ≤ 10) (W : World) : (W.alloc (.cells #[.string ⟨#[]⟩, .string ⟨#[43]⟩, .string ⟨#[45]⟩, .string ⟨#[33]⟩, .string ⟨#[126]⟩, .string ⟨#[62]⟩, .string ⟨#[60]⟩, .string ⟨#[61]⟩, .string ⟨#[62]⟩, .string ⟨#[60]⟩, .string ⟨#[61]⟩] 9)).cell? ⟨W.heap.size, p.toNat, none⟩ = some (.string ⟨signL p⟩) := by
  rw [cell_of_row _ _ _ _ _ _ (heap_alloc_new W _)]
  rcases (show p = 1 ∨ p = 2 ∨ p = 3 ∨ p = 4 ∨ p = 5 ∨ p = 6 ∨ p = 7 ∨ p = 8 ∨ p = 9 ∨ p = 10 by omega) with rfl | rfl | rfl | rfl | rfl | rfl | rfl | rfl | rfl | rfl <;> rfl

set_option maxRecDepth 100000 in
set_option maxHeartbeats 8000000 in
theorem refAct_any (a : Ac) (h : a.Small) (hp1 : 1 ≤ a.pref) (hp2 : a.pref ≤ 10) (ho1 : 0 ≤ a.value.op) (ho2 : a.value.op ≤ 3) (w : World) :
    Calls Try.prog 41 #[a.val] w fun x w' => x = .returned (.string (actS a)) ∧ Below w.heap.size w w' := by
  have hC := fun w => refAtom_any a.attr h.attr.v h.attr.s w
  have hV := fun w => refTerm_any a.value h.va h.vb w
  rw [termS_eq ho1 ho2] at hV
  have hO := fun w => refAtom_any a.other h.other.v h.other.s w
  have hcell := fun w : World => signs_cell a.pref hp1 hp2 w
  have zi := h.id
  have zc := atomS_size a.attr h.attr.v
  have zv := termS_size a.value h.va h.vb
  have zo := atomS_size a.other h.other.v
  have zg := signL_size a.pref
  have hmix : Try.prog.follows .mixedOrders = true := by kernel_rfl
  obtain ⟨id, ⟨cv, ck, ct, cn⟩, ⟨op, ⟨av, ak, at_, an⟩, ⟨bv, bk, bt, bn⟩⟩, pref, ⟨ov, ok, ot, on_⟩⟩ := a
  unfold actS actHead Ac.val
  simp only at hC hV hO hcell hp1 hp2 zi zc zv zo zg ⊢
  clear h ho1 ho2
  generalize atomS ⟨cv, ck, ct, cn⟩ = C at hC zc ⊢
  generalize termS ⟨op, ⟨av, ak, at_, an⟩, ⟨bv, bk, bt, bn⟩⟩ = V at hV zv ⊢
  generalize atomS ⟨ov, ok, ot, on_⟩ = O at hO zo ⊢
  generalize (⟨signL pref⟩ : ByteArray) = G at hcell zg ⊢
  unfold Am.val at hC hO
  unfold Tm.val at hV
  simp only at hC hV hO
  have HC := Lib.hid hC
  have HV := Lib.hid hV
  have HO := Lib.hid hO
  clear hC hV hO
  have hbx := BoxC.new w [.string id, .string cv, .int .i64 ck, .string ct, .int .i64 cn, .int .i64 op, .string av, .int .i64 ak, .string at_, .int .i64 an, .string bv, .int .i64 bk, .string bt, .int .i64 bn, .int .i64 pref, .string ov, .int .i64 ok, .string ot, .int .i64 on_] 69
  have hbw : Below w.heap.size w (w.alloc (.cells #[.string id, .string cv, .int .i64 ck, .string ct, .int .i64 cn, .int .i64 op, .string av, .int .i64 ak, .string at_, .int .i64 an, .string bv, .int .i64 bk, .string bt, .int .i64 bn, .int .i64 pref, .string ov, .int .i64 ok, .string ot, .int .i64 on_] 69)) := (Below.refl _ w).alloc (Nat.le_refl _) _
  have HBX : Hid (BoxC (w.alloc (.cells #[.string id, .string cv, .int .i64 ck, .string ct, .int .i64 cn, .int .i64 op, .string av, .int .i64 ak, .string at_, .int .i64 an, .string bv, .int .i64 bk, .string bt, .int .i64 bn, .int .i64 pref, .string ov, .int .i64 ok, .string ot, .int .i64 on_] 69)) w.heap.size 69 [.string id, .string cv, .int .i64 ck, .string ct, .int .i64 cn, .int .i64 op, .string av, .int .i64 ak, .string at_, .int .i64 an, .string bv, .int .i64 bk, .string bt, .int .i64 bn, .int .i64 pref, .string ov, .int .i64 ok, .string ot, .int .i64 on_]) := Lib.hid hbx
  have HBW := Lib.hid hbw
  clear hbx hbw
  have p0 := fun w => run_string_add_sum (P := Try.prog) w ((⟨#[40, 60]⟩ : ByteArray)) id (by show 2 + id.size ≤ _; omega)
  have p1 := fun w => run_string_add_sum (P := Try.prog) w ((⟨#[40, 60]⟩ : ByteArray) ++ id) ⟨#[62, 32, 94]⟩ (by simp only [cat2_size]; show 2 + id.size + 3 ≤ _; omega)
  have p2 := fun w => run_string_add_sum (P := Try.prog) w ((⟨#[40, 60]⟩ : ByteArray) ++ id ++ ⟨#[62, 32, 94]⟩) C (by simp only [cat2_size]; show 2 + id.size + 3 + C.size ≤ _; omega)
  have p3 := fun w => run_string_add_sum (P := Try.prog) w ((⟨#[40, 60]⟩ : ByteArray) ++ id ++ ⟨#[62, 32, 94]⟩ ++ C) ⟨#[32]⟩ (by simp only [cat2_size]; show 2 + id.size + 3 + C.size + 1 ≤ _; omega)
  have p4 := fun w => run_string_add_sum (P := Try.prog) w ((⟨#[40, 60]⟩ : ByteArray) ++ id ++ ⟨#[62, 32, 94]⟩ ++ C ++ ⟨#[32]⟩) V (by simp only [cat2_size]; show 2 + id.size + 3 + C.size + 1 + V.size ≤ _; omega)
  have p5 := fun w => run_string_add_sum (P := Try.prog) w ((⟨#[40, 60]⟩ : ByteArray) ++ id ++ ⟨#[62, 32, 94]⟩ ++ C ++ ⟨#[32]⟩ ++ V) ⟨#[32]⟩ (by simp only [cat2_size]; show 2 + id.size + 3 + C.size + 1 + V.size + 1 ≤ _; omega)
  have p6 := fun w => run_string_add_sum (P := Try.prog) w ((⟨#[40, 60]⟩ : ByteArray) ++ id ++ ⟨#[62, 32, 94]⟩ ++ C ++ ⟨#[32]⟩ ++ V ++ ⟨#[32]⟩) G (by simp only [cat2_size]; show 2 + id.size + 3 + C.size + 1 + V.size + 1 + G.size ≤ _; omega)
  have hpp : pref < 11 := by omega
  have hp0 : 0 ≤ pref := by omega
  by_cases hp : 8 ≤ pref
  · rw [if_pos ⟨hp, hp2⟩]
    rw [cat_assoc _ ⟨#[32]⟩ O]
    have q0 := fun w => run_string_add_sum (P := Try.prog) w (⟨#[32]⟩ : ByteArray) O (by show 1 + O.size ≤ _; omega)
    have q1 := fun w => run_string_add_sum (P := Try.prog) w ((⟨#[40, 60]⟩ : ByteArray) ++ id ++ ⟨#[62, 32, 94]⟩ ++ C ++ ⟨#[32]⟩ ++ V ++ ⟨#[32]⟩ ++ G) (⟨#[32]⟩ ++ O) (by simp only [cat2_size]; show 2 + id.size + 3 + C.size + 1 + V.size + 1 + G.size + (1 + O.size) ≤ _; omega)
    have q2 := fun w => run_string_add_sum (P := Try.prog) w ((⟨#[40, 60]⟩ : ByteArray) ++ id ++ ⟨#[62, 32, 94]⟩ ++ C ++ ⟨#[32]⟩ ++ V ++ ⟨#[32]⟩ ++ G ++ (⟨#[32]⟩ ++ O)) ⟨#[41]⟩ (by simp only [cat2_size]; show 2 + id.size + 3 + C.size + 1 + V.size + 1 + G.size + (1 + O.size) + 1 ≤ _; omega)
    go_enter Try.func41, Try.ntmps41
    go_wp2
    go_region_held3 (fun w' => w'.cell? ⟨w.heap.size, 0, none⟩ = some (.string id) ∧ w'.cell? ⟨w.heap.size, 1, none⟩ = some (.string cv) ∧ w'.cell? ⟨w.heap.size, 2, none⟩ = some (.int .i64 ck) ∧ w'.cell? ⟨w.heap.size, 3, none⟩ = some (.string ct) ∧ w'.cell? ⟨w.heap.size, 4, none⟩ = some (.int .i64 cn) ∧ w'.cell? ⟨w.heap.size, 5, none⟩ = some (.int .i64 op) ∧ w'.cell? ⟨w.heap.size, 6, none⟩ = some (.string av) ∧ w'.cell? ⟨w.heap.size, 7, none⟩ = some (.int .i64 ak) ∧ w'.cell? ⟨w.heap.size, 8, none⟩ = some (.string at_) ∧ w'.cell? ⟨w.heap.size, 9, none⟩ = some (.int .i64 an) ∧ w'.cell? ⟨w.heap.size, 10, none⟩ = some (.string bv) ∧ w'.cell? ⟨w.heap.size, 11, none⟩ = some (.int .i64 bk) ∧ w'.cell? ⟨w.heap.size, 12, none⟩ = some (.string bt) ∧ w'.cell? ⟨w.heap.size, 13, none⟩ = some (.int .i64 bn) ∧ w'.cell? ⟨w.heap.size, 14, none⟩ = some (.int .i64 pref)) (first | (have B1 := HBX.out; exact ⟨B1.at_ rfl, B1.at_ rfl, B1.at_ rfl, B1.at_ rfl, B1.at_ rfl, B1.at_ rfl, B1.at_ rfl, B1.at_ rfl, B1.at_ rfl, B1.at_ rfl, B1.at_ rfl, B1.at_ rfl, B1.at_ rfl, B1.at_ rfl, B1.at_ rfl⟩) | (have B2 := HBX.out.below (undrew b2); exact ⟨B2.at_ rfl, B2.at_ rfl, B2.at_ rfl, B2.at_ rfl, B2.at_ rfl, B2.at_ rfl, B2.at_ rfl, B2.at_ rfl, B2.at_ rfl, B2.at_ rfl, B2.at_ rfl, B2.at_ rfl, B2.at_ rfl, B2.at_ rfl, B2.at_ rfl⟩) | (have B3 := (HBX.out.below (undrew b2)).below b3; exact ⟨B3.at_ rfl, B3.at_ rfl, B3.at_ rfl, B3.at_ rfl, B3.at_ rfl, B3.at_ rfl, B3.at_ rfl, B3.at_ rfl, B3.at_ rfl, B3.at_ rfl, B3.at_ rfl, B3.at_ rfl, B3.at_ rfl, B3.at_ rfl, B3.at_ rfl⟩)) (first | (go_at_call 76; (with_reducible refine (HC.out _).mono ?_); rintro e w2 ⟨rfl, b2⟩) | (go_at_call 77; (with_reducible refine (HV.out _).mono ?_); rintro e w3 ⟨rfl, b3⟩))
    have B3 := (HBX.out.below (undrew b2)).below b3
    have B4 := B3.below ((Below.refl _ w3).alloc (Nat.le_refl _) (.cells #[.string ⟨#[]⟩, .string ⟨#[43]⟩, .string ⟨#[45]⟩, .string ⟨#[33]⟩, .string ⟨#[126]⟩, .string ⟨#[62]⟩, .string ⟨#[60]⟩, .string ⟨#[61]⟩, .string ⟨#[62]⟩, .string ⟨#[60]⟩, .string ⟨#[61]⟩] 9))
    have x14 := B4.at_ (j := 14) rfl
    have x15 := B4.at_ (j := 15) rfl
    have x16 := B4.at_ (j := 16) rfl
    have x17 := B4.at_ (j := 17) rfl
    have x18 := B4.at_ (j := 18) rfl
    clear B3 B4
    go_wp2_with (go_at_call 76; refine (HO.out _).mono ?_; rintro e w5 ⟨rfl, b5⟩)
    go_ret
    have bb := HBW.out.trans (((undrew b2).mono (by simp)).trans (b3.mono (Nat.le_trans (by simp) b2.size)))
    exact ⟨rfl, (bb.alloc bb.size _).trans (b5.mono (Nat.le_trans bb.size (by simp)))⟩
  · rw [if_neg (fun h => hp h.1)]
    have q0 := fun w => run_string_add_sum (P := Try.prog) w ((⟨#[40, 60]⟩ : ByteArray) ++ id ++ ⟨#[62, 32, 94]⟩ ++ C ++ ⟨#[32]⟩ ++ V ++ ⟨#[32]⟩ ++ G) ⟨#[41]⟩ (by simp only [cat2_size]; show 2 + id.size + 3 + C.size + 1 + V.size + 1 + G.size + 1 ≤ _; omega)
    go_enter Try.func41, Try.ntmps41
    go_wp2
    go_region_held3 (fun w' => w'.cell? ⟨w.heap.size, 0, none⟩ = some (.string id) ∧ w'.cell? ⟨w.heap.size, 1, none⟩ = some (.string cv) ∧ w'.cell? ⟨w.heap.size, 2, none⟩ = some (.int .i64 ck) ∧ w'.cell? ⟨w.heap.size, 3, none⟩ = some (.string ct) ∧ w'.cell? ⟨w.heap.size, 4, none⟩ = some (.int .i64 cn) ∧ w'.cell? ⟨w.heap.size, 5, none⟩ = some (.int .i64 op) ∧ w'.cell? ⟨w.heap.size, 6, none⟩ = some (.string av) ∧ w'.cell? ⟨w.heap.size, 7, none⟩ = some (.int .i64 ak) ∧ w'.cell? ⟨w.heap.size, 8, none⟩ = some (.string at_) ∧ w'.cell? ⟨w.heap.size, 9, none⟩ = some (.int .i64 an) ∧ w'.cell? ⟨w.heap.size, 10, none⟩ = some (.string bv) ∧ w'.cell? ⟨w.heap.size, 11, none⟩ = some (.int .i64 bk) ∧ w'.cell? ⟨w.heap.size, 12, none⟩ = some (.string bt) ∧ w'.cell? ⟨w.heap.size, 13, none⟩ = some (.int .i64 bn) ∧ w'.cell? ⟨w.heap.size, 14, none⟩ = some (.int .i64 pref)) (first | (have B1 := HBX.out; exact ⟨B1.at_ rfl, B1.at_ rfl, B1.at_ rfl, B1.at_ rfl, B1.at_ rfl, B1.at_ rfl, B1.at_ rfl, B1.at_ rfl, B1.at_ rfl, B1.at_ rfl, B1.at_ rfl, B1.at_ rfl, B1.at_ rfl, B1.at_ rfl, B1.at_ rfl⟩) | (have B2 := HBX.out.below (undrew b2); exact ⟨B2.at_ rfl, B2.at_ rfl, B2.at_ rfl, B2.at_ rfl, B2.at_ rfl, B2.at_ rfl, B2.at_ rfl, B2.at_ rfl, B2.at_ rfl, B2.at_ rfl, B2.at_ rfl, B2.at_ rfl, B2.at_ rfl, B2.at_ rfl, B2.at_ rfl⟩) | (have B3 := (HBX.out.below (undrew b2)).below b3; exact ⟨B3.at_ rfl, B3.at_ rfl, B3.at_ rfl, B3.at_ rfl, B3.at_ rfl, B3.at_ rfl, B3.at_ rfl, B3.at_ rfl, B3.at_ rfl, B3.at_ rfl, B3.at_ rfl, B3.at_ rfl, B3.at_ rfl, B3.at_ rfl, B3.at_ rfl⟩)) (first | (go_at_call 76; (with_reducible refine (HC.out _).mono ?_); rintro e w2 ⟨rfl, b2⟩) | (go_at_call 77; (with_reducible refine (HV.out _).mono ?_); rintro e w3 ⟨rfl, b3⟩))
    have B3 := (HBX.out.below (undrew b2)).below b3
    have B4 := B3.below ((Below.refl _ w3).alloc (Nat.le_refl _) (.cells #[.string ⟨#[]⟩, .string ⟨#[43]⟩, .string ⟨#[45]⟩, .string ⟨#[33]⟩, .string ⟨#[126]⟩, .string ⟨#[62]⟩, .string ⟨#[60]⟩, .string ⟨#[61]⟩, .string ⟨#[62]⟩, .string ⟨#[60]⟩, .string ⟨#[61]⟩] 9))
    have x14 := B4.at_ (j := 14) rfl
    have x15 := B4.at_ (j := 15) rfl
    have x16 := B4.at_ (j := 16) rfl
    have x17 := B4.at_ (j := 17) rfl
    have x18 := B4.at_ (j := 18) rfl
    clear B3 B4
    go_wp2
    go_ret
    have bb := HBW.out.trans (((undrew b2).mono (by simp)).trans (b3.mono (Nat.le_trans (by simp) b2.size)))
    exact ⟨rfl, bb.alloc bb.size _⟩

end Go.Proofs.Ytgeaccoobhigcaa
