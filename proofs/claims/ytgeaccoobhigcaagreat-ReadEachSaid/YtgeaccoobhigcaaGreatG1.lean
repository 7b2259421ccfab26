/-
  The bytes of a text, counted; the walks of the small functions over strings. The walks of the functions that pass over blanks, remarks and parts of a word. The walks of lex.blanks, lex.begins and lex.sign. The walks of sym's functions over the texts of words and numbers. Slices as they read in memory, appends onto a full slice, small facts on worlds. No condition of its own. A range over a function, in two pieces: the statement, and one round. Strings: equal by their bytes; one byte as a string; sizes of sums. The digits of numbers: sym.digits and ponderref04's. Symbols: their form, their text; sym's and ponderref04's. The texts of symbols: sym.Text and ponderref04.Text. The texts of atoms; the signs of tests and of preferences. The texts of terms. The texts of actions: show's.
-/
import Derived.Test.YtgeaccoobhigcaaGreatRows
import Derived.WalkKit
import Derived.WalkSpells
import Derived.WalkLawsBesides
import Derived.Lib.Hide
import Derived.Deep.DeepCutAuto
import Derived.Deep.RegionHeld3
import Derived.Deep.AppendLies
import Derived.RangeFuncNested
import Derived.RangeFuncBound
import Derived.RangeFuncCalls
import Derived.RangeFuncLeaves
import Derived.OwnWalkIn
import Derived.TacticsInMore
import Derived.LoopNIn
import Derived.LoopIn
import Derived.Below
import Derived.Laws.BytesArg
import Derived.Deep.RegionWith
import Derived.IntWalk
namespace Go.Proofs.YtgeaccoobhigcaaGreat
open Go.RowKit
abbrev Bs := List UInt8
def smallB (c : UInt8) : Bool := decide (97 ≤ c.toNat ∧ c.toNat ≤ 122)
def digitB (c : UInt8) : Bool := decide (48 ≤ c.toNat ∧ c.toNat ≤ 57)
def partB (c : UInt8) : Bool := smallB c || digitB c || decide (c.toNat = 45) || decide (c.toNat = 95)
def blankB (c : UInt8) : Bool := decide (c.toNat = 32 ∨ c.toNat = 9 ∨ c.toNat = 10 ∨ c.toNat = 13)
/-- How many bytes at the head do. -/
def headN (p : UInt8 → Bool) : Bs → Nat
  | [] => 0
  | c :: r => if p c then headN p r + 1 else 0
/-- How many bytes blanks and remarks take; true: within a remark. -/
def skipN : Bool → Bs → Nat
  | _, [] => 0
  | true, c :: r => skipN (decide (c.toNat ≠ 10)) r + 1
  | false, c :: r => if blankB c then skipN false r + 1 else if c.toNat = 35 then skipN true r + 1 else 0
/-- What stands from a place on. -/
def from_ (s : ByteArray) (i : Nat) : Bs := s.data.toList.drop i
theorem from_lt (s : ByteArray) (i : Nat) (h : i < s.size) : from_ s i = s[i] :: from_ s (i + 1) := by
  unfold from_
  rw [List.drop_eq_getElem_cons (by simpa using h)]
  rfl
theorem from_ge (s : ByteArray) (i : Nat) (h : s.size ≤ i) : from_ s i = [] := by
  unfold from_
  exact List.drop_eq_nil_of_le (by simpa using h)
theorem from_length (s : ByteArray) (i : Nat) : (from_ s i).length = s.size - i := by simp [from_]
theorem headN_le (p : UInt8 → Bool) : ∀ l : Bs, headN p l ≤ l.length
  | [] => Nat.le_refl _
  | c :: r => by unfold headN; have := headN_le p r; split <;> simp <;> omega
theorem skipN_le : ∀ (b : Bool) (l : Bs), skipN b l ≤ l.length
  | _, [] => by simp [skipN]
  | true, c :: r => by unfold skipN; have := skipN_le (decide (c.toNat ≠ 10)) r; simp only [List.length_cons]; omega
  | false, c :: r => by unfold skipN; have := skipN_le false r; have := skipN_le true r; simp only [List.length_cons]; split <;> (try split) <;> omega
theorem headN_yes {p : UInt8 → Bool} (s : ByteArray) (k : Nat) (h : k < s.size) (hp : p s[k] = true) : headN p (from_ s k) = headN p (from_ s (k + 1)) + 1 := by
  rw [from_lt s k h]; simp [headN, hp]
theorem headN_no {p : UInt8 → Bool} (s : ByteArray) (k : Nat) (h : k < s.size) (hp : p s[k] = false) : headN p (from_ s k) = 0 := by
  rw [from_lt s k h]; simp [headN, hp]
theorem headN_end {p : UInt8 → Bool} (s : ByteArray) (k : Nat) (h : s.size ≤ k) : headN p (from_ s k) = 0 := by
  rw [from_ge s k h]; rfl
theorem ret_nat {k : IntKind} {a b : Nat} (h : a = b) : Ending.returned (.int k a) = .returned (.int k b) := by rw [h]
theorem small_any (c : Nat) (w : World) : Calls Tryz.prog 93 #[.int .u8 c] w fun e w' => e = .returned (.bool (decide (97 ≤ c ∧ c ≤ 122))) ∧ w' = w := by
  have e : decide (97 ≤ c ∧ c ≤ 122) = (decide ((97 : Int) ≤ (c : Int)) && decide ((c : Int) ≤ 122)) := by
    rw [Bool.eq_iff_iff]; simp; omega
  rw [e]
  clear e
  by_cases h1 : (97 : Int) ≤ (c : Int)
  · by_cases h2 : (c : Int) ≤ 122
    all_goals
      go_enter Tryz.func93, Tryz.ntmps93
      go_wp2
      go_ret
      exact ⟨by simp [h1, h2], rfl⟩
  · go_enter Tryz.func93, Tryz.ntmps93
    go_wp2
    go_ret
    exact ⟨by simp; omega, rfl⟩
theorem digit_any (c : Nat) (w : World) : Calls Tryz.prog 95 #[.int .u8 c] w fun e w' => e = .returned (.bool (decide (48 ≤ c ∧ c ≤ 57))) ∧ w' = w := by
  have e : decide (48 ≤ c ∧ c ≤ 57) = (decide ((48 : Int) ≤ (c : Int)) && decide ((c : Int) ≤ 57)) := by
    rw [Bool.eq_iff_iff]; simp; omega
  rw [e]
  clear e
  by_cases h1 : (48 : Int) ≤ (c : Int)
  · by_cases h2 : (c : Int) ≤ 57
    all_goals
      go_enter Tryz.func95, Tryz.ntmps95
      go_wp2
      go_ret
      exact ⟨by simp [h1, h2], rfl⟩
  · go_enter Tryz.func95, Tryz.ntmps95
    go_wp2
    go_ret
    exact ⟨by simp; omega, rfl⟩
set_option maxHeartbeats 1000000 in
theorem name_any (s : ByteArray) (i : Nat) (hi : i ≤ s.size) (hs : s.size ≤ maxLen) (w : World) :
    Calls Tryz.prog 94 #[.string s, .int .i64 i] w fun e w' => e = .returned (.int .i64 ((i + headN partB (from_ s i) : Nat) : Int)) ∧ w' = w := by
  unfold maxLen at hs
  go_enter Tryz.func94, Tryz.ntmps94
  go_wp2
  go_loop [1] (fun t => ∃ k : Nat, k ≤ s.size ∧ Hid (k + headN partB (from_ s k) = i + headN partB (from_ s i)) ∧ t = .int .i64 k) (fun t => s.size - (intOf t).toNat)
  case atStart => exact ⟨i, hi, Lib.hid rfl, rfl⟩
  case round =>
    obtain ⟨k, hk, HK, rfl⟩ := hrel
    by_cases hlt : k < s.size
    · by_cases h1 : 97 ≤ s[k].toNat ∧ s[k].toNat ≤ 122
      · have e1 := decide_eq_true h1
        have HY := Lib.hid (headN_yes (p := partB) s k hlt (by simp [partB, smallB, h1]))
        clear h1
        go_wp2_with (go_at_call 93; refine (small_any _ _).mono ?_; rintro e w' ⟨rfl, rfl⟩)
        go_round
        case rel => exact ⟨k + 1, by omega, Lib.hid (by have := HK.out; have := HY.out; omega), by go_num⟩
        case measure => simp [intOf]; omega
      · have e1 := decide_eq_false h1
        by_cases h2 : 48 ≤ s[k].toNat ∧ s[k].toNat ≤ 57
        · have e2 := decide_eq_true h2
          have HY := Lib.hid (headN_yes (p := partB) s k hlt (by simp [partB, digitB, h2]))
          clear h1 h2
          go_wp2_with (first | (go_at_call 93; refine (small_any _ _).mono ?_; rintro e w' ⟨rfl, rfl⟩) | (go_at_call 95; refine (digit_any _ _).mono ?_; rintro e w' ⟨rfl, rfl⟩))
          go_round
          case rel => exact ⟨k + 1, by omega, Lib.hid (by have := HK.out; have := HY.out; omega), by go_num⟩
          case measure => simp [intOf]; omega
        · have e2 := decide_eq_false h2
          by_cases h3 : s[k].toNat = 45
          · have HY := Lib.hid (headN_yes (p := partB) s k hlt (by simp [partB, h3]))
            have e3 : ((s[k].toNat : Int) == 45) = true := by simp; omega
            clear h1 h2 h3
            go_wp2_with (first | (go_at_call 93; refine (small_any _ _).mono ?_; rintro e w' ⟨rfl, rfl⟩) | (go_at_call 95; refine (digit_any _ _).mono ?_; rintro e w' ⟨rfl, rfl⟩))
            go_round
            case rel => exact ⟨k + 1, by omega, Lib.hid (by have := HK.out; have := HY.out; omega), by go_num⟩
            case measure => simp [intOf]; omega
          · have e3 : ((s[k].toNat : Int) == 45) = false := by simp; omega
            by_cases h4 : s[k].toNat = 95
            · have HY := Lib.hid (headN_yes (p := partB) s k hlt (by simp [partB, h4]))
              have e4 : ((s[k].toNat : Int) == 95) = true := by simp; omega
              clear h1 h2 h3 h4
              go_wp2_with (first | (go_at_call 93; refine (small_any _ _).mono ?_; rintro e w' ⟨rfl, rfl⟩) | (go_at_call 95; refine (digit_any _ _).mono ?_; rintro e w' ⟨rfl, rfl⟩))
              go_round
              case rel => exact ⟨k + 1, by omega, Lib.hid (by have := HK.out; have := HY.out; omega), by go_num⟩
              case measure => simp [intOf]; omega
            · have e4 : ((s[k].toNat : Int) == 95) = false := by simp; omega
              have HY := Lib.hid (headN_no (p := partB) s k hlt (by simp [partB, smallB, digitB, h1, h2, h3, h4]))
              clear h1 h2 h3 h4
              go_wp2_with (first | (go_at_call 93; refine (small_any _ _).mono ?_; rintro e w' ⟨rfl, rfl⟩) | (go_at_call 95; refine (digit_any _ _).mono ?_; rintro e w' ⟨rfl, rfl⟩))
              go_ret
              exact ⟨ret_nat (by have := HK.out; have := HY.out; omega), rfl⟩
    · have HY := Lib.hid (headN_end (p := partB) s k (by omega))
      go_wp2
      go_ret
      exact ⟨ret_nat (by have := HK.out; have := HY.out; omega), rfl⟩
end Go.Proofs.YtgeaccoobhigcaaGreat
namespace Go.Proofs.YtgeaccoobhigcaaGreat
open Go.RowKit
theorem skip_blank (s : ByteArray) (k : Nat) (h : k < s.size) (hp : blankB s[k] = true) : skipN false (from_ s k) = skipN false (from_ s (k + 1)) + 1 := by
  rw [from_lt s k h]; simp [skipN, hp]
theorem skip_mark (s : ByteArray) (k : Nat) (h : k < s.size) (hp : s[k].toNat = 35) : skipN false (from_ s k) = skipN true (from_ s k) := by
  rw [from_lt s k h]; simp [skipN, hp, blankB]
theorem skip_stop (s : ByteArray) (k : Nat) (h : k < s.size) (hb : blankB s[k] = false) (hp : s[k].toNat ≠ 35) : skipN false (from_ s k) = 0 := by
  rw [from_lt s k h]; simp [skipN, hp, hb]
theorem skip_end (b : Bool) (s : ByteArray) (k : Nat) (h : s.size ≤ k) : skipN b (from_ s k) = 0 := by
  rw [from_ge s k h]; simp [skipN]
theorem skip_in (s : ByteArray) (k : Nat) (h : k < s.size) (hp : s[k].toNat ≠ 10) : skipN true (from_ s k) = skipN true (from_ s (k + 1)) + 1 := by
  rw [from_lt s k h]; simp [skipN, hp]
theorem skip_out (s : ByteArray) (k : Nat) (h : k < s.size) (hp : s[k].toNat = 10) : skipN true (from_ s k) = skipN false (from_ s k) := by
  rw [from_lt s k h]; simp [skipN, hp, blankB]
set_option maxHeartbeats 1000000 in
theorem part_any (c : UInt8) (w : World) : Calls Tryz.prog 68 #[.int .u8 c.toNat] w fun e w' => e = .returned (.bool (partB c)) ∧ w' = w := by
  have e : partB c = ((decide ((97 : Int) ≤ (c.toNat : Int)) && decide ((c.toNat : Int) ≤ 122)) || (decide ((48 : Int) ≤ (c.toNat : Int)) && decide ((c.toNat : Int) ≤ 57)) || ((c.toNat : Int) == 45) || ((c.toNat : Int) == 95)) := by
    rw [Bool.eq_iff_iff]; simp [partB, smallB, digitB]; omega
  rw [e]
  clear e
  generalize (c.toNat : Int) = n
  have h5 : ((n == 45) = true) ∨ ((n == 45) = false) := by cases (n == 45) <;> simp
  have h6 : ((n == 95) = true) ∨ ((n == 95) = false) := by cases (n == 95) <;> simp
  by_cases h1 : (97 : Int) ≤ n <;> by_cases h2 : n ≤ (122 : Int) <;> by_cases h3 : (48 : Int) ≤ n <;> by_cases h4 : n ≤ (57 : Int) <;> rcases h5 with h5 | h5 <;> rcases h6 with h6 | h6
  all_goals first | (exfalso; simp at h5 h6; omega) | skip
  all_goals
    first | rw [decide_eq_true h1] | rw [decide_eq_false h1]
    first | rw [decide_eq_true h2] | rw [decide_eq_false h2]
    first | rw [decide_eq_true h3] | rw [decide_eq_false h3]
    first | rw [decide_eq_true h4] | rw [decide_eq_false h4]
    rw [h5, h6]
    go_enter Tryz.func68, Tryz.ntmps68
    go_wp2
    go_ret
    exact ⟨rfl, rfl⟩
set_option maxHeartbeats 1000000 in
theorem parts_any (s : ByteArray) (i : Nat) (hi : i ≤ s.size) (hs : s.size ≤ maxLen) (w : World) :
    Calls Tryz.prog 62 #[.string s, .int .i64 i] w fun e w' => e = .returned (.int .i64 ((i + headN partB (from_ s i) : Nat) : Int)) ∧ w' = w := by
  unfold maxLen at hs
  go_enter Tryz.func62, Tryz.ntmps62
  go_wp2
  go_loop [1] (fun t => ∃ k : Nat, k ≤ s.size ∧ Hid (k + headN partB (from_ s k) = i + headN partB (from_ s i)) ∧ t = .int .i64 k) (fun t => s.size - (intOf t).toNat)
  case atStart => exact ⟨i, hi, Lib.hid rfl, rfl⟩
  case round =>
    obtain ⟨k, hk, HK, rfl⟩ := hrel
    by_cases hlt : k < s.size
    · rcases hp : partB s[k] with _ | _
      · have HY := Lib.hid (headN_no (p := partB) s k hlt hp)
        go_wp2_with (go_at_call 68; refine (part_any _ _).mono ?_; rintro e w' ⟨rfl, rfl⟩)
        go_ret
        exact ⟨ret_nat (by have := HK.out; have := HY.out; omega), rfl⟩
      · have HY := Lib.hid (headN_yes (p := partB) s k hlt hp)
        go_wp2_with (go_at_call 68; refine (part_any _ _).mono ?_; rintro e w' ⟨rfl, rfl⟩)
        go_round
        case rel => exact ⟨k + 1, by omega, Lib.hid (by have := HK.out; have := HY.out; omega), by go_num⟩
        case measure => simp [intOf]; omega
    · have HY := Lib.hid (headN_end (p := partB) s k (by omega))
      go_wp2
      go_ret
      exact ⟨ret_nat (by have := HK.out; have := HY.out; omega), rfl⟩
theorem rsmall_any (c : Nat) (w : World) : Calls Tryz.prog 61 #[.int .u8 c] w fun e w' => e = .returned (.bool (decide (97 ≤ c ∧ c ≤ 122))) ∧ w' = w := by
  have e : decide (97 ≤ c ∧ c ≤ 122) = (decide ((97 : Int) ≤ (c : Int)) && decide ((c : Int) ≤ 122)) := by
    rw [Bool.eq_iff_iff]; simp; omega
  rw [e]
  clear e
  by_cases h1 : (97 : Int) ≤ (c : Int)
  · by_cases h2 : (c : Int) ≤ 122
    all_goals
      go_enter Tryz.func61, Tryz.ntmps61
      go_wp2
      go_ret
      exact ⟨by simp [h1, h2], rfl⟩
  · go_enter Tryz.func61, Tryz.ntmps61
    go_wp2
    go_ret
    exact ⟨by simp; omega, rfl⟩
theorem rdigit_any (c : Nat) (w : World) : Calls Tryz.prog 64 #[.int .u8 c] w fun e w' => e = .returned (.bool (decide (48 ≤ c ∧ c ≤ 57))) ∧ w' = w := by
  have e : decide (48 ≤ c ∧ c ≤ 57) = (decide ((48 : Int) ≤ (c : Int)) && decide ((c : Int) ≤ 57)) := by
    rw [Bool.eq_iff_iff]; simp; omega
  rw [e]
  clear e
  by_cases h1 : (48 : Int) ≤ (c : Int)
  · by_cases h2 : (c : Int) ≤ 57
    all_goals
      go_enter Tryz.func64, Tryz.ntmps64
      go_wp2
      go_ret
      exact ⟨by simp [h1, h2], rfl⟩
  · go_enter Tryz.func64, Tryz.ntmps64
    go_wp2
    go_ret
    exact ⟨by simp; omega, rfl⟩
set_option maxHeartbeats 1000000 in
theorem blank_any (c : UInt8) (w : World) : Calls Tryz.prog 60 #[.int .u8 c.toNat] w fun e w' => e = .returned (.bool (blankB c)) ∧ w' = w := by
  have e : blankB c = (((c.toNat : Int) == 32) || ((c.toNat : Int) == 9) || ((c.toNat : Int) == 10) || ((c.toNat : Int) == 13)) := by
    rw [Bool.eq_iff_iff]; simp [blankB]; omega
  rw [e]
  clear e
  generalize (c.toNat : Int) = n
  rcases h1 : (n == 32) with _ | _ <;> rcases h2 : (n == 9) with _ | _ <;> rcases h3 : (n == 10) with _ | _ <;> rcases h4 : (n == 13) with _ | _
  all_goals first | (exfalso; simp at h1 h2 h3 h4; omega) | skip
  all_goals
    go_enter Tryz.func60, Tryz.ntmps60
    go_wp2
    go_ret
    exact ⟨rfl, rfl⟩
set_option maxHeartbeats 1000000 in
theorem skip_any (s : ByteArray) (i : Nat) (hi : i ≤ s.size) (hs : s.size ≤ maxLen) (w : World) :
    Calls Tryz.prog 36 #[.string s, .int .i64 i] w fun e w' => e = .returned (.int .i64 ((i + skipN false (from_ s i) : Nat) : Int)) ∧ w' = w := by
  unfold maxLen at hs
  go_enter Tryz.func36, Tryz.ntmps36
  go_wp2
  go_loop [1] (fun t => ∃ k : Nat, k ≤ s.size ∧ Hid (k + skipN false (from_ s k) = i + skipN false (from_ s i)) ∧ t = .int .i64 k) (fun t => s.size - (intOf t).toNat)
  case atStart => exact ⟨i, hi, Lib.hid rfl, rfl⟩
  case round =>
    obtain ⟨k, hk, HK, rfl⟩ := hrel
    by_cases hlt : k < s.size
    · rcases hp : blankB s[k] with _ | _
      · by_cases h35 : s[k].toNat = 35
        · have HY := Lib.hid (skip_mark s k hlt h35)
          have e35 : ((s[k].toNat : Int) == 35) = true := by simp; omega
          have HN := Lib.hid h35
          clear h35
          go_wp2_with (go_at_call 60; refine (blank_any _ _).mono ?_; rintro e w' ⟨rfl, rfl⟩)
          go_loop [1] (fun t => ∃ m : Nat, k ≤ m ∧ m ≤ s.size ∧ Hid (m + skipN true (from_ s m) = i + skipN false (from_ s i)) ∧ t = .int .i64 m) (fun t => s.size - (intOf t).toNat)
          case atStart => exact ⟨k, Nat.le_refl _, hk, Lib.hid (by have := HK.out; have := HY.out; omega), rfl⟩
          case round =>
            obtain ⟨m, hkm, hm, HM, rfl⟩ := hrel
            by_cases hml : m < s.size
            · by_cases h10 : s[m].toNat = 10
              · have e10 : ((s[m].toNat : Int) != 10) = false := by simp; omega
                have hne : k < m := by
                  rcases Nat.lt_or_ge k m with h | h
                  · exact h
                  · have : k = m := by omega
                    subst this
                    have := HN.out
                    omega
                have HZ := Lib.hid (skip_out s m hml h10)
                clear h10
                go_wp2
                go_round
                case rel => exact ⟨m, by omega, Lib.hid (by have := HM.out; have := HZ.out; omega), rfl⟩
                case measure => simp [intOf]; omega
              · have e10 : ((s[m].toNat : Int) != 10) = true := by simp; omega
                have HZ := Lib.hid (skip_in s m hml h10)
                clear h10
                go_wp2
                go_round
                case rel => exact ⟨m + 1, by omega, by omega, Lib.hid (by have := HM.out; have := HZ.out; omega), by go_num⟩
                case measure => simp [intOf]; omega
            · have HZ := Lib.hid (skip_end true s m (by omega))
              have HZ' := Lib.hid (skip_end false s m (by omega))
              go_wp2
              go_round
              case rel => exact ⟨m, by omega, Lib.hid (by have := HM.out; have := HZ.out; have := HZ'.out; omega), rfl⟩
              case measure => simp [intOf]; omega
        · have HY := Lib.hid (skip_stop s k hlt hp h35)
          have e35 : ((s[k].toNat : Int) == 35) = false := by simp; omega
          clear h35
          go_wp2_with (go_at_call 60; refine (blank_any _ _).mono ?_; rintro e w' ⟨rfl, rfl⟩)
          go_ret
          exact ⟨ret_nat (by have := HK.out; have := HY.out; omega), rfl⟩
      · have HY := Lib.hid (skip_blank s k hlt hp)
        go_wp2_with (go_at_call 60; refine (blank_any _ _).mono ?_; rintro e w' ⟨rfl, rfl⟩)
        go_round
        case rel => exact ⟨k + 1, by omega, Lib.hid (by have := HK.out; have := HY.out; omega), by go_num⟩
        case measure => simp [intOf]; omega
    · have HY := Lib.hid (skip_end false s k (by omega))
      go_wp2
      go_ret
      exact ⟨ret_nat (by have := HK.out; have := HY.out; omega), rfl⟩
end Go.Proofs.YtgeaccoobhigcaaGreat
namespace Go.Proofs.YtgeaccoobhigcaaGreat
open Go.RowKit
set_option maxHeartbeats 2000000 in
theorem blanks_any (s : ByteArray) (i : Nat) (hi : i ≤ s.size) (hs : s.size ≤ maxLen) (w : World) :
    Calls Tryz.prog 73 #[.string s, .int .i64 i] w fun e w' => e = .returned (.int .i64 ((i + skipN false (from_ s i) : Nat) : Int)) ∧ w' = w := by
  unfold maxLen at hs
  go_enter Tryz.func73, Tryz.ntmps73
  go_wp2
  go_loop [1] (fun t => ∃ k : Nat, k ≤ s.size ∧ Hid (k + skipN false (from_ s k) = i + skipN false (from_ s i)) ∧ t = .int .i64 k) (fun t => s.size - (intOf t).toNat)
  case atStart => exact ⟨i, hi, Lib.hid rfl, rfl⟩
  case round =>
    obtain ⟨k, hk, HK, rfl⟩ := hrel
    by_cases hlt : k < s.size
    · rcases hp : blankB s[k] with _ | _
      · have hp' := hp
        simp only [blankB, decide_eq_false_iff_not, not_or] at hp'
        have b1 : ((s[k].toNat : Int) == 32) = false := by simp; omega
        have b2 : ((s[k].toNat : Int) == 9) = false := by simp; omega
        have b3 : ((s[k].toNat : Int) == 10) = false := by simp; omega
        have b4 : ((s[k].toNat : Int) == 13) = false := by simp; omega
        clear hp'
        by_cases h35 : s[k].toNat = 35
        · have HY := Lib.hid (skip_mark s k hlt h35)
          have e35 : ((s[k].toNat : Int) == 35) = true := by simp; omega
          have HN := Lib.hid h35
          clear h35
          go_wp2
          go_loop [1] (fun t => ∃ m : Nat, k ≤ m ∧ m ≤ s.size ∧ Hid (m + skipN true (from_ s m) = i + skipN false (from_ s i)) ∧ t = .int .i64 m) (fun t => s.size - (intOf t).toNat)
          case atStart => exact ⟨k, Nat.le_refl _, hk, Lib.hid (by have := HK.out; have := HY.out; omega), rfl⟩
          case round =>
            obtain ⟨m, hkm, hm, HM, rfl⟩ := hrel
            by_cases hml : m < s.size
            · by_cases h10 : s[m].toNat = 10
              · have e10 : ((s[m].toNat : Int) != 10) = false := by simp; omega
                have hne : k < m := by
                  rcases Nat.lt_or_ge k m with h | h
                  · exact h
                  · have : k = m := by omega
                    subst this
                    have := HN.out
                    omega
                have HZ := Lib.hid (skip_out s m hml h10)
                clear h10
                go_wp2
                go_round
                case rel => exact ⟨m, by omega, Lib.hid (by have := HM.out; have := HZ.out; omega), rfl⟩
                case measure => simp [intOf]; omega
              · have e10 : ((s[m].toNat : Int) != 10) = true := by simp; omega
                have HZ := Lib.hid (skip_in s m hml h10)
                clear h10
                go_wp2
                go_round
                case rel => exact ⟨m + 1, by omega, by omega, Lib.hid (by have := HM.out; have := HZ.out; omega), by go_num⟩
                case measure => simp [intOf]; omega
            · have HZ := Lib.hid (skip_end true s m (by omega))
              have HZ' := Lib.hid (skip_end false s m (by omega))
              go_wp2
              go_round
              case rel => exact ⟨m, by omega, Lib.hid (by have := HM.out; have := HZ.out; have := HZ'.out; omega), rfl⟩
              case measure => simp [intOf]; omega
        · have HY := Lib.hid (skip_stop s k hlt hp h35)
          have e35 : ((s[k].toNat : Int) == 35) = false := by simp; omega
          clear h35
          go_wp2
          go_ret
          exact ⟨ret_nat (by have := HK.out; have := HY.out; omega), rfl⟩
      · have HY := Lib.hid (skip_blank s k hlt hp)
        have hp' := hp
        simp only [blankB, decide_eq_true_iff] at hp'
        have b1 : ((s[k].toNat : Int) == 32) = true ∨ (((s[k].toNat : Int) == 32) = false ∧ ((s[k].toNat : Int) == 9) = true) ∨ (((s[k].toNat : Int) == 32) = false ∧ ((s[k].toNat : Int) == 9) = false ∧ ((s[k].toNat : Int) == 10) = true) ∨
          (((s[k].toNat : Int) == 32) = false ∧ ((s[k].toNat : Int) == 9) = false ∧ ((s[k].toNat : Int) == 10) = false ∧ ((s[k].toNat : Int) == 13) = true) := by simp; omega
        clear hp' hp
        rcases b1 with b1 | ⟨b1, b2⟩ | ⟨b1, b2, b3⟩ | ⟨b1, b2, b3, b4⟩
        all_goals
          go_wp2
          go_round
          case rel => exact ⟨k + 1, by omega, Lib.hid (by have := HK.out; have := HY.out; omega), by go_num⟩
          case measure => simp [intOf]; omega
    · have HY := Lib.hid (skip_end false s k (by omega))
      go_wp2
      go_ret
      exact ⟨ret_nat (by have := HK.out; have := HY.out; omega), rfl⟩
/-- Does a piece stand at the head? -/
def headB (x l : Bs) : Bool := x.isPrefixOf l
theorem ext_toList (s : ByteArray) (i j : Nat) : (s.extract i j).toList = (from_ s i).take (j - i) := by
  rw [ByteArray.toList_eq]
  simp [from_, List.take_drop, ByteArray.data_extract]
theorem headB_of_ext (s x : ByteArray) (i : Nat) : ((s.extract i (i + x.size)).toList == x.toList) = headB x.data.toList (from_ s i) := by
  rw [ext_toList, ByteArray.toList_eq, Bool.eq_iff_iff]
  simp only [headB, beq_iff_eq, List.isPrefixOf_iff_prefix]
  rw [List.prefix_iff_eq_take]
  have : x.data.toList.length = i + x.size - i := by simp
  rw [this]
  exact eq_comm
theorem headB_short (s x : ByteArray) (i : Nat) (h : s.size < i + x.size) (hi : i ≤ s.size) : headB x.data.toList (from_ s i) = false := by
  rw [Bool.eq_false_iff]
  intro hh
  have := (List.isPrefixOf_iff_prefix.1 hh).length_le
  rw [from_length] at this
  simp at this
  omega
theorem begins_any (s x : ByteArray) (i : Nat) (hi : i ≤ s.size) (hs : s.size ≤ 1099511627776) (hx : x.size ≤ 100) (w : World) :
    Calls Tryz.prog 112 #[.string s, .int .i64 i, .string x] w fun e w' => e = .returned (.bool (headB x.data.toList (from_ s i))) ∧ w' = w := by
  by_cases h : i + x.size ≤ s.size
  · rw [← headB_of_ext s x i]
    have hc : ((i : Int) + (x.size : Int)).toNat = i + x.size := by omega
    go_enter Tryz.func112, Tryz.ntmps112
    go_wp2
    go_ret
    exact ⟨rfl, rfl⟩
  · rw [headB_short s x i (by omega) hi]
    go_enter Tryz.func112, Tryz.ntmps112
    go_wp2
    go_ret
    exact ⟨rfl, rfl⟩
/-- The signs, the longest first. -/
def signs : List Bs := [[45, 45, 62], [60, 61, 62], [60, 60], [62, 62], [60, 62], [60, 61], [62, 61], [40], [41], [123], [125], [94], [43], [45], [33], [126], [60], [62], [61], [42]]
/-- The first of these that stands at the head; empty: none does. -/
def firstAt (l : Bs) : List Bs → Bs
  | [] => []
  | x :: r => if headB x l then x else firstAt l r
def signT (l : Bs) : Bs := firstAt l signs
def strV (l : Bs) : Value := .string ⟨l.toArray⟩
theorem firstAt_drop_no (l : Bs) (k : Nat) (hk : k < signs.length) (h : headB signs[k] l = false) : firstAt l (signs.drop k) = firstAt l (signs.drop (k + 1)) := by
  rw [List.drop_eq_getElem_cons hk]; simp [firstAt, h]
theorem firstAt_drop_yes (l : Bs) (k : Nat) (hk : k < signs.length) (h : headB signs[k] l = true) : firstAt l (signs.drop k) = signs[k] := by
  rw [List.drop_eq_getElem_cons hk]; simp [firstAt, h]
theorem signs_size (k : Nat) (hk : k < signs.length) : signs[k].length ≤ 100 := by
  have : ∀ x ∈ signs, x.length ≤ 100 := by decide
  exact this _ (List.getElem_mem hk)
theorem signs_len : signs.length = 20 := rfl
def SV : Value := .agg (signs.map strV).toArray
theorem und153 : Tryz.prog.underlying 131 = some (.array 20 9) := by kernel_rfl
theorem run_index_signs (k : Nat) (hk : k < signs.length) (w : World) : (Instr.index 131 SV (.int .i64 (k:Int))).run Tryz.prog w = .ok (strV (signs[k])) w := by
  have hk' : k < 20 := hk
  have h1 : (0 : Int) ≤ (k : Int) ∧ (k : Int) < 20 := by omega
  simp [Instr.index, SV, run_underlying und153, asIntOf, h1, go_sem, hk', List.getElem?_eq_getElem hk]
set_option maxHeartbeats 1000000 in
theorem sign_any (s : ByteArray) (i : Nat) (hi : i ≤ s.size) (hs : s.size ≤ 1099511627776) (w : World) :
    Calls Tryz.prog 97 #[.string s, .int .i64 i] w fun e w' => e = .returned (strV (signT (from_ s i))) ∧ w' = w := by
  go_enter Tryz.func97, Tryz.ntmps97
  go_upto_region 1 with fail
  go_cut [7, 8] (fun a b wx => a = SV ∧ b = .int .i64 0 ∧ wx = w)
  case first =>
    go_wp2_with fail
    go_meet
    exact ⟨rfl, rfl, rfl⟩
  obtain ⟨rfl, rfl, rfl⟩ := hcut
  go_wp2
  go_loop [8] (fun t => ∃ k : Nat, k ≤ 20 ∧ Hid (signT (from_ s i) = firstAt (from_ s i) (signs.drop k)) ∧ t = .int .i64 k) (fun t => 20 - (intOf t).toNat)
  case atStart => exact ⟨0, by omega, Lib.hid rfl, rfl⟩
  case round =>
    obtain ⟨k, hk, HK, rfl⟩ := hrel
    by_cases hlt : k < signs.length
    · have hlt' : k < 20 := hlt
      have hix := run_index_signs k hlt
      have hsz := signs_size k hlt
      have HN := Lib.hid (firstAt_drop_no (from_ s i) k hlt)
      have HY := Lib.hid (firstAt_drop_yes (from_ s i) k hlt)
      generalize signs[k] = x at hix hsz HN HY
      rw [strV] at hix
      have hb : headB x (from_ s i) = headB (ByteArray.mk x.toArray).data.toList (from_ s i) := by simp
      rw [hb] at HN HY
      have hc := begins_any s ⟨x.toArray⟩ i hi hs hsz
      clear hb
      rcases hb : headB (ByteArray.mk x.toArray).data.toList (from_ s i) with _ | _
      · rw [hb] at hc HN
        clear hb
        have HC := Lib.hid hc
        clear hc
        have HN' := Lib.hid (HN.out rfl)
        generalize hX : ByteArray.mk x.toArray = X at hix HC
        clear hX hsz HN HY
        go_wp2_with (go_at_call 112; refine (HC.out _).mono ?_; rintro e w' ⟨rfl, rfl⟩)
        go_round
        case rel => exact ⟨k + 1, by omega, Lib.hid (by rw [HK.out, HN'.out]), by go_num⟩
        case measure => simp [intOf]; omega
      · rw [hb] at hc HY
        clear hb
        have HC := Lib.hid hc
        clear hc
        have HY' := Lib.hid (HY.out rfl)
        generalize hX : ByteArray.mk x.toArray = X at hix HC
        have HX := Lib.hid hX
        clear hX hsz HN HY
        go_wp2_with (go_at_call 112; refine (HC.out _).mono ?_; rintro e w' ⟨rfl, rfl⟩)
        go_ret
        exact ⟨by rw [HK.out, HY'.out, strV, HX.out]; rfl, rfl⟩
    · have hnlt : ¬ k < 20 := hlt
      have HZ := Lib.hid (show signs.drop k = [] from List.drop_eq_nil_of_le (by rw [signs_len] at hlt ⊢; omega))
      go_wp2
      go_ret
      exact ⟨by rw [HK.out, HZ.out]; rfl, rfl⟩
end Go.Proofs.YtgeaccoobhigcaaGreat
namespace Go.Proofs.YtgeaccoobhigcaaGreat
open Go.RowKit
def valN : Nat → Bs → Nat
  | n, [] => n
  | n, c :: r => valN (10 * n + (c.toNat - 48)) r
def headIs (n : Nat) : Bs → Bool
  | [] => false
  | c :: _ => decide (c.toNat = n)
def headSmall : Bs → Bool
  | [] => false
  | c :: _ => smallB c
/-- A number's digits, shortest, at most 'most'. -/
def numOk (most : Nat) (l : Bs) : Bool := decide (1 ≤ l.length) && decide (l.length ≤ 10) && !(headIs 48 l && decide (1 < l.length)) && l.all digitB && decide (valN 0 l ≤ most)
/-- A word. -/
def wordB (l : Bs) : Bool := decide (1 ≤ l.length) && decide (l.length ≤ 32) && headSmall l && l.all partB
theorem from_zero (s : ByteArray) : from_ s 0 = s.data.toList := by simp [from_]
theorem size_toList (s : ByteArray) : s.data.toList.length = s.size := by simp
theorem toList_cons (s : ByteArray) (h : 0 < s.size) : s.data.toList = s[0] :: from_ s 1 := by rw [← from_zero, from_lt s 0 h]
theorem all_yes {p : UInt8 → Bool} (s : ByteArray) (k : Nat) (h : k < s.size) (hp : p s[k] = true) : (from_ s k).all p = (from_ s (k + 1)).all p := by
  rw [from_lt s k h]; simp [hp]
theorem all_no {p : UInt8 → Bool} (s : ByteArray) (k : Nat) (h : k < s.size) (hp : p s[k] = false) : (from_ s k).all p = false := by
  rw [from_lt s k h]; simp [hp]
theorem all_end {p : UInt8 → Bool} (s : ByteArray) (k : Nat) (h : s.size ≤ k) : (from_ s k).all p = true := by
  rw [from_ge s k h]; rfl
theorem ssmall_any (c : Nat) (w : World) : Calls Tryz.prog 79 #[.int .u8 c] w fun e w' => e = .returned (.bool (decide (97 ≤ c ∧ c ≤ 122))) ∧ w' = w := by
  have e : decide (97 ≤ c ∧ c ≤ 122) = (decide ((97 : Int) ≤ (c : Int)) && decide ((c : Int) ≤ 122)) := by
    rw [Bool.eq_iff_iff]; simp; omega
  rw [e]
  clear e
  by_cases h1 : (97 : Int) ≤ (c : Int)
  · by_cases h2 : (c : Int) ≤ 122
    all_goals
      go_enter Tryz.func79, Tryz.ntmps79
      go_wp2
      go_ret
      exact ⟨by simp [h1, h2], rfl⟩
  · go_enter Tryz.func79, Tryz.ntmps79
    go_wp2
    go_ret
    exact ⟨by simp; omega, rfl⟩
theorem sdigit_any (c : Nat) (w : World) : Calls Tryz.prog 80 #[.int .u8 c] w fun e w' => e = .returned (.bool (decide (48 ≤ c ∧ c ≤ 57))) ∧ w' = w := by
  have e : decide (48 ≤ c ∧ c ≤ 57) = (decide ((48 : Int) ≤ (c : Int)) && decide ((c : Int) ≤ 57)) := by
    rw [Bool.eq_iff_iff]; simp; omega
  rw [e]
  clear e
  by_cases h1 : (48 : Int) ≤ (c : Int)
  · by_cases h2 : (c : Int) ≤ 57
    all_goals
      go_enter Tryz.func80, Tryz.ntmps80
      go_wp2
      go_ret
      exact ⟨by simp [h1, h2], rfl⟩
  · go_enter Tryz.func80, Tryz.ntmps80
    go_wp2
    go_ret
    exact ⟨by simp; omega, rfl⟩
theorem great_any (c : Nat) (w : World) : Calls Tryz.prog 110 #[.int .u8 c] w fun e w' => e = .returned (.bool (decide (65 ≤ c ∧ c ≤ 90))) ∧ w' = w := by
  have e : decide (65 ≤ c ∧ c ≤ 90) = (decide ((65 : Int) ≤ (c : Int)) && decide ((c : Int) ≤ 90)) := by
    rw [Bool.eq_iff_iff]; simp; omega
  rw [e]
  clear e
  by_cases h1 : (65 : Int) ≤ (c : Int)
  · by_cases h2 : (c : Int) ≤ 90
    all_goals
      go_enter Tryz.func110, Tryz.ntmps110
      go_wp2
      go_ret
      exact ⟨by simp [h1, h2], rfl⟩
  · go_enter Tryz.func110, Tryz.ntmps110
    go_wp2
    go_ret
    exact ⟨by simp; omega, rfl⟩
theorem wordB_no1 (s : ByteArray) (h : ¬ (1 ≤ s.size ∧ s.size ≤ 32)) : wordB s.data.toList = false := by
  unfold wordB
  rw [size_toList]
  by_cases h1 : 1 ≤ s.size
  · have : ¬ s.size ≤ 32 := fun h2 => h ⟨h1, h2⟩
    simp [this]
  · simp [h1]
theorem wordB_no2 (s : ByteArray) (h1 : 0 < s.size) (h : smallB s[0] = false) : wordB s.data.toList = false := by
  unfold wordB
  rw [toList_cons s h1]
  simp [headSmall, h]
theorem wordB_yes (s : ByteArray) (h1 : 0 < s.size) (h2 : s.size ≤ 32) (h : smallB s[0] = true) : wordB s.data.toList = (from_ s 1).all partB := by
  unfold wordB
  rw [size_toList, toList_cons s h1]
  have hp : partB s[0] = true := by simp [partB, h]
  simp [headSmall, h, h2, hp]
  omega
theorem ret_bool {a b : Bool} (h : a = b) : Ending.returned (.bool a) = .returned (.bool b) := by rw [h]
set_option maxHeartbeats 1000000 in
theorem word_any (s : ByteArray) (hs : s.size ≤ 9223372036854775807) (w : World) :
    Calls Tryz.prog 54 #[.string s] w fun e w' => e = .returned (.bool (wordB s.data.toList)) ∧ w' = w := by
  by_cases h0 : 1 ≤ s.size ∧ s.size ≤ 32
  · obtain ⟨h1, h2⟩ := h0
    have h1' : 0 < s.size := h1
    rcases hsm : smallB s[0] with _ | _
    · rw [wordB_no2 s h1' hsm]
      unfold smallB at hsm
      go_enter Tryz.func54, Tryz.ntmps54
      go_wp2_with (go_at_call 79; refine (ssmall_any _ _).mono ?_; rintro e w' ⟨rfl, rfl⟩)
      go_ret
      exact ⟨rfl, rfl⟩
    · have HW := Lib.hid (wordB_yes s h1' h2 hsm)
      unfold smallB at hsm
      go_enter Tryz.func54, Tryz.ntmps54
      go_wp2_with (go_at_call 79; refine (ssmall_any _ _).mono ?_; rintro e w' ⟨rfl, rfl⟩)
      clear hsm
      go_loop [3] (fun t => ∃ k : Nat, 1 ≤ k ∧ k ≤ s.size ∧ Hid ((from_ s 1).all partB = (from_ s k).all partB) ∧ t = .int .i64 k) (fun t => s.size - (intOf t).toNat)
      case atStart => exact ⟨1, by omega, h1, Lib.hid rfl, rfl⟩
      case round =>
        obtain ⟨k, hk1, hk, HK, rfl⟩ := hrel
        by_cases hlt : k < s.size
        · by_cases a1 : 97 ≤ s[k].toNat ∧ s[k].toNat ≤ 122
          · have e1 := decide_eq_true a1
            have HY := Lib.hid (all_yes (p := partB) s k hlt (by simp [partB, smallB, a1]))
            clear a1
            go_wp2_with (first | (go_at_call 79; refine (ssmall_any _ _).mono ?_; rintro e w' ⟨rfl, rfl⟩) | (go_at_call 80; refine (sdigit_any _ _).mono ?_; rintro e w' ⟨rfl, rfl⟩))
            go_round
            case rel => exact ⟨k + 1, by omega, by omega, Lib.hid (by rw [HK.out, HY.out]), by go_num⟩
            case measure => simp [intOf]; omega
          · have e1 := decide_eq_false a1
            by_cases a2 : 48 ≤ s[k].toNat ∧ s[k].toNat ≤ 57
            · have e2 := decide_eq_true a2
              have HY := Lib.hid (all_yes (p := partB) s k hlt (by simp [partB, digitB, a2]))
              clear a1 a2
              go_wp2_with (first | (go_at_call 79; refine (ssmall_any _ _).mono ?_; rintro e w' ⟨rfl, rfl⟩) | (go_at_call 80; refine (sdigit_any _ _).mono ?_; rintro e w' ⟨rfl, rfl⟩))
              go_round
              case rel => exact ⟨k + 1, by omega, by omega, Lib.hid (by rw [HK.out, HY.out]), by go_num⟩
              case measure => simp [intOf]; omega
            · have e2 := decide_eq_false a2
              by_cases a3 : s[k].toNat = 45
              · have HY := Lib.hid (all_yes (p := partB) s k hlt (by simp [partB, a3]))
                have e3 : ((s[k].toNat : Int) != 45) = false := by simp; omega
                clear a1 a2 a3
                go_wp2_with (first | (go_at_call 79; refine (ssmall_any _ _).mono ?_; rintro e w' ⟨rfl, rfl⟩) | (go_at_call 80; refine (sdigit_any _ _).mono ?_; rintro e w' ⟨rfl, rfl⟩))
                go_round
                case rel => exact ⟨k + 1, by omega, by omega, Lib.hid (by rw [HK.out, HY.out]), by go_num⟩
                case measure => simp [intOf]; omega
              · have e3 : ((s[k].toNat : Int) != 45) = true := by simp; omega
                by_cases a4 : s[k].toNat = 95
                · have HY := Lib.hid (all_yes (p := partB) s k hlt (by simp [partB, a4]))
                  have e4 : ((s[k].toNat : Int) != 95) = false := by simp; omega
                  clear a1 a2 a3 a4
                  go_wp2_with (first | (go_at_call 79; refine (ssmall_any _ _).mono ?_; rintro e w' ⟨rfl, rfl⟩) | (go_at_call 80; refine (sdigit_any _ _).mono ?_; rintro e w' ⟨rfl, rfl⟩))
                  go_round
                  case rel => exact ⟨k + 1, by omega, by omega, Lib.hid (by rw [HK.out, HY.out]), by go_num⟩
                  case measure => simp [intOf]; omega
                · have e4 : ((s[k].toNat : Int) != 95) = true := by simp; omega
                  have HY := Lib.hid (all_no (p := partB) s k hlt (by simp [partB, smallB, digitB, a1, a2, a3, a4]))
                  clear a1 a2 a3 a4
                  go_wp2_with (first | (go_at_call 79; refine (ssmall_any _ _).mono ?_; rintro e w' ⟨rfl, rfl⟩) | (go_at_call 80; refine (sdigit_any _ _).mono ?_; rintro e w' ⟨rfl, rfl⟩))
                  go_ret
                  exact ⟨ret_bool (by rw [HW.out, HK.out, HY.out]), rfl⟩
        · have HY := Lib.hid (all_end (p := partB) s k (by omega))
          go_wp2
          go_ret
          exact ⟨ret_bool (by rw [HW.out, HK.out, HY.out]), rfl⟩
  · rw [wordB_no1 s h0]
    by_cases h1 : 1 ≤ s.size
    · have h2 : ¬ s.size ≤ 32 := fun h => h0 ⟨h1, h⟩
      have h1' : 0 < s.size := h1
      clear h0
      go_enter Tryz.func54, Tryz.ntmps54
      go_wp2
      go_ret
      exact ⟨rfl, rfl⟩
    · clear h0
      go_enter Tryz.func54, Tryz.ntmps54
      go_wp2
      go_ret
      exact ⟨rfl, rfl⟩
end Go.Proofs.YtgeaccoobhigcaaGreat
namespace Go.Proofs.YtgeaccoobhigcaaGreat
open Go.RowKit
/-- Cells from an address on. -/
def CellsAt (w : World) (a : Addr) (cs : List Value) : Prop := ∀ j u, cs[j]? = some u → w.cell? (a.add j) = some u
/-- '.slice ao n cap' is a slice of n elements of 'size' cells each; its cells read 'cs'. -/
def SlR (w : World) (size : Nat) (ao : Option Addr) (n cap : Nat) (cs : List Value) : Prop :=
  cs.length = n * size ∧ n ≤ cap ∧ cap ≤ maxLen ∧ (ao = none → cap = 0) ∧ ∀ a, ao = some a → CellsAt w a cs
theorem addr_add_zero (a : Addr) : a.add 0 = a := by simp [Addr.add]
theorem addr_add_lit (b o j : Nat) : (⟨b, o, none⟩ : Addr).add j = ⟨b, o + j, none⟩ := by
  unfold Addr.add; split <;> simp_all
theorem CellsAt.nil (w : World) (a : Addr) : CellsAt w a [] := by intro j u h; simp at h
theorem CellsAt.block_lt {w : World} {a : Addr} {cs : List Value} (h : CellsAt w a cs) (hne : cs ≠ []) : a.block < w.heap.size := by
  cases cs with
  | nil => exact absurd rfl hne
  | cons c cs =>
    have h0 := h 0 c (by simp)
    rw [addr_add_zero] at h0
    exact World.block_lt_of_cell? w a h0
theorem CellsAt.of_block {w : World} {g : Nat} {cur : Array Value} {e : TypeId} {fz : Nat × Nat} (hg : w.heap[g]? = some (.cells cur e fz)) (off : Nat) (cs : List Value)
    (h : ∀ j u, cs[j]? = some u → cur[off + j]? = some u) : CellsAt w ⟨g, off, none⟩ cs := by
  intro j u hj
  rw [addr_add_lit, cell_of_row w g (off + j) cur e fz hg]
  exact h j u hj
theorem SlR.nil (w : World) (size : Nat) : SlR w size none 0 0 [] := ⟨by simp, by simp, by simp, by simp, by simp⟩
theorem CellsAt.drew {w : World} {a : Addr} {cs : List Value} (h : CellsAt w a cs) : CellsAt w.drew a cs := h
theorem SlR.drew {w : World} {size : Nat} {ao : Option Addr} {n cap : Nat} {cs : List Value} (h : SlR w size ao n cap cs) : SlR w.drew size ao n cap cs := h
theorem SlR.drewN {w : World} {size : Nat} {ao : Option Addr} {n cap : Nat} {cs : List Value} (h : SlR w size ao n cap cs) (k : Nat) : SlR (w.drewN k) size ao n cap cs := h
/-- The data of a slice lie outside block b. -/
def OffB (b : Nat) (ao : Option Addr) (n : Nat) : Prop := ∀ a, ao = some a → 0 < n → a.block ≠ b
/-- The data of a slice lie in blocks of some kind. -/
def InB (K : Nat → Prop) (ao : Option Addr) (n : Nat) : Prop := ∀ a, ao = some a → 0 < n → K a.block
theorem CellsAt.grown {w w' : World} {row : Option Nat} {a : Addr} {cs : List Value} (h : CellsAt w a cs) (hg : w.grownBy w' row) (hne : cs ≠ [] → some a.block ≠ row) : CellsAt w' a cs := by
  intro j u hj
  have h1 := h j u hj
  have hb : (a.add j).block = a.block := by unfold Addr.add; split <;> rfl
  refine (World.cell?_of_block (hg.block _ (World.block_lt_of_cell? w _ h1) ?_)).trans h1
  rw [hb]
  exact hne (by rintro rfl; simp at hj)
theorem SlR.grown {w w' : World} {row : Option Nat} {size : Nat} {ao : Option Addr} {n cap : Nat} {cs : List Value} (h : SlR w size ao n cap cs) (hg : w.grownBy w' row)
    (hne : ∀ b, row = some b → OffB b ao n) : SlR w' size ao n cap cs :=
  ⟨h.1, h.2.1, h.2.2.1, h.2.2.2.1, fun a ha => (h.2.2.2.2 a ha).grown hg fun hcs e => by
    have hn : 0 < n := by
      rcases Nat.eq_zero_or_pos n with h0 | h0
      · exact absurd (List.eq_nil_of_length_eq_zero (by rw [h.1, h0]; simp)) hcs
      · exact h0
    exact hne _ e.symm a ha hn rfl⟩
theorem grownBy_refl (w : World) (row : Option Nat) : w.grownBy w row := ⟨rfl, rfl, rfl, Nat.le_refl _, fun _ _ _ => rfl⟩
theorem grownBy_trans {a b c : World} {row : Option Nat} (h : a.grownBy b row) (k : b.grownBy c row) : a.grownBy c row :=
  ⟨k.os.trans h.os, k.tape.trans h.tape, k.output.trans h.output, Nat.le_trans h.size k.size, fun i hi hr => (k.block i (Nat.lt_of_lt_of_le hi h.size) hr).trans (h.block i hi hr)⟩
theorem grownBy_setCell (w : World) (a : Addr) (v : Value) : w.grownBy (w.setCell a v) (some a.block) :=
  ⟨rfl, rfl, rfl, by simp [World.setCell], fun k _ hr => Below.heap_setCell _ _ _ _ (fun e => hr (by rw [e]))⟩
/-- A block that was made since may be written besides. -/
theorem grownBy_new {a b c : World} {row : Option Nat} {k : Nat} (h : a.grownBy b row) (g : b.grownBy c (some k)) (hk : a.heap.size ≤ k ∨ row = some k) : a.grownBy c row :=
  ⟨g.os.trans h.os, g.tape.trans h.tape, g.output.trans h.output, Nat.le_trans h.size g.size, fun i hi hr => (g.block i (Nat.lt_of_lt_of_le hi h.size) (fun e => by
    cases e
    rcases hk with hk | hk
    · omega
    · exact hr hk.symm)).trans (h.block i hi hr)⟩
/-- A slice that is not empty: where it lies, its first cell, and the rest of it. -/
theorem SlR.head {w : World} {ao : Option Addr} {n cap : Nat} {c : Value} {cs : List Value} (h : SlR w 1 ao (n + 1) cap (c :: cs)) :
    ∃ g off, ao = some ⟨g, off, none⟩ ∧ w.cell? ⟨g, off, none⟩ = some c ∧ CellsAt w ⟨g, off + 1, none⟩ cs := by
  cases ao with
  | none => have := h.2.2.2.1 rfl; have := h.2.1; omega
  | some a =>
    have hc := h.2.2.2.2 a rfl
    have h0 := hc 0 c (by simp)
    rw [addr_add_zero] at h0
    obtain ⟨g, off, spot⟩ := a
    have hs : spot = none := World.cell?_spot h0
    subst hs
    refine ⟨g, off, rfl, h0, ?_⟩
    intro j u hj
    have := hc (j + 1) u (by simpa using hj)
    rw [addr_add_lit] at this ⊢
    rw [← this]
    congr 2
    omega
theorem ret_int {k : IntKind} {a b : Int} (h : a = b) : Ending.returned (.int k a) = .returned (.int k b) := by rw [h]
theorem drewN_add (w : World) (a b : Nat) : (w.drewN a).drewN b = w.drewN (a + b) := by simp [World.drewN, Nat.add_assoc]
theorem SlR.inB {w : World} {size : Nat} {ao : Option Addr} {n cap : Nat} {cs : List Value} (h : SlR w size ao n cap cs) (hs : 0 < size) : InB (fun k => k < w.heap.size) ao n := by
  intro a ha hn
  refine (h.2.2.2.2 a ha).block_lt ?_
  rintro rfl
  have h1 := h.1
  have h2 : 0 < n * size := Nat.mul_pos hn hs
  simp at h1
  omega
theorem SlR.below {w w' : World} {size : Nat} {ao : Option Addr} {n cap : Nat} {cs : List Value} {n₀ : Nat} (h : SlR w size ao n cap cs) (hb : Below n₀ w w') (hin : InB (fun k => k < n₀) ao n) : SlR w' size ao n cap cs := by
  refine ⟨h.1, h.2.1, h.2.2.1, h.2.2.2.1, fun a ha j u hj => ?_⟩
  have hn : 0 < n := by
    rcases Nat.eq_zero_or_pos n with h0 | h0
    · have : cs = [] := List.eq_nil_of_length_eq_zero (by rw [h.1, h0]; simp)
      subst this; simp at hj
    · exact h0
  have hbk : (a.add j).block = a.block := by unfold Addr.add; split <;> rfl
  exact (hb.cell (p := a.add j) (by rw [hbk]; exact hin a ha hn)).trans (h.2.2.2.2 a ha j u hj)
/-- The slice over a block that has just been laid. -/
theorem SlR.new (w : World) (vs : List Value) (t : TypeId) (h : vs.length ≤ maxLen) : SlR (w.alloc (.cells vs.toArray t)) 1 (some ⟨w.heap.size, 0, none⟩) vs.length vs.length vs := by
  refine ⟨by simp, Nat.le_refl _, h, by simp, fun a ha => ?_⟩
  cases ha
  exact CellsAt.of_block (heap_alloc_new w _) 0 _ (fun j u hj => by simpa using hj)
/-- The first ones of a slice. -/
theorem SlR.take {w : World} {ao : Option Addr} {n cap k : Nat} {α : Type} {f : α → Value} {xs : List α} (h : SlR w 1 ao n cap (xs.map f)) (hk : k ≤ n) : SlR w 1 ao k cap ((xs.take k).map f) := by
  have hl := h.1
  rw [List.length_map] at hl
  refine ⟨by simp; omega, Nat.le_trans hk h.2.1, h.2.2.1, h.2.2.2.1, fun a ha j u hj => h.2.2.2.2 a ha j u ?_⟩
  rw [List.map_take, List.getElem?_take] at hj
  split at hj
  · exact hj
  · cases hj
end Go.Proofs.YtgeaccoobhigcaaGreat
namespace Go.Proofs.YtgeaccoobhigcaaGreat
open Go Go.RowKit
/-- The record of a loop over a function. -/
def rfRec (fn : FuncId) (tmps : Array Value) (ps : Array Tmp) (assign body : Code) (D : Nat) (st : LoopState) (pe : Option Code) : Loop :=
  { state := st, pending := pe, fn, tmps, params := ps, assign, body, defers := D }
/-- THE STATEMENT: the record is laid; the iterator is called; behind it the pending jump. -/
theorem rf_stmt {n : Nat} {P : Program} {g : Operand} {ps : Array Tmp} {assign body : Code} {Q : Exit → Act → World → Prop} {a : Act} {w : World} {gf : Nat} {lb : Array Value}
    (hg : a.eval g = .func (.func gf) #[] lb) (eg : ∀ args w, (callFunc gf args).run P w = .ok (.enter gf args) w)
    (H : ∀ fn W1, Below w.heap.size w W1 → W1.heap.size = w.heap.size + 2 → W1.heap[w.heap.size]? = some (.deferred (some [])) → W1.heap[w.heap.size + 1]? = some (.loop (rfRec fn a.tmps ps assign body w.heap.size .ready none)) →
      CallsIn Fence.wide (n - 1) P gf (#[.func (.yield (w.heap.size + 1)) #[] #[]] ++ lb) W1 fun e W2 => (∃ v, e = .returned v) ∧ ∃ st pe, st ≠ .busy ∧ W2.heap[w.heap.size + 1]? = some (.loop (rfRec fn a.tmps ps assign body w.heap.size st pe)) ∧
        (∀ re, match pe with
         | none => Q .normal { a with defers := { target := .collected w.heap.size, args := #[] } :: a.defers } (W2.putObj (w.heap.size + 1) (.loop re))
         | some c => c.wpIn Fence.wide n P Q { a with defers := { target := .collected w.heap.size, args := #[] } :: a.defers } (W2.putObj (w.heap.size + 1) (.loop re)))) :
    (Code.rangeFunc g ps assign body).wpIn Fence.wide n P Q a w := by
  refine wpIn_rangeFunc ?_
  intro fn _
  obtain ⟨W1, hW1⟩ : ∃ W1, (w.alloc (.deferred (some []))).alloc (.loop (rfRec fn a.tmps ps assign body w.heap.size .ready none)) = W1 := ⟨_, rfl⟩
  have hL1 : W1.heap[w.heap.size + 1]? = some (.loop (rfRec fn a.tmps ps assign body w.heap.size .ready none)) := by
    rw [← hW1]; have := World.alloc_heap_new (w.alloc (.deferred (some []))) (.loop (rfRec fn a.tmps ps assign body w.heap.size .ready none)); rwa [World.size_alloc] at this
  have hK1 : W1.heap[w.heap.size]? = some (.deferred (some [])) := by
    rw [← hW1]; exact (Below.heap_alloc _ _ _ (by simp)).trans (World.alloc_heap_new w _)
  have hb1 : Below w.heap.size w W1 := by
    rw [← hW1]; exact ((Below.refl _ w).alloc (Nat.le_refl _) _).alloc (by simp) _
  have hs1 : W1.heap.size = w.heap.size + 2 := by rw [← hW1]; simp
  refine ⟨w.heap.size + 1, [{ target := .collected w.heap.size, args := #[] }], W1, { target := .fn (.func gf) lb, args := #[.func (.yield (w.heap.size + 1)) #[] #[]] }, W1, gf,
    #[.func (.yield (w.heap.size + 1)) #[] #[]] ++ lb, W1, ?_, ?_, ?_, ?_, fun h => by simp [Fence.wide] at h, ?_⟩
  · rw [← hW1]; exact run_enterLoop_outer _ _ _ _ _
  · simp only [resolve, hg]
    simp [go_sem]
  · intro f' _; trivial
  · simp [invoke, go_sem, eg]
  · refine (H fn W1 hb1 hs1 hK1 hL1).mono ?_
    rintro e W2 ⟨⟨v, rfl⟩, st, pe, hst, hl, hp⟩
    have := run_endLoop (P := P) hl (by simpa [rfRec] using hst)
    exact ⟨pe, _, this, by cases pe <;> exact hp _⟩
/-- How a round's body may be left. -/
def rfEnd (l : Nat) (rb : Loop) (rec : LoopState → Option Code → Loop) (R : Ending → World → Prop) : Exit → Act → World → Prop
  | .normal, _, W => W.heap[l]? = some (.loop rb) ∧ R (.returned (.bool true)) (W.putObj l (.loop (rec .ready none)))
  | .ret, _, W => W.heap[l]? = some (.loop rb) ∧ R (.returned (.bool false)) (W.putObj l (.loop (rec .done (some .ret))))
  | .exit id, _, W => W.heap[l]? = some (.loop rb) ∧ R (.returned (.bool false)) (W.putObj l (.loop (rec .done (some (.exit id)))))
  | .goto t, _, W => W.heap[l]? = some (.loop rb) ∧ R (.returned (.bool false)) (W.putObj l (.loop (rec .done (some (.goto t)))))
  | .panic _, _, _ => False
  | .outgrown, _, _ => False
/-- ONE ROUND. -/
theorem rf_round {m : Nat} {P : Program} {l D : Nat} {fn : FuncId} {tmps : Array Value} {ps : Array Tmp} {assign body : Code} {args : Array Value} {W : World} {R : Ending → World → Prop}
    (hl : W.heap[l]? = some (.loop (rfRec fn tmps ps assign body D .ready none))) (hps : args.size = ps.size)
    (H : assign.wpIn (Fence.wide.inRound l) m P (Exit.then (fun a₁ W1 => W1.heap[l]? = some (.loop (rfRec fn tmps ps assign body D .ready none)) ∧
        body.wpIn (Fence.wide.inRound l) m P (rfEnd l (rfRec fn tmps ps assign body D .busy none) (rfRec fn tmps ps assign body D) R) a₁ (W1.putObj l (.loop (rfRec fn tmps ps assign body D .busy none)))) (fun _ _ _ => False))
      { tmps := (ps.zip args).foldl (fun t (p, v) => t.setIfInBounds p v) tmps, defers := [] } W) :
    YieldAt Fence.wide m P l args W R := by
  refine ⟨fn, _, assign, body, run_yield (P := P) (args := args) hl (by simpa [rfRec] using hps), roundIn_of_wpIn trivial (wpIn_mono H ?_)⟩
  intro e a₁ W1 h
  cases e with
  | normal =>
    obtain ⟨h1, h2⟩ := h
    refine ⟨_, run_beginRound h1 rfl, wpIn_mono h2 ?_⟩
    intro e a₂ W2 h
    cases e with
    | normal => exact ⟨_, _, run_endRound none h.1, h.2⟩
    | ret => exact ⟨_, _, run_endRound (some .ret) h.1, h.2⟩
    | exit id => exact ⟨_, _, run_endRound (some (.exit id)) h.1, h.2⟩
    | goto t => exact ⟨_, _, run_endRound (some (.goto t)) h.1, h.2⟩
    | panic c => exact h.elim
    | outgrown => exact h.elim
  | _ => exact h.elim
end Go.Proofs.YtgeaccoobhigcaaGreat
namespace Go.Proofs.YtgeaccoobhigcaaGreat
open Go Go.RowKit
theorem below_drew {B : Nat} {a w : World} (h : Below B a w) (n : Nat) : Below B a (w.drewN n) := ⟨h.os, h.tape, h.output, h.size, h.block⟩
/-- What a slice reads behind a call that writes nothing that was there. -/
theorem SlR.kept {w w' : World} {size : Nat} {ao : Option Addr} {n c : Nat} {cs : List Value} (h : SlR w size ao n c cs) (hb : Below w.heap.size w w') : SlR w' size ao n c cs := by
  refine ⟨h.1, h.2.1, h.2.2.1, h.2.2.2.1, fun a ha j u hj => ?_⟩
  have hc := h.2.2.2.2 a ha j u hj
  exact (hb.cell (World.block_lt_of_cell? w _ hc)).trans hc
theorem take_snoc2 {α : Type} {l : List α} {k : Nat} {x : α} (h : l[k]? = some x) : l.take (k + 1) = l.take k ++ [x] := by
  rw [List.take_add_one, h]; rfl
end Go.Proofs.YtgeaccoobhigcaaGreat
namespace Go.Proofs.YtgeaccoobhigcaaGreat
open Go Go.RowKit
theorem mk_list_size (l : Bs) : (⟨l.toArray⟩ : ByteArray).size = l.length := by show l.toArray.size = _; simp
end Go.Proofs.YtgeaccoobhigcaaGreat
namespace Go.Proofs.YtgeaccoobhigcaaGreat
open Go Go.RowKit
/-- A symbol. -/
structure Sm where
  k : Int
  t : ByteArray
  n : Int
def Sm.val (s : Sm) : Value := .agg #[.int .i64 s.k, .string s.t, .int .i64 s.n]
def Sm.cells (s : Sm) : List Value := [.int .i64 s.k, .string s.t, .int .i64 s.n]
def headGreat : Bs → Bool
  | [] => false
  | c :: _ => decide (65 ≤ c.toNat ∧ c.toNat ≤ 90)
def validB (s : Sm) : Bool :=
  if s.k = 1 then decide (s.t.size = 1) && headGreat s.t.data.toList && decide (1 ≤ s.n ∧ s.n ≤ 1048576)
  else if s.k = 2 then decide (s.t.size = 0) && decide (-2147483647 ≤ s.n ∧ s.n ≤ 2147483647)
  else if s.k = 3 then decide (s.n = 0) && wordB s.t.data.toList
  else false
theorem headGreat_eq (s : ByteArray) (h : 0 < s.size) : headGreat s.data.toList = decide (65 ≤ s[0].toNat ∧ s[0].toNat ≤ 90) := by rw [toList_cons s h]; rfl
theorem str_nil {s : ByteArray} (h : s.size = 0) : (s.toList == []) = true := by
  rw [ByteArray.toList_eq]
  have : s.data.toList = [] := List.eq_nil_of_length_eq_zero (by rw [size_toList]; exact h)
  rw [this]; rfl
theorem str_cons {s : ByteArray} (h : s.size ≠ 0) : (s.toList == []) = false := by
  rw [ByteArray.toList_eq, toList_cons s (by omega)]; rfl
set_option maxHeartbeats 1000000 in
theorem rword_any (s : ByteArray) (hs : s.size ≤ 9223372036854775807) (w : World) :
    Calls Tryz.prog 42 #[.string s] w fun e w' => e = .returned (.bool (wordB s.data.toList)) ∧ w' = w := by
  by_cases h0 : 1 ≤ s.size ∧ s.size ≤ 32
  · obtain ⟨h1, h2⟩ := h0
    have h1' : 0 < s.size := h1
    have hc1 : ¬ (s.size : Int) < 1 := by omega
    have hc2 : ¬ (32 : Int) < (s.size : Int) := by omega
    rcases hsm : smallB s[0] with _ | _
    · rw [wordB_no2 s h1' hsm]
      simp only [smallB, decide_eq_false_iff_not] at hsm
      rcases (show s[0].toNat < 97 ∨ (97 ≤ s[0].toNat ∧ 122 < s[0].toNat) by omega) with hlo | ⟨hlo, hhi⟩
      · have q1 : (s[0].toNat : Int) < 97 := by omega
        clear hsm
        go_enter Tryz.func42, Tryz.ntmps42
        go_wp2
        go_ret
        exact ⟨rfl, rfl⟩
      · have q1 : ¬ (s[0].toNat : Int) < 97 := by omega
        have q2 : (122 : Int) < (s[0].toNat : Int) := by omega
        clear hsm
        go_enter Tryz.func42, Tryz.ntmps42
        go_wp2
        go_ret
        exact ⟨rfl, rfl⟩
    · have HW := Lib.hid (wordB_yes s h1' h2 hsm)
      have hp : partB s[0] = true := by simp [partB, hsm]
      have HA := Lib.hid (all_yes (p := partB) s 0 h1' hp)
      simp only [smallB, decide_eq_true_eq] at hsm
      have q1 : ¬ (s[0].toNat : Int) < 97 := by omega
      have q2 : ¬ (122 : Int) < (s[0].toNat : Int) := by omega
      clear hsm hp
      go_enter Tryz.func42, Tryz.ntmps42
      go_wp2
      go_loop [3] (fun t => ∃ k : Nat, k ≤ s.size ∧ Hid ((from_ s 0).all partB = (from_ s k).all partB) ∧ t = .int .i64 k) (fun t => s.size - (intOf t).toNat)
      case atStart => exact ⟨0, by omega, Lib.hid rfl, rfl⟩
      case round =>
        obtain ⟨k, hk, HK, rfl⟩ := hrel
        by_cases hlt : k < s.size
        · rcases hp : partB s[k] with _ | _
          · have HY := Lib.hid (all_no (p := partB) s k hlt hp)
            go_wp2_with (go_at_call 68; refine (part_any _ _).mono ?_; rintro e w' ⟨rfl, rfl⟩)
            go_ret
            exact ⟨ret_bool (by rw [HW.out, ← HA.out, HK.out, HY.out]), rfl⟩
          · have HY := Lib.hid (all_yes (p := partB) s k hlt hp)
            go_wp2_with (go_at_call 68; refine (part_any _ _).mono ?_; rintro e w' ⟨rfl, rfl⟩)
            go_round
            case rel => exact ⟨k + 1, by omega, Lib.hid (by rw [HK.out, HY.out]), by go_num⟩
            case measure => simp [intOf]; omega
        · have HY := Lib.hid (all_end (p := partB) s k (by omega))
          go_wp2
          go_ret
          exact ⟨ret_bool (by rw [HW.out, ← HA.out, HK.out, HY.out]), rfl⟩
  · rw [wordB_no1 s h0]
    by_cases h1 : 1 ≤ s.size
    · have h2 : (32 : Int) < (s.size : Int) := by omega
      have hc1 : ¬ (s.size : Int) < 1 := by omega
      clear h0
      go_enter Tryz.func42, Tryz.ntmps42
      go_wp2
      go_ret
      exact ⟨rfl, rfl⟩
    · have hc1 : (s.size : Int) < 1 := by omega
      clear h0
      go_enter Tryz.func42, Tryz.ntmps42
      go_wp2
      go_ret
      exact ⟨rfl, rfl⟩
set_option maxHeartbeats 4000000 in
theorem valid_any (s : Sm) (hs : s.t.size ≤ 9223372036854775807) (w : World) :
    Calls Tryz.prog 115 #[s.val] w fun e w' => e = .returned (.bool (validB s)) ∧ Below w.heap.size w w' := by
  obtain ⟨k, t, n⟩ := s
  unfold Sm.val
  simp only at hs ⊢
  by_cases h1 : k = 1
  · subst h1
    by_cases hz : t.size = 1
    · have h0 : 0 < t.size := by omega
      have hg := headGreat_eq t h0
      have ez : ((t.size : Int) == 1) = true := by simp; omega
      by_cases hG : 65 ≤ t[0].toNat ∧ t[0].toNat ≤ 90
      · rw [decide_eq_true hG] at hg
        have eg : decide (65 ≤ t[0].toNat ∧ t[0].toNat ≤ 90) = true := by simp [hG]
        have g1 : (65 : Int) ≤ (t[0].toNat : Int) := by omega
        have g2 : (t[0].toNat : Int) ≤ 90 := by omega
        rcases (show n < 1 ∨ (1 ≤ n ∧ 1048576 < n) ∨ (1 ≤ n ∧ n ≤ 1048576) by omega) with hn | ⟨hn, hn2⟩ | ⟨hn, hn2⟩
        · have hn' : ¬ 1 ≤ n := by omega
          rw [show validB _ = false by simp [validB, hz, hg, hn']]
          clear hg hz hG
          go_enter Tryz.func115, Tryz.ntmps115
          go_wp2_with (first | (go_at_call 110; refine (great_any _ _).mono ?_; rintro e w' ⟨rfl, rfl⟩) | (go_at_call 54; refine (word_any _ hs _).mono ?_; rintro e w' ⟨rfl, rfl⟩))
          go_ret
          exact ⟨rfl, (Below.refl _ _).alloc (Nat.le_refl _) _⟩
        · have hn' : ¬ n ≤ 1048576 := by omega
          have hq : decide (n ≤ 1048576) = false := by simp; omega
          rw [show validB _ = false by simp [validB, hz, hg, hn']]
          clear hg hz hG
          go_enter Tryz.func115, Tryz.ntmps115
          go_wp2_with (first | (go_at_call 110; refine (great_any _ _).mono ?_; rintro e w' ⟨rfl, rfl⟩) | (go_at_call 54; refine (word_any _ hs _).mono ?_; rintro e w' ⟨rfl, rfl⟩))
          go_ret
          exact ⟨rfl, (Below.refl _ _).alloc (Nat.le_refl _) _⟩
        · have hq : decide (n ≤ 1048576) = true := by simp; omega
          rw [show validB _ = true by simp [validB, hz, hg, hn, hn2]]
          clear hg hz hG
          go_enter Tryz.func115, Tryz.ntmps115
          go_wp2_with (first | (go_at_call 110; refine (great_any _ _).mono ?_; rintro e w' ⟨rfl, rfl⟩) | (go_at_call 54; refine (word_any _ hs _).mono ?_; rintro e w' ⟨rfl, rfl⟩))
          go_ret
          exact ⟨rfl, (Below.refl _ _).alloc (Nat.le_refl _) _⟩
      · rw [decide_eq_false hG] at hg
        have eg : decide (65 ≤ t[0].toNat ∧ t[0].toNat ≤ 90) = false := by simp; omega
        rcases (show t[0].toNat < 65 ∨ (65 ≤ t[0].toNat ∧ 90 < t[0].toNat) by omega) with hlo | ⟨hlo, hhi⟩
        · have g1 : ¬ (65 : Int) ≤ (t[0].toNat : Int) := by omega
          rw [show validB _ = false by simp [validB, hz, hg]]
          clear hg hz hG
          go_enter Tryz.func115, Tryz.ntmps115
          go_wp2_with (first | (go_at_call 110; refine (great_any _ _).mono ?_; rintro e w' ⟨rfl, rfl⟩) | (go_at_call 54; refine (word_any _ hs _).mono ?_; rintro e w' ⟨rfl, rfl⟩))
          go_ret
          exact ⟨rfl, (Below.refl _ _).alloc (Nat.le_refl _) _⟩
        · have g1 : (65 : Int) ≤ (t[0].toNat : Int) := by omega
          have g2 : ¬ (t[0].toNat : Int) ≤ 90 := by omega
          rw [show validB _ = false by simp [validB, hz, hg]]
          clear hg hz hG
          go_enter Tryz.func115, Tryz.ntmps115
          go_wp2_with (first | (go_at_call 110; refine (great_any _ _).mono ?_; rintro e w' ⟨rfl, rfl⟩) | (go_at_call 54; refine (word_any _ hs _).mono ?_; rintro e w' ⟨rfl, rfl⟩))
          go_ret
          exact ⟨rfl, (Below.refl _ _).alloc (Nat.le_refl _) _⟩
    · have ez : ((t.size : Int) == 1) = false := by simp; omega
      rw [show validB _ = false by simp [validB, hz]]
      clear hz
      go_enter Tryz.func115, Tryz.ntmps115
      go_wp2_with (first | (go_at_call 110; refine (great_any _ _).mono ?_; rintro e w' ⟨rfl, rfl⟩) | (go_at_call 54; refine (word_any _ hs _).mono ?_; rintro e w' ⟨rfl, rfl⟩))
      go_ret
      exact ⟨rfl, (Below.refl _ _).alloc (Nat.le_refl _) _⟩
  · have e1 : (k == 1) = false := by simp [h1]
    by_cases h2 : k = 2
    · subst h2
      by_cases hz : t.size = 0
      · have ez := str_nil hz
        rcases (show n < -2147483647 ∨ (-2147483647 ≤ n ∧ 2147483647 < n) ∨ (-2147483647 ≤ n ∧ n ≤ 2147483647) by omega) with hn | ⟨hn, hn2⟩ | ⟨hn, hn2⟩
        · have hn' : ¬ -2147483647 ≤ n := by omega
          rw [show validB _ = false by simp [validB, hz, hn']]
          clear hz h1 e1
          go_enter Tryz.func115, Tryz.ntmps115
          go_wp2_with (first | (go_at_call 110; refine (great_any _ _).mono ?_; rintro e w' ⟨rfl, rfl⟩) | (go_at_call 54; refine (word_any _ hs _).mono ?_; rintro e w' ⟨rfl, rfl⟩))
          go_ret
          exact ⟨rfl, (Below.refl _ _).alloc (Nat.le_refl _) _⟩
        · have hn' : ¬ n ≤ 2147483647 := by omega
          have hq : decide (n ≤ 2147483647) = false := by simp; omega
          rw [show validB _ = false by simp [validB, hz, hn']]
          clear hz h1 e1
          go_enter Tryz.func115, Tryz.ntmps115
          go_wp2_with (first | (go_at_call 110; refine (great_any _ _).mono ?_; rintro e w' ⟨rfl, rfl⟩) | (go_at_call 54; refine (word_any _ hs _).mono ?_; rintro e w' ⟨rfl, rfl⟩))
          go_ret
          exact ⟨rfl, (Below.refl _ _).alloc (Nat.le_refl _) _⟩
        · have hq : decide (n ≤ 2147483647) = true := by simp; omega
          rw [show validB _ = true by simp [validB, hz, hn, hn2]]
          clear hz h1 e1
          go_enter Tryz.func115, Tryz.ntmps115
          go_wp2_with (first | (go_at_call 110; refine (great_any _ _).mono ?_; rintro e w' ⟨rfl, rfl⟩) | (go_at_call 54; refine (word_any _ hs _).mono ?_; rintro e w' ⟨rfl, rfl⟩))
          go_ret
          exact ⟨rfl, (Below.refl _ _).alloc (Nat.le_refl _) _⟩
      · have ez := str_cons hz
        rw [show validB _ = false by simp [validB, hz]]
        clear hz h1 e1
        go_enter Tryz.func115, Tryz.ntmps115
        go_wp2_with (first | (go_at_call 110; refine (great_any _ _).mono ?_; rintro e w' ⟨rfl, rfl⟩) | (go_at_call 54; refine (word_any _ hs _).mono ?_; rintro e w' ⟨rfl, rfl⟩))
        go_ret
        exact ⟨rfl, (Below.refl _ _).alloc (Nat.le_refl _) _⟩
    · have e2 : (k == 2) = false := by simp [h2]
      by_cases h3 : k = 3
      · subst h3
        by_cases hn : n = 0
        · subst hn
          rw [show validB _ = wordB t.data.toList by simp [validB]]
          clear h1 h2 e1 e2
          go_enter Tryz.func115, Tryz.ntmps115
          go_wp2_with (first | (go_at_call 110; refine (great_any _ _).mono ?_; rintro e w' ⟨rfl, rfl⟩) | (go_at_call 54; refine (word_any _ hs _).mono ?_; rintro e w' ⟨rfl, rfl⟩))
          go_ret
          exact ⟨rfl, (Below.refl _ _).alloc (Nat.le_refl _) _⟩
        · have en : (n == 0) = false := by simp [hn]
          rw [show validB _ = false by simp [validB, hn]]
          clear h1 h2 e1 e2 hn
          go_enter Tryz.func115, Tryz.ntmps115
          go_wp2_with (first | (go_at_call 110; refine (great_any _ _).mono ?_; rintro e w' ⟨rfl, rfl⟩) | (go_at_call 54; refine (word_any _ hs _).mono ?_; rintro e w' ⟨rfl, rfl⟩))
          go_ret
          exact ⟨rfl, (Below.refl _ _).alloc (Nat.le_refl _) _⟩
      · have e3 : (k == 3) = false := by simp [h3]
        rw [show validB _ = false by simp [validB, h1, h2, h3]]
        clear h1 h2 h3
        go_enter Tryz.func115, Tryz.ntmps115
        go_wp2_with (first | (go_at_call 110; refine (great_any _ _).mono ?_; rintro e w' ⟨rfl, rfl⟩) | (go_at_call 54; refine (word_any _ hs _).mono ?_; rintro e w' ⟨rfl, rfl⟩))
        go_ret
        exact ⟨rfl, (Below.refl _ _).alloc (Nat.le_refl _) _⟩
set_option maxHeartbeats 4000000 in
theorem rvalid_any (s : Sm) (hs : s.t.size ≤ 9223372036854775807) (w : World) :
    Calls Tryz.prog 109 #[s.val] w fun e w' => e = .returned (.bool (validB s)) ∧ Below w.heap.size w w' := by
  obtain ⟨k, t, n⟩ := s
  unfold Sm.val
  simp only at hs ⊢
  by_cases h1 : k = 1
  · subst h1
    by_cases hz : t.size = 1
    · have h0 : 0 < t.size := by omega
      have hg := headGreat_eq t h0
      have ez : ((t.size : Int) == 1) = true := by simp; omega
      by_cases hG : 65 ≤ t[0].toNat ∧ t[0].toNat ≤ 90
      · rw [decide_eq_true hG] at hg
        have eg : decide (65 ≤ t[0].toNat ∧ t[0].toNat ≤ 90) = true := by simp [hG]
        have g1 : (65 : Int) ≤ (t[0].toNat : Int) := by omega
        have g2 : (t[0].toNat : Int) ≤ 90 := by omega
        rcases (show n < 1 ∨ (1 ≤ n ∧ 1048576 < n) ∨ (1 ≤ n ∧ n ≤ 1048576) by omega) with hn | ⟨hn, hn2⟩ | ⟨hn, hn2⟩
        · have hn' : ¬ 1 ≤ n := by omega
          rw [show validB _ = false by simp [validB, hz, hg, hn']]
          clear hg hz hG
          go_enter Tryz.func109, Tryz.ntmps109
          go_wp2_with (first | (go_at_call 42; refine (rword_any _ hs _).mono ?_; rintro e w' ⟨rfl, rfl⟩))
          go_ret
          exact ⟨rfl, (Below.refl _ _).alloc (Nat.le_refl _) _⟩
        · have hn' : ¬ n ≤ 1048576 := by omega
          have hq : decide (n ≤ 1048576) = false := by simp; omega
          rw [show validB _ = false by simp [validB, hz, hg, hn']]
          clear hg hz hG
          go_enter Tryz.func109, Tryz.ntmps109
          go_wp2_with (first | (go_at_call 42; refine (rword_any _ hs _).mono ?_; rintro e w' ⟨rfl, rfl⟩))
          go_ret
          exact ⟨rfl, (Below.refl _ _).alloc (Nat.le_refl _) _⟩
        · have hq : decide (n ≤ 1048576) = true := by simp; omega
          rw [show validB _ = true by simp [validB, hz, hg, hn, hn2]]
          clear hg hz hG
          go_enter Tryz.func109, Tryz.ntmps109
          go_wp2_with (first | (go_at_call 42; refine (rword_any _ hs _).mono ?_; rintro e w' ⟨rfl, rfl⟩))
          go_ret
          exact ⟨rfl, (Below.refl _ _).alloc (Nat.le_refl _) _⟩
      · rw [decide_eq_false hG] at hg
        have eg : decide (65 ≤ t[0].toNat ∧ t[0].toNat ≤ 90) = false := by simp; omega
        rcases (show t[0].toNat < 65 ∨ (65 ≤ t[0].toNat ∧ 90 < t[0].toNat) by omega) with hlo | ⟨hlo, hhi⟩
        · have g1 : ¬ (65 : Int) ≤ (t[0].toNat : Int) := by omega
          rw [show validB _ = false by simp [validB, hz, hg]]
          clear hg hz hG
          go_enter Tryz.func109, Tryz.ntmps109
          go_wp2_with (first | (go_at_call 42; refine (rword_any _ hs _).mono ?_; rintro e w' ⟨rfl, rfl⟩))
          go_ret
          exact ⟨rfl, (Below.refl _ _).alloc (Nat.le_refl _) _⟩
        · have g1 : (65 : Int) ≤ (t[0].toNat : Int) := by omega
          have g2 : ¬ (t[0].toNat : Int) ≤ 90 := by omega
          rw [show validB _ = false by simp [validB, hz, hg]]
          clear hg hz hG
          go_enter Tryz.func109, Tryz.ntmps109
          go_wp2_with (first | (go_at_call 42; refine (rword_any _ hs _).mono ?_; rintro e w' ⟨rfl, rfl⟩))
          go_ret
          exact ⟨rfl, (Below.refl _ _).alloc (Nat.le_refl _) _⟩
    · have ez : ((t.size : Int) == 1) = false := by simp; omega
      rw [show validB _ = false by simp [validB, hz]]
      clear hz
      go_enter Tryz.func109, Tryz.ntmps109
      go_wp2_with (first | (go_at_call 42; refine (rword_any _ hs _).mono ?_; rintro e w' ⟨rfl, rfl⟩))
      go_ret
      exact ⟨rfl, (Below.refl _ _).alloc (Nat.le_refl _) _⟩
  · have e1 : (k == 1) = false := by simp [h1]
    by_cases h2 : k = 2
    · subst h2
      by_cases hz : t.size = 0
      · have ez := str_nil hz
        rcases (show n < -2147483647 ∨ (-2147483647 ≤ n ∧ 2147483647 < n) ∨ (-2147483647 ≤ n ∧ n ≤ 2147483647) by omega) with hn | ⟨hn, hn2⟩ | ⟨hn, hn2⟩
        · have hn' : ¬ -2147483647 ≤ n := by omega
          rw [show validB _ = false by simp [validB, hz, hn']]
          clear hz h1 e1
          go_enter Tryz.func109, Tryz.ntmps109
          go_wp2_with (first | (go_at_call 42; refine (rword_any _ hs _).mono ?_; rintro e w' ⟨rfl, rfl⟩))
          go_ret
          exact ⟨rfl, (Below.refl _ _).alloc (Nat.le_refl _) _⟩
        · have hn' : ¬ n ≤ 2147483647 := by omega
          have hq : decide (n ≤ 2147483647) = false := by simp; omega
          rw [show validB _ = false by simp [validB, hz, hn']]
          clear hz h1 e1
          go_enter Tryz.func109, Tryz.ntmps109
          go_wp2_with (first | (go_at_call 42; refine (rword_any _ hs _).mono ?_; rintro e w' ⟨rfl, rfl⟩))
          go_ret
          exact ⟨rfl, (Below.refl _ _).alloc (Nat.le_refl _) _⟩
        · have hq : decide (n ≤ 2147483647) = true := by simp; omega
          rw [show validB _ = true by simp [validB, hz, hn, hn2]]
          clear hz h1 e1
          go_enter Tryz.func109, Tryz.ntmps109
          go_wp2_with (first | (go_at_call 42; refine (rword_any _ hs _).mono ?_; rintro e w' ⟨rfl, rfl⟩))
          go_ret
          exact ⟨rfl, (Below.refl _ _).alloc (Nat.le_refl _) _⟩
      · have ez := str_cons hz
        rw [show validB _ = false by simp [validB, hz]]
        clear hz h1 e1
        go_enter Tryz.func109, Tryz.ntmps109
        go_wp2_with (first | (go_at_call 42; refine (rword_any _ hs _).mono ?_; rintro e w' ⟨rfl, rfl⟩))
        go_ret
        exact ⟨rfl, (Below.refl _ _).alloc (Nat.le_refl _) _⟩
    · have e2 : (k == 2) = false := by simp [h2]
      by_cases h3 : k = 3
      · subst h3
        by_cases hn : n = 0
        · subst hn
          rw [show validB _ = wordB t.data.toList by simp [validB]]
          clear h1 h2 e1 e2
          go_enter Tryz.func109, Tryz.ntmps109
          go_wp2_with (first | (go_at_call 42; refine (rword_any _ hs _).mono ?_; rintro e w' ⟨rfl, rfl⟩))
          go_ret
          exact ⟨rfl, (Below.refl _ _).alloc (Nat.le_refl _) _⟩
        · have en : (n == 0) = false := by simp [hn]
          rw [show validB _ = false by simp [validB, hn]]
          clear h1 h2 e1 e2 hn
          go_enter Tryz.func109, Tryz.ntmps109
          go_wp2_with (first | (go_at_call 42; refine (rword_any _ hs _).mono ?_; rintro e w' ⟨rfl, rfl⟩))
          go_ret
          exact ⟨rfl, (Below.refl _ _).alloc (Nat.le_refl _) _⟩
      · have e3 : (k == 3) = false := by simp [h3]
        rw [show validB _ = false by simp [validB, h1, h2, h3]]
        clear h1 h2 h3
        go_enter Tryz.func109, Tryz.ntmps109
        go_wp2_with (first | (go_at_call 42; refine (rword_any _ hs _).mono ?_; rintro e w' ⟨rfl, rfl⟩))
        go_ret
        exact ⟨rfl, (Below.refl _ _).alloc (Nat.le_refl _) _⟩
end Go.Proofs.YtgeaccoobhigcaaGreat
namespace Go.Proofs.YtgeaccoobhigcaaGreat
open Go Go.RowKit
theorem word_size {l : Bs} (h : wordB l = true) : 1 ≤ l.length ∧ l.length ≤ 32 := by
  unfold wordB at h
  simp only [Bool.and_eq_true, decide_eq_true_eq] at h
  exact ⟨h.1.1.1, h.1.1.2⟩
end Go.Proofs.YtgeaccoobhigcaaGreat
namespace Go.Proofs.YtgeaccoobhigcaaGreat
open Go Go.RowKit
/-- An atom. -/
structure Am where
  v : ByteArray
  s : Sm
def Am.cells (a : Am) : List Value := .string a.v :: a.s.cells
def Am.val (a : Am) : Value := .agg #[.string a.v, .int .i64 a.s.k, .string a.s.t, .int .i64 a.s.n]
end Go.Proofs.YtgeaccoobhigcaaGreat
namespace Go.Proofs.YtgeaccoobhigcaaGreat
open Go Go.RowKit
/-- A block that holds these cells. -/
def BoxC (W : World) (b : Nat) (t : TypeId) (cs : List Value) : Prop := W.heap[b]? = some (.cells cs.toArray t (0, 0))
theorem BoxC.new (W : World) (cs : List Value) (t : TypeId) : BoxC (W.alloc (.cells cs.toArray t)) W.heap.size t cs := heap_alloc_new W _
theorem BoxC.lt {W : World} {b : Nat} {t : TypeId} {cs : List Value} (h : BoxC W b t cs) : b < W.heap.size := lt_of_block h
theorem BoxC.below {A B : World} {b : Nat} {t : TypeId} {cs : List Value} (h : BoxC A b t cs) (hb : Below A.heap.size A B) : BoxC B b t cs := (hb.block b h.lt).trans h
theorem BoxC.at_ {W : World} {b : Nat} {t : TypeId} {cs : List Value} (h : BoxC W b t cs) {j : Nat} {u : Value} (hj : cs[j]? = some u) : W.cell? ⟨b, j, none⟩ = some u := by
  rw [cell_of_row _ _ _ _ _ _ h]; simpa using hj
theorem undrew {a b : World} (h : Below a.drew.heap.size a.drew b) : Below a.heap.size a b := ⟨h.os, h.tape, h.output, h.size, h.block⟩
/-- A term. -/
structure Tm where
  op : Int
  a : Am
  b : Am
def Tm.cells (t : Tm) : List Value := .int .i64 t.op :: (t.a.cells ++ t.b.cells)
def Tm.val (t : Tm) : Value := .agg #[.int .i64 t.op, .string t.a.v, .int .i64 t.a.s.k, .string t.a.s.t, .int .i64 t.a.s.n, .string t.b.v, .int .i64 t.b.s.k, .string t.b.s.t, .int .i64 t.b.s.n]
end Go.Proofs.YtgeaccoobhigcaaGreat
namespace Go.Proofs.YtgeaccoobhigcaaGreat
open Go Go.RowKit
/-- An action. -/
structure Ac where
  id : ByteArray
  attr : Am
  value : Tm
  pref : Int
  other : Am
def Ac.cells (a : Ac) : List Value := .string a.id :: (a.attr.cells ++ (a.value.cells ++ (.int .i64 a.pref :: a.other.cells)))
def Ac.val (a : Ac) : Value := .agg #[.string a.id, .string a.attr.v, .int .i64 a.attr.s.k, .string a.attr.s.t, .int .i64 a.attr.s.n, .int .i64 a.value.op, .string a.value.a.v, .int .i64 a.value.a.s.k, .string a.value.a.s.t, .int .i64 a.value.a.s.n, .string a.value.b.v, .int .i64 a.value.b.s.k, .string a.value.b.s.t, .int .i64 a.value.b.s.n, .int .i64 a.pref, .string a.other.v, .int .i64 a.other.s.k, .string a.other.s.t, .int .i64 a.other.s.n]
end Go.Proofs.YtgeaccoobhigcaaGreat
