/-
  The walks of lex.blanks, lex.begins and lex.sign.
-/
import Derived.Test.YtgeaccoobhigcaaA2
import Derived.Deep.DeepCutAuto
namespace Go.Proofs.Ytgeaccoobhigcaa
open Go.RowKit

set_option maxHeartbeats 2000000 in
theorem blanks_any (s : ByteArray) (i : Nat) (hi : i ≤ s.size) (hs : s.size ≤ maxLen) (w : World) :
    Calls Try.prog 57 #[.string s, .int .i64 i] w fun e w' => e = .returned (.int .i64 ((i + skipN false (from_ s i) : Nat) : Int)) ∧ w' = w := by
  unfold maxLen at hs
  go_enter Try.func57, Try.ntmps57
  go_wp2
  go_loop [1] (fun t => ∃ k : Nat, k ≤ s.size ∧ Hid (k + skipN false (from_ s k) = i + skipN false (from_ s i)) ∧ t = .int .i64 k) (fun t => s.size - (intOf t).toNat)
  case atStart => exact ⟨i, hi, Lib.hid rfl, rfl⟩
  case round =>
    obtain ⟨k, hk, HK, rfl⟩ := hrel
    by_cases hlt : k < s.size
    · rcases hp : blankB s[k] with _ | _
      · have hp' := hp
        simp only [blankB, decide_eq_false_iff_not, not_or] at hp'
        have b1 : ((s[k].toNat : Int) == 32) = false := by simp; omega
        have b2 : ((s[k].toNat : Int) == 9) = false := by simp; omega
        have b3 : ((s[k].toNat : Int) == 10) = false := by simp; omega
        have b4 : ((s[k].toNat : Int) == 13) = false := by simp; omega
        clear hp'
        by_cases h35 : s[k].toNat = 35
        · have HY := Lib.hid (skip_mark s k hlt h35)
          have e35 : ((s[k].toNat : Int) == 35) = true := by simp; omega
          have HN := Lib.hid h35
          clear h35
          go_wp2
          go_loop [1] (fun t => ∃ m : Nat, k ≤ m ∧ m ≤ s.size ∧ Hid (m + skipN true (from_ s m) = i + skipN false (from_ s i)) ∧ t = .int .i64 m) (fun t => s.size - (intOf t).toNat)
          case atStart => exact ⟨k, Nat.le_refl _, hk, Lib.hid (by have := HK.out; have := HY.out; omega), rfl⟩
          case round =>
            obtain ⟨m, hkm, hm, HM, rfl⟩ := hrel
            by_cases hml : m < s.size
            · by_cases h10 : s[m].toNat = 10
              · have e10 : ((s[m].toNat : Int) != 10) = false := by simp; omega
                have hne : k < m := by
                  rcases Nat.lt_or_ge k m with h | h
                  · exact h
                  · have : k = m := by omega
                    subst this
                    have := HN.out
                    omega
                have HZ := Lib.hid (skip_out s m hml h10)
                clear h10
                go_wp2
                go_round
                case rel => exact ⟨m, by omega, Lib.hid (by have := HM.out; have := HZ.out; omega), rfl⟩
                case measure => simp [intOf]; omega
              · have e10 : ((s[m].toNat : Int) != 10) = true := by simp; omega
                have HZ := Lib.hid (skip_in s m hml h10)
                clear h10
                go_wp2
                go_round
                case rel => exact ⟨m + 1, by omega, by omega, Lib.hid (by have := HM.out; have := HZ.out; omega), by go_num⟩
                case measure => simp [intOf]; omega
            · have HZ := Lib.hid (skip_end true s m (by omega))
              have HZ' := Lib.hid (skip_end false s m (by omega))
              go_wp2
              go_round
              case rel => exact ⟨m, by omega, Lib.hid (by have := HM.out; have := HZ.out; have := HZ'.out; omega), rfl⟩
              case measure => simp [intOf]; omega
        · have HY := Lib.hid (skip_stop s k hlt hp h35)
          have e35 : ((s[k].toNat : Int) == 35) = false := by simp; omega
          clear h35
          go_wp2
          go_ret
          exact ⟨ret_nat (by have := HK.out; have := HY.out; omega), rfl⟩
      · have HY := Lib.hid (skip_blank s k hlt hp)
        have hp' := hp
        simp only [blankB, decide_eq_true_iff] at hp'
        have b1 : ((s[k].toNat : Int) == 32) = true ∨ (((s[k].toNat : Int) == 32) = false ∧ ((s[k].toNat : Int) == 9) = true) ∨ (((s[k].toNat : Int) == 32) = false ∧ ((s[k].toNat : Int) == 9) = false ∧ ((s[k].toNat : Int) == 10) = true) ∨
          (((s[k].toNat : Int) == 32) = false ∧ ((s[k].toNat : Int) == 9) = false ∧ ((s[k].toNat : Int) == 10) = false ∧ ((s[k].toNat : Int) == 13) = true) := by simp; omega
        clear hp' hp
        rcases b1 with b1 | ⟨b1, b2⟩ | ⟨b1, b2, b3⟩ | ⟨b1, b2, b3, b4⟩
        all_goals
          go_wp2
          go_round
          case rel => exact ⟨k + 1, by omega, Lib.hid (by have := HK.out; have := HY.out; omega), by go_num⟩
          case measure => simp [intOf]; omega
    · have HY := Lib.hid (skip_end false s k (by omega))
      go_wp2
      go_ret
      exact ⟨ret_nat (by have := HK.out; have := HY.out; omega), rfl⟩

/-- Does a piece stand at the head? -/
def headB (x l : Bs) : Bool := x.isPrefixOf l

theorem ext_toList (s : ByteArray) (i j : Nat) : (s.extract i j).toList = (from_ s i).take (j - i) := by
  rw [ByteArray.toList_eq]
  simp [from_, List.take_drop, ByteArray.data_extract]

theorem headB_of_ext (s x : ByteArray) (i : Nat) : ((s.extract i (i + x.size)).toList == x.toList) = headB x.data.toList (from_ s i) := by
  rw [ext_toList, ByteArray.toList_eq, Bool.eq_iff_iff]
  simp only [headB, beq_iff_eq, List.isPrefixOf_iff_prefix]
  rw [List.prefix_iff_eq_take]
  have : x.data.toList.length = i + x.size - i := by simp
  rw [this]
  exact eq_comm
theorem headB_short (s x : ByteArray) (i : Nat) (h : s.size < i + x.size) (hi : i ≤ s.size) : headB x.data.toList (from_ s i) = false := by
  rw [Bool.eq_false_iff]
  intro hh
  have := (List.isPrefixOf_iff_prefix.1 hh).length_le
  rw [from_length] at this
  simp at this
  omega

theorem begins_any (s x : ByteArray) (i : Nat) (hi : i ≤ s.size) (hs : s.size ≤ 1099511627776) (hx : x.size ≤ 100) (w : World) :
    Calls Try.prog 126 #[.string s, .int .i64 i, .string x] w fun e w' => e = .returned (.bool (headB x.data.toList (from_ s i))) ∧ w' = w := by
  by_cases h : i + x.size ≤ s.size
  · rw [← headB_of_ext s x i]
    have hc : ((i : Int) + (x.size : Int)).toNat = i + x.size := by omega
    go_enter Try.func126, Try.ntmps126
    go_wp2
    go_ret
    exact ⟨rfl, rfl⟩
  · rw [headB_short s x i (by omega) hi]
    go_enter Try.func126, Try.ntmps126
    go_wp2
    go_ret
    exact ⟨rfl, rfl⟩

/-- The signs, the longest first. -/
def signs : List Bs := [[45, 45, 62], [60, 61, 62], [60, 60], [62, 62], [60, 62], [60, 61], [62, 61], [40], [41], [123], [125], [94], [43], [45], [33], [126], [60], [62], [61], [42]]
/-- The first of these that stands at the head; empty: none does. -/
def firstAt (l : Bs) : List Bs → Bs
  | [] => []
  | x :: r => if headB x l then x else firstAt l r
def signT (l : Bs) : Bs := firstAt l signs
def strV (l : Bs) : Value := .string ⟨l.toArray⟩
theorem firstAt_drop_no (l : Bs) (k : Nat) (hk : k < signs.length) (h : headB signs[k] l = false) : firstAt l (signs.drop k) = firstAt l (signs.drop (k + 1)) := by
  rw [List.drop_eq_getElem_cons hk]; simp [firstAt, h]
theorem firstAt_drop_yes (l : Bs) (k : Nat) (hk : k < signs.length) (h : headB signs[k] l = true) : firstAt l (signs.drop k) = signs[k] := by
  rw [List.drop_eq_getElem_cons hk]; simp [firstAt, h]
theorem signs_size (k : Nat) (hk : k < signs.length) : signs[k].length ≤ 100 := by
  have : ∀ x ∈ signs, x.length ≤ 100 := by decide
  exact this _ (List.getElem_mem hk)
theorem signs_len : signs.length = 20 := rfl

def SV : Value := .agg (signs.map strV).toArray
theorem und153 : Try.prog.underlying 153 = some (.array 20 9) := by kernel_rfl
theorem run_index_signs (k : Nat) (hk : k < signs.length) (w : World) : (Instr.index 153 SV (.int .i64 (k:Int))).run Try.prog w = .ok (strV (signs[k])) w := by
  have hk' : k < 20 := hk
  have h1 : (0 : Int) ≤ (k : Int) ∧ (k : Int) < 20 := by omega
  simp [Instr.index, SV, run_underlying und153, asIntOf, h1, go_sem, hk', List.getElem?_eq_getElem hk]
theorem sv_size (l : Bs) : (⟨l.toArray⟩ : ByteArray).size = l.length := rfl

set_option maxHeartbeats 1000000 in
theorem sign_any (s : ByteArray) (i : Nat) (hi : i ≤ s.size) (hs : s.size ≤ 1099511627776) (w : World) :
    Calls Try.prog 95 #[.string s, .int .i64 i] w fun e w' => e = .returned (strV (signT (from_ s i))) ∧ w' = w := by
  go_enter Try.func95, Try.ntmps95
  go_upto_region 1 with fail
  go_cut [7, 8] (fun a b wx => a = SV ∧ b = .int .i64 0 ∧ wx = w)
  case first =>
    go_wp2_with fail
    go_meet
    exact ⟨rfl, rfl, rfl⟩
  obtain ⟨rfl, rfl, rfl⟩ := hcut
  go_wp2
  go_loop [8] (fun t => ∃ k : Nat, k ≤ 20 ∧ Hid (signT (from_ s i) = firstAt (from_ s i) (signs.drop k)) ∧ t = .int .i64 k) (fun t => 20 - (intOf t).toNat)
  case atStart => exact ⟨0, by omega, Lib.hid rfl, rfl⟩
  case round =>
    obtain ⟨k, hk, HK, rfl⟩ := hrel
    by_cases hlt : k < signs.length
    · have hlt' : k < 20 := hlt
      have hix := run_index_signs k hlt
      have hsz := signs_size k hlt
      have HN := Lib.hid (firstAt_drop_no (from_ s i) k hlt)
      have HY := Lib.hid (firstAt_drop_yes (from_ s i) k hlt)
      generalize signs[k] = x at hix hsz HN HY
      rw [strV] at hix
      have hb : headB x (from_ s i) = headB (ByteArray.mk x.toArray).data.toList (from_ s i) := by simp
      rw [hb] at HN HY
      have hc := begins_any s ⟨x.toArray⟩ i hi hs hsz
      clear hb
      rcases hb : headB (ByteArray.mk x.toArray).data.toList (from_ s i) with _ | _
      · rw [hb] at hc HN
        clear hb
        have HC := Lib.hid hc
        clear hc
        have HN' := Lib.hid (HN.out rfl)
        generalize hX : ByteArray.mk x.toArray = X at hix HC
        clear hX hsz HN HY
        go_wp2_with (go_at_call 126; refine (HC.out _).mono ?_; rintro e w' ⟨rfl, rfl⟩)
        go_round
        case rel => exact ⟨k + 1, by omega, Lib.hid (by rw [HK.out, HN'.out]), by go_num⟩
        case measure => simp [intOf]; omega
      · rw [hb] at hc HY
        clear hb
        have HC := Lib.hid hc
        clear hc
        have HY' := Lib.hid (HY.out rfl)
        generalize hX : ByteArray.mk x.toArray = X at hix HC
        have HX := Lib.hid hX
        clear hX hsz HN HY
        go_wp2_with (go_at_call 126; refine (HC.out _).mono ?_; rintro e w' ⟨rfl, rfl⟩)
        go_ret
        exact ⟨by rw [HK.out, HY'.out, strV, HX.out]; rfl, rfl⟩
    · have hnlt : ¬ k < 20 := hlt
      have HZ := Lib.hid (show signs.drop k = [] from List.drop_eq_nil_of_le (by rw [signs_len] at hlt ⊢; omega))
      go_wp2
      go_ret
      exact ⟨by rw [HK.out, HZ.out]; rfl, rfl⟩
end Go.Proofs.Ytgeaccoobhigcaa
