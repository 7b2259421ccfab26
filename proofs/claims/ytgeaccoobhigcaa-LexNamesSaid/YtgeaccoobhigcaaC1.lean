/-
  A token as it is written; just blanks and remarks.
-/
import Derived.Test.YtgeaccoobhigcaaB6
import Derived.Test.YtgeaccoobhigcaaL4
namespace Go.Proofs.Ytgeaccoobhigcaa
open Go Go.RowKit

/-- The bytes that ponderlaw05.text makes of a token. -/
def txtT (t : Tk) : Bs := if t.kind = 3 then 60 :: (t.text ++ [62]) else t.text
theorem str_cat (a b c : Array UInt8) : (⟨a⟩ : ByteArray) ++ ⟨b⟩ ++ ⟨c⟩ = ⟨a ++ b ++ c⟩ := by
  apply ByteArray.ext
  simp

set_option maxHeartbeats 1000000 in
theorem text_any (t : Tk) (X : ByteArray) (hX : Value.string X = strV (txtT t)) (hl : t.text.length ≤ 1099511627776) (w : World) :
    Calls Try.prog 29 #[.agg #[.int .i64 t.kind, .string ⟨t.text.toArray⟩, .int .i64 t.pos]] w fun e w' => e = .returned (.string X) ∧ Below w.heap.size w w' := by
  obtain ⟨kd, tx, ps⟩ := t
  simp only at hl ⊢
  by_cases h3 : kd = 3
  · have e3 : ((kd : Int) == 3) = true := by simp; omega
    have hX' : Ending.returned (.string X) = .returned (.string ((⟨#[60]⟩ : ByteArray) ++ ⟨tx.toArray⟩ ++ ⟨#[62]⟩)) := by
      rw [hX, str_cat]
      unfold txtT strV
      rw [if_pos h3]
      congr 3
      simp
    rw [hX']
    clear hX hX' h3
    have hz : (ByteArray.mk tx.toArray).size ≤ 1099511627776 := by show tx.toArray.size ≤ _; simpa using hl
    generalize ByteArray.mk tx.toArray = Y at hz ⊢
    go_enter Try.func29, Try.ntmps29
    go_wp2
    go_ret
    exact ⟨rfl, (Below.refl _ _).alloc (Nat.le_refl _) _⟩
  · have e3 : ((kd : Int) == 3) = false := by simp; omega
    have hX' : Ending.returned (.string X) = .returned (.string ⟨tx.toArray⟩) := by
      rw [hX]; unfold txtT strV; rw [if_neg h3]
    rw [hX']
    clear hX hX' h3
    generalize ByteArray.mk tx.toArray = Y
    go_enter Try.func29, Try.ntmps29
    go_wp2
    go_ret
    exact ⟨rfl, (Below.refl _ _).alloc (Nat.le_refl _) _⟩

set_option maxHeartbeats 1000000 in
theorem empty_any (s : ByteArray) (hs : s.size ≤ 1099511627776) (he : emptyB s.data.toList = true) (w : World) :
    Calls Try.prog 30 #[.string s] w fun e w' => e = .returned (.bool true) ∧ w' = w := by
  have h0 : skipN false (from_ s 0) = s.size := by
    unfold emptyB at he
    rw [from_zero]
    have := of_decide_eq_true he
    rw [this, size_toList]
  have H0 := Lib.hid h0
  clear h0 he
  go_enter Try.func30, Try.ntmps30
  go_wp2
  go_loop [3] (fun t => ∃ k : Nat, k ≤ s.size + 1 ∧ Hid (k ≤ s.size → skipN false (from_ s k) = s.size - k) ∧ t = .int .i64 k) (fun t => s.size - (intOf t).toNat)
  case atStart => exact ⟨0, by omega, Lib.hid (fun _ => H0.out), rfl⟩
  case round =>
    obtain ⟨k, hk, HK, rfl⟩ := hrel
    by_cases hlt : k < s.size
    · by_cases h35 : s[k].toNat = 35
      · have HY := Lib.hid (skip_mark s k hlt h35)
        have e35 : ((s[k].toNat : Int) == 35) = true := by simp; omega
        have HN := Lib.hid h35
        clear h35
        go_wp2
        go_loop [3] (fun t => ∃ m : Nat, k ≤ m ∧ m ≤ s.size ∧ Hid (skipN true (from_ s m) = s.size - m) ∧ t = .int .i64 m) (fun t => s.size - (intOf t).toNat)
        case atStart => exact ⟨k, Nat.le_refl _, by omega, Lib.hid (by rw [← HY.out]; exact HK.out (by omega)), rfl⟩
        case round =>
          obtain ⟨m, hkm, hm, HM, rfl⟩ := hrel
          by_cases hml : m < s.size
          · by_cases h10 : s[m].toNat = 10
            · have e10 : ((s[m].toNat : Int) != 10) = false := by simp; omega
              have HZ := Lib.hid (skip_out s m hml h10)
              have HB := Lib.hid (skip_blank s m hml (by simp [blankB, h10]))
              clear h10
              go_wp2
              go_round
              case rel => exact ⟨m + 1, by omega, Lib.hid (fun _ => by have := HM.out; have := HZ.out; have := HB.out; omega), by go_num⟩
              case measure => simp [intOf]; omega
            · have e10 : ((s[m].toNat : Int) != 10) = true := by simp; omega
              have HZ := Lib.hid (skip_in s m hml h10)
              clear h10
              go_wp2
              go_round
              case rel => exact ⟨m + 1, by omega, by omega, Lib.hid (by have := HM.out; have := HZ.out; omega), by go_num⟩
              case measure => simp [intOf]; omega
          · go_wp2
            go_round
            case rel => exact ⟨m + 1, by omega, Lib.hid (fun h => by omega), by go_num⟩
            case measure => simp [intOf]; omega
      · have e35 : ((s[k].toNat : Int) == 35) = false := by simp; omega
        have hb : blankB s[k] = true := by
          rcases hb : blankB s[k] with _ | _
          · have := skip_stop s k hlt hb h35
            have := HK.out (by omega)
            omega
          · rfl
        have HB := Lib.hid (skip_blank s k hlt hb)
        simp only [blankB, decide_eq_true_iff] at hb
        have b1 : ((s[k].toNat : Int) != 32) = false ∨ (((s[k].toNat : Int) != 32) = true ∧ ((s[k].toNat : Int) != 9) = false) ∨ (((s[k].toNat : Int) != 32) = true ∧ ((s[k].toNat : Int) != 9) = true ∧ ((s[k].toNat : Int) != 10) = false) ∨
          (((s[k].toNat : Int) != 32) = true ∧ ((s[k].toNat : Int) != 9) = true ∧ ((s[k].toNat : Int) != 10) = true ∧ ((s[k].toNat : Int) != 13) = false) := by simp; omega
        clear hb h35
        rcases b1 with b1 | ⟨b1, b2⟩ | ⟨b1, b2, b3⟩ | ⟨b1, b2, b3, b4⟩
        all_goals
          go_wp2
          go_round
          case rel => exact ⟨k + 1, by omega, Lib.hid (fun _ => by have := HK.out (by omega); have := HB.out; omega), by go_num⟩
          case measure => simp [intOf]; omega
    · go_wp2
      go_ret
      exact ⟨rfl, rfl⟩
end Go.Proofs.Ytgeaccoobhigcaa
