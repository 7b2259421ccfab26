/-
  The texts of symbols: sym.Text and ponderref04's.
-/
import Derived.Test.YtgeaccoobhigcaaS2
namespace Go.Proofs.Ytgeaccoobhigcaa
open Go Go.RowKit

theorem cat_assoc (a b c : ByteArray) : a ++ b ++ c = a ++ (b ++ c) := by
  apply str_ext
  simp only [ByteArray.data_append, Array.toList_append, List.append_assoc]
theorem cat_nil (a : ByteArray) : a ++ (⟨#[]⟩ : ByteArray) = a := by
  apply str_ext
  simp only [ByteArray.data_append, Array.toList_append]
  exact List.append_nil _

set_option maxHeartbeats 2000000 in
theorem rdigits_any (n : Nat) (hn : n ≤ 4294967296) (w : World) : Calls Try.prog 139 #[.int .i64 n] w fun e w' => e = .returned (.string (digS n)) ∧ Below w.heap.size w w' := by
  have hz := digS_size n hn
  go_enter Try.func139, Try.ntmps139
  go_wp2
  go_loopw [0, 3] (fun tn ts wr => ∃ (k : Nat) (S : ByteArray), k ≤ 4294967296 ∧ tn = .int .i64 k ∧ ts = .string S ∧ Hid (digS k ++ S = digS n) ∧ Below w.heap.size w wr) (fun tn _ _ => (intOf tn).toNat)
  case atStart => exact ⟨n, ⟨#[]⟩, hn, rfl, rfl, Lib.hid (cat_nil _), Below.refl _ _⟩
  case round =>
    obtain ⟨k, S, hk, rfl, rfl, HS, hb⟩ := hrel
    have hSz : S.size ≤ 11 := by have := congrArg ByteArray.size HS.out; rw [cat2_size] at this; omega
    by_cases h10 : k < 10
    · have h9 : ¬ (9 : Int) < (k : Int) := by omega
      have hcv := fun w => conv_one w (48 + (k : Int))
      have ho := one_size (48 + (k : Int))
      have HD := Lib.hid (digS_lt h10)
      clear h10
      go_wp2
      go_ret
      exact ⟨by rw [HD.out, HS.out]; rfl, hb.alloc hb.size _⟩
    · have h9 : (9 : Int) < (k : Int) := by omega
      have hcv := fun w => conv_one w (48 + (k : Int) % 10)
      have ho := one_size (48 + (k : Int) % 10)
      have HD := Lib.hid (digS_ge h10)
      clear h10
      go_wp2
      go_roundw
      case rel => exact ⟨k / 10, _, by omega, by go_num, rfl, Lib.hid (by rw [← cat_assoc, HD.out, HS.out]), hb.alloc hb.size _⟩
      case measure => simp [intOf]; omega

/-- A number's text. -/
def numS (n : Int) : ByteArray := if n < 0 then (⟨#[45]⟩ : ByteArray) ++ digS (-n).toNat else digS n.toNat
theorem number_text (n : Int) (h1 : -4294967296 ≤ n) (h2 : n ≤ 4294967296) (w : World) : Calls Try.prog 115 #[.int .i64 n] w fun e w' => e = .returned (.string (numS n)) ∧ Below w.heap.size w w' := by
  by_cases h : n < 0
  · have hd := fun w => rdigits_any (-n).toNat (by omega) w
    have e : (((-n).toNat : Nat) : Int) = -n := by omega
    rw [e] at hd
    have hz := digS_size (-n).toNat (by omega)
    have HE : Hid (numS n = (⟨#[45]⟩ : ByteArray) ++ digS (-n).toNat) := Lib.hid (by unfold numS; rw [if_pos h])
    have HD := Lib.hid hd
    clear hd e
    rw [HE.out]
    generalize digS (-n).toNat = D at HD hz
    go_enter Try.func115, Try.ntmps115
    go_wp2_with (go_at_call 139; refine (HD.out _).mono ?_; rintro e w2 ⟨rfl, b2⟩)
    go_ret
    exact ⟨rfl, b2⟩
  · have hd := fun w => rdigits_any n.toNat (by omega) w
    have e : ((n.toNat : Nat) : Int) = n := by omega
    rw [e] at hd
    have HE : Hid (numS n = digS n.toNat) := Lib.hid (by unfold numS; rw [if_neg h])
    have HD := Lib.hid hd
    clear hd e
    rw [HE.out]
    go_enter Try.func115, Try.ntmps115
    go_wp2_with (go_at_call 139; refine (HD.out _).mono ?_; rintro e w2 ⟨rfl, b2⟩)
    go_ret
    exact ⟨rfl, b2⟩
end Go.Proofs.Ytgeaccoobhigcaa
