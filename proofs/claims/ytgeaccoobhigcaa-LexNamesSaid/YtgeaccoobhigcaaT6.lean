/-
  The walk of the law LexNames.
-/
import Derived.Test.YtgeaccoobhigcaaT1
import Derived.Test.YtgeaccoobhigcaaC2
import Derived.Laws.BytesArg
namespace Go.Proofs.Ytgeaccoobhigcaa
open Go Go.RowKit

def letS (n : Nat) : ByteArray := ⟨(letN n).toArray⟩
theorem letS_size (n : Nat) : (letS n).size = n := by show (letN n).toArray.size = n; simp [letN_length]

theorem conv_one (wx : World) (q : Int) :
    (convert 43 9 (.slice (some ⟨wx.heap.size, 0, none⟩) 1 1)).run Try.prog (wx.alloc (.cells #[.int .u8 q] 5)) = .ok (.string (strOfNums [q])) (wx.alloc (.cells #[.int .u8 q] 5)) := by
  refine run_convert_bytes_arg (P := Try.prog) (wx.alloc (.cells #[.int .u8 q] 5)) 43 5 Try.underlying43 Try.underlying5 wx.heap.size 0 1 1 [q] rfl ?_ 9 Try.underlying9
  intro i hi
  obtain rfl : i = 0 := by omega
  simp
theorem str_ext {a b : ByteArray} (h : a.data.toList = b.data.toList) : a = b := by
  apply ByteArray.ext
  apply Array.toList_inj.1
  exact h
theorem letS_succ (i : Nat) : letS i ++ strOfNums [97 + (i : Int) % 26] = letS (i + 1) := by
  apply str_ext
  rw [ByteArray.data_append, Array.toList_append]
  show letN i ++ _ = letN (i + 1)
  rw [letN_succ, strOfNums_data]
  congr 2
theorem one_size (q : Int) : (strOfNums [q]).size = 1 := strOfNums_size _
theorem letS_var (n : Nat) : ((⟨#[60]⟩ : ByteArray) ++ letS n ++ (⟨#[62]⟩ : ByteArray)).data.toList = 60 :: (letN n ++ [62]) := by
  rw [ByteArray.data_append, ByteArray.data_append, Array.toList_append, Array.toList_append]
  rfl
def nineS (n : Nat) : ByteArray := ⟨(List.replicate n (57 : UInt8)).toArray⟩
theorem nineS_size (n : Nat) : (nineS n).size = n := by show (List.replicate n (57 : UInt8)).toArray.size = n; simp
theorem nineS_succ (i : Nat) : nineS i ++ (⟨#[57]⟩ : ByteArray) = nineS (i + 1) := by
  apply str_ext
  rw [ByteArray.data_append, Array.toList_append]
  show List.replicate i 57 ++ [57] = List.replicate (i + 1) 57
  rw [List.replicate_succ']
theorem nineS_num (n : Nat) : ((⟨#[45]⟩ : ByteArray) ++ nineS n).data.toList = 45 :: List.replicate n 57 := by
  rw [ByteArray.data_append, Array.toList_append]
  rfl
theorem nineS_val (n : Nat) : strV (45 :: List.replicate n 57) = .string ((⟨#[45]⟩ : ByteArray) ++ nineS n) := by
  unfold strV
  congr 1
theorem cat2_size (a b : ByteArray) : (a ++ b).size = a.size + b.size := by simp

set_option maxRecDepth 100000 in
set_option maxHeartbeats 4000000 in
theorem lexNames_walk (nn kk : Int) (w : World) :
    Calls Try.prog 8 #[.int .i64 nn, .int .i64 kk] w fun e w' => e = .returned (.bool true) ∧ Below w.heap.size w w' := by
  have hW := fun w => within_any nn 70 w (by omega) (by omega)
  have hV := fun w => within_any kk 3 w (by omega) (by omega)
  have k0 : 0 ≤ nn % 70 := Int.emod_nonneg _ (by omega)
  have k1 : nn % 70 < 70 := Int.emod_lt_of_pos _ (by omega)
  have j0 : 0 ≤ kk % 3 := Int.emod_nonneg _ (by omega)
  have j1 : kk % 3 < 3 := Int.emod_lt_of_pos _ (by omega)
  obtain ⟨n, hn⟩ : ∃ n : Nat, nn % 70 = (n : Int) := ⟨(nn % 70).toNat, by omega⟩
  obtain ⟨k, hk⟩ : ∃ k : Nat, kk % 3 = (k : Int) := ⟨(kk % 3).toNat, by omega⟩
  rw [hn] at k0 k1
  rw [hk] at j0 j1
  simp only [hn] at hW
  simp only [hk] at hV
  have HW := Lib.hid hW
  have HV := Lib.hid hV
  have hn1 : n < 70 := by omega
  clear hW hV hn hk
  go_enter Try.func8, Try.ntmps8
  go_wp2_with (go_at_call 27; refine (HW.out _).mono ?_; rintro e w1 ⟨rfl, rfl⟩)
  go_loopw [5, 6] (fun tu ti wr => ∃ i : Nat, i ≤ n + 1 ∧ tu = .string (letS i) ∧ ti = .int .i64 i ∧ Below w.heap.size w wr) (fun _ ti _ => n + 1 - (intOf ti).toNat)
  case atStart => exact ⟨0, by omega, rfl, rfl, Below.refl _ _⟩
  case round =>
    obtain ⟨i, hi, rfl, rfl, hb⟩ := hrel
    by_cases hlt : i < n + 1
    · have hlt' : (i : Int) < 1 + (n : Int) := by omega
      have hz := letS_size i
      have hcv := conv_one wr (97 + (i : Int) % 26)
      have ho := one_size (97 + (i : Int) % 26)
      have HS := Lib.hid (letS_succ i)
      go_wp2
      go_roundw
      case rel => exact ⟨i + 1, by omega, by rw [HS.out], by go_num, hb.alloc hb.size _⟩
      case measure => simp [intOf]; omega
    · have hie : 1 ≤ i ∧ i ≤ 70 := by omega
      have hlt' : ¬ (i : Int) < 1 + (n : Int) := by omega
      have hz := letS_size i
      have hin : 1 + (n : Int) = (i : Int) := by omega
      rw [hin]
      rcases (show k = 0 ∨ k = 1 ∨ k = 2 by omega) with rfl | rfl | rfl
      · have hla := fun w => lexAll_any (letS i) (by rw [hz]; omega) w
        rw [show (letS i).data.toList = letN i from rfl, names_word i hie.1] at hla
        have HV0 : Hid (∀ w, Calls Try.prog 27 #[.int .i64 kk, .int .i64 3] w fun e w' => e = .returned (.int .i64 0) ∧ w = w') := Lib.hid HV.out
        clear hin hlt'
        by_cases h32 : 32 < i
        · simp only [if_pos h32, if_true, List.length_cons, List.length_nil, Nat.zero_add] at hla
          have h32' : (32 : Int) < (i : Int) := by omega
          have HLA := Lib.hid hla
          clear hla hlt h32
          go_wp2_with (first
            | (go_at_call 27; refine (HV0.out _).mono ?_; rintro e w2 ⟨rfl, rfl⟩)
            | (go_at_call 24; refine (HLA.out _).mono ?_; rintro e w3 ⟨go, c, rfl, hsl, _, b3⟩; obtain ⟨g, o, rfl, x0, x1, x2⟩ := hsl.tok (k := 0) rfl; simp only [Nat.zero_mul, Nat.add_zero] at x0 x1 x2; replace x1 : w3.cell? ⟨g, o + 1, none⟩ = some (.string (letS i)) := x1)
            | (go_at_call 21; refine (wakes_any _).mono ?_; rintro e w7 ⟨rfl, b7⟩))
          go_ret
          exact ⟨rfl, (hb.trans (b3.mono hb.size)).trans (b7.mono (hb.trans (b3.mono hb.size)).size)⟩
        · simp only [if_neg h32, if_neg (show ¬ 1 = 6 by decide), List.length_cons, List.length_nil, Nat.zero_add, Nat.reduceAdd] at hla
          have h32' : ¬ (32 : Int) < (i : Int) := by omega
          have HLA := Lib.hid hla
          clear hla hlt h32
          go_wp2_with (first
            | (go_at_call 27; refine (HV0.out _).mono ?_; rintro e w2 ⟨rfl, rfl⟩)
            | (go_at_call 24; refine (HLA.out _).mono ?_; rintro e w3 ⟨go, c, rfl, hsl, _, b3⟩; obtain ⟨g, o, rfl, x0, x1, x2⟩ := hsl.tok (k := 0) rfl; simp only [Nat.zero_mul, Nat.add_zero] at x0 x1 x2; replace x1 : w3.cell? ⟨g, o + 1, none⟩ = some (.string (letS i)) := x1)
            | (go_at_call 21; refine (wakes_any _).mono ?_; rintro e w7 ⟨rfl, b7⟩))
          go_ret
          exact ⟨rfl, (hb.trans (b3.mono hb.size)).trans (b7.mono (hb.trans (b3.mono hb.size)).size)⟩
      · have hla := fun w => lexAll_any ((⟨#[60]⟩ : ByteArray) ++ letS i ++ (⟨#[62]⟩ : ByteArray)) (by rw [cat2_size, cat2_size, hz]; show 1 + i + 1 ≤ _; omega) w
        rw [letS_var, names_var i hie.1] at hla
        have HV1 : Hid (∀ w, Calls Try.prog 27 #[.int .i64 kk, .int .i64 3] w fun e w' => e = .returned (.int .i64 1) ∧ w = w') := Lib.hid HV.out
        clear hin hlt'
        by_cases h32 : 32 < i
        · simp only [if_pos h32, if_true, List.length_cons, List.length_nil, Nat.zero_add] at hla
          have h32' : (32 : Int) < (i : Int) := by omega
          have HLA := Lib.hid hla
          clear hla hlt h32
          go_wp2_with (first
            | (go_at_call 27; refine (HV1.out _).mono ?_; rintro e w2 ⟨rfl, rfl⟩)
            | (go_at_call 24; refine (HLA.out _).mono ?_; rintro e w3 ⟨go, c, rfl, hsl, _, b3⟩; obtain ⟨g, o, rfl, x0, x1, x2⟩ := hsl.tok (k := 0) rfl; simp only [Nat.zero_mul, Nat.add_zero] at x0 x1 x2; unfold strV at x1)
            | (go_at_call 21; refine (wakes_any _).mono ?_; rintro e w7 ⟨rfl, b7⟩))
          go_ret
          exact ⟨rfl, (hb.trans (b3.mono hb.size)).trans (b7.mono (hb.trans (b3.mono hb.size)).size)⟩
        · simp only [if_neg h32, if_neg (show ¬ 3 = 6 by decide), List.length_cons, List.length_nil, Nat.zero_add, Nat.reduceAdd] at hla
          have h32' : ¬ (32 : Int) < (i : Int) := by omega
          have HLA := Lib.hid hla
          clear hla hlt h32
          go_wp2_with (first
            | (go_at_call 27; refine (HV1.out _).mono ?_; rintro e w2 ⟨rfl, rfl⟩)
            | (go_at_call 24; refine (HLA.out _).mono ?_; rintro e w3 ⟨go, c, rfl, hsl, _, b3⟩; obtain ⟨g, o, rfl, x0, x1, x2⟩ := hsl.tok (k := 0) rfl; simp only [Nat.zero_mul, Nat.add_zero] at x0 x1 x2; replace x1 : w3.cell? ⟨g, o + 1, none⟩ = some (.string (letS i)) := x1)
            | (go_at_call 21; refine (wakes_any _).mono ?_; rintro e w7 ⟨rfl, b7⟩))
          go_ret
          exact ⟨rfl, (hb.trans (b3.mono hb.size)).trans (b7.mono (hb.trans (b3.mono hb.size)).size)⟩
      · have HV2 : Hid (∀ w, Calls Try.prog 27 #[.int .i64 kk, .int .i64 3] w fun e w' => e = .returned (.int .i64 2) ∧ w = w') := Lib.hid HV.out
        clear hin hlt'
        go_wp2_with (go_at_call 27; refine (HV2.out _).mono ?_; rintro e w2 ⟨rfl, rfl⟩)
        go_loop [9, 10] (fun tu tj => ∃ j : Nat, j ≤ i ∧ tu = .string (nineS j) ∧ tj = .int .i64 j) (fun _ tj => i - (intOf tj).toNat)
        case atStart => exact ⟨0, by omega, rfl, rfl⟩
        case round =>
          obtain ⟨j, hj, rfl, rfl⟩ := hrel
          have hz9 := nineS_size j
          by_cases hlj : j < i
          · have hlj' : (j : Int) < (i : Int) := by omega
            have HS9 := Lib.hid (nineS_succ j)
            go_wp2
            go_round
            case rel => exact ⟨j + 1, by omega, by rw [HS9.out], by go_num⟩
            case measure => simp [intOf]; omega
          obtain rfl : i = j := by omega
          have hlj' : ¬ (i : Int) < (i : Int) := by omega
          have hla := fun w => lexAll_any ((⟨#[45]⟩ : ByteArray) ++ nineS i) (by rw [cat2_size, hz9]; show 1 + i ≤ _; omega) w
          rw [nineS_num, names_num i hie.1] at hla
          by_cases h9 : 9 < i
          · simp only [if_pos h9, if_true, List.length_cons, List.length_nil, Nat.zero_add] at hla
            have h9' : (9 : Int) < (i : Int) := by omega
            have HLA := Lib.hid hla
            clear hla hlt h9
            go_wp2_with (first
              | (go_at_call 24; refine (HLA.out _).mono ?_; rintro e w3 ⟨go, c, rfl, hsl, _, b3⟩; obtain ⟨g, o, rfl, x0, x1, x2⟩ := hsl.tok (k := 0) rfl; simp only [Nat.zero_mul, Nat.add_zero] at x0 x1 x2; rw [nineS_val] at x1)
              | (go_at_call 21; refine (wakes_any _).mono ?_; rintro e w7 ⟨rfl, b7⟩))
            go_ret
            exact ⟨rfl, (hb.trans (b3.mono hb.size)).trans (b7.mono (hb.trans (b3.mono hb.size)).size)⟩
          · simp only [if_neg h9, if_neg (show ¬ 2 = 6 by decide), List.length_cons, List.length_nil, Nat.zero_add, Nat.reduceAdd] at hla
            have h9' : ¬ (9 : Int) < (i : Int) := by omega
            have HLA := Lib.hid hla
            clear hla hlt h9
            go_wp2_with (first
              | (go_at_call 24; refine (HLA.out _).mono ?_; rintro e w3 ⟨go, c, rfl, hsl, _, b3⟩; obtain ⟨g, o, rfl, x0, x1, x2⟩ := hsl.tok (k := 0) rfl; simp only [Nat.zero_mul, Nat.add_zero] at x0 x1 x2; rw [nineS_val] at x1)
              | (go_at_call 21; refine (wakes_any _).mono ?_; rintro e w7 ⟨rfl, b7⟩))
            go_ret
            exact ⟨rfl, (hb.trans (b3.mono hb.size)).trans (b7.mono (hb.trans (b3.mono hb.size)).size)⟩
end Go.Proofs.Ytgeaccoobhigcaa
