/-
  The digits of numbers: sym.digits and ponderref04's.
-/
import Derived.Test.YtgeaccoobhigcaaS0
import Derived.Deep.RegionWith
import Derived.IntWalk
namespace Go.Proofs.Ytgeaccoobhigcaa
open Go Go.RowKit

def digF : Nat → Nat → Bs
  | 0, _ => []
  | f + 1, n => if n < 10 then [UInt8.ofNat (48 + n)] else digF f (n / 10) ++ [UInt8.ofNat (48 + n % 10)]
/-- A number's digits. -/
def digL (n : Nat) : Bs := digF (n + 1) n
theorem digF_fuel : ∀ (f g n : Nat), n < f → n < g → digF f n = digF g n
  | 0, _, _, h, _ => by omega
  | _ + 1, 0, _, _, h => by omega
  | f + 1, g + 1, n, hf, hg => by
    unfold digF
    by_cases h : n < 10
    · rw [if_pos h, if_pos h]
    · rw [if_neg h, if_neg h, digF_fuel f g (n / 10) (by omega) (by omega)]
theorem digL_lt {n : Nat} (h : n < 10) : digL n = [UInt8.ofNat (48 + n)] := by unfold digL digF; rw [if_pos h]
theorem digL_ge {n : Nat} (h : ¬ n < 10) : digL n = digL (n / 10) ++ [UInt8.ofNat (48 + n % 10)] := by
  unfold digL
  conv => lhs; unfold digF
  rw [if_neg h, digF_fuel n (n / 10 + 1) (n / 10) (by omega) (by omega)]
theorem digL_len : ∀ (k n : Nat), n < 10 ^ (k + 1) → (digL n).length ≤ k + 1
  | 0, n, h => by rw [digL_lt (by simpa using h)]; simp
  | k + 1, n, h => by
    by_cases h10 : n < 10
    · rw [digL_lt h10]; simp
    · have := digL_len k (n / 10) (by rw [Nat.pow_succ] at h; omega)
      rw [digL_ge h10, List.length_append]
      simp only [List.length_cons, List.length_nil]
      omega
def digS (n : Nat) : ByteArray := ⟨(digL n).toArray⟩
theorem mk_list_size (l : Bs) : (⟨l.toArray⟩ : ByteArray).size = l.length := by show l.toArray.size = _; simp
theorem digS_size (n : Nat) (h : n ≤ 4294967296) : (digS n).size ≤ 11 := by unfold digS; rw [mk_list_size]; exact digL_len 10 n (Nat.lt_of_le_of_lt h (by decide +kernel))
theorem digS_lt {n : Nat} (h : n < 10) : strOfNums [48 + (n : Int)] = digS n := by
  apply str_ext
  rw [strOfNums_data]
  show _ = digL n
  rw [digL_lt h]
  simp only [List.map_cons, List.map_nil]
  congr 2
theorem digS_ge {n : Nat} (h : ¬ n < 10) : digS (n / 10) ++ strOfNums [48 + (n : Int) % 10] = digS n := by
  apply str_ext
  rw [ByteArray.data_append, Array.toList_append, strOfNums_data]
  show digL (n / 10) ++ _ = digL n
  rw [digL_ge h]
  simp only [List.map_cons, List.map_nil]
  congr 2

theorem conv_at (W : World) (b : Nat) (q : Int) (h : W.cell? ⟨b, 0, none⟩ = some (.int .u8 q)) : (convert 43 9 (.slice (some ⟨b, 0, none⟩) 1 1)).run Try.prog W = .ok (.string (strOfNums [q])) W := by
  refine run_convert_bytes_arg (P := Try.prog) W 43 5 Try.underlying43 Try.underlying5 b 0 1 1 [q] rfl ?_ 9 Try.underlying9
  intro i hi
  obtain rfl : i = 0 := by omega
  exact h

set_option maxHeartbeats 2000000 in
set_option maxRecDepth 100000 in
theorem digits_any : ∀ (f n : Nat), n < f → n ≤ 4294967296 → ∀ w : World, Calls Try.prog 113 #[.int .i64 n] w fun e w' => e = .returned (.string (digS n)) ∧ Below w.heap.size w w'
  | 0, _, h, _, _ => by omega
  | f + 1, n, hf, hn, w => by
    by_cases h10 : n < 10
    · have hs := digS_lt h10
      have hcv := fun w => conv_one w (48 + (n : Int))
      rw [hs] at hcv
      have h10' : (n : Int) < 10 := by omega
      clear hs
      go_enter Try.func113, Try.ntmps113
      go_wp2
      go_ret
      exact ⟨rfl, (Below.refl _ _).alloc (Nat.le_refl _) _⟩
    · have ih := fun w => digits_any f (n / 10) (by omega) (by omega) w
      have hz := digS_size (n / 10) (by omega)
      have hcv := fun w => conv_one w (48 + (n : Int) % 10)
      have ho := one_size (48 + (n : Int) % 10)
      have HS := Lib.hid (digS_ge h10)
      have IH := Lib.hid ih
      have h10' : ¬ (n : Int) < 10 := by omega
      have hn' : (n : Int) ≤ 4294967296 := by omega
      have hmix : Try.prog.follows .mixedOrders = true := by kernel_rfl
      clear ih hf hn h10
      have q1 : IntKind.i64.wrap ((n : Int) / 10) = (n : Int) / 10 := IntWalk.i64_in _ (by omega)
      have q2 : (n : Int).tmod 10 = (n : Int) % 10 := Int.tmod_eq_emod_of_nonneg (by omega)
      have q3 : IntKind.i64.wrap (48 + (n : Int) % 10) = 48 + (n : Int) % 10 := IntWalk.i64_in _ (by omega)
      have q4 : IntKind.u8.wrap (48 + (n : Int) % 10) = 48 + (n : Int) % 10 := IntWalk.u8_in _ (by omega)
      go_enter Try.func113, Try.ntmps113
      go_wp2
      have hcd : (convert 43 9 (.slice (some ⟨w.heap.size, 0, none⟩) 1 1)).run Try.prog (w.alloc (.cells #[.int .u8 (48 + (n : Int) % 10)] 5)).drew = .ok (.string (strOfNums [48 + (n : Int) % 10])) (w.alloc (.cells #[.int .u8 (48 + (n : Int) % 10)] 5)).drew :=
        conv_at _ _ _ (Boxed.new w 5 (.int .u8 (48 + (n : Int) % 10))).cell
      go_region_with (go_at_call 113; refine (IH.out _).mono ?_; rintro e w2 ⟨rfl, b2⟩; (first | (have hcv2 := conv_at w2 w.heap.size _ ((b2.cell (p := ⟨w.heap.size, 0, none⟩) (by simp)).trans (Boxed.new w 5 (.int .u8 (48 + (n : Int) % 10))).cell)) | skip))
      all_goals
        go_wp2
        go_ret
        rw [HS.out]
        first
          | exact ⟨rfl, (show Below w.heap.size w w2 from ⟨b2.os, b2.tape, b2.output, b2.size, b2.block⟩).alloc b2.size _⟩
          | exact ⟨rfl, ((Below.refl _ w).alloc (Nat.le_refl _) (.cells #[.int .u8 (48 + (n : Int) % 10)] 5)).trans (show Below w.heap.size (w.alloc (.cells #[.int .u8 (48 + (n : Int) % 10)] 5)) w2 from ⟨b2.os, b2.tape, b2.output, b2.size, fun k hk => b2.block k (by simp; omega)⟩)⟩
end Go.Proofs.Ytgeaccoobhigcaa
