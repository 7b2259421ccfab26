/-
  The walk of lex.next over variables and signs.
-/
import Derived.Test.YtgeaccoobhigcaaA7
namespace Go.Proofs.Ytgeaccoobhigcaa
open Go.RowKit

set_option maxHeartbeats 2000000 in
set_option maxRecDepth 100000 in
theorem next_var (s : ByteArray) (i n : Nat) (hi : i < s.size) (hs : s.size ≤ 1099511627776) (h60 : s[i].toNat = 60) (hlt : i + 1 < s.size) (hsm : smallB s[i + 1] = true)
    (hn : n = headN partB (from_ s (i + 1))) (hend : i + 1 + n < s.size) (h62 : s[i + 1 + n].toNat = 62) (w : World) :
    Calls Try.prog 58 #[.string s, .int .i64 i] w fun e w' =>
      e = .returned (.tuple #[if 32 < n then tokV 6 ((from_ s i).take (n + 2)) i else tokV 3 ((from_ s (i + 1)).take n) i, .int .i64 ((i + (n + 2) : Nat) : Int)]) ∧ Below w.heap.size w w' := by
  have e1 : decide (97 ≤ s[i].toNat ∧ s[i].toNat ≤ 122) = false := by simp; omega
  have e2 : decide (48 ≤ s[i].toNat ∧ s[i].toNat ≤ 57) = false := by simp; omega
  have e3 : ((s[i].toNat : Int) == 45) = false := by simp; omega
  have e4 : ((s[i].toNat : Int) == 60) = true := by simp; omega
  have e5 : ((s[i + 1 + n].toNat : Int) == 62) = true := by simp; omega
  have hnm := fun w => name_any s (i + 1) (by omega) (by unfold maxLen; omega) w
  rw [← hn] at hnm
  have hx6 := ext_mk s i (i + 1 + n + 1)
  rw [show i + 1 + n + 1 - i = n + 2 by omega] at hx6
  have hx3 := ext_mk s (i + 1) (i + 1 + n)
  rw [show i + 1 + n - (i + 1) = n by omega] at hx3
  generalize List.take (n + 2) (from_ s i) = T6 at hx6 ⊢
  generalize List.take n (from_ s (i + 1)) = T3 at hx3 ⊢
  have HN : Hid (∀ w, Calls Try.prog 92 #[.string s, .int .i64 ((i : Int) + 1)] w fun e w' => e = .returned (.int .i64 ((i + 1 + n : Nat) : Int)) ∧ w' = w) := Lib.hid hnm
  have HX6 := Lib.hid hx6
  have HX3 := Lib.hid hx3
  unfold smallB at hsm
  clear hn hnm hx6 hx3 h60 h62
  by_cases h32 : 32 < n
  · rw [if_pos h32]
    have h32' : (32 : Int) < (i : Int) + 1 + (n : Int) - (i : Int) - 1 := by omega
    go_enter Try.func58, Try.ntmps58
    go_wp2_with (first | (go_at_call 91; refine (small_any _ _).mono ?_; rintro e w' ⟨rfl, rfl⟩) | (go_at_call 93; refine (digit_any _ _).mono ?_; rintro e w' ⟨rfl, rfl⟩) | (go_at_call 92; refine (HN.out _).mono ?_; rintro e w' ⟨rfl, rfl⟩))
    exact bodyPost_ret (v := .tuple #[.agg #[.int .i64 (6 : Nat), .string (s.extract i (i + 1 + n + 1)), .int .i64 i], .int .i64 ((i : Int) + 1 + (n : Int) + 1)]) (by simp [results, Try.results58, go_sem]) rfl ⟨ret_tok HX6.out (by congr 1; omega), (Below.refl _ _).alloc (Nat.le_refl _) _⟩
  · rw [if_neg h32]
    have h32' : ¬ (32 : Int) < (i : Int) + 1 + (n : Int) - (i : Int) - 1 := by omega
    go_enter Try.func58, Try.ntmps58
    go_wp2_with (first | (go_at_call 91; refine (small_any _ _).mono ?_; rintro e w' ⟨rfl, rfl⟩) | (go_at_call 93; refine (digit_any _ _).mono ?_; rintro e w' ⟨rfl, rfl⟩) | (go_at_call 92; refine (HN.out _).mono ?_; rintro e w' ⟨rfl, rfl⟩))
    exact bodyPost_ret (v := .tuple #[.agg #[.int .i64 (3 : Nat), .string (s.extract (i + 1) (i + 1 + n)), .int .i64 i], .int .i64 ((i : Int) + 1 + (n : Int) + 1)]) (by simp [results, Try.results58, go_sem]) rfl ⟨ret_tok HX3.out (by congr 1; omega), (Below.refl _ _).alloc (Nat.le_refl _) _⟩

theorem firstAt_len (l : Bs) : ∀ ss : List Bs, (∀ x ∈ ss, x.length ≤ 3) → (firstAt l ss).length ≤ 3
  | [], _ => by simp [firstAt]
  | x :: r, h => by
    unfold firstAt
    split
    · exact h x (by simp)
    · exact firstAt_len l r fun y hy => h y (by simp [hy])
theorem signT_len (l : Bs) : (signT l).length ≤ 3 := firstAt_len l signs (by decide)
theorem firstAt_pre (l : Bs) : ∀ ss : List Bs, firstAt l ss = [] ∨ firstAt l ss <+: l
  | [] => .inl rfl
  | x :: r => by
    unfold firstAt
    split
    · rename_i h
      exact .inr (List.isPrefixOf_iff_prefix.1 h)
    · exact firstAt_pre l r
theorem signT_pre (l : Bs) : signT l = [] ∨ signT l <+: l := firstAt_pre l signs

set_option maxHeartbeats 4000000 in
set_option maxRecDepth 100000 in
theorem next_sign (s : ByteArray) (i n : Nat) (hi : i < s.size) (hs : s.size ≤ 1099511627776) (e1 : decide (97 ≤ s[i].toNat ∧ s[i].toNat ≤ 122) = false) (e2 : decide (48 ≤ s[i].toNat ∧ s[i].toNat ≤ 57) = false)
    (hn : n = headN partB (from_ s (i + 1)))
    (hc : (((s[i].toNat : Int) == 45) = true ∧ ((s[i].toNat : Int) == 60) = false ∧ (s.size ≤ i + 1 ∨ ∃ h : i + 1 < s.size, decide (48 ≤ s[i + 1].toNat ∧ s[i + 1].toNat ≤ 57) = false)) ∨
      (((s[i].toNat : Int) == 45) = false ∧ (((s[i].toNat : Int) == 60) = false ∨ (((s[i].toNat : Int) == 60) = true ∧ (s.size ≤ i + 1 ∨ ∃ h : i + 1 < s.size, (decide (97 ≤ s[i + 1].toNat ∧ s[i + 1].toNat ≤ 122) = false ∨ (decide (97 ≤ s[i + 1].toNat ∧ s[i + 1].toNat ≤ 122) = true ∧ (s.size ≤ i + 1 + n ∨ ∃ h2 : i + 1 + n < s.size, ((s[i + 1 + n].toNat : Int) == 62) = false))))))))
    (w : World) :
    Calls Try.prog 58 #[.string s, .int .i64 i] w fun e w' =>
      e = .returned (.tuple #[tokV (signNx s[i] (from_ s i)).kind (signNx s[i] (from_ s i)).text i, .int .i64 ((i + (signNx s[i] (from_ s i)).len : Nat) : Int)]) ∧ Below w.heap.size w w' := by
  have hnm : i + 1 < s.size → ∀ w, Calls Try.prog 92 #[.string s, .int .i64 ((i : Int) + 1)] w fun e w' => e = .returned (.int .i64 ((i + 1 + n : Nat) : Int)) ∧ w' = w := fun h w => by
    rw [hn]; exact name_any s (i + 1) (by omega) (by unfold maxLen; omega) w
  have hnle : n ≤ s.size - (i + 1) := by rw [hn, ← from_length]; exact headN_le _ _
  have hsg := fun w => sign_any s i (by omega) hs w
  have hlen := signT_len (from_ s i)
  have hx1 := ext_mk s i (i + 1)
  rw [show i + 1 - i = 1 by omega, from_lt s i hi] at hx1
  rw [show List.take 1 (s[i] :: from_ s (i + 1)) = [s[i]] from rfl] at hx1
  have HX1 := Lib.hid hx1
  generalize hC : s[i] = C at HX1 ⊢
  rw [hC] at e1 e2 hc
  have hget : ∀ h : i < s.size, s[i]'h = C := fun _ => hC
  clear hC hx1 hn
  by_cases hsig : signT (from_ s i) = []
  · have hR : signNx C (from_ s i) = ⟨6, [C], 1⟩ := by unfold signNx; rw [if_pos hsig]
    rw [hR]
    rw [hsig] at hsg
    have HS : Hid (∀ w, Calls Try.prog 95 #[.string s, .int .i64 i] w fun e w' => e = .returned (.string ⟨#[]⟩) ∧ w' = w) := Lib.hid hsg
    clear hR hsig hsg hlen
    rcases hc with ⟨c1, c2, c3 | ⟨c3, c4⟩⟩ | ⟨c1, c2 | ⟨c2, c3 | ⟨c3, c4 | ⟨c4, c5 | ⟨c5, c6⟩⟩⟩⟩⟩
    all_goals
      have HN : Hid (i + 1 < s.size → ∀ w, Calls Try.prog 92 #[.string s, .int .i64 ((i : Int) + 1)] w fun e w' => e = .returned (.int .i64 ((i + 1 + n : Nat) : Int)) ∧ w' = w) := Lib.hid hnm
      clear hnm
      go_enter Try.func58, Try.ntmps58
      go_wp2_with (first | (go_at_call 91; refine (small_any _ _).mono ?_; rintro e w' ⟨rfl, rfl⟩) | (go_at_call 93; refine (digit_any _ _).mono ?_; rintro e w' ⟨rfl, rfl⟩) | (go_at_call 92; refine (HN.out (by omega) _).mono ?_; rintro e w' ⟨rfl, rfl⟩) | (go_at_call 95; refine (HS.out _).mono ?_; rintro e w' ⟨rfl, rfl⟩))
      exact bodyPost_ret (v := .tuple #[.agg #[.int .i64 (6 : Nat), .string (s.extract i (i + 1)), .int .i64 i], .int .i64 ((i : Int) + 1)]) (by simp [results, Try.results58, go_sem]) rfl ⟨ret_tok HX1.out (by simp), (Below.refl _ _).alloc (Nat.le_refl _) _⟩
  · have hR : signNx C (from_ s i) = ⟨4, signT (from_ s i), (signT (from_ s i)).length⟩ := by unfold signNx; rw [if_neg hsig]
    rw [hR]
    have hXs : (ByteArray.mk (signT (from_ s i)).toArray).size = (signT (from_ s i)).length := rfl
    have hXn : ((ByteArray.mk (signT (from_ s i)).toArray).toList == []) = false := by
      simp
      exact hsig
    have hXv : Value.string (ByteArray.mk (signT (from_ s i)).toArray) = strV (signT (from_ s i)) := rfl
    unfold strV at hsg
    generalize ByteArray.mk (signT (from_ s i)).toArray = X at hsg hXs hXn hXv
    rw [← hXs] at hlen
    have hpl : signT (from_ s i) <+: from_ s i := (signT_pre _).resolve_left hsig
    have hpl2 : X.size ≤ s.size - i := by rw [hXs, ← from_length]; exact hpl.length_le
    generalize signT (from_ s i) = T at hXv hXs ⊢
    have HXV := Lib.hid hXv
    have HXS := Lib.hid hXs
    have HS : Hid (∀ w, Calls Try.prog 95 #[.string s, .int .i64 i] w fun e w' => e = .returned (.string X) ∧ w' = w) := Lib.hid hsg
    clear hR hsig hsg hXs hXv hpl
    rcases hc with ⟨c1, c2, c3 | ⟨c3, c4⟩⟩ | ⟨c1, c2 | ⟨c2, c3 | ⟨c3, c4 | ⟨c4, c5 | ⟨c5, c6⟩⟩⟩⟩⟩
    all_goals
      have HN : Hid (i + 1 < s.size → ∀ w, Calls Try.prog 92 #[.string s, .int .i64 ((i : Int) + 1)] w fun e w' => e = .returned (.int .i64 ((i + 1 + n : Nat) : Int)) ∧ w' = w) := Lib.hid hnm
      clear hnm
      go_enter Try.func58, Try.ntmps58
      go_wp2_with (first | (go_at_call 91; refine (small_any _ _).mono ?_; rintro e w' ⟨rfl, rfl⟩) | (go_at_call 93; refine (digit_any _ _).mono ?_; rintro e w' ⟨rfl, rfl⟩) | (go_at_call 92; refine (HN.out (by omega) _).mono ?_; rintro e w' ⟨rfl, rfl⟩) | (go_at_call 95; refine (HS.out _).mono ?_; rintro e w' ⟨rfl, rfl⟩))
      exact bodyPost_ret (v := .tuple #[.agg #[.int .i64 (4 : Nat), .string X, .int .i64 i], .int .i64 ((i : Int) + (X.size : Int))]) (by simp [results, Try.results58, go_sem]) rfl ⟨by rw [HXS.out]; exact ret_tok HXV.out (by simp), (Below.refl _ _).alloc (Nat.le_refl _) _⟩
end Go.Proofs.Ytgeaccoobhigcaa
