/-
  The walk of ponderref05.one over words and numbers.
-/
import Derived.Test.YtgeaccoobhigcaaA9
namespace Go.Proofs.Ytgeaccoobhigcaa
open Go.RowKit

set_option maxHeartbeats 1000000 in
theorem sized_any (kd n i : Nat) (x : ByteArray) (hn : n ≤ 1099511627776) (w : World) :
    Calls Try.prog 88 #[.int .i64 kd, .string x, .int .i64 i, .int .i64 n] w fun e w' => e = .returned (.agg #[.int .i64 ((if 32 < n then 6 else kd : Nat) : Int), .string x, .int .i64 i]) ∧ Below w.heap.size w w' := by
  by_cases h : 32 < n
  · rw [if_pos h]
    have h' : (32 : Int) < (n : Int) := by omega
    clear h
    go_enter Try.func88, Try.ntmps88
    go_wp2
    exact bodyPost_ret (v := .agg #[.int .i64 6, .string x, .int .i64 i]) (by simp [results, Try.results88, go_sem]) rfl ⟨rfl, (Below.refl _ _).alloc (Nat.le_refl _) _⟩
  · rw [if_neg h]
    have h' : ¬ (32 : Int) < (n : Int) := by omega
    clear h
    go_enter Try.func88, Try.ntmps88
    go_wp2
    exact bodyPost_ret (v := .agg #[.int .i64 kd, .string x, .int .i64 i]) (by simp [results, Try.results88, go_sem]) rfl ⟨rfl, (Below.refl _ _).alloc (Nat.le_refl _) _⟩

theorem set3_cells {W : World} {g : Nat} {t : TypeId} {a b c : Value} (hG : W.heap[g]? = some (.cells #[a, b, c] t (0, 0))) (v0 v1 v2 : Value) :
    (((W.setCell ⟨g, 0, none⟩ v0).setCell ⟨g, 1, none⟩ v1).setCell ⟨g, 2, none⟩ v2).cell? ⟨g, 0, none⟩ = some v0 ∧
    (((W.setCell ⟨g, 0, none⟩ v0).setCell ⟨g, 1, none⟩ v1).setCell ⟨g, 2, none⟩ v2).cell? ⟨g, 1, none⟩ = some v1 ∧
    (((W.setCell ⟨g, 0, none⟩ v0).setCell ⟨g, 1, none⟩ v1).setCell ⟨g, 2, none⟩ v2).cell? ⟨g, 2, none⟩ = some v2 := by
  have h3 := set3 hG v0 v1 v2
  refine ⟨?_, ?_, ?_⟩ <;> rw [cell_of_row _ _ _ _ _ _ h3] <;> rfl

set_option maxHeartbeats 2000000 in
set_option maxRecDepth 100000 in
theorem one_word (s : ByteArray) (i : Nat) (hi : i < s.size) (hs : s.size ≤ 1099511627776) (hsm : smallB s[i] = true) (w : World) :
    Calls Try.prog 55 #[.string s, .int .i64 i] w fun e w' =>
      e = .returned (.tuple #[tokV (if 32 < headN partB (from_ s i) then 6 else 1) ((from_ s i).take (headN partB (from_ s i))) i, .int .i64 ((i + headN partB (from_ s i) : Nat) : Int)]) ∧ Below w.heap.size w w' := by
  have hle := headN_le partB (from_ s i)
  rw [from_length] at hle
  have hn := fun w => parts_any s i (by omega) (by unfold maxLen; omega) w
  have hx := ext_mk s i (i + headN partB (from_ s i))
  rw [show i + headN partB (from_ s i) - i = headN partB (from_ s i) by omega] at hx
  generalize headN partB (from_ s i) = n at hle hn hx ⊢
  generalize List.take n (from_ s i) = T at hx ⊢
  have hsz := fun w => sized_any 1 n i (s.extract i (i + n)) (by omega) w
  generalize (if 32 < n then 6 else 1 : Nat) = kd at hsz ⊢
  have hsub : (i : Int) + (n : Int) - (i : Int) = (n : Int) := by omega
  have HSZ : Hid (∀ w, Calls Try.prog 88 #[.int .i64 1, .string (s.extract i (i + n)), .int .i64 i, .int .i64 ((i : Int) + (n : Int) - (i : Int))] w fun e w' => e = .returned (.agg #[.int .i64 kd, .string (s.extract i (i + n)), .int .i64 i]) ∧ Below w.heap.size w w') := by
    rw [hsub]; exact Lib.hid hsz
  have HN := Lib.hid hn
  have HX := Lib.hid hx
  unfold smallB at hsm
  clear hn hx hsz hsub
  go_enter Try.func55, Try.ntmps55
  go_wp2_with (first | (go_at_call 86; refine (rsmall_any _ _).mono ?_; rintro e w' ⟨rfl, rfl⟩) | (go_at_call 87; refine (HN.out _).mono ?_; rintro e w' ⟨rfl, rfl⟩) | (go_at_call 88; refine (HSZ.out _).mono ?_; rintro e W1 ⟨rfl, hb1⟩; have hlt1 : w.heap.size < W1.heap.size := (by have := hb1.size; simp at this; omega); have hG : W1.heap[w.heap.size]? = some (.cells #[.int .i64 0, .string ⟨#[]⟩, .int .i64 0] 99 (0, 0)) := (hb1.block w.heap.size (by simp)).trans (heap_alloc_new w _); have hc0 : W1.cell? ⟨w.heap.size, 0, none⟩ = some (.int .i64 0) := (by rw [cell_of_row W1 _ _ _ _ _ hG]; rfl); have hc1 : W1.cell? ⟨w.heap.size, 1, none⟩ = some (.string ⟨#[]⟩) := (by rw [cell_of_row W1 _ _ _ _ _ hG]; rfl); have hc2 : W1.cell? ⟨w.heap.size, 2, none⟩ = some (.int .i64 0) := (by rw [cell_of_row W1 _ _ _ _ _ hG]; rfl); have hf : ∀ j, W1.frozen? ⟨w.heap.size, j, none⟩ = false := (by intro j; simp [World.frozen?, hG]); have HB := Lib.hid hb1; have HG := Lib.hid hG; clear hb1 hG))
  have hBB : Below w.heap.size w W1 := ((Below.refl _ _).alloc (Nat.le_refl _) _).trans (HB.out.mono (by simp))
  refine bodyPost_ret (v := .tuple #[.agg #[.int .i64 kd, .string (s.extract i (i + n)), .int .i64 i], .int .i64 ((i : Int) + (n : Int))]) ?_ rfl ⟨ret_tok HX.out (by simp), ?_⟩
  · obtain ⟨f0, f1, f2⟩ := set3_cells HG.out (.int .i64 kd) (.string (s.extract i (i + n))) (.int .i64 i)
    simp [results, Try.results55, go_sem, f0, f1, f2]
  · exact (((hBB.setCell (p := ⟨w.heap.size, 0, none⟩) (Nat.le_refl _) _).setCell (p := ⟨w.heap.size, 1, none⟩) (Nat.le_refl _) _).setCell (p := ⟨w.heap.size, 2, none⟩) (Nat.le_refl _) _)

theorem read_any (s : ByteArray) (hs : s.size ≤ 1099511627776) (w : World) :
    Calls Try.prog 90 #[.string s] w fun e w' => (∃ n : Int, e = .returned (.tuple #[.int .i64 n, .bool (readOk s.data.toList)]) ∧ (readOk s.data.toList = true → n = readV s.data.toList)) ∧ w' = w := by
  rcases h : headIs 45 s.data.toList with _ | _
  · exact read_pos s hs h w
  · exact read_neg s hs h w

set_option maxHeartbeats 4000000 in
set_option maxRecDepth 100000 in
theorem one_num (s : ByteArray) (i n : Nat) (hi : i < s.size) (hs : s.size ≤ 1099511627776) (hsm : smallB s[i] = false) (hn : n = 1 + headN digitB (from_ s (i + 1)))
    (hd : digitB s[i] = true ∨ (s[i].toNat = 45 ∧ ∃ h : i + 1 < s.size, digitB s[i + 1] = true)) (w : World) :
    Calls Try.prog 55 #[.string s, .int .i64 i] w fun e w' =>
      e = .returned (.tuple #[tokV (if numT ((from_ s i).take n) then 2 else 6) ((from_ s i).take n) i, .int .i64 ((i + n : Nat) : Int)]) ∧ Below w.heap.size w w' := by
  have hle := headN_le digitB (from_ s (i + 1))
  rw [from_length] at hle
  have hx := ext_mk s i (i + n)
  rw [show i + n - i = n by omega] at hx
  have hz : (s.extract i (i + n)).size = n := by simp; omega
  have hl : (s.extract i (i + n)).data.toList = (from_ s i).take n := by
    have := ext_toList s i (i + n)
    rw [ByteArray.toList_eq, show i + n - i = n by omega] at this
    exact this
  have hrd := fun w => read_any (s.extract i (i + n)) (by omega) w
  rw [hl] at hrd
  have HX := Lib.hid hx
  have HE := Lib.hid hn
  have hnb : 1 ≤ n ∧ i + n ≤ s.size := by omega
  generalize List.take n (from_ s i) = T at hrd HX ⊢
  have hT : numT T = (readOk T && decide (valN 0 (bodyT T) ≤ 2147483647)) := rfl
  have hRV : readV T = if headIs 45 T then - (valN 0 (bodyT T) : Int) else (valN 0 (bodyT T) : Int) := rfl
  have hRV2 : valN 0 (bodyT T) ≤ 2147483647 ↔ (readV T ≤ 2147483647 ∧ -2147483647 ≤ readV T) := by
    rw [hRV]; split <;> omega
  unfold smallB at hsm
  unfold digitB at hd
  clear hx hz hl hn hle hRV
  have hd' : decide (48 ≤ s[i].toNat ∧ s[i].toNat ≤ 57) = true ∨ (decide (48 ≤ s[i].toNat ∧ s[i].toNat ≤ 57) = false ∧ ((s[i].toNat : Int) == 45) = true ∧ ∃ h : i + 1 < s.size, decide (48 ≤ s[i + 1].toNat ∧ s[i + 1].toNat ≤ 57) = true) := by
    rcases hd with h | ⟨h, h2⟩
    · exact .inl h
    · exact .inr ⟨by simp; omega, by simp; omega, h2⟩
  clear hd
  generalize hrv : readV T = RV at hrd hRV2
  generalize hro : readOk T = RO at hrd hT
  clear hrv hro
  rw [hT]
  have hc : (RO && decide (valN 0 (bodyT T) ≤ 2147483647)) = true ↔ (RO = true ∧ RV ≤ 2147483647 ∧ -2147483647 ≤ RV) := by
    rw [Bool.and_eq_true, decide_eq_true_eq, hRV2]
  obtain ⟨ok, hok⟩ : ∃ ok, ok = (RO && decide (valN 0 (bodyT T) ≤ 2147483647)) := ⟨_, rfl⟩
  rw [← hok] at hc ⊢
  clear hok hT hRV2
  obtain ⟨kd, hkd⟩ : ∃ kd : Nat, kd = if ok = true then 2 else 6 := ⟨_, rfl⟩
  rw [← hkd]
  have hall : (RO = false ∧ kd = 6) ∨ (RO = true ∧ ((2147483647 < RV ∧ kd = 6) ∨ (RV ≤ 2147483647 ∧ RV < -2147483647 ∧ kd = 6) ∨ (RV ≤ 2147483647 ∧ -2147483647 ≤ RV ∧ kd = 2))) := by
    rcases RO with _ | _
    · refine .inl ⟨rfl, ?_⟩
      rw [hkd, if_neg (by rw [hc]; simp)]
    · refine .inr ⟨rfl, ?_⟩
      by_cases a : RV ≤ 2147483647
      · by_cases b : -2147483647 ≤ RV
        · exact .inr (.inr ⟨a, b, by rw [hkd, if_pos (hc.2 ⟨rfl, a, b⟩)]⟩)
        · exact .inr (.inl ⟨a, by omega, by rw [hkd, if_neg (fun h => b (hc.1 h).2.2)]⟩)
      · exact .inl ⟨by omega, by rw [hkd, if_neg (fun h => a (hc.1 h).2.1)]⟩
  clear hkd hc
  rcases hd' with hd | ⟨hd, h45, hlt, hd2⟩
  all_goals
    go_enter Try.func55, Try.ntmps55
    go_wp2_with (first | (go_at_call 86; refine (rsmall_any _ _).mono ?_; rintro e w' ⟨rfl, rfl⟩) | (go_at_call 89; refine (rdigit_any _ _).mono ?_; rintro e w' ⟨rfl, rfl⟩))
    go_loop [8] (fun t => ∃ k : Nat, i + 1 ≤ k ∧ k ≤ s.size ∧ Hid (k + headN digitB (from_ s k) = i + n) ∧ t = .int .i64 k) (fun t => s.size - (intOf t).toNat)
    case atStart => exact ⟨i + 1, by omega, by omega, Lib.hid (by have := HE.out; omega), by go_num⟩
    case round =>
      obtain ⟨k, hk1, hk, HK, rfl⟩ := hrel
      by_cases hlk : k < s.size ∧ digitB s[k]! = true
      · obtain ⟨hlk, hdk⟩ := hlk
        rw [getElem!_pos s k hlk] at hdk
        have HY := Lib.hid (headN_yes (p := digitB) s k hlk hdk)
        unfold digitB at hdk
        clear hall
        go_wp2_with (go_at_call 89; refine (rdigit_any _ _).mono ?_; rintro e w' ⟨rfl, rfl⟩)
        go_round
        case rel => exact ⟨k + 1, by omega, by omega, Lib.hid (by have := HK.out; have := HY.out; omega), by go_num⟩
        case measure => simp [intOf]; omega
      · have HKN : k = i + n := by
          have := HK.out
          by_cases h : k < s.size
          · have hdk : digitB s[k] = false := by
              rw [Bool.eq_false_iff]; intro hh; exact hlk ⟨h, by rw [getElem!_pos s k h]; exact hh⟩
            have := headN_no (p := digitB) s k h hdk
            omega
          · have := headN_end (p := digitB) s k (by omega)
            omega
        have hcase : ¬ k < s.size ∨ ∃ h : k < s.size, decide (48 ≤ s[k].toNat ∧ s[k].toNat ≤ 57) = false := by
          by_cases h : k < s.size
          · have hdk : digitB s[k] = false := by
              rw [Bool.eq_false_iff]; intro hh; exact hlk ⟨h, by rw [getElem!_pos s k h]; exact hh⟩
            unfold digitB at hdk
            exact .inr ⟨h, hdk⟩
          · exact .inl h
        clear hlk
        subst HKN
        have hsl : (i : Int) ≤ (i : Int) + (n : Int) := by omega
        rcases hall with ⟨rfl, rfl⟩ | ⟨rfl, ⟨r1, rfl⟩ | ⟨r1, r2, rfl⟩ | ⟨r1, r2, rfl⟩⟩
        · have HR : Hid (∀ w, Calls Try.prog 90 #[.string (s.extract i (i + n))] w fun e w' => (∃ q : Int, e = .returned (.tuple #[.int .i64 q, .bool false])) ∧ w' = w) := Lib.hid fun w => (hrd w).mono fun e w' ⟨⟨q, h, _⟩, h2⟩ => ⟨⟨q, h⟩, h2⟩
          clear hrd
          rcases hcase with hc | ⟨hc, hdc⟩
          all_goals
            go_wp2_with (first | (go_at_call 89; refine (rdigit_any _ _).mono ?_; rintro e w' ⟨rfl, rfl⟩) | (go_at_call 90; refine (HR.out _).mono ?_; rintro e w' ⟨⟨q, rfl⟩, rfl⟩))
            exact bodyPost_ret (v := .tuple #[.agg #[.int .i64 (6 : Nat), .string (s.extract i (i + n)), .int .i64 i], .int .i64 ((i : Int) + (n : Int))]) (by simp [results, Try.results55, go_sem]) rfl ⟨ret_tok HX.out (by simp), (Below.refl _ _).alloc (Nat.le_refl _) _⟩
        · have HR : Hid (∀ w, Calls Try.prog 90 #[.string (s.extract i (i + n))] w fun e w' => e = .returned (.tuple #[.int .i64 RV, .bool true]) ∧ w' = w) := Lib.hid fun w => (hrd w).mono fun e w' ⟨⟨q, h, h1⟩, h2⟩ => ⟨by rw [h, h1 rfl], h2⟩
          clear hrd
          rcases hcase with hc | ⟨hc, hdc⟩
          all_goals
            go_wp2_with (first | (go_at_call 89; refine (rdigit_any _ _).mono ?_; rintro e w' ⟨rfl, rfl⟩) | (go_at_call 90; refine (HR.out _).mono ?_; rintro e w' ⟨rfl, rfl⟩))
            exact bodyPost_ret (v := .tuple #[.agg #[.int .i64 (6 : Nat), .string (s.extract i (i + n)), .int .i64 i], .int .i64 ((i : Int) + (n : Int))]) (by simp [results, Try.results55, go_sem]) rfl ⟨ret_tok HX.out (by simp), (Below.refl _ _).alloc (Nat.le_refl _) _⟩
        · have HR : Hid (∀ w, Calls Try.prog 90 #[.string (s.extract i (i + n))] w fun e w' => e = .returned (.tuple #[.int .i64 RV, .bool true]) ∧ w' = w) := Lib.hid fun w => (hrd w).mono fun e w' ⟨⟨q, h, h1⟩, h2⟩ => ⟨by rw [h, h1 rfl], h2⟩
          clear hrd
          rcases hcase with hc | ⟨hc, hdc⟩
          all_goals
            go_wp2_with (first | (go_at_call 89; refine (rdigit_any _ _).mono ?_; rintro e w' ⟨rfl, rfl⟩) | (go_at_call 90; refine (HR.out _).mono ?_; rintro e w' ⟨rfl, rfl⟩))
            exact bodyPost_ret (v := .tuple #[.agg #[.int .i64 (6 : Nat), .string (s.extract i (i + n)), .int .i64 i], .int .i64 ((i : Int) + (n : Int))]) (by simp [results, Try.results55, go_sem]) rfl ⟨ret_tok HX.out (by simp), (Below.refl _ _).alloc (Nat.le_refl _) _⟩
        · have HR : Hid (∀ w, Calls Try.prog 90 #[.string (s.extract i (i + n))] w fun e w' => e = .returned (.tuple #[.int .i64 RV, .bool true]) ∧ w' = w) := Lib.hid fun w => (hrd w).mono fun e w' ⟨⟨q, h, h1⟩, h2⟩ => ⟨by rw [h, h1 rfl], h2⟩
          clear hrd
          rcases hcase with hc | ⟨hc, hdc⟩
          all_goals
            go_wp2_with (first | (go_at_call 89; refine (rdigit_any _ _).mono ?_; rintro e w' ⟨rfl, rfl⟩) | (go_at_call 90; refine (HR.out _).mono ?_; rintro e w' ⟨rfl, rfl⟩))
            exact bodyPost_ret (v := .tuple #[.agg #[.int .i64 (2 : Nat), .string (s.extract i (i + n)), .int .i64 i], .int .i64 ((i : Int) + (n : Int))]) (by simp [results, Try.results55, go_sem]) rfl ⟨ret_tok HX.out (by simp), (Below.refl _ _).alloc (Nat.le_refl _) _⟩
end Go.Proofs.Ytgeaccoobhigcaa
