/-
  The walk of ponderref05.one over words and numbers. The walk of ponderref05.one over variables and signs. ponderref05.one at any place. ponderref05.All: the document's tokens in a slice.
-/
import Derived.Test.YtgeaccoobhigcaaGreatG9
import Derived.Deep.DeepCutAuto
import Derived.Deep.CutBlock
import Derived.Deep.QuietTactic
import Derived.BigQuiet
namespace Go.Proofs.YtgeaccoobhigcaaGreat
open Go.RowKit
set_option maxHeartbeats 1000000 in
theorem sized_any (kd n i : Nat) (x : ByteArray) (hn : n ≤ 1099511627776) (w : World) :
    Calls Tryz.prog 63 #[.int .i64 kd, .string x, .int .i64 i, .int .i64 n] w fun e w' => e = .returned (.agg #[.int .i64 ((if 32 < n then 6 else kd : Nat) : Int), .string x, .int .i64 i]) ∧ Below w.heap.size w w' := by
  by_cases h : 32 < n
  · rw [if_pos h]
    have h' : (32 : Int) < (n : Int) := by omega
    clear h
    go_enter Tryz.func63, Tryz.ntmps63
    go_wp2
    exact bodyPost_ret (v := .agg #[.int .i64 6, .string x, .int .i64 i]) (by simp [results, Tryz.results63, go_sem]) rfl ⟨rfl, (Below.refl _ _).alloc (Nat.le_refl _) _⟩
  · rw [if_neg h]
    have h' : ¬ (32 : Int) < (n : Int) := by omega
    clear h
    go_enter Tryz.func63, Tryz.ntmps63
    go_wp2
    exact bodyPost_ret (v := .agg #[.int .i64 kd, .string x, .int .i64 i]) (by simp [results, Tryz.results63, go_sem]) rfl ⟨rfl, (Below.refl _ _).alloc (Nat.le_refl _) _⟩
theorem set3_cells {W : World} {g : Nat} {t : TypeId} {a b c : Value} (hG : W.heap[g]? = some (.cells #[a, b, c] t (0, 0))) (v0 v1 v2 : Value) :
    (((W.setCell ⟨g, 0, none⟩ v0).setCell ⟨g, 1, none⟩ v1).setCell ⟨g, 2, none⟩ v2).cell? ⟨g, 0, none⟩ = some v0 ∧
    (((W.setCell ⟨g, 0, none⟩ v0).setCell ⟨g, 1, none⟩ v1).setCell ⟨g, 2, none⟩ v2).cell? ⟨g, 1, none⟩ = some v1 ∧
    (((W.setCell ⟨g, 0, none⟩ v0).setCell ⟨g, 1, none⟩ v1).setCell ⟨g, 2, none⟩ v2).cell? ⟨g, 2, none⟩ = some v2 := by
  have h3 := set3 hG v0 v1 v2
  refine ⟨?_, ?_, ?_⟩ <;> rw [cell_of_row _ _ _ _ _ _ h3] <;> rfl
set_option maxHeartbeats 2000000 in
set_option maxRecDepth 100000 in
theorem one_word (s : ByteArray) (i : Nat) (hi : i < s.size) (hs : s.size ≤ 1099511627776) (hsm : smallB s[i] = true) (w : World) :
    Calls Tryz.prog 37 #[.string s, .int .i64 i] w fun e w' =>
      e = .returned (.tuple #[tokV (if 32 < headN partB (from_ s i) then 6 else 1) ((from_ s i).take (headN partB (from_ s i))) i, .int .i64 ((i + headN partB (from_ s i) : Nat) : Int)]) ∧ Below w.heap.size w w' := by
  have hle := headN_le partB (from_ s i)
  rw [from_length] at hle
  have hn := fun w => parts_any s i (by omega) (by unfold maxLen; omega) w
  have hx := ext_mk s i (i + headN partB (from_ s i))
  rw [show i + headN partB (from_ s i) - i = headN partB (from_ s i) by omega] at hx
  generalize headN partB (from_ s i) = n at hle hn hx ⊢
  generalize List.take n (from_ s i) = T at hx ⊢
  have hsz := fun w => sized_any 1 n i (s.extract i (i + n)) (by omega) w
  generalize (if 32 < n then 6 else 1 : Nat) = kd at hsz ⊢
  have hsub : (i : Int) + (n : Int) - (i : Int) = (n : Int) := by omega
  have HSZ : Hid (∀ w, Calls Tryz.prog 63 #[.int .i64 1, .string (s.extract i (i + n)), .int .i64 i, .int .i64 ((i : Int) + (n : Int) - (i : Int))] w fun e w' => e = .returned (.agg #[.int .i64 kd, .string (s.extract i (i + n)), .int .i64 i]) ∧ Below w.heap.size w w') := by
    rw [hsub]; exact Lib.hid hsz
  have HN := Lib.hid hn
  have HX := Lib.hid hx
  unfold smallB at hsm
  clear hn hx hsz hsub
  go_enter Tryz.func37, Tryz.ntmps37
  go_wp2_with (first | (go_at_call 61; refine (rsmall_any _ _).mono ?_; rintro e w' ⟨rfl, rfl⟩) | (go_at_call 62; refine (HN.out _).mono ?_; rintro e w' ⟨rfl, rfl⟩) | (go_at_call 63; refine (HSZ.out _).mono ?_; rintro e W1 ⟨rfl, hb1⟩; have hlt1 : w.heap.size < W1.heap.size := (by have := hb1.size; simp at this; omega); have hG : W1.heap[w.heap.size]? = some (.cells #[.int .i64 0, .string ⟨#[]⟩, .int .i64 0] 66 (0, 0)) := (hb1.block w.heap.size (by simp)).trans (heap_alloc_new w _); have hc0 : W1.cell? ⟨w.heap.size, 0, none⟩ = some (.int .i64 0) := (by rw [cell_of_row W1 _ _ _ _ _ hG]; rfl); have hc1 : W1.cell? ⟨w.heap.size, 1, none⟩ = some (.string ⟨#[]⟩) := (by rw [cell_of_row W1 _ _ _ _ _ hG]; rfl); have hc2 : W1.cell? ⟨w.heap.size, 2, none⟩ = some (.int .i64 0) := (by rw [cell_of_row W1 _ _ _ _ _ hG]; rfl); have hf : ∀ j, W1.frozen? ⟨w.heap.size, j, none⟩ = false := (by intro j; simp [World.frozen?, hG]); have HB := Lib.hid hb1; have HG := Lib.hid hG; clear hb1 hG))
  have hBB : Below w.heap.size w W1 := ((Below.refl _ _).alloc (Nat.le_refl _) _).trans (HB.out.mono (by simp))
  refine bodyPost_ret (v := .tuple #[.agg #[.int .i64 kd, .string (s.extract i (i + n)), .int .i64 i], .int .i64 ((i : Int) + (n : Int))]) ?_ rfl ⟨ret_tok HX.out (by simp), ?_⟩
  · obtain ⟨f0, f1, f2⟩ := set3_cells HG.out (.int .i64 kd) (.string (s.extract i (i + n))) (.int .i64 i)
    simp [results, Tryz.results37, go_sem, f0, f1, f2]
  · exact (((hBB.setCell (p := ⟨w.heap.size, 0, none⟩) (Nat.le_refl _) _).setCell (p := ⟨w.heap.size, 1, none⟩) (Nat.le_refl _) _).setCell (p := ⟨w.heap.size, 2, none⟩) (Nat.le_refl _) _)
theorem read_any (s : ByteArray) (hs : s.size ≤ 1099511627776) (w : World) :
    Calls Tryz.prog 65 #[.string s] w fun e w' => (∃ n : Int, e = .returned (.tuple #[.int .i64 n, .bool (readOk s.data.toList)]) ∧ (readOk s.data.toList = true → n = readV s.data.toList)) ∧ w' = w := by
  rcases h : headIs 45 s.data.toList with _ | _
  · exact read_pos s hs h w
  · exact read_neg s hs h w
set_option maxHeartbeats 4000000 in
set_option maxRecDepth 100000 in
theorem one_num (s : ByteArray) (i n : Nat) (hi : i < s.size) (hs : s.size ≤ 1099511627776) (hsm : smallB s[i] = false) (hn : n = 1 + headN digitB (from_ s (i + 1)))
    (hd : digitB s[i] = true ∨ (s[i].toNat = 45 ∧ ∃ h : i + 1 < s.size, digitB s[i + 1] = true)) (w : World) :
    Calls Tryz.prog 37 #[.string s, .int .i64 i] w fun e w' =>
      e = .returned (.tuple #[tokV (if numT ((from_ s i).take n) then 2 else 6) ((from_ s i).take n) i, .int .i64 ((i + n : Nat) : Int)]) ∧ Below w.heap.size w w' := by
  have hle := headN_le digitB (from_ s (i + 1))
  rw [from_length] at hle
  have hx := ext_mk s i (i + n)
  rw [show i + n - i = n by omega] at hx
  have hz : (s.extract i (i + n)).size = n := by simp; omega
  have hl : (s.extract i (i + n)).data.toList = (from_ s i).take n := by
    have := ext_toList s i (i + n)
    rw [ByteArray.toList_eq, show i + n - i = n by omega] at this
    exact this
  have hrd := fun w => read_any (s.extract i (i + n)) (by omega) w
  rw [hl] at hrd
  have HX := Lib.hid hx
  have HE := Lib.hid hn
  have hnb : 1 ≤ n ∧ i + n ≤ s.size := by omega
  generalize List.take n (from_ s i) = T at hrd HX ⊢
  have hT : numT T = (readOk T && decide (valN 0 (bodyT T) ≤ 2147483647)) := rfl
  have hRV : readV T = if headIs 45 T then - (valN 0 (bodyT T) : Int) else (valN 0 (bodyT T) : Int) := rfl
  have hRV2 : valN 0 (bodyT T) ≤ 2147483647 ↔ (readV T ≤ 2147483647 ∧ -2147483647 ≤ readV T) := by
    rw [hRV]; split <;> omega
  unfold smallB at hsm
  unfold digitB at hd
  clear hx hz hl hn hle hRV
  have hd' : decide (48 ≤ s[i].toNat ∧ s[i].toNat ≤ 57) = true ∨ (decide (48 ≤ s[i].toNat ∧ s[i].toNat ≤ 57) = false ∧ ((s[i].toNat : Int) == 45) = true ∧ ∃ h : i + 1 < s.size, decide (48 ≤ s[i + 1].toNat ∧ s[i + 1].toNat ≤ 57) = true) := by
    rcases hd with h | ⟨h, h2⟩
    · exact .inl h
    · exact .inr ⟨by simp; omega, by simp; omega, h2⟩
  clear hd
  generalize hrv : readV T = RV at hrd hRV2
  generalize hro : readOk T = RO at hrd hT
  clear hrv hro
  rw [hT]
  have hc : (RO && decide (valN 0 (bodyT T) ≤ 2147483647)) = true ↔ (RO = true ∧ RV ≤ 2147483647 ∧ -2147483647 ≤ RV) := by
    rw [Bool.and_eq_true, decide_eq_true_eq, hRV2]
  obtain ⟨ok, hok⟩ : ∃ ok, ok = (RO && decide (valN 0 (bodyT T) ≤ 2147483647)) := ⟨_, rfl⟩
  rw [← hok] at hc ⊢
  clear hok hT hRV2
  obtain ⟨kd, hkd⟩ : ∃ kd : Nat, kd = if ok = true then 2 else 6 := ⟨_, rfl⟩
  rw [← hkd]
  have hall : (RO = false ∧ kd = 6) ∨ (RO = true ∧ ((2147483647 < RV ∧ kd = 6) ∨ (RV ≤ 2147483647 ∧ RV < -2147483647 ∧ kd = 6) ∨ (RV ≤ 2147483647 ∧ -2147483647 ≤ RV ∧ kd = 2))) := by
    rcases RO with _ | _
    · refine .inl ⟨rfl, ?_⟩
      rw [hkd, if_neg (by rw [hc]; simp)]
    · refine .inr ⟨rfl, ?_⟩
      by_cases a : RV ≤ 2147483647
      · by_cases b : -2147483647 ≤ RV
        · exact .inr (.inr ⟨a, b, by rw [hkd, if_pos (hc.2 ⟨rfl, a, b⟩)]⟩)
        · exact .inr (.inl ⟨a, by omega, by rw [hkd, if_neg (fun h => b (hc.1 h).2.2)]⟩)
      · exact .inl ⟨by omega, by rw [hkd, if_neg (fun h => a (hc.1 h).2.1)]⟩
  clear hkd hc
  rcases hd' with hd | ⟨hd, h45, hlt, hd2⟩
  all_goals
    go_enter Tryz.func37, Tryz.ntmps37
    go_wp2_with (first | (go_at_call 61; refine (rsmall_any _ _).mono ?_; rintro e w' ⟨rfl, rfl⟩) | (go_at_call 64; refine (rdigit_any _ _).mono ?_; rintro e w' ⟨rfl, rfl⟩))
    go_loop [8] (fun t => ∃ k : Nat, i + 1 ≤ k ∧ k ≤ s.size ∧ Hid (k + headN digitB (from_ s k) = i + n) ∧ t = .int .i64 k) (fun t => s.size - (intOf t).toNat)
    case atStart => exact ⟨i + 1, by omega, by omega, Lib.hid (by have := HE.out; omega), by go_num⟩
    case round =>
      obtain ⟨k, hk1, hk, HK, rfl⟩ := hrel
      by_cases hlk : k < s.size ∧ digitB s[k]! = true
      · obtain ⟨hlk, hdk⟩ := hlk
        rw [getElem!_pos s k hlk] at hdk
        have HY := Lib.hid (headN_yes (p := digitB) s k hlk hdk)
        unfold digitB at hdk
        clear hall
        go_wp2_with (go_at_call 64; refine (rdigit_any _ _).mono ?_; rintro e w' ⟨rfl, rfl⟩)
        go_round
        case rel => exact ⟨k + 1, by omega, by omega, Lib.hid (by have := HK.out; have := HY.out; omega), by go_num⟩
        case measure => simp [intOf]; omega
      · have HKN : k = i + n := by
          have := HK.out
          by_cases h : k < s.size
          · have hdk : digitB s[k] = false := by
              rw [Bool.eq_false_iff]; intro hh; exact hlk ⟨h, by rw [getElem!_pos s k h]; exact hh⟩
            have := headN_no (p := digitB) s k h hdk
            omega
          · have := headN_end (p := digitB) s k (by omega)
            omega
        have hcase : ¬ k < s.size ∨ ∃ h : k < s.size, decide (48 ≤ s[k].toNat ∧ s[k].toNat ≤ 57) = false := by
          by_cases h : k < s.size
          · have hdk : digitB s[k] = false := by
              rw [Bool.eq_false_iff]; intro hh; exact hlk ⟨h, by rw [getElem!_pos s k h]; exact hh⟩
            unfold digitB at hdk
            exact .inr ⟨h, hdk⟩
          · exact .inl h
        clear hlk
        subst HKN
        have hsl : (i : Int) ≤ (i : Int) + (n : Int) := by omega
        rcases hall with ⟨rfl, rfl⟩ | ⟨rfl, ⟨r1, rfl⟩ | ⟨r1, r2, rfl⟩ | ⟨r1, r2, rfl⟩⟩
        · have HR : Hid (∀ w, Calls Tryz.prog 65 #[.string (s.extract i (i + n))] w fun e w' => (∃ q : Int, e = .returned (.tuple #[.int .i64 q, .bool false])) ∧ w' = w) := Lib.hid fun w => (hrd w).mono fun e w' ⟨⟨q, h, _⟩, h2⟩ => ⟨⟨q, h⟩, h2⟩
          clear hrd
          rcases hcase with hc | ⟨hc, hdc⟩
          all_goals
            go_wp2_with (first | (go_at_call 64; refine (rdigit_any _ _).mono ?_; rintro e w' ⟨rfl, rfl⟩) | (go_at_call 65; refine (HR.out _).mono ?_; rintro e w' ⟨⟨q, rfl⟩, rfl⟩))
            exact bodyPost_ret (v := .tuple #[.agg #[.int .i64 (6 : Nat), .string (s.extract i (i + n)), .int .i64 i], .int .i64 ((i : Int) + (n : Int))]) (by simp [results, Tryz.results37, go_sem]) rfl ⟨ret_tok HX.out (by simp), (Below.refl _ _).alloc (Nat.le_refl _) _⟩
        · have HR : Hid (∀ w, Calls Tryz.prog 65 #[.string (s.extract i (i + n))] w fun e w' => e = .returned (.tuple #[.int .i64 RV, .bool true]) ∧ w' = w) := Lib.hid fun w => (hrd w).mono fun e w' ⟨⟨q, h, h1⟩, h2⟩ => ⟨by rw [h, h1 rfl], h2⟩
          clear hrd
          rcases hcase with hc | ⟨hc, hdc⟩
          all_goals
            go_wp2_with (first | (go_at_call 64; refine (rdigit_any _ _).mono ?_; rintro e w' ⟨rfl, rfl⟩) | (go_at_call 65; refine (HR.out _).mono ?_; rintro e w' ⟨rfl, rfl⟩))
            exact bodyPost_ret (v := .tuple #[.agg #[.int .i64 (6 : Nat), .string (s.extract i (i + n)), .int .i64 i], .int .i64 ((i : Int) + (n : Int))]) (by simp [results, Tryz.results37, go_sem]) rfl ⟨ret_tok HX.out (by simp), (Below.refl _ _).alloc (Nat.le_refl _) _⟩
        · have HR : Hid (∀ w, Calls Tryz.prog 65 #[.string (s.extract i (i + n))] w fun e w' => e = .returned (.tuple #[.int .i64 RV, .bool true]) ∧ w' = w) := Lib.hid fun w => (hrd w).mono fun e w' ⟨⟨q, h, h1⟩, h2⟩ => ⟨by rw [h, h1 rfl], h2⟩
          clear hrd
          rcases hcase with hc | ⟨hc, hdc⟩
          all_goals
            go_wp2_with (first | (go_at_call 64; refine (rdigit_any _ _).mono ?_; rintro e w' ⟨rfl, rfl⟩) | (go_at_call 65; refine (HR.out _).mono ?_; rintro e w' ⟨rfl, rfl⟩))
            exact bodyPost_ret (v := .tuple #[.agg #[.int .i64 (6 : Nat), .string (s.extract i (i + n)), .int .i64 i], .int .i64 ((i : Int) + (n : Int))]) (by simp [results, Tryz.results37, go_sem]) rfl ⟨ret_tok HX.out (by simp), (Below.refl _ _).alloc (Nat.le_refl _) _⟩
        · have HR : Hid (∀ w, Calls Tryz.prog 65 #[.string (s.extract i (i + n))] w fun e w' => e = .returned (.tuple #[.int .i64 RV, .bool true]) ∧ w' = w) := Lib.hid fun w => (hrd w).mono fun e w' ⟨⟨q, h, h1⟩, h2⟩ => ⟨by rw [h, h1 rfl], h2⟩
          clear hrd
          rcases hcase with hc | ⟨hc, hdc⟩
          all_goals
            go_wp2_with (first | (go_at_call 64; refine (rdigit_any _ _).mono ?_; rintro e w' ⟨rfl, rfl⟩) | (go_at_call 65; refine (HR.out _).mono ?_; rintro e w' ⟨rfl, rfl⟩))
            exact bodyPost_ret (v := .tuple #[.agg #[.int .i64 (2 : Nat), .string (s.extract i (i + n)), .int .i64 i], .int .i64 ((i : Int) + (n : Int))]) (by simp [results, Tryz.results37, go_sem]) rfl ⟨ret_tok HX.out (by simp), (Below.refl _ _).alloc (Nat.le_refl _) _⟩
end Go.Proofs.YtgeaccoobhigcaaGreat
namespace Go.Proofs.YtgeaccoobhigcaaGreat
open Go.RowKit
set_option maxHeartbeats 2000000 in
set_option maxRecDepth 100000 in
theorem one_var (s : ByteArray) (i n : Nat) (hi : i < s.size) (hs : s.size ≤ 1099511627776) (h60 : s[i].toNat = 60) (hlt : i + 1 < s.size) (hsm : smallB s[i + 1] = true)
    (hn : n = headN partB (from_ s (i + 1))) (hend : i + 1 + n < s.size) (h62 : s[i + 1 + n].toNat = 62) (w : World) :
    Calls Tryz.prog 37 #[.string s, .int .i64 i] w fun e w' =>
      e = .returned (.tuple #[if 32 < n then tokV 6 ((from_ s i).take (n + 2)) i else tokV 3 ((from_ s (i + 1)).take n) i, .int .i64 ((i + (n + 2) : Nat) : Int)]) ∧ Below w.heap.size w w' := by
  have e1 : decide (97 ≤ s[i].toNat ∧ s[i].toNat ≤ 122) = false := by simp; omega
  have e2 : decide (48 ≤ s[i].toNat ∧ s[i].toNat ≤ 57) = false := by simp; omega
  have e3 : ((s[i].toNat : Int) == 45) = false := by simp; omega
  have e4 : ((s[i].toNat : Int) == 60) = true := by simp; omega
  have e5 : ((s[i + 1 + n].toNat : Int) == 62) = true := by simp; omega
  have hnm := fun w => parts_any s (i + 1) (by omega) (by unfold maxLen; omega) w
  rw [← hn] at hnm
  have hx6 := ext_mk s i (i + 1 + n + 1)
  rw [show i + 1 + n + 1 - i = n + 2 by omega] at hx6
  have hx3 := ext_mk s (i + 1) (i + 1 + n)
  rw [show i + 1 + n - (i + 1) = n by omega] at hx3
  generalize List.take (n + 2) (from_ s i) = T6 at hx6 ⊢
  generalize List.take n (from_ s (i + 1)) = T3 at hx3 ⊢
  have HN : Hid (∀ w, Calls Tryz.prog 62 #[.string s, .int .i64 ((i : Int) + 1)] w fun e w' => e = .returned (.int .i64 ((i + 1 + n : Nat) : Int)) ∧ w' = w) := Lib.hid hnm
  have HX6 := Lib.hid hx6
  have HX3 := Lib.hid hx3
  unfold smallB at hsm
  clear hn hnm hx6 hx3 h60 h62
  by_cases h32 : 32 < n
  · rw [if_pos h32]
    have h32' : (32 : Int) < (i : Int) + 1 + (n : Int) - (i : Int) - 1 := by omega
    go_enter Tryz.func37, Tryz.ntmps37
    go_wp2_with (first | (go_at_call 61; refine (rsmall_any _ _).mono ?_; rintro e w' ⟨rfl, rfl⟩) | (go_at_call 64; refine (rdigit_any _ _).mono ?_; rintro e w' ⟨rfl, rfl⟩) | (go_at_call 62; refine (HN.out _).mono ?_; rintro e w' ⟨rfl, rfl⟩))
    exact bodyPost_ret (v := .tuple #[.agg #[.int .i64 (6 : Nat), .string (s.extract i (i + 1 + n + 1)), .int .i64 i], .int .i64 ((i : Int) + 1 + (n : Int) + 1)]) (by simp [results, Tryz.results37, go_sem]) rfl ⟨ret_tok HX6.out (by congr 1; omega), (Below.refl _ _).alloc (Nat.le_refl _) _⟩
  · rw [if_neg h32]
    have h32' : ¬ (32 : Int) < (i : Int) + 1 + (n : Int) - (i : Int) - 1 := by omega
    go_enter Tryz.func37, Tryz.ntmps37
    go_wp2_with (first | (go_at_call 61; refine (rsmall_any _ _).mono ?_; rintro e w' ⟨rfl, rfl⟩) | (go_at_call 64; refine (rdigit_any _ _).mono ?_; rintro e w' ⟨rfl, rfl⟩) | (go_at_call 62; refine (HN.out _).mono ?_; rintro e w' ⟨rfl, rfl⟩))
    exact bodyPost_ret (v := .tuple #[.agg #[.int .i64 (3 : Nat), .string (s.extract (i + 1) (i + 1 + n)), .int .i64 i], .int .i64 ((i : Int) + 1 + (n : Int) + 1)]) (by simp [results, Tryz.results37, go_sem]) rfl ⟨ret_tok HX3.out (by congr 1; omega), (Below.refl _ _).alloc (Nat.le_refl _) _⟩
/-- The signs as the text lays them. -/
def signCells : Array Value := (signs.map strV).toArray
theorem signCells_at (k : Nat) (hk : k < signs.length) : signCells[k]? = some (strV signs[k]) := by
  simp [signCells, List.getElem?_eq_getElem hk]
set_option maxHeartbeats 4000000 in
set_option maxRecDepth 100000 in
theorem one_sign (s : ByteArray) (i n : Nat) (hi : i < s.size) (hs : s.size ≤ 1099511627776) (e1 : decide (97 ≤ s[i].toNat ∧ s[i].toNat ≤ 122) = false) (e2 : decide (48 ≤ s[i].toNat ∧ s[i].toNat ≤ 57) = false)
    (hn : n = headN partB (from_ s (i + 1)))
    (hc : (((s[i].toNat : Int) == 45) = true ∧ ((s[i].toNat : Int) == 60) = false ∧ (s.size ≤ i + 1 ∨ ∃ h : i + 1 < s.size, decide (48 ≤ s[i + 1].toNat ∧ s[i + 1].toNat ≤ 57) = false)) ∨
      (((s[i].toNat : Int) == 45) = false ∧ (((s[i].toNat : Int) == 60) = false ∨ (((s[i].toNat : Int) == 60) = true ∧ (s.size ≤ i + 1 ∨ ∃ h : i + 1 < s.size, (decide (97 ≤ s[i + 1].toNat ∧ s[i + 1].toNat ≤ 122) = false ∨ (decide (97 ≤ s[i + 1].toNat ∧ s[i + 1].toNat ≤ 122) = true ∧ (s.size ≤ i + 1 + n ∨ ∃ h2 : i + 1 + n < s.size, ((s[i + 1 + n].toNat : Int) == 62) = false))))))))
    (w : World) :
    Calls Tryz.prog 37 #[.string s, .int .i64 i] w fun e w' =>
      e = .returned (.tuple #[tokV (signNx s[i] (from_ s i)).kind (signNx s[i] (from_ s i)).text i, .int .i64 ((i + (signNx s[i] (from_ s i)).len : Nat) : Int)]) ∧ Below w.heap.size w w' := by
  have hnm : i + 1 < s.size → ∀ w, Calls Tryz.prog 62 #[.string s, .int .i64 ((i : Int) + 1)] w fun e w' => e = .returned (.int .i64 ((i + 1 + n : Nat) : Int)) ∧ w' = w := fun h w => by
    rw [hn]; exact parts_any s (i + 1) (by omega) (by unfold maxLen; omega) w
  have hnle : n ≤ s.size - (i + 1) := by rw [hn, ← from_length]; exact headN_le _ _
  have hlen := signT_len (from_ s i)
  have hx1 := ext_mk s i (i + 1)
  rw [show i + 1 - i = 1 by omega, from_lt s i hi] at hx1
  rw [show List.take 1 (s[i] :: from_ s (i + 1)) = [s[i]] from rfl] at hx1
  have HX1 := Lib.hid hx1
  generalize hC : s[i] = C at HX1 ⊢
  rw [hC] at e1 e2 hc
  have hget : ∀ h : i < s.size, s[i]'h = C := fun _ => hC
  clear hC hx1 hn
  obtain ⟨R, hR⟩ : ∃ R, R = signNx C (from_ s i) := ⟨_, rfl⟩
  rw [← hR]
  have HR := Lib.hid hR
  clear hR
  go_enter Tryz.func37, Tryz.ntmps37
  go_upto_block 0 with fail
  go_cut [] (fun wx => wx = w.alloc (.cells #[.int .i64 0, .string ⟨#[]⟩, .int .i64 0] 66))
  case first =>
    rcases hc with ⟨c1, c2, c3 | ⟨c3, c4⟩⟩ | ⟨c1, c2 | ⟨c2, c3 | ⟨c3, c4 | ⟨c4, c5 | ⟨c5, c6⟩⟩⟩⟩⟩
    all_goals
      have HN : Hid (i + 1 < s.size → ∀ w, Calls Tryz.prog 62 #[.string s, .int .i64 ((i : Int) + 1)] w fun e w' => e = .returned (.int .i64 ((i + 1 + n : Nat) : Int)) ∧ w' = w) := Lib.hid hnm
      clear hnm
      go_wp2_with (first | (go_at_call 61; refine (rsmall_any _ _).mono ?_; rintro e w' ⟨rfl, rfl⟩) | (go_at_call 64; refine (rdigit_any _ _).mono ?_; rintro e w' ⟨rfl, rfl⟩) | (go_at_call 62; refine (HN.out (by omega) _).mono ?_; rintro e w' ⟨rfl, rfl⟩))
      go_meet
      exact rfl
  subst hcut
  clear hc hnm e1 e2 hnle
  go_upto_region 19 with fail
  go_cut [12] (fun a wx => a = .slice (some ⟨w.heap.size + 1, 0, none⟩) 20 20 ∧ Hid (wx.heap[w.heap.size + 1]? = some (.cells signCells 9 (0, 0))) ∧ Hid (wx.heap[w.heap.size]? = some (.cells #[.int .i64 0, .string ⟨#[]⟩, .int .i64 0] 66 (0, 0))) ∧ Below w.heap.size w wx)
  case first =>
    go_wp2_with fail
    go_meet
    refine ⟨by simp, Lib.hid ?_, Lib.hid ?_, ((Below.refl _ _).alloc (Nat.le_refl _) _).alloc (by simp) _⟩
    · have := heap_alloc_new (w.alloc (.cells #[.int .i64 0, .string ⟨#[]⟩, .int .i64 0] 66)) (.cells signCells 9)
      rwa [World.size_alloc] at this
    · exact (Below.heap_alloc _ _ _ (by simp)).trans (heap_alloc_new w _)
  obtain ⟨rfl, HS, HRS, hbw⟩ := hcut
  go_wp2
  go_loopw [13] (fun t wr => ∃ k q : Nat, k ≤ 20 ∧ t = .int .i64 k ∧ Hid (signT (from_ s i) = firstAt (from_ s i) (signs.drop k)) ∧ wr = wc.drewN q) (fun t _ => 20 - (intOf t).toNat)
  case atStart => exact ⟨0, 0, by omega, rfl, Lib.hid rfl, rfl⟩
  case round =>
    obtain ⟨k, q, hk, rfl, HK, rfl⟩ := hrel
    by_cases hlt : k < signs.length
    · have hlt' : k < 20 := hlt
      have hsz := signs_size k hlt
      have HNO := Lib.hid (firstAt_drop_no (from_ s i) k hlt)
      have HYE := Lib.hid (firstAt_drop_yes (from_ s i) k hlt)
      have hcX : ∀ q, (wc.drewN q).cell? ⟨w.heap.size + 1, k, none⟩ = some (strV (signs[k])) := fun q => by
        have : wc.cell? ⟨w.heap.size + 1, k, none⟩ = some (strV (signs[k])) := by rw [cell_of_row _ _ _ _ _ _ HS.out]; exact signCells_at k hlt
        exact this
      have hmem : signs[k] ≠ [] := by
        have : ∀ x ∈ signs, x ≠ [] := by decide
        exact this _ (List.getElem_mem hlt)
      generalize signs[k] = x at hsz HNO HYE hcX hmem
      rw [strV] at hcX
      have hb : headB x (from_ s i) = headB (ByteArray.mk x.toArray).data.toList (from_ s i) := by simp
      have hXs : (ByteArray.mk x.toArray).size = x.length := rfl
      rw [hb] at HNO HYE
      rw [← hXs] at hsz
      have HXS := Lib.hid hXs
      have HXX : Hid (Value.string (ByteArray.mk x.toArray) = strV x) := Lib.hid rfl
      generalize ByteArray.mk x.toArray = X at *
      have hcX0 := hcX 0
      have hcXq := hcX q
      clear hb hXs
      rcases hh : headB X.data.toList (from_ s i) with _ | _
      · have HN2 := Lib.hid (HNO.out hh)
        by_cases hfit : i + X.size ≤ s.size
        · have he := headB_of_ext s X i
          rw [hh] at he
          have hd : decide ((X.size : Int) ≤ (s.size : Int) - (i : Int)) = true := by simp; omega
          clear hh hcX0 HNO HYE
          go_wp2
          go_quiet (fail)
          go_wp2
          go_roundw
          case rel => exact ⟨k + 1, _, by omega, by go_num, Lib.hid (by rw [HK.out, HN2.out]), rfl⟩
          case measure => simp [intOf]; omega
        · have hd : decide ((X.size : Int) ≤ (s.size : Int) - (i : Int)) = false := by simp; omega
          clear hh hcX hcX0 HNO HYE
          go_wp2
          go_quiet (fail)
          go_wp2
          go_roundw
          case rel => exact ⟨k + 1, _, by omega, by go_num, Lib.hid (by rw [HK.out, HN2.out]), rfl⟩
          case measure => simp [intOf]; omega
      · have HY2 := Lib.hid (HYE.out hh)
        have hfit : i + X.size ≤ s.size := by
          have := (List.isPrefixOf_iff_prefix.1 hh).length_le
          rw [from_length] at this
          have h2 : X.data.toList.length = X.size := by simp
          omega
        have he := headB_of_ext s X i
        rw [hh] at he
        have hd : decide ((X.size : Int) ≤ (s.size : Int) - (i : Int)) = true := by simp; omega
        have hR : signNx C (from_ s i) = ⟨4, x, x.length⟩ := by
          have e : signT (from_ s i) = x := by rw [HK.out, HY2.out]
          unfold signNx
          rw [e, if_neg hmem]
        have HR2 : Hid (R = ⟨4, x, x.length⟩) := Lib.hid (HR.out.trans hR)
        clear hh hcX0 HNO HYE hR hmem
        go_wp2
        go_quiet (fail)
        have hr0 : ∀ q, (wc.drewN q).cell? ⟨w.heap.size, 0, none⟩ = some (.int .i64 0) := fun q => by
          have : wc.cell? ⟨w.heap.size, 0, none⟩ = some (.int .i64 0) := by rw [cell_of_row _ _ _ _ _ _ HRS.out]; rfl
          exact this
        have hr1 : ∀ q, (wc.drewN q).cell? ⟨w.heap.size, 1, none⟩ = some (.string ⟨#[]⟩) := fun q => by
          have : wc.cell? ⟨w.heap.size, 1, none⟩ = some (.string ⟨#[]⟩) := by rw [cell_of_row _ _ _ _ _ _ HRS.out]; rfl
          exact this
        have hr2 : ∀ q, (wc.drewN q).cell? ⟨w.heap.size, 2, none⟩ = some (.int .i64 0) := fun q => by
          have : wc.cell? ⟨w.heap.size, 2, none⟩ = some (.int .i64 0) := by rw [cell_of_row _ _ _ _ _ _ HRS.out]; rfl
          exact this
        have hrf : ∀ q j, (wc.drewN q).frozen? ⟨w.heap.size, j, none⟩ = false := fun q j => by
          have : wc.frozen? ⟨w.heap.size, j, none⟩ = false := by simp [World.frozen?, HRS.out]
          exact this
        go_wp2
        refine bodyPost_ret (v := .tuple #[.agg #[.int .i64 (4 : Nat), .string X, .int .i64 i], .int .i64 ((i : Int) + (X.size : Int))]) ?_ rfl ⟨by rw [HR2.out, ← HXS.out]; exact ret_tok HXX.out (by simp), ?_⟩
        · obtain ⟨f0, f1, f2⟩ := set3_cells (W := wc.drewN (q + nq)) HRS.out (.int .i64 4) (.string X) (.int .i64 i)
          simp [results, Tryz.results37, go_sem, f0, f1, f2]
        · have hbd : Below w.heap.size w (wc.drewN (q + nq)) := ⟨hbw.os, hbw.tape, hbw.output, hbw.size, hbw.block⟩
          exact ((hbd.setCell (p := ⟨w.heap.size, 0, none⟩) (Nat.le_refl _) _).setCell (p := ⟨w.heap.size, 1, none⟩) (Nat.le_refl _) _).setCell (p := ⟨w.heap.size, 2, none⟩) (Nat.le_refl _) _
    · have hk20 : k = 20 := by
        rw [signs_len] at hlt; omega
      have hsig : signT (from_ s i) = [] := by
        rw [HK.out, List.drop_eq_nil_of_le (by rw [signs_len]; omega)]; rfl
      have HR2 : Hid (R = ⟨6, [C], 1⟩) := Lib.hid (HR.out.trans (by unfold signNx; rw [if_pos hsig]))
      have hnlt : ¬ (k < 20) := by omega
      have hr0 : ∀ q, (wc.drewN q).cell? ⟨w.heap.size, 0, none⟩ = some (.int .i64 0) := fun q => by
        have : wc.cell? ⟨w.heap.size, 0, none⟩ = some (.int .i64 0) := by rw [cell_of_row _ _ _ _ _ _ HRS.out]; rfl
        exact this
      have hr1 : ∀ q, (wc.drewN q).cell? ⟨w.heap.size, 1, none⟩ = some (.string ⟨#[]⟩) := fun q => by
        have : wc.cell? ⟨w.heap.size, 1, none⟩ = some (.string ⟨#[]⟩) := by rw [cell_of_row _ _ _ _ _ _ HRS.out]; rfl
        exact this
      have hr2 : ∀ q, (wc.drewN q).cell? ⟨w.heap.size, 2, none⟩ = some (.int .i64 0) := fun q => by
        have : wc.cell? ⟨w.heap.size, 2, none⟩ = some (.int .i64 0) := by rw [cell_of_row _ _ _ _ _ _ HRS.out]; rfl
        exact this
      have hrf : ∀ q j, (wc.drewN q).frozen? ⟨w.heap.size, j, none⟩ = false := fun q j => by
        have : wc.frozen? ⟨w.heap.size, j, none⟩ = false := by simp [World.frozen?, HRS.out]
        exact this
      clear hsig hlt hk20
      go_wp2
      refine bodyPost_ret (v := .tuple #[.agg #[.int .i64 (6 : Nat), .string (s.extract i (i + 1)), .int .i64 i], .int .i64 ((i : Int) + 1)]) ?_ rfl ⟨by rw [HR2.out]; exact ret_tok HX1.out (by simp), ?_⟩
      · obtain ⟨f0, f1, f2⟩ := set3_cells (W := wc.drewN q) HRS.out (.int .i64 6) (.string (s.extract i (i + 1))) (.int .i64 i)
        simp [results, Tryz.results37, go_sem, f0, f1, f2]
      · have hbd : Below w.heap.size w (wc.drewN q) := ⟨hbw.os, hbw.tape, hbw.output, hbw.size, hbw.block⟩
        exact ((hbd.setCell (p := ⟨w.heap.size, 0, none⟩) (Nat.le_refl _) _).setCell (p := ⟨w.heap.size, 1, none⟩) (Nat.le_refl _) _).setCell (p := ⟨w.heap.size, 2, none⟩) (Nat.le_refl _) _
end Go.Proofs.YtgeaccoobhigcaaGreat
namespace Go.Proofs.YtgeaccoobhigcaaGreat
open Go.RowKit
/-- PONDERREF05.ONE at any place within the text. -/
theorem refOne_any (s : ByteArray) (i : Nat) (hi : i < s.size) (hs : s.size ≤ 1099511627776) (w : World) :
    Calls Tryz.prog 37 #[.string s, .int .i64 i] w fun e w' =>
      e = .returned (.tuple #[tokV (nextT (from_ s i)).kind (nextT (from_ s i)).text i, .int .i64 ((i + (nextT (from_ s i)).len : Nat) : Int)]) ∧ Below w.heap.size w w' := by
  have hc := from_lt s i hi
  by_cases h1 : smallB s[i] = true
  · have := one_word s i hi hs h1 w
    rw [hc] at this ⊢
    rw [nextT_cons]
    rw [if_pos h1]
    exact this
  · rw [Bool.not_eq_true] at h1
    by_cases h2 : (digitB s[i] || (decide (s[i].toNat = 45) && headDig (from_ s (i + 1)))) = true
    · have := one_num s i (1 + headN digitB (from_ s (i + 1))) hi hs h1 rfl (by
        simp only [Bool.or_eq_true, Bool.and_eq_true, decide_eq_true_eq] at h2
        rcases h2 with h | ⟨h, h'⟩
        · exact .inl h
        · exact .inr ⟨h, (headDig_from s (i + 1)).1 h'⟩) w
      rw [hc] at this ⊢
      rw [nextT_cons]
      rw [if_neg (by simp [h1]), if_pos h2]
      exact this
    · by_cases h3 : (decide (s[i].toNat = 60) && headSmall (from_ s (i + 1)) && headIs 62 ((from_ s (i + 1)).drop (headN partB (from_ s (i + 1))))) = true
      · have h3' := h3
        simp only [Bool.and_eq_true, decide_eq_true_eq, from_drop] at h3'
        obtain ⟨⟨a, b⟩, c⟩ := h3'
        obtain ⟨b1, b2⟩ := (headSmall_from s _).1 b
        obtain ⟨c1, c2⟩ := (headIs_from s _ _).1 c
        have := one_var s i (headN partB (from_ s (i + 1))) hi hs a b1 b2 rfl c1 c2 w
        rw [hc] at this ⊢
        rw [nextT_cons]
        rw [if_neg (by simp [h1]), if_neg h2, if_pos h3]
        by_cases h32 : 32 < headN partB (from_ s (i + 1))
        · rw [if_pos h32] at this ⊢; exact this
        · rw [if_neg h32] at this ⊢; exact this
      · have e1 : decide (97 ≤ s[i].toNat ∧ s[i].toNat ≤ 122) = false := h1
        have e2 : decide (48 ≤ s[i].toNat ∧ s[i].toNat ≤ 57) = false := by
          rw [Bool.not_eq_true, Bool.or_eq_false_iff] at h2; exact h2.1
        have := one_sign s i (headN partB (from_ s (i + 1))) hi hs e1 e2 rfl ?_ w
        · rw [hc] at this ⊢
          rw [nextT_cons]
          rw [if_neg (by simp [h1]), if_neg h2, if_neg h3]
          exact this
        · rw [Bool.not_eq_true, Bool.or_eq_false_iff, Bool.and_eq_false_iff, decide_eq_false_iff_not] at h2
          obtain ⟨_, h2⟩ := h2
          by_cases h45 : s[i].toNat = 45
          · refine .inl ⟨by simp; omega, by simp; omega, ?_⟩
            have h2 := h2.resolve_left (by simp [h45])
            by_cases hl : i + 1 < s.size
            · refine .inr ⟨hl, ?_⟩
              rw [from_lt s _ hl] at h2
              exact h2
            · exact .inl (by omega)
          · refine .inr ⟨by simp; omega, ?_⟩
            by_cases h60 : s[i].toNat = 60
            · refine .inr ⟨by simp; omega, ?_⟩
              by_cases hl : i + 1 < s.size
              · refine .inr ⟨hl, ?_⟩
                rcases hsm : smallB s[i + 1] with _ | _
                · exact .inl hsm
                · refine .inr ⟨hsm, ?_⟩
                  by_cases hl2 : i + 1 + headN partB (from_ s (i + 1)) < s.size
                  · refine .inr ⟨hl2, ?_⟩
                    have hne : ¬ s[i + 1 + headN partB (from_ s (i + 1))].toNat = 62 := by
                      intro h62
                      refine h3 ?_
                      simp only [Bool.and_eq_true, decide_eq_true_eq, from_drop]
                      exact ⟨⟨h60, (headSmall_from s _).2 ⟨hl, hsm⟩⟩, (headIs_from s _ _).2 ⟨hl2, h62⟩⟩
                    simp; omega
                  · exact .inl (by omega)
              · exact .inl (by omega)
            · exact .inl (by simp; omega)
end Go.Proofs.YtgeaccoobhigcaaGreat
namespace Go.Proofs.YtgeaccoobhigcaaGreat
open Go Go.RowKit
theorem Tryz.info66 : (Tryz.prog.info? 66).map (fun i => (i.zero, i.size, i.bytes)) = some (some (.agg #[.int .i64 0, .string ⟨#[]⟩, .int .i64 0]), 3, 32) := by kernel_rfl
theorem own_below {W W' : World} {base : Nat} {e : TypeId} {size n : Nat} {v : Value} {xs : List Value} (h : W.ownsRow base e size v n xs) (hb : Below W.heap.size W W') : W'.ownsRow base e size v n xs := by
  refine h.kept (grown_of_below hb) ?_
  cases v.ownBlock <;> simp
theorem hrow3 (W : World) (a b c : Value) (o : Obj) (t : TypeId) : ∀ j u, [a, b, c][j]? = some u → ((W.alloc o).alloc (.cells #[a, b, c] t)).cell? ((⟨W.heap.size + 1, 0, none⟩ : Addr).add j) = some u := by
  have := row3_new (W.alloc o) a b c t
  rwa [World.size_alloc] at this
theorem cells_full {L : List Tk} {k : Nat} {x : Tk} (h : L.length = k + 1) (hx : L[k]? = some x) : cellsT (L.take k) ++ x.cells = cellsT L := by
  rw [← cellsT_snoc, ← take_snoc' hx, List.take_of_length_le (Nat.le_of_eq h)]
set_option maxHeartbeats 2000000 in
set_option maxRecDepth 100000 in
theorem refAll_any (s : ByteArray) (hs : s.size ≤ 1099511627776) (w : World) :
    Calls Tryz.prog 19 #[.string s] w fun e w' => ∃ go c, e = .returned (.slice go (toks s.data.toList).length c) ∧ SlR w' 3 go (toks s.data.toList).length c (cellsT (toks s.data.toList)) ∧
      (∀ a, go = some a → w.heap.size ≤ a.block) ∧ Below w.heap.size w w' := by
  obtain ⟨i0, hi, hz0, hz1, hz2⟩ := info_parts Tryz.info66
  have hlen := toks_length s.data.toList
  rw [size_toList] at hlen
  have hL0 : toks s.data.toList = toksP (from_ s (0 + skipN false (from_ s 0))) (0 + skipN false (from_ s 0)) := by
    unfold toks; rw [← from_all, past_from, Nat.zero_add]
  generalize toks s.data.toList = L at hlen hL0 ⊢
  have HL0 := Lib.hid hL0
  have hq0 : 0 + skipN false (from_ s 0) ≤ s.size := by have := skipN_le false (from_ s 0); rw [from_length] at this; omega
  have hb0 := fun w => skip_any s 0 (by omega) (by unfold maxLen; omega) w
  generalize 0 + skipN false (from_ s 0) = q0 at *
  have HB0 := Lib.hid hb0
  clear hL0 hb0
  go_enter Tryz.func19, Tryz.ntmps19
  go_wp2_with (go_at_call 36; refine (HB0.out _).mono ?_; rintro e w ⟨rfl, rfl⟩)
  go_loopw [3, 4] (fun v t wr => ∃ k q : Nat, q ≤ s.size ∧ t = .int .i64 q ∧ k ≤ L.length ∧ Hid (L.drop k = toksP (from_ s q) q) ∧ wr.ownsRow w.heap.size 66 3 v k (cellsT (L.take k)) ∧ Below w.heap.size w wr) (fun _ t _ => s.size - (intOf t).toNat)
  case atStart => exact ⟨0, q0, hq0, rfl, by omega, Lib.hid (by rw [List.drop_zero]; exact HL0.out), World.ownsRow_nil _ _ _ _, Below.refl _ _⟩
  case round =>
    obtain ⟨k, q, hq, rfl, hkL, HK, ho, hbl⟩ := hrel
    by_cases hlt : q < s.size
    · have hcons := from_lt s q hlt
      have HKC : Hid (L.drop k = ⟨(nextT (from_ s q)).kind, (nextT (from_ s q)).text, q⟩ :: if (nextT (from_ s q)).kind = 6 then [] else toksP (from_ s (q + (nextT (from_ s q)).len + skipN false (from_ s (q + (nextT (from_ s q)).len)))) (q + (nextT (from_ s q)).len + skipN false (from_ s (q + (nextT (from_ s q)).len)))) := Lib.hid (by
        rw [HK.out, hcons, toksP_cons, ← hcons, from_drop, past_from])
      have hnl : 1 ≤ (nextT (from_ s q)).len ∧ (nextT (from_ s q)).len ≤ s.size - q := by
        rw [← from_length, hcons]; exact nextT_len _ _
      have hnx := fun w => refOne_any s q hlt hs w
      generalize nextT (from_ s q) = N at HKC hnl hnx
      obtain ⟨kd, tx, ln⟩ := N
      simp only at HKC hnl hnx
      unfold tokV strV at hnx
      have HNX := Lib.hid hnx
      have hkl : k < L.length := by
        rcases Nat.lt_or_ge k L.length with h | h
        · exact h
        · have := HKC.out; rw [List.drop_eq_nil_of_le h] at this; cases this
      have hLk : L[k]? = some ⟨kd, tx, q⟩ := by
        have := HKC.out
        rw [List.drop_eq_getElem_cons hkl] at this
        rw [List.getElem?_eq_getElem hkl]
        injection this with h1 _
        rw [h1]
      have HLK := Lib.hid hLk
      have hbk := fun w => skip_any s (q + ln) (by omega) (by unfold maxLen; omega) w
      have HBL := Lib.hid hbk
      have HKD : Hid (L.drop (k + 1) = if kd = 6 then [] else toksP (from_ s (q + ln + skipN false (from_ s (q + ln)))) (q + ln + skipN false (from_ s (q + ln)))) := Lib.hid (by
        have := HKC.out
        rw [← List.tail_drop, this]; rfl)
      have hq2 : q + ln + skipN false (from_ s (q + ln)) ≤ s.size := by have := skipN_le false (from_ s (q + ln)); rw [from_length] at this; omega
      have hq3 : q < q + ln + skipN false (from_ s (q + ln)) := by omega
      generalize q + ln + skipN false (from_ s (q + ln)) = q2 at HBL HKD hq2 hq3
      clear hcons hnx hLk hbk
      have hnl2 := hbl.size
      by_cases h6 : kd = 6
      · have e6 : ((kd : Int) == 6) = true := by simp; omega
        have hl : L.length = k + 1 := by
          have := HKD.out
          rw [if_pos h6] at this
          have := congrArg List.length this
          rw [List.length_drop] at this
          simp at this
          omega
        have HLL := Lib.hid hl
        clear h6 hl
        go_wp2_with (first | (go_at_call 37; refine (HNX.out _).mono ?_; rintro e W2 ⟨rfl, hb2⟩; have ho2 := own_below ho hb2; have hbl2 := hbl.trans (hb2.mono hbl.size); have hnl3 : w.heap.size ≤ W2.heap.size := hbl2.size; clear ho hbl hb2) | (at_builtin; refine wpList_append_own _ rfl _ _ 62 rfl w.heap.size 66 i0 (.agg #[.int .i64 0, .string ⟨#[]⟩, .int .i64 0]) 3 32 Tryz.underlying62 hi hz0 hz1 hz2 rfl (by decide) _ _ _ rfl ((ho2.alloc _).alloc _) ⟨W2.heap.size + 1, 0, none⟩ 1 1 [.int .i64 kd, .string ⟨tx.toArray⟩, .int .i64 q] rfl rfl (hrow3 W2 _ _ _ _ _) (by simp [Value.oneCell']) (by unfold maxLen; omega) (by omega) (by simp; omega) ?_; intro v' w1 hown' hgrow _; obtain ⟨g', cap', rfl⟩ := ownsRow_succ hown'; have hown2 := fun g (e : _ = some g) => own_lt ho2 e; have hbl3 : Below w.heap.size w w1 := (((hbl2.alloc hnl3 _).alloc (by simp; omega) _).grown hgrow (by simp; omega) (fun g e => (hown2 g e).1)); have ht1 : w1.heap[W2.heap.size]? = some (.cells #[.int .i64 kd, .string ⟨tx.toArray⟩, .int .i64 q] 66 (0, 0)) := (hgrow.block W2.heap.size (by simp; omega) (fun e => by have := (hown2 _ e.symm).2; omega)).trans ((Below.heap_alloc _ _ _ (by simp)).trans (heap_alloc_new W2 _)); have hk0 : w1.cell? ⟨W2.heap.size, 0, none⟩ = some (.int .i64 kd) := (by rw [cell_of_row _ _ _ _ _ _ ht1]; rfl); clear ho2 hbl2 hgrow ht1 hown2))
        go_ret
        obtain ⟨go, c, hv, hsl, hbk⟩ := SlR.of_owns hown'
        rw [show [Value.int .i64 kd, .string ⟨tx.toArray⟩, .int .i64 q] = Tk.cells ⟨kd, tx, q⟩ from rfl, cells_full HLL.out HLK.out] at hsl
        rw [HLL.out]
        cases hv
        exact ⟨_, _, rfl, hsl, hbk, hbl3⟩
      · have e6 : ((kd : Int) == 6) = false := by simp; omega
        have HKE : Hid (L.drop (k + 1) = toksP (from_ s q2) q2) := Lib.hid (by rw [HKD.out, if_neg h6])
        clear h6
        go_wp2_with (first | (go_at_call 36; refine (HBL.out _).mono ?_; rintro e w' ⟨rfl, rfl⟩) | (go_at_call 37; refine (HNX.out _).mono ?_; rintro e W2 ⟨rfl, hb2⟩; have ho2 := own_below ho hb2; have hbl2 := hbl.trans (hb2.mono hbl.size); have hnl3 : w.heap.size ≤ W2.heap.size := hbl2.size; clear ho hbl hb2) | (at_builtin; refine wpList_append_own _ rfl _ _ 62 rfl w.heap.size 66 i0 (.agg #[.int .i64 0, .string ⟨#[]⟩, .int .i64 0]) 3 32 Tryz.underlying62 hi hz0 hz1 hz2 rfl (by decide) _ _ _ rfl ((ho2.alloc _).alloc _) ⟨W2.heap.size + 1, 0, none⟩ 1 1 [.int .i64 kd, .string ⟨tx.toArray⟩, .int .i64 q] rfl rfl (hrow3 W2 _ _ _ _ _) (by simp [Value.oneCell']) (by unfold maxLen; omega) (by omega) (by simp; omega) ?_; intro v' w1 hown' hgrow _; obtain ⟨g', cap', rfl⟩ := ownsRow_succ hown'; have hown2 := fun g (e : _ = some g) => own_lt ho2 e; have hbl3 : Below w.heap.size w w1 := (((hbl2.alloc hnl3 _).alloc (by simp; omega) _).grown hgrow (by simp; omega) (fun g e => (hown2 g e).1)); have ht1 : w1.heap[W2.heap.size]? = some (.cells #[.int .i64 kd, .string ⟨tx.toArray⟩, .int .i64 q] 66 (0, 0)) := (hgrow.block W2.heap.size (by simp; omega) (fun e => by have := (hown2 _ e.symm).2; omega)).trans ((Below.heap_alloc _ _ _ (by simp)).trans (heap_alloc_new W2 _)); have hk0 : w1.cell? ⟨W2.heap.size, 0, none⟩ = some (.int .i64 kd) := (by rw [cell_of_row _ _ _ _ _ _ ht1]; rfl); clear ho2 hbl2 hgrow ht1 hown2))
        go_roundw
        case rel => exact ⟨k + 1, q2, hq2, rfl, by omega, HKE, by rw [take_snoc' HLK.out, cellsT_snoc]; exact hown', hbl3⟩
        case measure => simp [intOf]; omega
    · have hqe : q = s.size := by omega
      have hend : from_ s q = [] := from_ge s q (by omega)
      have HKC : Hid (L.drop k = [⟨5, [], q⟩]) := Lib.hid (by rw [HK.out, hend, toksP_nil])
      have hkl : k < L.length := by
        rcases Nat.lt_or_ge k L.length with h | h
        · exact h
        · have := HKC.out; rw [List.drop_eq_nil_of_le h] at this; cases this
      have hll : L.length = k + 1 := by
        have := congrArg List.length HKC.out
        rw [List.length_drop] at this
        simp at this
        omega
      have hLk : L[k]? = some ⟨5, [], q⟩ := by
        have := HKC.out
        rw [List.drop_eq_getElem_cons hkl] at this
        rw [List.getElem?_eq_getElem hkl]
        injection this with h1 _
        rw [h1]
      have HLK := Lib.hid hLk
      have HLL := Lib.hid hll
      have HQE := Lib.hid hqe
      have hnl2 := hbl.size
      have hkk : k ≤ s.size := by omega
      clear hqe hend hLk hll hkl
      go_wp2_with (at_builtin; refine wpList_append_own _ rfl _ _ 62 rfl w.heap.size 66 i0 (.agg #[.int .i64 0, .string ⟨#[]⟩, .int .i64 0]) 3 32 Tryz.underlying62 hi hz0 hz1 hz2 rfl (by decide) _ _ _ rfl (ho.alloc _) ⟨wr.heap.size, 0, none⟩ 1 1 [.int .i64 5, .string ⟨#[]⟩, .int .i64 s.size] rfl rfl (row3_new _ _ _ _ _) (by simp [Value.oneCell']) (by unfold maxLen; omega) (by omega) (by simp; omega) ?_; intro v' w1 hown' hgrow _; obtain ⟨g', cap', rfl⟩ := ownsRow_succ hown'; have hown2 := fun g (e : _ = some g) => own_lt ho e; have hbl3 : Below w.heap.size w w1 := ((hbl.alloc hnl2 _).grown hgrow (by simp; omega) (fun g e => (hown2 g e).1)); clear ho hbl hgrow hown2)
      go_ret
      obtain ⟨go, c, hv, hsl, hbk⟩ := SlR.of_owns hown'
      rw [show [Value.int .i64 5, .string ⟨#[]⟩, .int .i64 s.size] = Tk.cells ⟨5, [], q⟩ by rw [HQE.out]; rfl, cells_full HLL.out HLK.out] at hsl
      rw [HLL.out]
      cases hv
      exact ⟨_, _, rfl, hsl, hbk, hbl3⟩
end Go.Proofs.YtgeaccoobhigcaaGreat
