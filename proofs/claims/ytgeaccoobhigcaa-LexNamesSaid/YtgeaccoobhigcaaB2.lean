/-
  The walk of ponderref05.one over variables and signs.
-/
import Derived.Test.YtgeaccoobhigcaaB1
import Derived.Deep.DeepCutAuto
import Derived.Deep.CutBlock
import Derived.Deep.QuietTactic
import Derived.BigQuiet
namespace Go.Proofs.Ytgeaccoobhigcaa
open Go.RowKit

set_option maxHeartbeats 2000000 in
set_option maxRecDepth 100000 in
theorem one_var (s : ByteArray) (i n : Nat) (hi : i < s.size) (hs : s.size ≤ 1099511627776) (h60 : s[i].toNat = 60) (hlt : i + 1 < s.size) (hsm : smallB s[i + 1] = true)
    (hn : n = headN partB (from_ s (i + 1))) (hend : i + 1 + n < s.size) (h62 : s[i + 1 + n].toNat = 62) (w : World) :
    Calls Try.prog 55 #[.string s, .int .i64 i] w fun e w' =>
      e = .returned (.tuple #[if 32 < n then tokV 6 ((from_ s i).take (n + 2)) i else tokV 3 ((from_ s (i + 1)).take n) i, .int .i64 ((i + (n + 2) : Nat) : Int)]) ∧ Below w.heap.size w w' := by
  have e1 : decide (97 ≤ s[i].toNat ∧ s[i].toNat ≤ 122) = false := by simp; omega
  have e2 : decide (48 ≤ s[i].toNat ∧ s[i].toNat ≤ 57) = false := by simp; omega
  have e3 : ((s[i].toNat : Int) == 45) = false := by simp; omega
  have e4 : ((s[i].toNat : Int) == 60) = true := by simp; omega
  have e5 : ((s[i + 1 + n].toNat : Int) == 62) = true := by simp; omega
  have hnm := fun w => parts_any s (i + 1) (by omega) (by unfold maxLen; omega) w
  rw [← hn] at hnm
  have hx6 := ext_mk s i (i + 1 + n + 1)
  rw [show i + 1 + n + 1 - i = n + 2 by omega] at hx6
  have hx3 := ext_mk s (i + 1) (i + 1 + n)
  rw [show i + 1 + n - (i + 1) = n by omega] at hx3
  generalize List.take (n + 2) (from_ s i) = T6 at hx6 ⊢
  generalize List.take n (from_ s (i + 1)) = T3 at hx3 ⊢
  have HN : Hid (∀ w, Calls Try.prog 87 #[.string s, .int .i64 ((i : Int) + 1)] w fun e w' => e = .returned (.int .i64 ((i + 1 + n : Nat) : Int)) ∧ w' = w) := Lib.hid hnm
  have HX6 := Lib.hid hx6
  have HX3 := Lib.hid hx3
  unfold smallB at hsm
  clear hn hnm hx6 hx3 h60 h62
  by_cases h32 : 32 < n
  · rw [if_pos h32]
    have h32' : (32 : Int) < (i : Int) + 1 + (n : Int) - (i : Int) - 1 := by omega
    go_enter Try.func55, Try.ntmps55
    go_wp2_with (first | (go_at_call 86; refine (rsmall_any _ _).mono ?_; rintro e w' ⟨rfl, rfl⟩) | (go_at_call 89; refine (rdigit_any _ _).mono ?_; rintro e w' ⟨rfl, rfl⟩) | (go_at_call 87; refine (HN.out _).mono ?_; rintro e w' ⟨rfl, rfl⟩))
    exact bodyPost_ret (v := .tuple #[.agg #[.int .i64 (6 : Nat), .string (s.extract i (i + 1 + n + 1)), .int .i64 i], .int .i64 ((i : Int) + 1 + (n : Int) + 1)]) (by simp [results, Try.results55, go_sem]) rfl ⟨ret_tok HX6.out (by congr 1; omega), (Below.refl _ _).alloc (Nat.le_refl _) _⟩
  · rw [if_neg h32]
    have h32' : ¬ (32 : Int) < (i : Int) + 1 + (n : Int) - (i : Int) - 1 := by omega
    go_enter Try.func55, Try.ntmps55
    go_wp2_with (first | (go_at_call 86; refine (rsmall_any _ _).mono ?_; rintro e w' ⟨rfl, rfl⟩) | (go_at_call 89; refine (rdigit_any _ _).mono ?_; rintro e w' ⟨rfl, rfl⟩) | (go_at_call 87; refine (HN.out _).mono ?_; rintro e w' ⟨rfl, rfl⟩))
    exact bodyPost_ret (v := .tuple #[.agg #[.int .i64 (3 : Nat), .string (s.extract (i + 1) (i + 1 + n)), .int .i64 i], .int .i64 ((i : Int) + 1 + (n : Int) + 1)]) (by simp [results, Try.results55, go_sem]) rfl ⟨ret_tok HX3.out (by congr 1; omega), (Below.refl _ _).alloc (Nat.le_refl _) _⟩


/-- The signs as the text lays them. -/
def signCells : Array Value := (signs.map strV).toArray
theorem signCells_at (k : Nat) (hk : k < signs.length) : signCells[k]? = some (strV signs[k]) := by
  simp [signCells, List.getElem?_eq_getElem hk]

set_option maxHeartbeats 4000000 in
set_option maxRecDepth 100000 in
theorem one_sign (s : ByteArray) (i n : Nat) (hi : i < s.size) (hs : s.size ≤ 1099511627776) (e1 : decide (97 ≤ s[i].toNat ∧ s[i].toNat ≤ 122) = false) (e2 : decide (48 ≤ s[i].toNat ∧ s[i].toNat ≤ 57) = false)
    (hn : n = headN partB (from_ s (i + 1)))
    (hc : (((s[i].toNat : Int) == 45) = true ∧ ((s[i].toNat : Int) == 60) = false ∧ (s.size ≤ i + 1 ∨ ∃ h : i + 1 < s.size, decide (48 ≤ s[i + 1].toNat ∧ s[i + 1].toNat ≤ 57) = false)) ∨
      (((s[i].toNat : Int) == 45) = false ∧ (((s[i].toNat : Int) == 60) = false ∨ (((s[i].toNat : Int) == 60) = true ∧ (s.size ≤ i + 1 ∨ ∃ h : i + 1 < s.size, (decide (97 ≤ s[i + 1].toNat ∧ s[i + 1].toNat ≤ 122) = false ∨ (decide (97 ≤ s[i + 1].toNat ∧ s[i + 1].toNat ≤ 122) = true ∧ (s.size ≤ i + 1 + n ∨ ∃ h2 : i + 1 + n < s.size, ((s[i + 1 + n].toNat : Int) == 62) = false))))))))
    (w : World) :
    Calls Try.prog 55 #[.string s, .int .i64 i] w fun e w' =>
      e = .returned (.tuple #[tokV (signNx s[i] (from_ s i)).kind (signNx s[i] (from_ s i)).text i, .int .i64 ((i + (signNx s[i] (from_ s i)).len : Nat) : Int)]) ∧ Below w.heap.size w w' := by
  have hnm : i + 1 < s.size → ∀ w, Calls Try.prog 87 #[.string s, .int .i64 ((i : Int) + 1)] w fun e w' => e = .returned (.int .i64 ((i + 1 + n : Nat) : Int)) ∧ w' = w := fun h w => by
    rw [hn]; exact parts_any s (i + 1) (by omega) (by unfold maxLen; omega) w
  have hnle : n ≤ s.size - (i + 1) := by rw [hn, ← from_length]; exact headN_le _ _
  have hlen := signT_len (from_ s i)
  have hx1 := ext_mk s i (i + 1)
  rw [show i + 1 - i = 1 by omega, from_lt s i hi] at hx1
  rw [show List.take 1 (s[i] :: from_ s (i + 1)) = [s[i]] from rfl] at hx1
  have HX1 := Lib.hid hx1
  generalize hC : s[i] = C at HX1 ⊢
  rw [hC] at e1 e2 hc
  have hget : ∀ h : i < s.size, s[i]'h = C := fun _ => hC
  clear hC hx1 hn
  obtain ⟨R, hR⟩ : ∃ R, R = signNx C (from_ s i) := ⟨_, rfl⟩
  rw [← hR]
  have HR := Lib.hid hR
  clear hR
  go_enter Try.func55, Try.ntmps55
  go_upto_block 0 with fail
  go_cut [] (fun wx => wx = w.alloc (.cells #[.int .i64 0, .string ⟨#[]⟩, .int .i64 0] 99))
  case first =>
    rcases hc with ⟨c1, c2, c3 | ⟨c3, c4⟩⟩ | ⟨c1, c2 | ⟨c2, c3 | ⟨c3, c4 | ⟨c4, c5 | ⟨c5, c6⟩⟩⟩⟩⟩
    all_goals
      have HN : Hid (i + 1 < s.size → ∀ w, Calls Try.prog 87 #[.string s, .int .i64 ((i : Int) + 1)] w fun e w' => e = .returned (.int .i64 ((i + 1 + n : Nat) : Int)) ∧ w' = w) := Lib.hid hnm
      clear hnm
      go_wp2_with (first | (go_at_call 86; refine (rsmall_any _ _).mono ?_; rintro e w' ⟨rfl, rfl⟩) | (go_at_call 89; refine (rdigit_any _ _).mono ?_; rintro e w' ⟨rfl, rfl⟩) | (go_at_call 87; refine (HN.out (by omega) _).mono ?_; rintro e w' ⟨rfl, rfl⟩))
      go_meet
      exact rfl
  subst hcut
  clear hc hnm e1 e2 hnle
  go_upto_region 19 with fail
  go_cut [12] (fun a wx => a = .slice (some ⟨w.heap.size + 1, 0, none⟩) 20 20 ∧ Hid (wx.heap[w.heap.size + 1]? = some (.cells signCells 9 (0, 0))) ∧ Hid (wx.heap[w.heap.size]? = some (.cells #[.int .i64 0, .string ⟨#[]⟩, .int .i64 0] 99 (0, 0))) ∧ Below w.heap.size w wx)
  case first =>
    go_wp2_with fail
    go_meet
    refine ⟨by simp, Lib.hid ?_, Lib.hid ?_, ((Below.refl _ _).alloc (Nat.le_refl _) _).alloc (by simp) _⟩
    · have := heap_alloc_new (w.alloc (.cells #[.int .i64 0, .string ⟨#[]⟩, .int .i64 0] 99)) (.cells signCells 9)
      rwa [World.size_alloc] at this
    · exact (Below.heap_alloc _ _ _ (by simp)).trans (heap_alloc_new w _)
  obtain ⟨rfl, HS, HRS, hbw⟩ := hcut
  go_wp2
  go_loopw [13] (fun t wr => ∃ k q : Nat, k ≤ 20 ∧ t = .int .i64 k ∧ Hid (signT (from_ s i) = firstAt (from_ s i) (signs.drop k)) ∧ wr = wc.drewN q) (fun t _ => 20 - (intOf t).toNat)
  case atStart => exact ⟨0, 0, by omega, rfl, Lib.hid rfl, rfl⟩
  case round =>
    obtain ⟨k, q, hk, rfl, HK, rfl⟩ := hrel
    by_cases hlt : k < signs.length
    · have hlt' : k < 20 := hlt
      have hsz := signs_size k hlt
      have HNO := Lib.hid (firstAt_drop_no (from_ s i) k hlt)
      have HYE := Lib.hid (firstAt_drop_yes (from_ s i) k hlt)
      have hcX : ∀ q, (wc.drewN q).cell? ⟨w.heap.size + 1, k, none⟩ = some (strV (signs[k])) := fun q => by
        have : wc.cell? ⟨w.heap.size + 1, k, none⟩ = some (strV (signs[k])) := by rw [cell_of_row _ _ _ _ _ _ HS.out]; exact signCells_at k hlt
        exact this
      have hmem : signs[k] ≠ [] := by
        have : ∀ x ∈ signs, x ≠ [] := by decide
        exact this _ (List.getElem_mem hlt)
      generalize signs[k] = x at hsz HNO HYE hcX hmem
      rw [strV] at hcX
      have hb : headB x (from_ s i) = headB (ByteArray.mk x.toArray).data.toList (from_ s i) := by simp
      have hXs : (ByteArray.mk x.toArray).size = x.length := rfl
      rw [hb] at HNO HYE
      rw [← hXs] at hsz
      have HXS := Lib.hid hXs
      have HXX : Hid (Value.string (ByteArray.mk x.toArray) = strV x) := Lib.hid rfl
      generalize ByteArray.mk x.toArray = X at *
      have hcX0 := hcX 0
      have hcXq := hcX q
      clear hb hXs
      rcases hh : headB X.data.toList (from_ s i) with _ | _
      · have HN2 := Lib.hid (HNO.out hh)
        by_cases hfit : i + X.size ≤ s.size
        · have he := headB_of_ext s X i
          rw [hh] at he
          have hd : decide ((X.size : Int) ≤ (s.size : Int) - (i : Int)) = true := by simp; omega
          clear hh hcX0 HNO HYE
          go_wp2
          go_quiet (fail)
          go_wp2
          go_roundw
          case rel => exact ⟨k + 1, _, by omega, by go_num, Lib.hid (by rw [HK.out, HN2.out]), rfl⟩
          case measure => simp [intOf]; omega
        · have hd : decide ((X.size : Int) ≤ (s.size : Int) - (i : Int)) = false := by simp; omega
          clear hh hcX hcX0 HNO HYE
          go_wp2
          go_quiet (fail)
          go_wp2
          go_roundw
          case rel => exact ⟨k + 1, _, by omega, by go_num, Lib.hid (by rw [HK.out, HN2.out]), rfl⟩
          case measure => simp [intOf]; omega
      · have HY2 := Lib.hid (HYE.out hh)
        have hfit : i + X.size ≤ s.size := by
          have := (List.isPrefixOf_iff_prefix.1 hh).length_le
          rw [from_length] at this
          have h2 : X.data.toList.length = X.size := by simp
          omega
        have he := headB_of_ext s X i
        rw [hh] at he
        have hd : decide ((X.size : Int) ≤ (s.size : Int) - (i : Int)) = true := by simp; omega
        have hR : signNx C (from_ s i) = ⟨4, x, x.length⟩ := by
          have e : signT (from_ s i) = x := by rw [HK.out, HY2.out]
          unfold signNx
          rw [e, if_neg hmem]
        have HR2 : Hid (R = ⟨4, x, x.length⟩) := Lib.hid (HR.out.trans hR)
        clear hh hcX0 HNO HYE hR hmem
        go_wp2
        go_quiet (fail)
        have hr0 : ∀ q, (wc.drewN q).cell? ⟨w.heap.size, 0, none⟩ = some (.int .i64 0) := fun q => by
          have : wc.cell? ⟨w.heap.size, 0, none⟩ = some (.int .i64 0) := by rw [cell_of_row _ _ _ _ _ _ HRS.out]; rfl
          exact this
        have hr1 : ∀ q, (wc.drewN q).cell? ⟨w.heap.size, 1, none⟩ = some (.string ⟨#[]⟩) := fun q => by
          have : wc.cell? ⟨w.heap.size, 1, none⟩ = some (.string ⟨#[]⟩) := by rw [cell_of_row _ _ _ _ _ _ HRS.out]; rfl
          exact this
        have hr2 : ∀ q, (wc.drewN q).cell? ⟨w.heap.size, 2, none⟩ = some (.int .i64 0) := fun q => by
          have : wc.cell? ⟨w.heap.size, 2, none⟩ = some (.int .i64 0) := by rw [cell_of_row _ _ _ _ _ _ HRS.out]; rfl
          exact this
        have hrf : ∀ q j, (wc.drewN q).frozen? ⟨w.heap.size, j, none⟩ = false := fun q j => by
          have : wc.frozen? ⟨w.heap.size, j, none⟩ = false := by simp [World.frozen?, HRS.out]
          exact this
        go_wp2
        refine bodyPost_ret (v := .tuple #[.agg #[.int .i64 (4 : Nat), .string X, .int .i64 i], .int .i64 ((i : Int) + (X.size : Int))]) ?_ rfl ⟨by rw [HR2.out, ← HXS.out]; exact ret_tok HXX.out (by simp), ?_⟩
        · obtain ⟨f0, f1, f2⟩ := set3_cells (W := wc.drewN (q + nq)) HRS.out (.int .i64 4) (.string X) (.int .i64 i)
          simp [results, Try.results55, go_sem, f0, f1, f2]
        · have hbd : Below w.heap.size w (wc.drewN (q + nq)) := ⟨hbw.os, hbw.tape, hbw.output, hbw.size, hbw.block⟩
          exact ((hbd.setCell (p := ⟨w.heap.size, 0, none⟩) (Nat.le_refl _) _).setCell (p := ⟨w.heap.size, 1, none⟩) (Nat.le_refl _) _).setCell (p := ⟨w.heap.size, 2, none⟩) (Nat.le_refl _) _
    · have hk20 : k = 20 := by
        rw [signs_len] at hlt; omega
      have hsig : signT (from_ s i) = [] := by
        rw [HK.out, List.drop_eq_nil_of_le (by rw [signs_len]; omega)]; rfl
      have HR2 : Hid (R = ⟨6, [C], 1⟩) := Lib.hid (HR.out.trans (by unfold signNx; rw [if_pos hsig]))
      have hnlt : ¬ (k < 20) := by omega
      have hr0 : ∀ q, (wc.drewN q).cell? ⟨w.heap.size, 0, none⟩ = some (.int .i64 0) := fun q => by
        have : wc.cell? ⟨w.heap.size, 0, none⟩ = some (.int .i64 0) := by rw [cell_of_row _ _ _ _ _ _ HRS.out]; rfl
        exact this
      have hr1 : ∀ q, (wc.drewN q).cell? ⟨w.heap.size, 1, none⟩ = some (.string ⟨#[]⟩) := fun q => by
        have : wc.cell? ⟨w.heap.size, 1, none⟩ = some (.string ⟨#[]⟩) := by rw [cell_of_row _ _ _ _ _ _ HRS.out]; rfl
        exact this
      have hr2 : ∀ q, (wc.drewN q).cell? ⟨w.heap.size, 2, none⟩ = some (.int .i64 0) := fun q => by
        have : wc.cell? ⟨w.heap.size, 2, none⟩ = some (.int .i64 0) := by rw [cell_of_row _ _ _ _ _ _ HRS.out]; rfl
        exact this
      have hrf : ∀ q j, (wc.drewN q).frozen? ⟨w.heap.size, j, none⟩ = false := fun q j => by
        have : wc.frozen? ⟨w.heap.size, j, none⟩ = false := by simp [World.frozen?, HRS.out]
        exact this
      clear hsig hlt hk20
      go_wp2
      refine bodyPost_ret (v := .tuple #[.agg #[.int .i64 (6 : Nat), .string (s.extract i (i + 1)), .int .i64 i], .int .i64 ((i : Int) + 1)]) ?_ rfl ⟨by rw [HR2.out]; exact ret_tok HX1.out (by simp), ?_⟩
      · obtain ⟨f0, f1, f2⟩ := set3_cells (W := wc.drewN q) HRS.out (.int .i64 6) (.string (s.extract i (i + 1))) (.int .i64 i)
        simp [results, Try.results55, go_sem, f0, f1, f2]
      · have hbd : Below w.heap.size w (wc.drewN q) := ⟨hbw.os, hbw.tape, hbw.output, hbw.size, hbw.block⟩
        exact ((hbd.setCell (p := ⟨w.heap.size, 0, none⟩) (Nat.le_refl _) _).setCell (p := ⟨w.heap.size, 1, none⟩) (Nat.le_refl _) _).setCell (p := ⟨w.heap.size, 2, none⟩) (Nat.le_refl _) _
end Go.Proofs.Ytgeaccoobhigcaa
