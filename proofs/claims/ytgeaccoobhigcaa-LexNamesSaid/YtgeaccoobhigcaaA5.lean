/-
  The walks of sym.number and ponderref04.Read: numbers of digits.
-/
import Derived.Test.YtgeaccoobhigcaaA4
namespace Go.Proofs.Ytgeaccoobhigcaa
open Go.RowKit

/-- The form of a number's digits, without its bound. -/
def numForm (l : Bs) : Bool := decide (1 ≤ l.length) && decide (l.length ≤ 10) && !(headIs 48 l && decide (1 < l.length)) && l.all digitB
theorem numOk_eq (most : Nat) (l : Bs) : numOk most l = (numForm l && decide (valN 0 l ≤ most)) := rfl

theorem val_step (s : ByteArray) (k v : Nat) (h : k < s.size) : valN v (from_ s k) = valN (10 * v + (s[k].toNat - 48)) (from_ s (k + 1)) := by
  rw [from_lt s k h]; rfl
theorem val_end (s : ByteArray) (k v : Nat) (h : s.size ≤ k) : valN v (from_ s k) = v := by
  rw [from_ge s k h]; rfl
theorem pow_lt9 {v k : Nat} (h : v < 10 ^ k) (hk : k ≤ 9) : v < 1000000000 := Nat.lt_of_lt_of_le h (Nat.pow_le_pow_right (by omega) hk)
theorem pow_lt10 {v k : Nat} (h : v < 10 ^ k) (hk : k ≤ 10) : v < 10000000000 := Nat.lt_of_lt_of_le h (Nat.pow_le_pow_right (by omega) hk)
theorem pow_step {v k d : Nat} (h : v < 10 ^ k) (hd : d ≤ 9) : 10 * v + d < 10 ^ (k + 1) := by rw [Nat.pow_succ]; omega

set_option maxHeartbeats 1000000 in
theorem number_any (s : ByteArray) (most : Nat) (hs : s.size ≤ 1099511627776) (_ : most ≤ 2147483647) (w : World) :
    Calls Try.prog 125 #[.string s, .int .i64 most] w fun e w' => (∃ n : Nat, e = .returned (.tuple #[.int .i64 n, .bool (numOk most s.data.toList)]) ∧ (numOk most s.data.toList = true → n = valN 0 s.data.toList)) ∧ w' = w := by
  by_cases h1 : 1 ≤ s.size
  · have h1' : 0 < s.size := h1
    by_cases h2 : s.size ≤ 10
    · by_cases h3 : s[0].toNat = 48 ∧ 1 < s.size
      · have HF : numOk most s.data.toList = false := by
          rw [numOk_eq]; unfold numForm
          rw [size_toList, toList_cons s h1']
          simp [headIs, h3]
        rw [HF]
        obtain ⟨h3, h4⟩ := h3
        have e3 : ((s[0].toNat : Int) == 48) = true := by simp; omega
        have e4 : (1 : Int) < (s.size : Int) := by omega
        clear HF h3
        go_enter Try.func125, Try.ntmps125
        go_wp2
        go_ret2
        exact ⟨⟨0, rfl, by simp⟩, rfl⟩
      · have HF : numForm s.data.toList = (from_ s 0).all digitB := by
          unfold numForm
          rw [size_toList, from_zero, toList_cons s h1']
          by_cases h4 : s[0].toNat = 48
          · have : ¬ 1 < s.size := fun h => h3 ⟨h4, h⟩
            simp [headIs, this, h2]; omega
          · simp [headIs, h4, h2]; omega
        have HO : Hid (numOk most s.data.toList = ((from_ s 0).all digitB && decide (valN 0 (from_ s 0) ≤ most))) := Lib.hid (by rw [numOk_eq, HF, from_zero])
        clear HF
        have HZ : Hid (valN 0 s.data.toList = valN 0 (from_ s 0)) := Lib.hid (by rw [from_zero])
        generalize numOk most s.data.toList = OK at HO
        have e3 : ((s[0].toNat : Int) == 48) = false ∨ (((s[0].toNat : Int) == 48) = true ∧ ¬ ((1 : Int) < (s.size : Int))) := by
          by_cases h4 : s[0].toNat = 48
          · exact .inr ⟨by simp; omega, fun h => h3 ⟨h4, by omega⟩⟩
          · exact .inl (by simp; omega)
        clear h3
        rcases e3 with e3 | ⟨e3, e4⟩
        all_goals
          go_enter Try.func125, Try.ntmps125
          go_wp2
          go_loop [6, 7] (fun n t => ∃ k v : Nat, k ≤ s.size ∧ Hid ((from_ s 0).all digitB = (from_ s k).all digitB) ∧ Hid (valN 0 (from_ s 0) = valN v (from_ s k)) ∧ Hid (v < 10 ^ k) ∧ n = .int .i64 v ∧ t = .int .i64 k) (fun _ t => s.size - (intOf t).toNat)
          case atStart => exact ⟨0, 0, by omega, Lib.hid rfl, Lib.hid rfl, Lib.hid (by simp), rfl, rfl⟩
          case round =>
            obtain ⟨k, v, hk, HA, HV, HP, rfl, rfl⟩ := hrel
            by_cases hlt : k < s.size
            · by_cases hd : 48 ≤ s[k].toNat ∧ s[k].toNat ≤ 57
              · have e1 := decide_eq_true hd
                have HY := Lib.hid (all_yes (p := digitB) s k hlt (by simp [digitB, hd]))
                have HVS := Lib.hid (val_step s k v hlt)
                have hv9 := pow_lt9 HP.out (by omega)
                have hd1 : (48 : Int) ≤ (s[k].toNat : Int) := by omega
                have hd2 : (s[k].toNat : Int) ≤ 57 := by omega
                have hsub : ((s[k].toNat - 48 : Nat) : Int) = (s[k].toNat : Int) - 48 := by omega
                have HSUB := Lib.hid hsub
                have hd9 : s[k].toNat - 48 ≤ 9 := by omega
                clear hd hsub
                go_wp2_with (go_at_call 129; refine (sdigit_any _ _).mono ?_; rintro e w' ⟨rfl, rfl⟩)
                go_round
                case rel => exact ⟨k + 1, 10 * v + (s[k].toNat - 48), by omega, Lib.hid (by rw [HA.out, HY.out]), Lib.hid (by rw [HV.out, HVS.out]), Lib.hid (pow_step HP.out hd9), by rw [Int.natCast_add, HSUB.out]; go_num, by go_num⟩
                case measure => simp [intOf]; omega
              · have e1 := decide_eq_false hd
                have HY := Lib.hid (all_no (p := digitB) s k hlt (by simp [digitB, hd]))
                clear hd
                go_wp2_with (go_at_call 129; refine (sdigit_any _ _).mono ?_; rintro e w' ⟨rfl, rfl⟩)
                go_ret2
                have hO : OK = false := by rw [HO.out, HA.out, HY.out]; rfl
                exact ⟨⟨0, by rw [hO]; rfl, by rw [hO]; simp⟩, rfl⟩
            · have HY := Lib.hid (all_end (p := digitB) s k (by omega))
              have HVE := Lib.hid (val_end s k v (by omega))
              have hv := pow_lt10 HP.out (by omega)
              go_wp2
              go_ret2
              have hO : OK = decide (v ≤ most) := by
                rw [HO.out, HA.out, HY.out, HV.out, HVE.out]; simp
              exact ⟨⟨v, by rw [hO]; rfl, fun _ => by rw [HZ.out, HV.out, HVE.out]⟩, rfl⟩
    · have HF : numOk most s.data.toList = false := by
        rw [numOk_eq]; unfold numForm
        rw [size_toList]
        simp [h2]
      rw [HF]
      clear HF
      go_enter Try.func125, Try.ntmps125
      go_wp2
      go_ret2
      exact ⟨⟨0, rfl⟩, rfl⟩
  · have HF : numOk most s.data.toList = false := by
      rw [numOk_eq]; unfold numForm
      rw [size_toList]
      simp [h1]
    rw [HF]
    clear HF
    go_enter Try.func125, Try.ntmps125
    go_wp2
    go_ret2
    exact ⟨⟨0, rfl⟩, rfl⟩

/-- What stands behind a sign. -/
def bodyT (l : Bs) : Bs := if headIs 45 l then l.tail else l
def readOk (l : Bs) : Bool := numForm (bodyT l) && !(headIs 45 l && headIs 48 (bodyT l))
def readV (l : Bs) : Int := if headIs 45 l then - (valN 0 (bodyT l) : Int) else (valN 0 (bodyT l) : Int)

theorem from_tail (s : ByteArray) (h : 0 < s.size) : (s.extract 1 s.size).data.toList = s.data.toList.tail := by
  have := ext_toList s 1 s.size
  rw [ByteArray.toList_eq] at this
  rw [this, toList_cons s h]
  simp
  exact List.take_of_length_le (by rw [from_length]; omega)
theorem headIs_eq (s : ByteArray) (n : Nat) (h : 0 < s.size) : headIs n s.data.toList = decide (s[0].toNat = n) := by rw [toList_cons s h]; rfl
theorem extract1_size (s : ByteArray) : (s.extract 1 s.size).size = s.size - 1 := by simp

/-- numForm, part by part. -/
theorem numForm_parts (S : ByteArray) : (¬ 1 ≤ S.size ∧ numForm S.data.toList = false) ∨ (1 ≤ S.size ∧ ¬ S.size ≤ 10 ∧ numForm S.data.toList = false) ∨
    (1 ≤ S.size ∧ S.size ≤ 10 ∧ ∃ h : 0 < S.size, ((S[0].toNat = 48 ∧ 1 < S.size ∧ numForm S.data.toList = false) ∨ (S[0].toNat = 48 ∧ ¬ 1 < S.size ∧ numForm S.data.toList = (from_ S 0).all digitB) ∨ (S[0].toNat ≠ 48 ∧ numForm S.data.toList = (from_ S 0).all digitB))) := by
  by_cases h1 : 1 ≤ S.size
  · have h1' : 0 < S.size := h1
    by_cases h2 : S.size ≤ 10
    · refine .inr (.inr ⟨h1, h2, h1', ?_⟩)
      by_cases h4 : S[0].toNat = 48
      · by_cases h5 : 1 < S.size
        · refine .inl ⟨h4, h5, ?_⟩
          unfold numForm
          rw [size_toList, toList_cons S h1']
          simp [headIs, h4, h5]
        · refine .inr (.inl ⟨h4, h5, ?_⟩)
          unfold numForm
          rw [size_toList, from_zero, toList_cons S h1']
          simp [headIs, h5, h2]; omega
      · refine .inr (.inr ⟨h4, ?_⟩)
        unfold numForm
        rw [size_toList, from_zero, toList_cons S h1']
        simp [headIs, h4, h2]; omega
    · refine .inr (.inl ⟨h1, h2, ?_⟩)
      unfold numForm
      rw [size_toList]
      simp [h2]
  · refine .inl ⟨h1, ?_⟩
    unfold numForm
    rw [size_toList]
    simp [h1]

set_option maxHeartbeats 2000000 in
theorem read_pos (s : ByteArray) (hs : s.size ≤ 1099511627776) (hneg : headIs 45 s.data.toList = false) (w : World) :
    Calls Try.prog 90 #[.string s] w fun e w' => (∃ n : Int, e = .returned (.tuple #[.int .i64 n, .bool (readOk s.data.toList)]) ∧ (readOk s.data.toList = true → n = readV s.data.toList)) ∧ w' = w := by
  have hR : readOk s.data.toList = (numForm (bodyT s.data.toList) && !(false && headIs 48 (bodyT s.data.toList))) := by unfold readOk; rw [hneg]
  have hV : readV s.data.toList = (valN 0 (bodyT s.data.toList) : Int) := by unfold readV; simp [hneg]
  have hb : bodyT s.data.toList = s.data.toList := by unfold bodyT; rw [hneg]; rfl
  rw [hb] at hR hV
  have e45 : ¬ 0 < s.size ∨ (∃ h : 0 < s.size, ((s[0].toNat : Int) == 45) = false) := by
    by_cases h : 0 < s.size
    · refine .inr ⟨h, ?_⟩
      rw [headIs_eq s 45 h] at hneg
      simp at hneg ⊢; omega
    · exact .inl h
  have hS := hs
  clear hb hneg
  generalize readOk s.data.toList = OK at hR ⊢
  generalize readV s.data.toList = RV at hV ⊢
  have HR := Lib.hid hR
  have HV0 := Lib.hid hV
  clear hR hV
  rcases numForm_parts s with ⟨h1, hF⟩ | ⟨h1, h2, hF⟩ | ⟨h1, h2, h0', hF⟩
  · have hO : OK = false := by rw [HR.out, hF]; rfl
    clear hF HR
    subst hO
    have e45 : ¬ 0 < s.size := by omega
    go_enter Try.func90, Try.ntmps90
    go_upto_if 15 with fail
    go_cut [0] (fun t wx => t = .string s ∧ wx = w)
    case first =>
      go_wp2_with fail
      go_meet
      exact ⟨rfl, rfl⟩
    obtain ⟨rfl, rfl⟩ := hcut
    go_wp2
    go_ret2
    exact ⟨⟨0, by first | rfl | exact ⟨rfl, by simp⟩⟩, rfl⟩
  · have hO : OK = false := by rw [HR.out, hF]; rfl
    clear hF HR
    subst hO
    obtain ⟨h0, e45⟩ := e45.resolve_left (by omega)
    go_enter Try.func90, Try.ntmps90
    go_upto_if 15 with fail
    go_cut [0] (fun t wx => t = .string s ∧ wx = w)
    case first =>
      go_wp2_with fail
      go_meet
      exact ⟨rfl, rfl⟩
    obtain ⟨rfl, rfl⟩ := hcut
    go_wp2
    go_ret2
    exact ⟨⟨0, by first | rfl | exact ⟨rfl, by simp⟩⟩, rfl⟩
  · obtain ⟨h0, e45⟩ := e45.resolve_left (by omega)
    have hH := headIs_eq s 48 h0'
    have hcase : (∃ e48 : ((s[0].toNat : Int) == 48) = true, (1 : Int) < (s.size : Int) ∧ OK = false) ∨
      (∃ e48 : ((s[0].toNat : Int) == 48) = true, (s.size : Int) ≤ 1 ∧ OK = (from_ s 0).all digitB) ∨
      (∃ e48 : ((s[0].toNat : Int) == 48) = false, OK = (from_ s 0).all digitB) := by
      rcases hF with ⟨a, b, c⟩ | ⟨a, b, c⟩ | ⟨a, c⟩
      · exact .inl ⟨by simp; omega, by omega, by rw [HR.out, c]; rfl⟩
      · exact .inr (.inl ⟨by simp; omega, by omega, by rw [HR.out, c, hH]; simp [a]⟩)
      · exact .inr (.inr ⟨by simp; omega, by rw [HR.out, c, hH]; simp [a]⟩)
    clear hF hH HR
    rcases hcase with ⟨e48, h5, hO⟩ | ⟨e48, h5, hO⟩ | ⟨e48, hO⟩
    · subst hO
      go_enter Try.func90, Try.ntmps90
      go_upto_if 15 with fail
      go_cut [0] (fun t wx => t = .string s ∧ wx = w)
      case first =>
        go_wp2_with fail
        go_meet
        exact ⟨rfl, rfl⟩
      obtain ⟨rfl, rfl⟩ := hcut
      go_wp2
      go_ret2
      exact ⟨⟨0, by first | rfl | exact ⟨rfl, by simp⟩⟩, rfl⟩
    · have HO := Lib.hid hO
      clear hO
      go_enter Try.func90, Try.ntmps90
      go_upto_if 15 with fail
      go_cut [0] (fun t wx => t = .string s ∧ wx = w)
      case first =>
        go_wp2_with fail
        go_meet
        exact ⟨rfl, rfl⟩
      obtain ⟨rfl, rfl⟩ := hcut
      go_wp2
      go_loop [5, 6] (fun n t => ∃ k v : Nat, k ≤ s.size ∧ Hid ((from_ s 0).all digitB = (from_ s k).all digitB) ∧ Hid (valN 0 (from_ s 0) = valN v (from_ s k)) ∧ Hid (v < 10 ^ k) ∧ n = .int .i64 v ∧ t = .int .i64 k) (fun _ t => s.size - (intOf t).toNat)
      case atStart => exact ⟨0, 0, by omega, Lib.hid rfl, Lib.hid rfl, Lib.hid (by simp), rfl, rfl⟩
      case round =>
        obtain ⟨k, v, hk, HA, HV, HP, rfl, rfl⟩ := hrel
        by_cases hlt : k < s.size
        · by_cases hd : 48 ≤ s[k].toNat ∧ s[k].toNat ≤ 57
          · have HY := Lib.hid (all_yes (p := digitB) s k hlt (by simp [digitB, hd]))
            have HVS := Lib.hid (val_step s k v hlt)
            have hv9 := pow_lt9 HP.out (by omega)
            have hd1 : (48 : Int) ≤ (s[k].toNat : Int) := by omega
            have hd2 : (s[k].toNat : Int) ≤ 57 := by omega
            have hsub : ((s[k].toNat - 48 : Nat) : Int) = (s[k].toNat : Int) - 48 := by omega
            have HSUB := Lib.hid hsub
            have hd9 : s[k].toNat - 48 ≤ 9 := by omega
            clear hd hsub
            go_wp2
            go_round
            case rel => exact ⟨k + 1, 10 * v + (s[k].toNat - 48), by omega, Lib.hid (by rw [HA.out, HY.out]), Lib.hid (by rw [HV.out, HVS.out]), Lib.hid (pow_step HP.out hd9), by rw [Int.natCast_add, HSUB.out]; go_num, by go_num⟩
            case measure => simp [intOf]; omega
          · have HY := Lib.hid (all_no (p := digitB) s k hlt (by simp [digitB, hd]))
            have hd1 : (s[k].toNat : Int) < 48 ∨ ((48 : Int) ≤ (s[k].toNat : Int) ∧ (57 : Int) < (s[k].toNat : Int)) := by omega
            clear hd
            have hOf : OK = false := by rw [HO.out, HA.out, HY.out]
            clear HO
            subst hOf
            rcases hd1 with hd1 | ⟨hd1, hd2⟩
            all_goals
              go_wp2
              go_ret2
              exact ⟨⟨0, by first | rfl | exact ⟨rfl, by simp⟩⟩, rfl⟩
        · have HY := Lib.hid (all_end (p := digitB) s k (by omega))
          have HVE := Lib.hid (val_end s k v (by omega))
          have hv := pow_lt10 HP.out (by omega)
          have hOt : OK = true := by rw [HO.out, HA.out, HY.out]
          clear HO
          subst hOt
          go_wp2
          go_ret2
          have hfin : RV = (v : Int) := by rw [HV0.out, ← from_zero, HV.out, HVE.out]
          rw [hfin]
          first | exact ⟨⟨(v : Int), by first | exact ⟨rfl, fun _ => rfl⟩ | exact ⟨rfl, rfl⟩ | rfl⟩, rfl⟩ | exact ⟨rfl, rfl⟩
    · have HO := Lib.hid hO
      clear hO
      go_enter Try.func90, Try.ntmps90
      go_upto_if 15 with fail
      go_cut [0] (fun t wx => t = .string s ∧ wx = w)
      case first =>
        go_wp2_with fail
        go_meet
        exact ⟨rfl, rfl⟩
      obtain ⟨rfl, rfl⟩ := hcut
      go_wp2
      go_loop [5, 6] (fun n t => ∃ k v : Nat, k ≤ s.size ∧ Hid ((from_ s 0).all digitB = (from_ s k).all digitB) ∧ Hid (valN 0 (from_ s 0) = valN v (from_ s k)) ∧ Hid (v < 10 ^ k) ∧ n = .int .i64 v ∧ t = .int .i64 k) (fun _ t => s.size - (intOf t).toNat)
      case atStart => exact ⟨0, 0, by omega, Lib.hid rfl, Lib.hid rfl, Lib.hid (by simp), rfl, rfl⟩
      case round =>
        obtain ⟨k, v, hk, HA, HV, HP, rfl, rfl⟩ := hrel
        by_cases hlt : k < s.size
        · by_cases hd : 48 ≤ s[k].toNat ∧ s[k].toNat ≤ 57
          · have HY := Lib.hid (all_yes (p := digitB) s k hlt (by simp [digitB, hd]))
            have HVS := Lib.hid (val_step s k v hlt)
            have hv9 := pow_lt9 HP.out (by omega)
            have hd1 : (48 : Int) ≤ (s[k].toNat : Int) := by omega
            have hd2 : (s[k].toNat : Int) ≤ 57 := by omega
            have hsub : ((s[k].toNat - 48 : Nat) : Int) = (s[k].toNat : Int) - 48 := by omega
            have HSUB := Lib.hid hsub
            have hd9 : s[k].toNat - 48 ≤ 9 := by omega
            clear hd hsub
            go_wp2
            go_round
            case rel => exact ⟨k + 1, 10 * v + (s[k].toNat - 48), by omega, Lib.hid (by rw [HA.out, HY.out]), Lib.hid (by rw [HV.out, HVS.out]), Lib.hid (pow_step HP.out hd9), by rw [Int.natCast_add, HSUB.out]; go_num, by go_num⟩
            case measure => simp [intOf]; omega
          · have HY := Lib.hid (all_no (p := digitB) s k hlt (by simp [digitB, hd]))
            have hd1 : (s[k].toNat : Int) < 48 ∨ ((48 : Int) ≤ (s[k].toNat : Int) ∧ (57 : Int) < (s[k].toNat : Int)) := by omega
            clear hd
            have hOf : OK = false := by rw [HO.out, HA.out, HY.out]
            clear HO
            subst hOf
            rcases hd1 with hd1 | ⟨hd1, hd2⟩
            all_goals
              go_wp2
              go_ret2
              exact ⟨⟨0, by first | rfl | exact ⟨rfl, by simp⟩⟩, rfl⟩
        · have HY := Lib.hid (all_end (p := digitB) s k (by omega))
          have HVE := Lib.hid (val_end s k v (by omega))
          have hv := pow_lt10 HP.out (by omega)
          have hOt : OK = true := by rw [HO.out, HA.out, HY.out]
          clear HO
          subst hOt
          go_wp2
          go_ret2
          have hfin : RV = (v : Int) := by rw [HV0.out, ← from_zero, HV.out, HVE.out]
          rw [hfin]
          first | exact ⟨⟨(v : Int), by first | exact ⟨rfl, fun _ => rfl⟩ | exact ⟨rfl, rfl⟩ | rfl⟩, rfl⟩ | exact ⟨rfl, rfl⟩

set_option maxHeartbeats 2000000 in
theorem read_neg (s : ByteArray) (hs : s.size ≤ 1099511627776) (hneg : headIs 45 s.data.toList = true) (w : World) :
    Calls Try.prog 90 #[.string s] w fun e w' => (∃ n : Int, e = .returned (.tuple #[.int .i64 n, .bool (readOk s.data.toList)]) ∧ (readOk s.data.toList = true → n = readV s.data.toList)) ∧ w' = w := by
  have hR : readOk s.data.toList = (numForm (bodyT s.data.toList) && !(true && headIs 48 (bodyT s.data.toList))) := by unfold readOk; rw [hneg]
  have hV : readV s.data.toList = - (valN 0 (bodyT s.data.toList) : Int) := by unfold readV; simp [hneg]
  have h0 : 0 < s.size := by
    rcases Nat.eq_zero_or_pos s.size with h | h
    · have : s.data.toList = [] := List.eq_nil_of_length_eq_zero (by rw [size_toList]; exact h)
      rw [this] at hneg
      simp [headIs] at hneg
    · exact h
  have hb : bodyT s.data.toList = (s.extract 1 s.size).data.toList := by rw [from_tail s h0]; unfold bodyT; rw [hneg]; rfl
  rw [hb] at hR hV
  rw [headIs_eq s 45 h0] at hneg
  have e45 : ((s[0].toNat : Int) == 45) = true := by simp at hneg ⊢; omega
  have hz := extract1_size s
  have hS : (s.extract 1 s.size).size ≤ 1099511627776 := by rw [hz]; omega
  have hgen : ∃ S, S = s.extract 1 s.size := ⟨_, rfl⟩
  obtain ⟨S, hgen⟩ := hgen
  have HG := Lib.hid hgen
  rw [← hgen] at hR hV hS
  clear hgen hb hneg hz
  generalize readOk s.data.toList = OK at hR ⊢
  generalize readV s.data.toList = RV at hV ⊢
  have HR := Lib.hid hR
  have HV0 := Lib.hid hV
  clear hR hV
  rcases numForm_parts S with ⟨h1, hF⟩ | ⟨h1, h2, hF⟩ | ⟨h1, h2, h0', hF⟩
  · have hO : OK = false := by rw [HR.out, hF]; rfl
    clear hF HR
    subst hO
    go_enter Try.func90, Try.ntmps90
    go_upto_if 15 with fail
    go_cut [0] (fun t wx => t = .string S ∧ wx = w)
    case first =>
      go_wp2_with fail
      go_meet
      exact ⟨by rw [HG.out], rfl⟩
    obtain ⟨rfl, rfl⟩ := hcut
    go_wp2
    go_ret2
    exact ⟨⟨0, by first | rfl | exact ⟨rfl, by simp⟩⟩, rfl⟩
  · have hO : OK = false := by rw [HR.out, hF]; rfl
    clear hF HR
    subst hO
    go_enter Try.func90, Try.ntmps90
    go_upto_if 15 with fail
    go_cut [0] (fun t wx => t = .string S ∧ wx = w)
    case first =>
      go_wp2_with fail
      go_meet
      exact ⟨by rw [HG.out], rfl⟩
    obtain ⟨rfl, rfl⟩ := hcut
    go_wp2
    go_ret2
    exact ⟨⟨0, by first | rfl | exact ⟨rfl, by simp⟩⟩, rfl⟩
  · have hH := headIs_eq S 48 h0'
    have hcase : (∃ e48 : ((S[0].toNat : Int) == 48) = true, (1 : Int) < (S.size : Int) ∧ OK = false) ∨
      (∃ e48 : ((S[0].toNat : Int) == 48) = true, (S.size : Int) ≤ 1 ∧ OK = false) ∨
      (∃ e48 : ((S[0].toNat : Int) == 48) = false, OK = (from_ S 0).all digitB) := by
      rcases hF with ⟨a, b, c⟩ | ⟨a, b, c⟩ | ⟨a, c⟩
      · exact .inl ⟨by simp; omega, by omega, by rw [HR.out, c]; rfl⟩
      · exact .inr (.inl ⟨by simp; omega, by omega, by rw [HR.out, c, hH]; simp [a]⟩)
      · exact .inr (.inr ⟨by simp; omega, by rw [HR.out, c, hH]; simp [a]⟩)
    clear hF hH HR
    rcases hcase with ⟨e48, h5, hO⟩ | ⟨e48, h5, hO⟩ | ⟨e48, hO⟩
    · subst hO
      go_enter Try.func90, Try.ntmps90
      go_upto_if 15 with fail
      go_cut [0] (fun t wx => t = .string S ∧ wx = w)
      case first =>
        go_wp2_with fail
        go_meet
        exact ⟨by rw [HG.out], rfl⟩
      obtain ⟨rfl, rfl⟩ := hcut
      go_wp2
      go_ret2
      exact ⟨⟨0, by first | rfl | exact ⟨rfl, by simp⟩⟩, rfl⟩
    · subst hO
      go_enter Try.func90, Try.ntmps90
      go_upto_if 15 with fail
      go_cut [0] (fun t wx => t = .string S ∧ wx = w)
      case first =>
        go_wp2_with fail
        go_meet
        exact ⟨by rw [HG.out], rfl⟩
      obtain ⟨rfl, rfl⟩ := hcut
      go_wp2
      go_ret2
      exact ⟨⟨0, by first | rfl | exact ⟨rfl, by simp⟩⟩, rfl⟩
    · have HO := Lib.hid hO
      clear hO
      go_enter Try.func90, Try.ntmps90
      go_upto_if 15 with fail
      go_cut [0] (fun t wx => t = .string S ∧ wx = w)
      case first =>
        go_wp2_with fail
        go_meet
        exact ⟨by rw [HG.out], rfl⟩
      obtain ⟨rfl, rfl⟩ := hcut
      go_wp2
      go_loop [5, 6] (fun n t => ∃ k v : Nat, k ≤ S.size ∧ Hid ((from_ S 0).all digitB = (from_ S k).all digitB) ∧ Hid (valN 0 (from_ S 0) = valN v (from_ S k)) ∧ Hid (v < 10 ^ k) ∧ n = .int .i64 v ∧ t = .int .i64 k) (fun _ t => S.size - (intOf t).toNat)
      case atStart => exact ⟨0, 0, by omega, Lib.hid rfl, Lib.hid rfl, Lib.hid (by simp), rfl, rfl⟩
      case round =>
        obtain ⟨k, v, hk, HA, HV, HP, rfl, rfl⟩ := hrel
        by_cases hlt : k < S.size
        · by_cases hd : 48 ≤ S[k].toNat ∧ S[k].toNat ≤ 57
          · have HY := Lib.hid (all_yes (p := digitB) S k hlt (by simp [digitB, hd]))
            have HVS := Lib.hid (val_step S k v hlt)
            have hv9 := pow_lt9 HP.out (by omega)
            have hd1 : (48 : Int) ≤ (S[k].toNat : Int) := by omega
            have hd2 : (S[k].toNat : Int) ≤ 57 := by omega
            have hsub : ((S[k].toNat - 48 : Nat) : Int) = (S[k].toNat : Int) - 48 := by omega
            have HSUB := Lib.hid hsub
            have hd9 : S[k].toNat - 48 ≤ 9 := by omega
            clear hd hsub
            go_wp2
            go_round
            case rel => exact ⟨k + 1, 10 * v + (S[k].toNat - 48), by omega, Lib.hid (by rw [HA.out, HY.out]), Lib.hid (by rw [HV.out, HVS.out]), Lib.hid (pow_step HP.out hd9), by rw [Int.natCast_add, HSUB.out]; go_num, by go_num⟩
            case measure => simp [intOf]; omega
          · have HY := Lib.hid (all_no (p := digitB) S k hlt (by simp [digitB, hd]))
            have hd1 : (S[k].toNat : Int) < 48 ∨ ((48 : Int) ≤ (S[k].toNat : Int) ∧ (57 : Int) < (S[k].toNat : Int)) := by omega
            clear hd
            have hOf : OK = false := by rw [HO.out, HA.out, HY.out]
            clear HO
            subst hOf
            rcases hd1 with hd1 | ⟨hd1, hd2⟩
            all_goals
              go_wp2
              go_ret2
              exact ⟨⟨0, by first | rfl | exact ⟨rfl, by simp⟩⟩, rfl⟩
        · have HY := Lib.hid (all_end (p := digitB) S k (by omega))
          have HVE := Lib.hid (val_end S k v (by omega))
          have hv := pow_lt10 HP.out (by omega)
          have hOt : OK = true := by rw [HO.out, HA.out, HY.out]
          clear HO
          subst hOt
          go_wp2
          go_ret2
          have hfin : RV = - (v : Int) := by rw [HV0.out, ← from_zero, HV.out, HVE.out]
          rw [hfin]
          first | exact ⟨⟨- (v : Int), by first | exact ⟨rfl, fun _ => rfl⟩ | exact ⟨rfl, rfl⟩ | rfl⟩, rfl⟩ | exact ⟨rfl, rfl⟩
end Go.Proofs.Ytgeaccoobhigcaa
