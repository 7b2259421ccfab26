/-
  The walks of sym.number and ponderref04.Read: numbers of digits. The walk of sym.Parse over numbers. The token that stands at a place, and the walk of lex.next. The walk of lex.next over variables and signs. The tokens of a text, and lex.next at any place. The iterator of lex.Tokens: the tokens one by one, whatever the loop's body does that keeps what the iterator needs. lex.Tokens, lex.All, and the collectors over an iterator of tokens. ponderlaw05.same over equal tokens. lex.All: all tokens in a slice. ponderkeep.Within; the first ones of a slice of tokens.
-/
import Derived.Test.YtgeaccoobhigcaaGreatG1
import Derived.Below
import Derived.WalkLawsBesides
import Derived.Maps.AppendAt
import Derived.Deep.QuietTactic
import Derived.BigQuiet
namespace Go.Proofs.YtgeaccoobhigcaaGreat
open Go.RowKit
/-- The form of a number's digits, without its bound. -/
def numForm (l : Bs) : Bool := decide (1 ≤ l.length) && decide (l.length ≤ 10) && !(headIs 48 l && decide (1 < l.length)) && l.all digitB
theorem numOk_eq (most : Nat) (l : Bs) : numOk most l = (numForm l && decide (valN 0 l ≤ most)) := rfl
theorem val_step (s : ByteArray) (k v : Nat) (h : k < s.size) : valN v (from_ s k) = valN (10 * v + (s[k].toNat - 48)) (from_ s (k + 1)) := by
  rw [from_lt s k h]; rfl
theorem val_end (s : ByteArray) (k v : Nat) (h : s.size ≤ k) : valN v (from_ s k) = v := by
  rw [from_ge s k h]; rfl
theorem pow_lt9 {v k : Nat} (h : v < 10 ^ k) (hk : k ≤ 9) : v < 1000000000 := Nat.lt_of_lt_of_le h (Nat.pow_le_pow_right (by omega) hk)
theorem pow_lt10 {v k : Nat} (h : v < 10 ^ k) (hk : k ≤ 10) : v < 10000000000 := Nat.lt_of_lt_of_le h (Nat.pow_le_pow_right (by omega) hk)
theorem pow_step {v k d : Nat} (h : v < 10 ^ k) (hd : d ≤ 9) : 10 * v + d < 10 ^ (k + 1) := by rw [Nat.pow_succ]; omega
set_option maxHeartbeats 1000000 in
theorem number_any (s : ByteArray) (most : Nat) (hs : s.size ≤ 1099511627776) (_ : most ≤ 2147483647) (w : World) :
    Calls Tryz.prog 111 #[.string s, .int .i64 most] w fun e w' => (∃ n : Nat, e = .returned (.tuple #[.int .i64 n, .bool (numOk most s.data.toList)]) ∧ (numOk most s.data.toList = true → n = valN 0 s.data.toList)) ∧ w' = w := by
  by_cases h1 : 1 ≤ s.size
  · have h1' : 0 < s.size := h1
    by_cases h2 : s.size ≤ 10
    · by_cases h3 : s[0].toNat = 48 ∧ 1 < s.size
      · have HF : numOk most s.data.toList = false := by
          rw [numOk_eq]; unfold numForm
          rw [size_toList, toList_cons s h1']
          simp [headIs, h3]
        rw [HF]
        obtain ⟨h3, h4⟩ := h3
        have e3 : ((s[0].toNat : Int) == 48) = true := by simp; omega
        have e4 : (1 : Int) < (s.size : Int) := by omega
        clear HF h3
        go_enter Tryz.func111, Tryz.ntmps111
        go_wp2
        go_ret2
        exact ⟨⟨0, rfl, by simp⟩, rfl⟩
      · have HF : numForm s.data.toList = (from_ s 0).all digitB := by
          unfold numForm
          rw [size_toList, from_zero, toList_cons s h1']
          by_cases h4 : s[0].toNat = 48
          · have : ¬ 1 < s.size := fun h => h3 ⟨h4, h⟩
            simp [headIs, this, h2]; omega
          · simp [headIs, h4, h2]; omega
        have HO : Hid (numOk most s.data.toList = ((from_ s 0).all digitB && decide (valN 0 (from_ s 0) ≤ most))) := Lib.hid (by rw [numOk_eq, HF, from_zero])
        clear HF
        have HZ : Hid (valN 0 s.data.toList = valN 0 (from_ s 0)) := Lib.hid (by rw [from_zero])
        generalize numOk most s.data.toList = OK at HO
        have e3 : ((s[0].toNat : Int) == 48) = false ∨ (((s[0].toNat : Int) == 48) = true ∧ ¬ ((1 : Int) < (s.size : Int))) := by
          by_cases h4 : s[0].toNat = 48
          · exact .inr ⟨by simp; omega, fun h => h3 ⟨h4, by omega⟩⟩
          · exact .inl (by simp; omega)
        clear h3
        rcases e3 with e3 | ⟨e3, e4⟩
        all_goals
          go_enter Tryz.func111, Tryz.ntmps111
          go_wp2
          go_loop [6, 7] (fun n t => ∃ k v : Nat, k ≤ s.size ∧ Hid ((from_ s 0).all digitB = (from_ s k).all digitB) ∧ Hid (valN 0 (from_ s 0) = valN v (from_ s k)) ∧ Hid (v < 10 ^ k) ∧ n = .int .i64 v ∧ t = .int .i64 k) (fun _ t => s.size - (intOf t).toNat)
          case atStart => exact ⟨0, 0, by omega, Lib.hid rfl, Lib.hid rfl, Lib.hid (by simp), rfl, rfl⟩
          case round =>
            obtain ⟨k, v, hk, HA, HV, HP, rfl, rfl⟩ := hrel
            by_cases hlt : k < s.size
            · by_cases hd : 48 ≤ s[k].toNat ∧ s[k].toNat ≤ 57
              · have e1 := decide_eq_true hd
                have HY := Lib.hid (all_yes (p := digitB) s k hlt (by simp [digitB, hd]))
                have HVS := Lib.hid (val_step s k v hlt)
                have hv9 := pow_lt9 HP.out (by omega)
                have hd1 : (48 : Int) ≤ (s[k].toNat : Int) := by omega
                have hd2 : (s[k].toNat : Int) ≤ 57 := by omega
                have hsub : ((s[k].toNat - 48 : Nat) : Int) = (s[k].toNat : Int) - 48 := by omega
                have HSUB := Lib.hid hsub
                have hd9 : s[k].toNat - 48 ≤ 9 := by omega
                clear hd hsub
                go_wp2_with (go_at_call 80; refine (sdigit_any _ _).mono ?_; rintro e w' ⟨rfl, rfl⟩)
                go_round
                case rel => exact ⟨k + 1, 10 * v + (s[k].toNat - 48), by omega, Lib.hid (by rw [HA.out, HY.out]), Lib.hid (by rw [HV.out, HVS.out]), Lib.hid (pow_step HP.out hd9), by rw [Int.natCast_add, HSUB.out]; go_num, by go_num⟩
                case measure => simp [intOf]; omega
              · have e1 := decide_eq_false hd
                have HY := Lib.hid (all_no (p := digitB) s k hlt (by simp [digitB, hd]))
                clear hd
                go_wp2_with (go_at_call 80; refine (sdigit_any _ _).mono ?_; rintro e w' ⟨rfl, rfl⟩)
                go_ret2
                have hO : OK = false := by rw [HO.out, HA.out, HY.out]; rfl
                exact ⟨⟨0, by rw [hO]; rfl, by rw [hO]; simp⟩, rfl⟩
            · have HY := Lib.hid (all_end (p := digitB) s k (by omega))
              have HVE := Lib.hid (val_end s k v (by omega))
              have hv := pow_lt10 HP.out (by omega)
              go_wp2
              go_ret2
              have hO : OK = decide (v ≤ most) := by
                rw [HO.out, HA.out, HY.out, HV.out, HVE.out]; simp
              exact ⟨⟨v, by rw [hO]; rfl, fun _ => by rw [HZ.out, HV.out, HVE.out]⟩, rfl⟩
    · have HF : numOk most s.data.toList = false := by
        rw [numOk_eq]; unfold numForm
        rw [size_toList]
        simp [h2]
      rw [HF]
      clear HF
      go_enter Tryz.func111, Tryz.ntmps111
      go_wp2
      go_ret2
      exact ⟨⟨0, rfl⟩, rfl⟩
  · have HF : numOk most s.data.toList = false := by
      rw [numOk_eq]; unfold numForm
      rw [size_toList]
      simp [h1]
    rw [HF]
    clear HF
    go_enter Tryz.func111, Tryz.ntmps111
    go_wp2
    go_ret2
    exact ⟨⟨0, rfl⟩, rfl⟩
/-- What stands behind a sign. -/
def bodyT (l : Bs) : Bs := if headIs 45 l then l.tail else l
def readOk (l : Bs) : Bool := numForm (bodyT l) && !(headIs 45 l && headIs 48 (bodyT l))
def readV (l : Bs) : Int := if headIs 45 l then - (valN 0 (bodyT l) : Int) else (valN 0 (bodyT l) : Int)
theorem from_tail (s : ByteArray) (h : 0 < s.size) : (s.extract 1 s.size).data.toList = s.data.toList.tail := by
  have := ext_toList s 1 s.size
  rw [ByteArray.toList_eq] at this
  rw [this, toList_cons s h]
  simp
  exact List.take_of_length_le (by rw [from_length]; omega)
theorem headIs_eq (s : ByteArray) (n : Nat) (h : 0 < s.size) : headIs n s.data.toList = decide (s[0].toNat = n) := by rw [toList_cons s h]; rfl
theorem extract1_size (s : ByteArray) : (s.extract 1 s.size).size = s.size - 1 := by simp
/-- numForm, part by part. -/
theorem numForm_parts (S : ByteArray) : (¬ 1 ≤ S.size ∧ numForm S.data.toList = false) ∨ (1 ≤ S.size ∧ ¬ S.size ≤ 10 ∧ numForm S.data.toList = false) ∨
    (1 ≤ S.size ∧ S.size ≤ 10 ∧ ∃ h : 0 < S.size, ((S[0].toNat = 48 ∧ 1 < S.size ∧ numForm S.data.toList = false) ∨ (S[0].toNat = 48 ∧ ¬ 1 < S.size ∧ numForm S.data.toList = (from_ S 0).all digitB) ∨ (S[0].toNat ≠ 48 ∧ numForm S.data.toList = (from_ S 0).all digitB))) := by
  by_cases h1 : 1 ≤ S.size
  · have h1' : 0 < S.size := h1
    by_cases h2 : S.size ≤ 10
    · refine .inr (.inr ⟨h1, h2, h1', ?_⟩)
      by_cases h4 : S[0].toNat = 48
      · by_cases h5 : 1 < S.size
        · refine .inl ⟨h4, h5, ?_⟩
          unfold numForm
          rw [size_toList, toList_cons S h1']
          simp [headIs, h4, h5]
        · refine .inr (.inl ⟨h4, h5, ?_⟩)
          unfold numForm
          rw [size_toList, from_zero, toList_cons S h1']
          simp [headIs, h5, h2]; omega
      · refine .inr (.inr ⟨h4, ?_⟩)
        unfold numForm
        rw [size_toList, from_zero, toList_cons S h1']
        simp [headIs, h4, h2]; omega
    · refine .inr (.inl ⟨h1, h2, ?_⟩)
      unfold numForm
      rw [size_toList]
      simp [h2]
  · refine .inl ⟨h1, ?_⟩
    unfold numForm
    rw [size_toList]
    simp [h1]
set_option maxHeartbeats 2000000 in
theorem read_pos (s : ByteArray) (hs : s.size ≤ 1099511627776) (hneg : headIs 45 s.data.toList = false) (w : World) :
    Calls Tryz.prog 65 #[.string s] w fun e w' => (∃ n : Int, e = .returned (.tuple #[.int .i64 n, .bool (readOk s.data.toList)]) ∧ (readOk s.data.toList = true → n = readV s.data.toList)) ∧ w' = w := by
  have hR : readOk s.data.toList = (numForm (bodyT s.data.toList) && !(false && headIs 48 (bodyT s.data.toList))) := by unfold readOk; rw [hneg]
  have hV : readV s.data.toList = (valN 0 (bodyT s.data.toList) : Int) := by unfold readV; simp [hneg]
  have hb : bodyT s.data.toList = s.data.toList := by unfold bodyT; rw [hneg]; rfl
  rw [hb] at hR hV
  have e45 : ¬ 0 < s.size ∨ (∃ h : 0 < s.size, ((s[0].toNat : Int) == 45) = false) := by
    by_cases h : 0 < s.size
    · refine .inr ⟨h, ?_⟩
      rw [headIs_eq s 45 h] at hneg
      simp at hneg ⊢; omega
    · exact .inl h
  have hS := hs
  clear hb hneg
  generalize readOk s.data.toList = OK at hR ⊢
  generalize readV s.data.toList = RV at hV ⊢
  have HR := Lib.hid hR
  have HV0 := Lib.hid hV
  clear hR hV
  rcases numForm_parts s with ⟨h1, hF⟩ | ⟨h1, h2, hF⟩ | ⟨h1, h2, h0', hF⟩
  · have hO : OK = false := by rw [HR.out, hF]; rfl
    clear hF HR
    subst hO
    have e45 : ¬ 0 < s.size := by omega
    go_enter Tryz.func65, Tryz.ntmps65
    go_upto_if 15 with fail
    go_cut [0] (fun t wx => t = .string s ∧ wx = w)
    case first =>
      go_wp2_with fail
      go_meet
      exact ⟨rfl, rfl⟩
    obtain ⟨rfl, rfl⟩ := hcut
    go_wp2
    go_ret2
    exact ⟨⟨0, by first | rfl | exact ⟨rfl, by simp⟩⟩, rfl⟩
  · have hO : OK = false := by rw [HR.out, hF]; rfl
    clear hF HR
    subst hO
    obtain ⟨h0, e45⟩ := e45.resolve_left (by omega)
    go_enter Tryz.func65, Tryz.ntmps65
    go_upto_if 15 with fail
    go_cut [0] (fun t wx => t = .string s ∧ wx = w)
    case first =>
      go_wp2_with fail
      go_meet
      exact ⟨rfl, rfl⟩
    obtain ⟨rfl, rfl⟩ := hcut
    go_wp2
    go_ret2
    exact ⟨⟨0, by first | rfl | exact ⟨rfl, by simp⟩⟩, rfl⟩
  · obtain ⟨h0, e45⟩ := e45.resolve_left (by omega)
    have hH := headIs_eq s 48 h0'
    have hcase : (∃ e48 : ((s[0].toNat : Int) == 48) = true, (1 : Int) < (s.size : Int) ∧ OK = false) ∨
      (∃ e48 : ((s[0].toNat : Int) == 48) = true, (s.size : Int) ≤ 1 ∧ OK = (from_ s 0).all digitB) ∨
      (∃ e48 : ((s[0].toNat : Int) == 48) = false, OK = (from_ s 0).all digitB) := by
      rcases hF with ⟨a, b, c⟩ | ⟨a, b, c⟩ | ⟨a, c⟩
      · exact .inl ⟨by simp; omega, by omega, by rw [HR.out, c]; rfl⟩
      · exact .inr (.inl ⟨by simp; omega, by omega, by rw [HR.out, c, hH]; simp [a]⟩)
      · exact .inr (.inr ⟨by simp; omega, by rw [HR.out, c, hH]; simp [a]⟩)
    clear hF hH HR
    rcases hcase with ⟨e48, h5, hO⟩ | ⟨e48, h5, hO⟩ | ⟨e48, hO⟩
    · subst hO
      go_enter Tryz.func65, Tryz.ntmps65
      go_upto_if 15 with fail
      go_cut [0] (fun t wx => t = .string s ∧ wx = w)
      case first =>
        go_wp2_with fail
        go_meet
        exact ⟨rfl, rfl⟩
      obtain ⟨rfl, rfl⟩ := hcut
      go_wp2
      go_ret2
      exact ⟨⟨0, by first | rfl | exact ⟨rfl, by simp⟩⟩, rfl⟩
    · have HO := Lib.hid hO
      clear hO
      go_enter Tryz.func65, Tryz.ntmps65
      go_upto_if 15 with fail
      go_cut [0] (fun t wx => t = .string s ∧ wx = w)
      case first =>
        go_wp2_with fail
        go_meet
        exact ⟨rfl, rfl⟩
      obtain ⟨rfl, rfl⟩ := hcut
      go_wp2
      go_loop [5, 6] (fun n t => ∃ k v : Nat, k ≤ s.size ∧ Hid ((from_ s 0).all digitB = (from_ s k).all digitB) ∧ Hid (valN 0 (from_ s 0) = valN v (from_ s k)) ∧ Hid (v < 10 ^ k) ∧ n = .int .i64 v ∧ t = .int .i64 k) (fun _ t => s.size - (intOf t).toNat)
      case atStart => exact ⟨0, 0, by omega, Lib.hid rfl, Lib.hid rfl, Lib.hid (by simp), rfl, rfl⟩
      case round =>
        obtain ⟨k, v, hk, HA, HV, HP, rfl, rfl⟩ := hrel
        by_cases hlt : k < s.size
        · by_cases hd : 48 ≤ s[k].toNat ∧ s[k].toNat ≤ 57
          · have HY := Lib.hid (all_yes (p := digitB) s k hlt (by simp [digitB, hd]))
            have HVS := Lib.hid (val_step s k v hlt)
            have hv9 := pow_lt9 HP.out (by omega)
            have hd1 : (48 : Int) ≤ (s[k].toNat : Int) := by omega
            have hd2 : (s[k].toNat : Int) ≤ 57 := by omega
            have hsub : ((s[k].toNat - 48 : Nat) : Int) = (s[k].toNat : Int) - 48 := by omega
            have HSUB := Lib.hid hsub
            have hd9 : s[k].toNat - 48 ≤ 9 := by omega
            clear hd hsub
            go_wp2
            go_round
            case rel => exact ⟨k + 1, 10 * v + (s[k].toNat - 48), by omega, Lib.hid (by rw [HA.out, HY.out]), Lib.hid (by rw [HV.out, HVS.out]), Lib.hid (pow_step HP.out hd9), by rw [Int.natCast_add, HSUB.out]; go_num, by go_num⟩
            case measure => simp [intOf]; omega
          · have HY := Lib.hid (all_no (p := digitB) s k hlt (by simp [digitB, hd]))
            have hd1 : (s[k].toNat : Int) < 48 ∨ ((48 : Int) ≤ (s[k].toNat : Int) ∧ (57 : Int) < (s[k].toNat : Int)) := by omega
            clear hd
            have hOf : OK = false := by rw [HO.out, HA.out, HY.out]
            clear HO
            subst hOf
            rcases hd1 with hd1 | ⟨hd1, hd2⟩
            all_goals
              go_wp2
              go_ret2
              exact ⟨⟨0, by first | rfl | exact ⟨rfl, by simp⟩⟩, rfl⟩
        · have HY := Lib.hid (all_end (p := digitB) s k (by omega))
          have HVE := Lib.hid (val_end s k v (by omega))
          have hv := pow_lt10 HP.out (by omega)
          have hOt : OK = true := by rw [HO.out, HA.out, HY.out]
          clear HO
          subst hOt
          go_wp2
          go_ret2
          have hfin : RV = (v : Int) := by rw [HV0.out, ← from_zero, HV.out, HVE.out]
          rw [hfin]
          first | exact ⟨⟨(v : Int), by first | exact ⟨rfl, fun _ => rfl⟩ | exact ⟨rfl, rfl⟩ | rfl⟩, rfl⟩ | exact ⟨rfl, rfl⟩
    · have HO := Lib.hid hO
      clear hO
      go_enter Tryz.func65, Tryz.ntmps65
      go_upto_if 15 with fail
      go_cut [0] (fun t wx => t = .string s ∧ wx = w)
      case first =>
        go_wp2_with fail
        go_meet
        exact ⟨rfl, rfl⟩
      obtain ⟨rfl, rfl⟩ := hcut
      go_wp2
      go_loop [5, 6] (fun n t => ∃ k v : Nat, k ≤ s.size ∧ Hid ((from_ s 0).all digitB = (from_ s k).all digitB) ∧ Hid (valN 0 (from_ s 0) = valN v (from_ s k)) ∧ Hid (v < 10 ^ k) ∧ n = .int .i64 v ∧ t = .int .i64 k) (fun _ t => s.size - (intOf t).toNat)
      case atStart => exact ⟨0, 0, by omega, Lib.hid rfl, Lib.hid rfl, Lib.hid (by simp), rfl, rfl⟩
      case round =>
        obtain ⟨k, v, hk, HA, HV, HP, rfl, rfl⟩ := hrel
        by_cases hlt : k < s.size
        · by_cases hd : 48 ≤ s[k].toNat ∧ s[k].toNat ≤ 57
          · have HY := Lib.hid (all_yes (p := digitB) s k hlt (by simp [digitB, hd]))
            have HVS := Lib.hid (val_step s k v hlt)
            have hv9 := pow_lt9 HP.out (by omega)
            have hd1 : (48 : Int) ≤ (s[k].toNat : Int) := by omega
            have hd2 : (s[k].toNat : Int) ≤ 57 := by omega
            have hsub : ((s[k].toNat - 48 : Nat) : Int) = (s[k].toNat : Int) - 48 := by omega
            have HSUB := Lib.hid hsub
            have hd9 : s[k].toNat - 48 ≤ 9 := by omega
            clear hd hsub
            go_wp2
            go_round
            case rel => exact ⟨k + 1, 10 * v + (s[k].toNat - 48), by omega, Lib.hid (by rw [HA.out, HY.out]), Lib.hid (by rw [HV.out, HVS.out]), Lib.hid (pow_step HP.out hd9), by rw [Int.natCast_add, HSUB.out]; go_num, by go_num⟩
            case measure => simp [intOf]; omega
          · have HY := Lib.hid (all_no (p := digitB) s k hlt (by simp [digitB, hd]))
            have hd1 : (s[k].toNat : Int) < 48 ∨ ((48 : Int) ≤ (s[k].toNat : Int) ∧ (57 : Int) < (s[k].toNat : Int)) := by omega
            clear hd
            have hOf : OK = false := by rw [HO.out, HA.out, HY.out]
            clear HO
            subst hOf
            rcases hd1 with hd1 | ⟨hd1, hd2⟩
            all_goals
              go_wp2
              go_ret2
              exact ⟨⟨0, by first | rfl | exact ⟨rfl, by simp⟩⟩, rfl⟩
        · have HY := Lib.hid (all_end (p := digitB) s k (by omega))
          have HVE := Lib.hid (val_end s k v (by omega))
          have hv := pow_lt10 HP.out (by omega)
          have hOt : OK = true := by rw [HO.out, HA.out, HY.out]
          clear HO
          subst hOt
          go_wp2
          go_ret2
          have hfin : RV = (v : Int) := by rw [HV0.out, ← from_zero, HV.out, HVE.out]
          rw [hfin]
          first | exact ⟨⟨(v : Int), by first | exact ⟨rfl, fun _ => rfl⟩ | exact ⟨rfl, rfl⟩ | rfl⟩, rfl⟩ | exact ⟨rfl, rfl⟩
set_option maxHeartbeats 2000000 in
theorem read_neg (s : ByteArray) (hs : s.size ≤ 1099511627776) (hneg : headIs 45 s.data.toList = true) (w : World) :
    Calls Tryz.prog 65 #[.string s] w fun e w' => (∃ n : Int, e = .returned (.tuple #[.int .i64 n, .bool (readOk s.data.toList)]) ∧ (readOk s.data.toList = true → n = readV s.data.toList)) ∧ w' = w := by
  have hR : readOk s.data.toList = (numForm (bodyT s.data.toList) && !(true && headIs 48 (bodyT s.data.toList))) := by unfold readOk; rw [hneg]
  have hV : readV s.data.toList = - (valN 0 (bodyT s.data.toList) : Int) := by unfold readV; simp [hneg]
  have h0 : 0 < s.size := by
    rcases Nat.eq_zero_or_pos s.size with h | h
    · have : s.data.toList = [] := List.eq_nil_of_length_eq_zero (by rw [size_toList]; exact h)
      rw [this] at hneg
      simp [headIs] at hneg
    · exact h
  have hb : bodyT s.data.toList = (s.extract 1 s.size).data.toList := by rw [from_tail s h0]; unfold bodyT; rw [hneg]; rfl
  rw [hb] at hR hV
  rw [headIs_eq s 45 h0] at hneg
  have e45 : ((s[0].toNat : Int) == 45) = true := by simp at hneg ⊢; omega
  have hz := extract1_size s
  have hS : (s.extract 1 s.size).size ≤ 1099511627776 := by rw [hz]; omega
  have hgen : ∃ S, S = s.extract 1 s.size := ⟨_, rfl⟩
  obtain ⟨S, hgen⟩ := hgen
  have HG := Lib.hid hgen
  rw [← hgen] at hR hV hS
  clear hgen hb hneg hz
  generalize readOk s.data.toList = OK at hR ⊢
  generalize readV s.data.toList = RV at hV ⊢
  have HR := Lib.hid hR
  have HV0 := Lib.hid hV
  clear hR hV
  rcases numForm_parts S with ⟨h1, hF⟩ | ⟨h1, h2, hF⟩ | ⟨h1, h2, h0', hF⟩
  · have hO : OK = false := by rw [HR.out, hF]; rfl
    clear hF HR
    subst hO
    go_enter Tryz.func65, Tryz.ntmps65
    go_upto_if 15 with fail
    go_cut [0] (fun t wx => t = .string S ∧ wx = w)
    case first =>
      go_wp2_with fail
      go_meet
      exact ⟨by rw [HG.out], rfl⟩
    obtain ⟨rfl, rfl⟩ := hcut
    go_wp2
    go_ret2
    exact ⟨⟨0, by first | rfl | exact ⟨rfl, by simp⟩⟩, rfl⟩
  · have hO : OK = false := by rw [HR.out, hF]; rfl
    clear hF HR
    subst hO
    go_enter Tryz.func65, Tryz.ntmps65
    go_upto_if 15 with fail
    go_cut [0] (fun t wx => t = .string S ∧ wx = w)
    case first =>
      go_wp2_with fail
      go_meet
      exact ⟨by rw [HG.out], rfl⟩
    obtain ⟨rfl, rfl⟩ := hcut
    go_wp2
    go_ret2
    exact ⟨⟨0, by first | rfl | exact ⟨rfl, by simp⟩⟩, rfl⟩
  · have hH := headIs_eq S 48 h0'
    have hcase : (∃ e48 : ((S[0].toNat : Int) == 48) = true, (1 : Int) < (S.size : Int) ∧ OK = false) ∨
      (∃ e48 : ((S[0].toNat : Int) == 48) = true, (S.size : Int) ≤ 1 ∧ OK = false) ∨
      (∃ e48 : ((S[0].toNat : Int) == 48) = false, OK = (from_ S 0).all digitB) := by
      rcases hF with ⟨a, b, c⟩ | ⟨a, b, c⟩ | ⟨a, c⟩
      · exact .inl ⟨by simp; omega, by omega, by rw [HR.out, c]; rfl⟩
      · exact .inr (.inl ⟨by simp; omega, by omega, by rw [HR.out, c, hH]; simp [a]⟩)
      · exact .inr (.inr ⟨by simp; omega, by rw [HR.out, c, hH]; simp [a]⟩)
    clear hF hH HR
    rcases hcase with ⟨e48, h5, hO⟩ | ⟨e48, h5, hO⟩ | ⟨e48, hO⟩
    · subst hO
      go_enter Tryz.func65, Tryz.ntmps65
      go_upto_if 15 with fail
      go_cut [0] (fun t wx => t = .string S ∧ wx = w)
      case first =>
        go_wp2_with fail
        go_meet
        exact ⟨by rw [HG.out], rfl⟩
      obtain ⟨rfl, rfl⟩ := hcut
      go_wp2
      go_ret2
      exact ⟨⟨0, by first | rfl | exact ⟨rfl, by simp⟩⟩, rfl⟩
    · subst hO
      go_enter Tryz.func65, Tryz.ntmps65
      go_upto_if 15 with fail
      go_cut [0] (fun t wx => t = .string S ∧ wx = w)
      case first =>
        go_wp2_with fail
        go_meet
        exact ⟨by rw [HG.out], rfl⟩
      obtain ⟨rfl, rfl⟩ := hcut
      go_wp2
      go_ret2
      exact ⟨⟨0, by first | rfl | exact ⟨rfl, by simp⟩⟩, rfl⟩
    · have HO := Lib.hid hO
      clear hO
      go_enter Tryz.func65, Tryz.ntmps65
      go_upto_if 15 with fail
      go_cut [0] (fun t wx => t = .string S ∧ wx = w)
      case first =>
        go_wp2_with fail
        go_meet
        exact ⟨by rw [HG.out], rfl⟩
      obtain ⟨rfl, rfl⟩ := hcut
      go_wp2
      go_loop [5, 6] (fun n t => ∃ k v : Nat, k ≤ S.size ∧ Hid ((from_ S 0).all digitB = (from_ S k).all digitB) ∧ Hid (valN 0 (from_ S 0) = valN v (from_ S k)) ∧ Hid (v < 10 ^ k) ∧ n = .int .i64 v ∧ t = .int .i64 k) (fun _ t => S.size - (intOf t).toNat)
      case atStart => exact ⟨0, 0, by omega, Lib.hid rfl, Lib.hid rfl, Lib.hid (by simp), rfl, rfl⟩
      case round =>
        obtain ⟨k, v, hk, HA, HV, HP, rfl, rfl⟩ := hrel
        by_cases hlt : k < S.size
        · by_cases hd : 48 ≤ S[k].toNat ∧ S[k].toNat ≤ 57
          · have HY := Lib.hid (all_yes (p := digitB) S k hlt (by simp [digitB, hd]))
            have HVS := Lib.hid (val_step S k v hlt)
            have hv9 := pow_lt9 HP.out (by omega)
            have hd1 : (48 : Int) ≤ (S[k].toNat : Int) := by omega
            have hd2 : (S[k].toNat : Int) ≤ 57 := by omega
            have hsub : ((S[k].toNat - 48 : Nat) : Int) = (S[k].toNat : Int) - 48 := by omega
            have HSUB := Lib.hid hsub
            have hd9 : S[k].toNat - 48 ≤ 9 := by omega
            clear hd hsub
            go_wp2
            go_round
            case rel => exact ⟨k + 1, 10 * v + (S[k].toNat - 48), by omega, Lib.hid (by rw [HA.out, HY.out]), Lib.hid (by rw [HV.out, HVS.out]), Lib.hid (pow_step HP.out hd9), by rw [Int.natCast_add, HSUB.out]; go_num, by go_num⟩
            case measure => simp [intOf]; omega
          · have HY := Lib.hid (all_no (p := digitB) S k hlt (by simp [digitB, hd]))
            have hd1 : (S[k].toNat : Int) < 48 ∨ ((48 : Int) ≤ (S[k].toNat : Int) ∧ (57 : Int) < (S[k].toNat : Int)) := by omega
            clear hd
            have hOf : OK = false := by rw [HO.out, HA.out, HY.out]
            clear HO
            subst hOf
            rcases hd1 with hd1 | ⟨hd1, hd2⟩
            all_goals
              go_wp2
              go_ret2
              exact ⟨⟨0, by first | rfl | exact ⟨rfl, by simp⟩⟩, rfl⟩
        · have HY := Lib.hid (all_end (p := digitB) S k (by omega))
          have HVE := Lib.hid (val_end S k v (by omega))
          have hv := pow_lt10 HP.out (by omega)
          have hOt : OK = true := by rw [HO.out, HA.out, HY.out]
          clear HO
          subst hOt
          go_wp2
          go_ret2
          have hfin : RV = - (v : Int) := by rw [HV0.out, ← from_zero, HV.out, HVE.out]
          rw [hfin]
          first | exact ⟨⟨- (v : Int), by first | exact ⟨rfl, fun _ => rfl⟩ | exact ⟨rfl, rfl⟩ | rfl⟩, rfl⟩ | exact ⟨rfl, rfl⟩
end Go.Proofs.YtgeaccoobhigcaaGreat
namespace Go.Proofs.YtgeaccoobhigcaaGreat
open Go.RowKit
/-- Is it a number's text, within the bounds? -/
def numT (l : Bs) : Bool := readOk l && decide (valN 0 (bodyT l) ≤ 2147483647)
def symV (k : Int) (t : Bs) (n : Int) : Value := .agg #[.int .i64 k, strV t, .int .i64 n]
theorem valN_ge : ∀ (l : Bs) (n : Nat), n ≤ valN n l
  | [], n => Nat.le_refl _
  | c :: r, n => by have := valN_ge r (10 * n + (c.toNat - 48)); unfold valN; omega
theorem valN_nil (n : Nat) : valN n [] = n := rfl
theorem valN_cons (n : Nat) (c : UInt8) (r : Bs) : valN n (c :: r) = valN (10 * n + (c.toNat - 48)) r := by
  generalize hd : 10 * n + (c.toNat - 48) = d
  conv => lhs; unfold valN
  simp only [hd]
theorem val_zero (l : Bs) (h : numForm l = true) : (valN 0 l = 0) ↔ headIs 48 l = true := by
  unfold numForm at h
  cases l with
  | nil => simp at h
  | cons c r =>
    rw [valN_cons]
    generalize hd : 10 * 0 + (c.toNat - 48) = d
    simp only [Bool.and_eq_true, decide_eq_true_eq, Bool.not_eq_true', List.all_cons, headIs, List.length_cons, Bool.and_eq_false_iff, decide_eq_false_iff_not] at h ⊢
    obtain ⟨⟨⟨h0, h1⟩, h2⟩, h3, h4⟩ := h
    have h3' : 48 ≤ c.toNat ∧ c.toNat ≤ 57 := by unfold digitB at h3; exact of_decide_eq_true h3
    constructor
    · intro hv
      have hg := valN_ge r d
      omega
    · intro hc
      have hr : r = [] := by
        rcases h2 with h2 | h2
        · exact absurd hc h2
        · exact List.eq_nil_of_length_eq_zero (by omega)
      subst hr
      have : d = 0 := by omega
      subst this
      rw [valN_nil]
theorem numT_neg (s : ByteArray) (h0 : 0 < s.size) (hh : s[0].toNat = 45) : numT s.data.toList = (numOk 2147483647 (s.extract 1 s.size).data.toList && !(decide (valN 0 (s.extract 1 s.size).data.toList = 0))) ∧ readV s.data.toList = - (valN 0 (s.extract 1 s.size).data.toList : Int) := by
  have hn : headIs 45 s.data.toList = true := by rw [headIs_eq s 45 h0]; simpa using hh
  have hb : bodyT s.data.toList = (s.extract 1 s.size).data.toList := by rw [from_tail s h0]; unfold bodyT; rw [hn]; rfl
  refine ⟨?_, by unfold readV; rw [hn, hb]; rfl⟩
  unfold numT readOk
  rw [hn, hb, numOk_eq]
  generalize (s.extract 1 s.size).data.toList = l
  rcases hF : numForm l with _ | _
  · simp
  · have := val_zero l hF
    rw [Bool.eq_iff_iff]
    simp
    rw [this, Bool.not_eq_true]
    exact and_comm
theorem numT_pos (s : ByteArray) (h0 : 0 < s.size) (hh : s[0].toNat ≠ 45) : numT s.data.toList = numOk 2147483647 s.data.toList ∧ readV s.data.toList = (valN 0 s.data.toList : Int) := by
  have hn : headIs 45 s.data.toList = false := by rw [headIs_eq s 45 h0]; simpa using hh
  have hb : bodyT s.data.toList = s.data.toList := by unfold bodyT; rw [hn]; rfl
  refine ⟨?_, by unfold readV; rw [hn, hb]; rfl⟩
  unfold numT readOk
  rw [hn, hb, numOk_eq]
  simp
theorem wordB_no3 (s : ByteArray) (h0 : 0 < s.size) (hh : digitB s[0] = true ∨ s[0].toNat = 45) : wordB s.data.toList = false := by
  refine wordB_no2 s h0 ?_
  simp [digitB, smallB] at hh ⊢
  omega
theorem number_lit (s : ByteArray) (hs : s.size ≤ 1099511627776) (w : World) :
    Calls Tryz.prog 111 #[.string s, .int .i64 2147483647] w fun e w' => (∃ n : Nat, e = .returned (.tuple #[.int .i64 n, .bool (numOk 2147483647 s.data.toList)]) ∧ (numOk 2147483647 s.data.toList = true → n = valN 0 s.data.toList)) ∧ w' = w := by
  have h := number_any s 2147483647 hs (Nat.le_refl _) w
  rwa [show ((2147483647 : Nat) : Int) = 2147483647 from by decide] at h
def parsed (ok : Bool) (k : Int) (t : Bs) (n : Int) : Value := if ok then .tuple #[symV k t n, .bool true] else .tuple #[symV 0 [] 0, .bool false]
set_option maxHeartbeats 2000000 in
theorem parse_num (s : ByteArray) (hs : s.size ≤ 1099511627776) (h0 : 0 < s.size) (hh : digitB s[0] = true ∨ s[0].toNat = 45) (w : World) :
    Calls Tryz.prog 96 #[.string s] w fun e w' => e = .returned (parsed (numT s.data.toList) 2 [] (readV s.data.toList)) ∧ Below w.heap.size w w' := by
  have hw := wordB_no3 s h0 hh
  have hne : (s.toList == []) = false := by
    rw [ByteArray.toList_eq, toList_cons s h0]; rfl
  have hgr : decide (65 ≤ s[0].toNat ∧ s[0].toNat ≤ 90) = false := by
    simp [digitB] at hh ⊢; omega
  have hcw : ∀ w, Calls Tryz.prog 54 #[.string s] w fun e w' => e = .returned (.bool false) ∧ w' = w := fun w => by have := word_any s (by omega) w; rw [hw] at this; exact this
  have HCW := Lib.hid hcw
  clear hw hcw
  by_cases h45 : s[0].toNat = 45
  · have e45 : ((s[0].toNat : Int) == 45) = true := by simp; omega
    obtain ⟨hT, hV⟩ := numT_neg s h0 h45
    have hz := extract1_size s
    have hn := number_lit (s.extract 1 s.size) (by rw [hz]; omega)
    have hbd : numOk 2147483647 (s.extract 1 s.size).data.toList = true → valN 0 (s.extract 1 s.size).data.toList ≤ 2147483647 := by
      rw [numOk_eq]; simp
    generalize hok : numOk 2147483647 (s.extract 1 s.size).data.toList = ok at hT hn hbd
    generalize hvl : valN 0 (s.extract 1 s.size).data.toList = v at hT hV hn hbd
    rw [hT, hV]
    clear hT hV hz hh h45 hok hvl
    rcases ok with _ | _
    · have HN : Hid (∀ w, Calls Tryz.prog 111 #[.string (s.extract 1 s.size), .int .i64 2147483647] w fun e w' => (∃ n : Nat, e = .returned (.tuple #[.int .i64 n, .bool false])) ∧ w' = w) := Lib.hid fun w => (hn w).mono fun e w' ⟨⟨n, h, _⟩, h2⟩ => ⟨⟨n, h⟩, h2⟩
      clear hn hbd
      rw [show parsed (false && !decide (v = 0)) 2 [] (-(v : Int)) = .tuple #[symV 0 [] 0, .bool false] from rfl]
      go_enter Tryz.func96, Tryz.ntmps96
      go_wp2_with (first | (go_at_call 54; refine (HCW.out _).mono ?_; rintro e w' ⟨rfl, rfl⟩) | (go_at_call 110; refine (great_any _ _).mono ?_; rintro e w' ⟨rfl, rfl⟩) | (go_at_call 111; refine (HN.out _).mono ?_; rintro e w' ⟨⟨n, rfl⟩, rfl⟩))
      exact bodyPost_ret (v := .tuple #[symV 0 [] 0, .bool false]) (by simp [results, Tryz.results96, go_sem]; try rfl) rfl ⟨rfl, (Below.refl _ _).alloc (Nat.le_refl _) _⟩
    · have HN : Hid (∀ w, Calls Tryz.prog 111 #[.string (s.extract 1 s.size), .int .i64 2147483647] w fun e w' => e = .returned (.tuple #[.int .i64 v, .bool true]) ∧ w' = w) := Lib.hid fun w => (hn w).mono fun e w' ⟨⟨n, h, h1⟩, h2⟩ => ⟨by rw [h, h1 rfl], h2⟩
      have hb := hbd rfl
      clear hn hbd
      by_cases hv0 : v = 0
      · subst hv0
        rw [show parsed (true && !decide (0 = 0)) 2 [] (-((0 : Nat) : Int)) = .tuple #[symV 0 [] 0, .bool false] from rfl]
        go_enter Tryz.func96, Tryz.ntmps96
        go_wp2_with (first | (go_at_call 54; refine (HCW.out _).mono ?_; rintro e w' ⟨rfl, rfl⟩) | (go_at_call 110; refine (great_any _ _).mono ?_; rintro e w' ⟨rfl, rfl⟩) | (go_at_call 111; refine (HN.out _).mono ?_; rintro e w' ⟨rfl, rfl⟩))
        exact bodyPost_ret (v := .tuple #[symV 0 [] 0, .bool false]) (by simp [results, Tryz.results96, go_sem]; try rfl) rfl ⟨rfl, (Below.refl _ _).alloc (Nat.le_refl _) _⟩
      · rw [show parsed (true && !decide (v = 0)) 2 [] (-(v : Int)) = .tuple #[symV 2 [] (-(v : Int)), .bool true] by simp [hv0, parsed]]
        have hv1 : 0 < v := by omega
        have hve : ((v : Int) == 0) = false := by simp; omega
        clear hv0
        go_enter Tryz.func96, Tryz.ntmps96
        go_wp2_with (first | (go_at_call 54; refine (HCW.out _).mono ?_; rintro e w' ⟨rfl, rfl⟩) | (go_at_call 110; refine (great_any _ _).mono ?_; rintro e w' ⟨rfl, rfl⟩) | (go_at_call 111; refine (HN.out _).mono ?_; rintro e w' ⟨rfl, rfl⟩))
        exact bodyPost_ret (v := .tuple #[symV 2 [] (-(v : Int)), .bool true]) (by simp [results, Tryz.results96, go_sem]; try rfl) rfl ⟨rfl, (Below.refl _ _).alloc (Nat.le_refl _) _⟩
  · have e45 : ((s[0].toNat : Int) == 45) = false := by simp; omega
    obtain ⟨hT, hV⟩ := numT_pos s h0 h45
    have hn := number_lit s hs
    generalize hok : numOk 2147483647 s.data.toList = ok at hT hn
    generalize hvl : valN 0 s.data.toList = v at hV hn
    rw [hT, hV]
    clear hT hV hh h45 hok hvl
    rcases ok with _ | _
    · have HN : Hid (∀ w, Calls Tryz.prog 111 #[.string s, .int .i64 2147483647] w fun e w' => (∃ n : Nat, e = .returned (.tuple #[.int .i64 n, .bool false])) ∧ w' = w) := Lib.hid fun w => (hn w).mono fun e w' ⟨⟨n, h, _⟩, h2⟩ => ⟨⟨n, h⟩, h2⟩
      clear hn
      rw [show parsed false 2 [] (v : Int) = .tuple #[symV 0 [] 0, .bool false] from rfl]
      go_enter Tryz.func96, Tryz.ntmps96
      go_wp2_with (first | (go_at_call 54; refine (HCW.out _).mono ?_; rintro e w' ⟨rfl, rfl⟩) | (go_at_call 110; refine (great_any _ _).mono ?_; rintro e w' ⟨rfl, rfl⟩) | (go_at_call 111; refine (HN.out _).mono ?_; rintro e w' ⟨⟨n, rfl⟩, rfl⟩))
      exact bodyPost_ret (v := .tuple #[symV 0 [] 0, .bool false]) (by simp [results, Tryz.results96, go_sem]; try rfl) rfl ⟨rfl, (Below.refl _ _).alloc (Nat.le_refl _) _⟩
    · have HN : Hid (∀ w, Calls Tryz.prog 111 #[.string s, .int .i64 2147483647] w fun e w' => e = .returned (.tuple #[.int .i64 v, .bool true]) ∧ w' = w) := Lib.hid fun w => (hn w).mono fun e w' ⟨⟨n, h, h1⟩, h2⟩ => ⟨by rw [h, h1 rfl], h2⟩
      clear hn
      rw [show parsed true 2 [] (v : Int) = .tuple #[symV 2 [] (v : Int), .bool true] from rfl]
      go_enter Tryz.func96, Tryz.ntmps96
      go_wp2_with (first | (go_at_call 54; refine (HCW.out _).mono ?_; rintro e w' ⟨rfl, rfl⟩) | (go_at_call 110; refine (great_any _ _).mono ?_; rintro e w' ⟨rfl, rfl⟩) | (go_at_call 111; refine (HN.out _).mono ?_; rintro e w' ⟨rfl, rfl⟩))
      exact bodyPost_ret (v := .tuple #[symV 2 [] (v : Int), .bool true]) (by simp [results, Tryz.results96, go_sem]; try rfl) rfl ⟨rfl, (Below.refl _ _).alloc (Nat.le_refl _) _⟩
end Go.Proofs.YtgeaccoobhigcaaGreat
namespace Go.Proofs.YtgeaccoobhigcaaGreat
open Go.RowKit
def headDig : Bs → Bool
  | [] => false
  | c :: _ => digitB c
/-- A token's kind, its text, and how many bytes it takes. -/
structure Nx where
  kind : Nat
  text : Bs
  len : Nat
def signNx (c : UInt8) (l : Bs) : Nx := if signT l = [] then ⟨6, [c], 1⟩ else ⟨4, signT l, (signT l).length⟩
def nextT : Bs → Nx
  | [] => ⟨6, [], 0⟩
  | c :: r =>
    if smallB c then ⟨if 32 < headN partB (c :: r) then 6 else 1, (c :: r).take (headN partB (c :: r)), headN partB (c :: r)⟩
    else if digitB c || (decide (c.toNat = 45) && headDig r) then
      ⟨if numT ((c :: r).take (1 + headN digitB r)) then 2 else 6, (c :: r).take (1 + headN digitB r), 1 + headN digitB r⟩
    else if decide (c.toNat = 60) && headSmall r && headIs 62 (r.drop (headN partB r)) then
      if 32 < headN partB r then ⟨6, (c :: r).take (headN partB r + 2), headN partB r + 2⟩ else ⟨3, r.take (headN partB r), headN partB r + 2⟩
    else signNx c (c :: r)
def tokV (k : Nat) (t : Bs) (at_ : Nat) : Value := .agg #[.int .i64 k, strV t, .int .i64 at_]
theorem ext_mk (s : ByteArray) (i j : Nat) : Value.string (s.extract i j) = strV ((from_ s i).take (j - i)) := by
  have h := ext_toList s i j
  rw [ByteArray.toList_eq] at h
  rw [← h]
  unfold strV
  congr 1
theorem set3 {W : World} {g : Nat} {t : TypeId} {a b c : Value} (hG : W.heap[g]? = some (.cells #[a, b, c] t (0, 0))) (v0 v1 v2 : Value) :
    (((W.setCell ⟨g, 0, none⟩ v0).setCell ⟨g, 1, none⟩ v1).setCell ⟨g, 2, none⟩ v2).heap[g]? = some (.cells #[v0, v1, v2] t (0, 0)) := by
  simp [World.setCell, Array.getElem?_modify, hG]
theorem set3_alloc {W : World} {g : Nat} {t : TypeId} {a b c : Value} (hG : W.heap[g]? = some (.cells #[a, b, c] t (0, 0))) (v0 v1 v2 : Value) (o : Obj) :
    ((((W.setCell ⟨g, 0, none⟩ v0).setCell ⟨g, 1, none⟩ v1).setCell ⟨g, 2, none⟩ v2).alloc o).cell? ⟨g, 0, none⟩ = some v0 ∧
    ((((W.setCell ⟨g, 0, none⟩ v0).setCell ⟨g, 1, none⟩ v1).setCell ⟨g, 2, none⟩ v2).alloc o).cell? ⟨g, 1, none⟩ = some v1 ∧
    ((((W.setCell ⟨g, 0, none⟩ v0).setCell ⟨g, 1, none⟩ v1).setCell ⟨g, 2, none⟩ v2).alloc o).cell? ⟨g, 2, none⟩ = some v2 := by
  have h3 := set3 hG v0 v1 v2
  generalize (((W.setCell ⟨g, 0, none⟩ v0).setCell ⟨g, 1, none⟩ v1).setCell ⟨g, 2, none⟩ v2) = F at h3 ⊢
  have hlt : g < F.heap.size := by
    rcases Nat.lt_or_ge g F.heap.size with h | h
    · exact h
    · rw [Array.getElem?_eq_none h] at h3; cases h3
  have h4 := (Below.heap_alloc F o g hlt).trans h3
  refine ⟨?_, ?_, ?_⟩ <;> rw [cell_of_row _ _ _ _ _ _ h4] <;> rfl
theorem ret_tok {k i m : Nat} {T : Bs} {x : ByteArray} {v : Value} (h : Value.string x = strV T) (hv : v = .int .i64 m) :
    Ending.returned (.tuple #[.agg #[.int .i64 k, .string x, .int .i64 i], v]) = .returned (.tuple #[tokV k T i, .int .i64 m]) := by
  rw [hv, h]; rfl
set_option maxHeartbeats 2000000 in
set_option maxRecDepth 100000 in
theorem next_word (s : ByteArray) (i : Nat) (hi : i < s.size) (hs : s.size ≤ 1099511627776) (hsm : smallB s[i] = true) (w : World) :
    Calls Tryz.prog 74 #[.string s, .int .i64 i] w fun e w' =>
      e = .returned (.tuple #[tokV (if 32 < headN partB (from_ s i) then 6 else 1) ((from_ s i).take (headN partB (from_ s i))) i, .int .i64 ((i + headN partB (from_ s i) : Nat) : Int)]) ∧ Below w.heap.size w w' := by
  have hle := headN_le partB (from_ s i)
  rw [from_length] at hle
  have hn := fun w => name_any s i (by omega) (by unfold maxLen; omega) w
  have hx := ext_mk s i (i + headN partB (from_ s i))
  rw [show i + headN partB (from_ s i) - i = headN partB (from_ s i) by omega] at hx
  generalize headN partB (from_ s i) = n at hle hn hx ⊢
  generalize List.take n (from_ s i) = T at hx ⊢
  have HN := Lib.hid hn
  have HX := Lib.hid hx
  unfold smallB at hsm
  clear hn hx
  by_cases h32 : 32 < n
  · rw [if_pos h32]
    have h32' : (32 : Int) < (i : Int) + (n : Int) - (i : Int) := by omega
    go_enter Tryz.func74, Tryz.ntmps74
    go_wp2_with (first | (go_at_call 93; refine (small_any _ _).mono ?_; rintro e w' ⟨rfl, rfl⟩) | (go_at_call 94; refine (HN.out _).mono ?_; rintro e w' ⟨rfl, rfl⟩))
    exact bodyPost_ret (v := .tuple #[.agg #[.int .i64 (6 : Nat), .string (s.extract i (i + n)), .int .i64 i], .int .i64 ((i : Int) + (n : Int))]) (by simp [results, Tryz.results74, go_sem]) rfl ⟨ret_tok HX.out (by simp), (Below.refl _ _).alloc (Nat.le_refl _) _⟩
  · rw [if_neg h32]
    have h32' : ¬ (32 : Int) < (i : Int) + (n : Int) - (i : Int) := by omega
    go_enter Tryz.func74, Tryz.ntmps74
    go_wp2_with (first | (go_at_call 93; refine (small_any _ _).mono ?_; rintro e w' ⟨rfl, rfl⟩) | (go_at_call 94; refine (HN.out _).mono ?_; rintro e w' ⟨rfl, rfl⟩))
    exact bodyPost_ret (v := .tuple #[.agg #[.int .i64 (1 : Nat), .string (s.extract i (i + n)), .int .i64 i], .int .i64 ((i : Int) + (n : Int))]) (by simp [results, Tryz.results74, go_sem]) rfl ⟨ret_tok HX.out (by simp), (Below.refl _ _).alloc (Nat.le_refl _) _⟩
set_option maxHeartbeats 2000000 in
set_option maxRecDepth 100000 in
theorem next_num (s : ByteArray) (i n : Nat) (hi : i < s.size) (hs : s.size ≤ 1099511627776) (hsm : smallB s[i] = false) (hn : n = 1 + headN digitB (from_ s (i + 1)))
    (hd : digitB s[i] = true ∨ (s[i].toNat = 45 ∧ ∃ h : i + 1 < s.size, digitB s[i + 1] = true)) (w : World) :
    Calls Tryz.prog 74 #[.string s, .int .i64 i] w fun e w' =>
      e = .returned (.tuple #[tokV (if numT ((from_ s i).take n) then 2 else 6) ((from_ s i).take n) i, .int .i64 ((i + n : Nat) : Int)]) ∧ Below w.heap.size w w' := by
  have hle := headN_le digitB (from_ s (i + 1))
  rw [from_length] at hle
  have hx := ext_mk s i (i + n)
  rw [show i + n - i = n by omega] at hx
  have hz : (s.extract i (i + n)).size = n := by simp; omega
  have hp := parse_num (s.extract i (i + n)) (by omega) (by omega) (by
    have e0 : (s.extract i (i + n))[0]'(by omega) = s[i] := by simp [ByteArray.getElem_extract]
    rw [e0]
    rcases hd with h | ⟨h, _⟩
    · exact .inl h
    · exact .inr h)
  have hl : (s.extract i (i + n)).data.toList = (from_ s i).take n := by
    have := ext_toList s i (i + n)
    rw [ByteArray.toList_eq, show i + n - i = n by omega] at this
    exact this
  rw [hl] at hp
  generalize List.take n (from_ s i) = T at hx hp ⊢
  have HP := Lib.hid hp
  have HX := Lib.hid hx
  have HE := Lib.hid hn
  have hnb : 1 ≤ n ∧ i + n ≤ s.size := by omega
  unfold smallB at hsm
  unfold digitB at hd
  clear hp hx hz hl hn hle
  have hd' : decide (48 ≤ s[i].toNat ∧ s[i].toNat ≤ 57) = true ∨ (decide (48 ≤ s[i].toNat ∧ s[i].toNat ≤ 57) = false ∧ ((s[i].toNat : Int) == 45) = true ∧ ∃ h : i + 1 < s.size, decide (48 ≤ s[i + 1].toNat ∧ s[i + 1].toNat ≤ 57) = true) := by
    rcases hd with h | ⟨h, h2⟩
    · exact .inl h
    · exact .inr ⟨by simp; omega, by simp; omega, h2⟩
  clear hd
  have hpok : ∀ ok, parsed ok 2 [] (readV T) = .tuple #[.agg #[.int .i64 (if ok then 2 else 0), .string ⟨#[]⟩, .int .i64 (if ok then readV T else 0)], .bool ok] := by
    intro ok; cases ok <;> rfl
  have HPK : Hid (∀ w, Calls Tryz.prog 96 #[.string (s.extract i (i + n))] w fun e w' => e = .returned (.tuple #[.agg #[.int .i64 (if numT T then 2 else 0), .string ⟨#[]⟩, .int .i64 (if numT T then readV T else 0)], .bool (numT T)]) ∧ Below w.heap.size w w') :=
    Lib.hid fun w => (HP.out w).mono fun e w' ⟨h, h2⟩ => ⟨by rw [h, hpok], h2⟩
  clear hpok HP
  generalize readV T = RV at HPK
  generalize numT T = ok at HPK ⊢
  obtain ⟨kd, hkd⟩ : ∃ kd : Nat, kd = if ok = true then 2 else 6 := ⟨_, rfl⟩
  rw [← hkd]
  have HKD := Lib.hid hkd
  clear hkd
  generalize (if ok = true then (2 : Int) else 0) = q0 at HPK
  generalize (if ok = true then RV else (0 : Int)) = q2 at HPK
  rcases hd' with hd | ⟨hd, h45, hlt, hd2⟩
  all_goals
    go_enter Tryz.func74, Tryz.ntmps74
    go_wp2_with (first | (go_at_call 93; refine (small_any _ _).mono ?_; rintro e w' ⟨rfl, rfl⟩) | (go_at_call 95; refine (digit_any _ _).mono ?_; rintro e w' ⟨rfl, rfl⟩))
    go_loop [8] (fun t => ∃ k : Nat, i + 1 ≤ k ∧ k ≤ s.size ∧ Hid (k + headN digitB (from_ s k) = i + n) ∧ t = .int .i64 k) (fun t => s.size - (intOf t).toNat)
    case atStart => exact ⟨i + 1, by omega, by omega, Lib.hid (by have := HE.out; omega), by go_num⟩
    case round =>
      obtain ⟨k, hk1, hk, HK, rfl⟩ := hrel
      by_cases hlk : k < s.size ∧ digitB s[k]! = true
      · obtain ⟨hlk, hdk⟩ := hlk
        rw [getElem!_pos s k hlk] at hdk
        have HY := Lib.hid (headN_yes (p := digitB) s k hlk hdk)
        unfold digitB at hdk
        go_wp2_with (go_at_call 95; refine (digit_any _ _).mono ?_; rintro e w' ⟨rfl, rfl⟩)
        go_round
        case rel => exact ⟨k + 1, by omega, by omega, Lib.hid (by have := HK.out; have := HY.out; omega), by go_num⟩
        case measure => simp [intOf]; omega
      · have HKN : k = i + n := by
          have := HK.out
          by_cases h : k < s.size
          · have hdk : digitB s[k] = false := by
              rw [Bool.eq_false_iff]; intro hh; exact hlk ⟨h, by rw [getElem!_pos s k h]; exact hh⟩
            have := headN_no (p := digitB) s k h hdk
            omega
          · have := headN_end (p := digitB) s k (by omega)
            omega
        have hend : k < s.size → ∀ h : k < s.size, decide (48 ≤ s[k].toNat ∧ s[k].toNat ≤ 57) = false := by
          intro h _
          have hdk : digitB s[k] = false := by
            rw [Bool.eq_false_iff]; intro hh; exact hlk ⟨h, by rw [getElem!_pos s k h]; exact hh⟩
          unfold digitB at hdk
          exact hdk
        have hcase : ¬ k < s.size ∨ ∃ h : k < s.size, decide (48 ≤ s[k].toNat ∧ s[k].toNat ≤ 57) = false := by
          by_cases h : k < s.size
          · exact .inr ⟨h, hend h h⟩
          · exact .inl h
        clear hend hlk
        subst HKN
        have hsl : (i : Int) ≤ (i : Int) + (n : Int) := by omega
        rcases ok with _ | _
        · rcases hcase with hc | ⟨hc, hdc⟩
          all_goals
            go_wp2_with (first | (go_at_call 95; refine (digit_any _ _).mono ?_; rintro e w' ⟨rfl, rfl⟩) | (go_at_call 96; refine (HPK.out _).mono ?_; rintro e W1 ⟨rfl, hb1⟩; have hlt1 : w.heap.size < W1.heap.size := (by have := hb1.size; simp at this; omega); have hG : W1.heap[w.heap.size]? = some (.cells #[.int .i64 0, .string ⟨#[]⟩, .int .i64 0] 58 (0, 0)) := (hb1.block w.heap.size (by simp)).trans (heap_alloc_new w _); have hc0 : W1.cell? ⟨w.heap.size, 0, none⟩ = some (.int .i64 0) := (by rw [cell_of_row W1 _ _ _ _ _ hG]; rfl); have hc1 : W1.cell? ⟨w.heap.size, 1, none⟩ = some (.string ⟨#[]⟩) := (by rw [cell_of_row W1 _ _ _ _ _ hG]; rfl); have hc2 : W1.cell? ⟨w.heap.size, 2, none⟩ = some (.int .i64 0) := (by rw [cell_of_row W1 _ _ _ _ _ hG]; rfl); have hf : ∀ j, W1.frozen? ⟨w.heap.size, j, none⟩ = false := (by intro j; simp [World.frozen?, hG]); have HB := Lib.hid hb1; have HG := Lib.hid hG; clear hb1 hG))
            have hBB : Below w.heap.size w W1 := ((Below.refl _ _).alloc (Nat.le_refl _) _).trans (HB.out.mono (by simp))
            have hk2 : kd = 6 := by rw [HKD.out]; rfl
            rw [hk2]
            clear hk2
            refine bodyPost_ret (v := .tuple #[.agg #[.int .i64 (6 : Nat), .string (s.extract i (i + n)), .int .i64 i], .int .i64 ((i : Int) + (n : Int))]) ?_ rfl ⟨ret_tok HX.out (by simp), ?_⟩
            · obtain ⟨f0, f1, f2⟩ := set3_alloc HG.out (.int .i64 6) (.string (s.extract i (i + n))) (.int .i64 i) (.cells #[.int .i64 q0, .string ⟨#[]⟩, .int .i64 q2] 45)
              simp [results, Tryz.results74, go_sem, f0, f1, f2]
            · exact (((hBB.setCell (p := ⟨w.heap.size, 0, none⟩) (Nat.le_refl _) _).setCell (p := ⟨w.heap.size, 1, none⟩) (Nat.le_refl _) _).setCell (p := ⟨w.heap.size, 2, none⟩) (Nat.le_refl _) _).alloc (by simp; omega) _
        · rcases hcase with hc | ⟨hc, hdc⟩
          all_goals
            go_wp2_with (first | (go_at_call 95; refine (digit_any _ _).mono ?_; rintro e w' ⟨rfl, rfl⟩) | (go_at_call 96; refine (HPK.out _).mono ?_; rintro e W1 ⟨rfl, hb1⟩; have hlt1 : w.heap.size < W1.heap.size := (by have := hb1.size; simp at this; omega); have hG : W1.heap[w.heap.size]? = some (.cells #[.int .i64 0, .string ⟨#[]⟩, .int .i64 0] 58 (0, 0)) := (hb1.block w.heap.size (by simp)).trans (heap_alloc_new w _); have hc0 : W1.cell? ⟨w.heap.size, 0, none⟩ = some (.int .i64 0) := (by rw [cell_of_row W1 _ _ _ _ _ hG]; rfl); have hc1 : W1.cell? ⟨w.heap.size, 1, none⟩ = some (.string ⟨#[]⟩) := (by rw [cell_of_row W1 _ _ _ _ _ hG]; rfl); have hc2 : W1.cell? ⟨w.heap.size, 2, none⟩ = some (.int .i64 0) := (by rw [cell_of_row W1 _ _ _ _ _ hG]; rfl); have hf : ∀ j, W1.frozen? ⟨w.heap.size, j, none⟩ = false := (by intro j; simp [World.frozen?, hG]); have HB := Lib.hid hb1; have HG := Lib.hid hG; clear hb1 hG))
            have hBB : Below w.heap.size w W1 := ((Below.refl _ _).alloc (Nat.le_refl _) _).trans (HB.out.mono (by simp))
            have hk2 : kd = 2 := by rw [HKD.out]; rfl
            rw [hk2]
            clear hk2
            refine bodyPost_ret (v := .tuple #[.agg #[.int .i64 (2 : Nat), .string (s.extract i (i + n)), .int .i64 i], .int .i64 ((i : Int) + (n : Int))]) ?_ rfl ⟨ret_tok HX.out (by simp), ?_⟩
            · obtain ⟨f0, f1, f2⟩ := set3_alloc HG.out (.int .i64 2) (.string (s.extract i (i + n))) (.int .i64 i) (.cells #[.int .i64 q0, .string ⟨#[]⟩, .int .i64 q2] 45)
              simp [results, Tryz.results74, go_sem, f0, f1, f2]
            · exact (((hBB.setCell (p := ⟨w.heap.size, 0, none⟩) (Nat.le_refl _) _).setCell (p := ⟨w.heap.size, 1, none⟩) (Nat.le_refl _) _).setCell (p := ⟨w.heap.size, 2, none⟩) (Nat.le_refl _) _).alloc (by simp; omega) _
end Go.Proofs.YtgeaccoobhigcaaGreat
namespace Go.Proofs.YtgeaccoobhigcaaGreat
open Go.RowKit
set_option maxHeartbeats 2000000 in
set_option maxRecDepth 100000 in
theorem next_var (s : ByteArray) (i n : Nat) (hi : i < s.size) (hs : s.size ≤ 1099511627776) (h60 : s[i].toNat = 60) (hlt : i + 1 < s.size) (hsm : smallB s[i + 1] = true)
    (hn : n = headN partB (from_ s (i + 1))) (hend : i + 1 + n < s.size) (h62 : s[i + 1 + n].toNat = 62) (w : World) :
    Calls Tryz.prog 74 #[.string s, .int .i64 i] w fun e w' =>
      e = .returned (.tuple #[if 32 < n then tokV 6 ((from_ s i).take (n + 2)) i else tokV 3 ((from_ s (i + 1)).take n) i, .int .i64 ((i + (n + 2) : Nat) : Int)]) ∧ Below w.heap.size w w' := by
  have e1 : decide (97 ≤ s[i].toNat ∧ s[i].toNat ≤ 122) = false := by simp; omega
  have e2 : decide (48 ≤ s[i].toNat ∧ s[i].toNat ≤ 57) = false := by simp; omega
  have e3 : ((s[i].toNat : Int) == 45) = false := by simp; omega
  have e4 : ((s[i].toNat : Int) == 60) = true := by simp; omega
  have e5 : ((s[i + 1 + n].toNat : Int) == 62) = true := by simp; omega
  have hnm := fun w => name_any s (i + 1) (by omega) (by unfold maxLen; omega) w
  rw [← hn] at hnm
  have hx6 := ext_mk s i (i + 1 + n + 1)
  rw [show i + 1 + n + 1 - i = n + 2 by omega] at hx6
  have hx3 := ext_mk s (i + 1) (i + 1 + n)
  rw [show i + 1 + n - (i + 1) = n by omega] at hx3
  generalize List.take (n + 2) (from_ s i) = T6 at hx6 ⊢
  generalize List.take n (from_ s (i + 1)) = T3 at hx3 ⊢
  have HN : Hid (∀ w, Calls Tryz.prog 94 #[.string s, .int .i64 ((i : Int) + 1)] w fun e w' => e = .returned (.int .i64 ((i + 1 + n : Nat) : Int)) ∧ w' = w) := Lib.hid hnm
  have HX6 := Lib.hid hx6
  have HX3 := Lib.hid hx3
  unfold smallB at hsm
  clear hn hnm hx6 hx3 h60 h62
  by_cases h32 : 32 < n
  · rw [if_pos h32]
    have h32' : (32 : Int) < (i : Int) + 1 + (n : Int) - (i : Int) - 1 := by omega
    go_enter Tryz.func74, Tryz.ntmps74
    go_wp2_with (first | (go_at_call 93; refine (small_any _ _).mono ?_; rintro e w' ⟨rfl, rfl⟩) | (go_at_call 95; refine (digit_any _ _).mono ?_; rintro e w' ⟨rfl, rfl⟩) | (go_at_call 94; refine (HN.out _).mono ?_; rintro e w' ⟨rfl, rfl⟩))
    exact bodyPost_ret (v := .tuple #[.agg #[.int .i64 (6 : Nat), .string (s.extract i (i + 1 + n + 1)), .int .i64 i], .int .i64 ((i : Int) + 1 + (n : Int) + 1)]) (by simp [results, Tryz.results74, go_sem]) rfl ⟨ret_tok HX6.out (by congr 1; omega), (Below.refl _ _).alloc (Nat.le_refl _) _⟩
  · rw [if_neg h32]
    have h32' : ¬ (32 : Int) < (i : Int) + 1 + (n : Int) - (i : Int) - 1 := by omega
    go_enter Tryz.func74, Tryz.ntmps74
    go_wp2_with (first | (go_at_call 93; refine (small_any _ _).mono ?_; rintro e w' ⟨rfl, rfl⟩) | (go_at_call 95; refine (digit_any _ _).mono ?_; rintro e w' ⟨rfl, rfl⟩) | (go_at_call 94; refine (HN.out _).mono ?_; rintro e w' ⟨rfl, rfl⟩))
    exact bodyPost_ret (v := .tuple #[.agg #[.int .i64 (3 : Nat), .string (s.extract (i + 1) (i + 1 + n)), .int .i64 i], .int .i64 ((i : Int) + 1 + (n : Int) + 1)]) (by simp [results, Tryz.results74, go_sem]) rfl ⟨ret_tok HX3.out (by congr 1; omega), (Below.refl _ _).alloc (Nat.le_refl _) _⟩
theorem firstAt_len (l : Bs) : ∀ ss : List Bs, (∀ x ∈ ss, x.length ≤ 3) → (firstAt l ss).length ≤ 3
  | [], _ => by simp [firstAt]
  | x :: r, h => by
    unfold firstAt
    split
    · exact h x (by simp)
    · exact firstAt_len l r fun y hy => h y (by simp [hy])
theorem signT_len (l : Bs) : (signT l).length ≤ 3 := firstAt_len l signs (by decide)
theorem firstAt_pre (l : Bs) : ∀ ss : List Bs, firstAt l ss = [] ∨ firstAt l ss <+: l
  | [] => .inl rfl
  | x :: r => by
    unfold firstAt
    split
    · rename_i h
      exact .inr (List.isPrefixOf_iff_prefix.1 h)
    · exact firstAt_pre l r
theorem signT_pre (l : Bs) : signT l = [] ∨ signT l <+: l := firstAt_pre l signs
set_option maxHeartbeats 4000000 in
set_option maxRecDepth 100000 in
theorem next_sign (s : ByteArray) (i n : Nat) (hi : i < s.size) (hs : s.size ≤ 1099511627776) (e1 : decide (97 ≤ s[i].toNat ∧ s[i].toNat ≤ 122) = false) (e2 : decide (48 ≤ s[i].toNat ∧ s[i].toNat ≤ 57) = false)
    (hn : n = headN partB (from_ s (i + 1)))
    (hc : (((s[i].toNat : Int) == 45) = true ∧ ((s[i].toNat : Int) == 60) = false ∧ (s.size ≤ i + 1 ∨ ∃ h : i + 1 < s.size, decide (48 ≤ s[i + 1].toNat ∧ s[i + 1].toNat ≤ 57) = false)) ∨
      (((s[i].toNat : Int) == 45) = false ∧ (((s[i].toNat : Int) == 60) = false ∨ (((s[i].toNat : Int) == 60) = true ∧ (s.size ≤ i + 1 ∨ ∃ h : i + 1 < s.size, (decide (97 ≤ s[i + 1].toNat ∧ s[i + 1].toNat ≤ 122) = false ∨ (decide (97 ≤ s[i + 1].toNat ∧ s[i + 1].toNat ≤ 122) = true ∧ (s.size ≤ i + 1 + n ∨ ∃ h2 : i + 1 + n < s.size, ((s[i + 1 + n].toNat : Int) == 62) = false))))))))
    (w : World) :
    Calls Tryz.prog 74 #[.string s, .int .i64 i] w fun e w' =>
      e = .returned (.tuple #[tokV (signNx s[i] (from_ s i)).kind (signNx s[i] (from_ s i)).text i, .int .i64 ((i + (signNx s[i] (from_ s i)).len : Nat) : Int)]) ∧ Below w.heap.size w w' := by
  have hnm : i + 1 < s.size → ∀ w, Calls Tryz.prog 94 #[.string s, .int .i64 ((i : Int) + 1)] w fun e w' => e = .returned (.int .i64 ((i + 1 + n : Nat) : Int)) ∧ w' = w := fun h w => by
    rw [hn]; exact name_any s (i + 1) (by omega) (by unfold maxLen; omega) w
  have hnle : n ≤ s.size - (i + 1) := by rw [hn, ← from_length]; exact headN_le _ _
  have hsg := fun w => sign_any s i (by omega) hs w
  have hlen := signT_len (from_ s i)
  have hx1 := ext_mk s i (i + 1)
  rw [show i + 1 - i = 1 by omega, from_lt s i hi] at hx1
  rw [show List.take 1 (s[i] :: from_ s (i + 1)) = [s[i]] from rfl] at hx1
  have HX1 := Lib.hid hx1
  generalize hC : s[i] = C at HX1 ⊢
  rw [hC] at e1 e2 hc
  have hget : ∀ h : i < s.size, s[i]'h = C := fun _ => hC
  clear hC hx1 hn
  by_cases hsig : signT (from_ s i) = []
  · have hR : signNx C (from_ s i) = ⟨6, [C], 1⟩ := by unfold signNx; rw [if_pos hsig]
    rw [hR]
    rw [hsig] at hsg
    have HS : Hid (∀ w, Calls Tryz.prog 97 #[.string s, .int .i64 i] w fun e w' => e = .returned (.string ⟨#[]⟩) ∧ w' = w) := Lib.hid hsg
    clear hR hsig hsg hlen
    rcases hc with ⟨c1, c2, c3 | ⟨c3, c4⟩⟩ | ⟨c1, c2 | ⟨c2, c3 | ⟨c3, c4 | ⟨c4, c5 | ⟨c5, c6⟩⟩⟩⟩⟩
    all_goals
      have HN : Hid (i + 1 < s.size → ∀ w, Calls Tryz.prog 94 #[.string s, .int .i64 ((i : Int) + 1)] w fun e w' => e = .returned (.int .i64 ((i + 1 + n : Nat) : Int)) ∧ w' = w) := Lib.hid hnm
      clear hnm
      go_enter Tryz.func74, Tryz.ntmps74
      go_wp2_with (first | (go_at_call 93; refine (small_any _ _).mono ?_; rintro e w' ⟨rfl, rfl⟩) | (go_at_call 95; refine (digit_any _ _).mono ?_; rintro e w' ⟨rfl, rfl⟩) | (go_at_call 94; refine (HN.out (by omega) _).mono ?_; rintro e w' ⟨rfl, rfl⟩) | (go_at_call 97; refine (HS.out _).mono ?_; rintro e w' ⟨rfl, rfl⟩))
      exact bodyPost_ret (v := .tuple #[.agg #[.int .i64 (6 : Nat), .string (s.extract i (i + 1)), .int .i64 i], .int .i64 ((i : Int) + 1)]) (by simp [results, Tryz.results74, go_sem]) rfl ⟨ret_tok HX1.out (by simp), (Below.refl _ _).alloc (Nat.le_refl _) _⟩
  · have hR : signNx C (from_ s i) = ⟨4, signT (from_ s i), (signT (from_ s i)).length⟩ := by unfold signNx; rw [if_neg hsig]
    rw [hR]
    have hXs : (ByteArray.mk (signT (from_ s i)).toArray).size = (signT (from_ s i)).length := rfl
    have hXn : ((ByteArray.mk (signT (from_ s i)).toArray).toList == []) = false := by
      simp
      exact hsig
    have hXv : Value.string (ByteArray.mk (signT (from_ s i)).toArray) = strV (signT (from_ s i)) := rfl
    unfold strV at hsg
    generalize ByteArray.mk (signT (from_ s i)).toArray = X at hsg hXs hXn hXv
    rw [← hXs] at hlen
    have hpl : signT (from_ s i) <+: from_ s i := (signT_pre _).resolve_left hsig
    have hpl2 : X.size ≤ s.size - i := by rw [hXs, ← from_length]; exact hpl.length_le
    generalize signT (from_ s i) = T at hXv hXs ⊢
    have HXV := Lib.hid hXv
    have HXS := Lib.hid hXs
    have HS : Hid (∀ w, Calls Tryz.prog 97 #[.string s, .int .i64 i] w fun e w' => e = .returned (.string X) ∧ w' = w) := Lib.hid hsg
    clear hR hsig hsg hXs hXv hpl
    rcases hc with ⟨c1, c2, c3 | ⟨c3, c4⟩⟩ | ⟨c1, c2 | ⟨c2, c3 | ⟨c3, c4 | ⟨c4, c5 | ⟨c5, c6⟩⟩⟩⟩⟩
    all_goals
      have HN : Hid (i + 1 < s.size → ∀ w, Calls Tryz.prog 94 #[.string s, .int .i64 ((i : Int) + 1)] w fun e w' => e = .returned (.int .i64 ((i + 1 + n : Nat) : Int)) ∧ w' = w) := Lib.hid hnm
      clear hnm
      go_enter Tryz.func74, Tryz.ntmps74
      go_wp2_with (first | (go_at_call 93; refine (small_any _ _).mono ?_; rintro e w' ⟨rfl, rfl⟩) | (go_at_call 95; refine (digit_any _ _).mono ?_; rintro e w' ⟨rfl, rfl⟩) | (go_at_call 94; refine (HN.out (by omega) _).mono ?_; rintro e w' ⟨rfl, rfl⟩) | (go_at_call 97; refine (HS.out _).mono ?_; rintro e w' ⟨rfl, rfl⟩))
      exact bodyPost_ret (v := .tuple #[.agg #[.int .i64 (4 : Nat), .string X, .int .i64 i], .int .i64 ((i : Int) + (X.size : Int))]) (by simp [results, Tryz.results74, go_sem]) rfl ⟨by rw [HXS.out]; exact ret_tok HXV.out (by simp), (Below.refl _ _).alloc (Nat.le_refl _) _⟩
end Go.Proofs.YtgeaccoobhigcaaGreat
namespace Go.Proofs.YtgeaccoobhigcaaGreat
open Go.RowKit
theorem nextT_cons (c : UInt8) (r : Bs) : nextT (c :: r) =
    if smallB c then ⟨if 32 < headN partB (c :: r) then 6 else 1, (c :: r).take (headN partB (c :: r)), headN partB (c :: r)⟩
    else if digitB c || (decide (c.toNat = 45) && headDig r) then
      ⟨if numT ((c :: r).take (1 + headN digitB r)) then 2 else 6, (c :: r).take (1 + headN digitB r), 1 + headN digitB r⟩
    else if decide (c.toNat = 60) && headSmall r && headIs 62 (r.drop (headN partB r)) then
      if 32 < headN partB r then ⟨6, (c :: r).take (headN partB r + 2), headN partB r + 2⟩ else ⟨3, r.take (headN partB r), headN partB r + 2⟩
    else signNx c (c :: r) := rfl
theorem headN_pos {p : UInt8 → Bool} {c : UInt8} {r : Bs} (h : p c = true) : 1 ≤ headN p (c :: r) := by simp [headN, h]
theorem signNx_len (c : UInt8) (r : Bs) : 1 ≤ (signNx c (c :: r)).len ∧ (signNx c (c :: r)).len ≤ (c :: r).length := by
  unfold signNx
  split
  · simp
  · rename_i h
    have := (signT_pre (c :: r)).resolve_left h
    exact ⟨by have : (signT (c :: r)).length ≠ 0 := fun e => h (List.eq_nil_of_length_eq_zero e); simp only; omega, this.length_le⟩
theorem headIs_len {n : Nat} {l : Bs} (h : headIs n l = true) : 1 ≤ l.length := by
  cases l with
  | nil => simp [headIs] at h
  | cons => simp
/-- A token takes at least one byte, and no more than there are. -/
theorem nextT_len (c : UInt8) (r : Bs) : 1 ≤ (nextT (c :: r)).len ∧ (nextT (c :: r)).len ≤ (c :: r).length := by
  rw [nextT_cons]
  split
  · rename_i h
    exact ⟨headN_pos (by simp [partB, h]), headN_le _ _⟩
  · split
    · have := headN_le digitB r
      simp only [List.length_cons]
      omega
    · split
      · rename_i h
        have h1 := headN_le partB r
        simp only [Bool.and_eq_true] at h
        have h2 := headIs_len h.2
        rw [List.length_drop] at h2
        split
        · simp only [List.length_cons]; omega
        · simp only [List.length_cons]; omega
      · exact signNx_len c r
/-- A token: its kind, its text, its place. -/
structure Tk where
  kind : Nat
  text : Bs
  pos : Nat
def Tk.val (t : Tk) : Value := tokV t.kind t.text t.pos
/-- What is left behind blanks and remarks. -/
def past (l : Bs) : Bs := l.drop (skipN false l)
def toksF : Nat → Bs → Nat → List Tk
  | 0, _, _ => []
  | f + 1, l, p => if l = [] then [⟨5, [], p⟩] else
    ⟨(nextT l).kind, (nextT l).text, p⟩ :: if (nextT l).kind = 6 then [] else toksF f (past (l.drop (nextT l).len)) (p + (nextT l).len + skipN false (l.drop (nextT l).len))
/-- The tokens of what stands at a place, where no blank stands. -/
def toksP (l : Bs) (p : Nat) : List Tk := toksF (l.length + 1) l p
/-- The tokens of a text. -/
def toks (l : Bs) : List Tk := toksP (past l) (skipN false l)
theorem past_len (l : Bs) : (past l).length ≤ l.length := by simp [past]
theorem toksF_nil (f : Nat) (p : Nat) : toksF (f + 1) [] p = [⟨5, [], p⟩] := by rw [toksF, if_pos rfl]
theorem toksF_cons (f : Nat) (c : UInt8) (r : Bs) (p : Nat) : toksF (f + 1) (c :: r) p = ⟨(nextT (c :: r)).kind, (nextT (c :: r)).text, p⟩ ::
    if (nextT (c :: r)).kind = 6 then [] else toksF f (past ((c :: r).drop (nextT (c :: r)).len)) (p + (nextT (c :: r)).len + skipN false ((c :: r).drop (nextT (c :: r)).len)) := by
  rw [toksF, if_neg (by simp)]
theorem toksF_fuel : ∀ (n f : Nat) (l : Bs) (p : Nat), l.length < n → n ≤ f → toksF f l p = toksF n l p
  | 0, _, _, _, h, _ => by omega
  | n + 1, 0, _, _, _, hf => by omega
  | n + 1, f + 1, [], p, h, hf => by rw [toksF_nil, toksF_nil]
  | n + 1, f + 1, c :: r, p, h, hf => by
    have hl := nextT_len c r
    rw [toksF_cons, toksF_cons]
    rw [toksF_fuel n f _ _ (by have := past_len ((c :: r).drop (nextT (c :: r)).len); rw [List.length_drop] at this; omega) (by omega)]
theorem toksP_nil (p : Nat) : toksP [] p = [⟨5, [], p⟩] := toksF_nil _ p
theorem toksP_cons (c : UInt8) (r : Bs) (p : Nat) : toksP (c :: r) p = ⟨(nextT (c :: r)).kind, (nextT (c :: r)).text, p⟩ ::
    if (nextT (c :: r)).kind = 6 then [] else toksP (past ((c :: r).drop (nextT (c :: r)).len)) (p + (nextT (c :: r)).len + skipN false ((c :: r).drop (nextT (c :: r)).len)) := by
  have hl := nextT_len c r
  unfold toksP
  rw [toksF_cons]
  have := past_len ((c :: r).drop (nextT (c :: r)).len)
  rw [List.length_drop] at this
  rw [toksF_fuel ((past ((c :: r).drop (nextT (c :: r)).len)).length + 1) _ _ _ (by omega) (by omega)]
theorem from_drop (s : ByteArray) (i n : Nat) : (from_ s i).drop n = from_ s (i + n) := by unfold from_; rw [List.drop_drop]
theorem past_from (s : ByteArray) (i : Nat) : past (from_ s i) = from_ s (i + skipN false (from_ s i)) := by unfold past; rw [from_drop]
theorem headIs_from (s : ByteArray) (n k : Nat) : headIs n (from_ s k) = true ↔ ∃ h : k < s.size, s[k].toNat = n := by
  by_cases h : k < s.size
  · rw [from_lt s k h]; simp [headIs, h]
  · rw [from_ge s k (by omega)]; simp [headIs, h]
theorem headSmall_from (s : ByteArray) (k : Nat) : headSmall (from_ s k) = true ↔ ∃ h : k < s.size, smallB s[k] = true := by
  by_cases h : k < s.size
  · rw [from_lt s k h]; simp [headSmall, h]
  · rw [from_ge s k (by omega)]; simp [headSmall, h]
theorem headDig_from (s : ByteArray) (k : Nat) : headDig (from_ s k) = true ↔ ∃ h : k < s.size, digitB s[k] = true := by
  by_cases h : k < s.size
  · rw [from_lt s k h]; simp [headDig, h]
  · rw [from_ge s k (by omega)]; simp [headDig, h]
/-- LEX.NEXT at any place within the text. -/
theorem next_any (s : ByteArray) (i : Nat) (hi : i < s.size) (hs : s.size ≤ 1099511627776) (w : World) :
    Calls Tryz.prog 74 #[.string s, .int .i64 i] w fun e w' =>
      e = .returned (.tuple #[tokV (nextT (from_ s i)).kind (nextT (from_ s i)).text i, .int .i64 ((i + (nextT (from_ s i)).len : Nat) : Int)]) ∧ Below w.heap.size w w' := by
  have hc := from_lt s i hi
  by_cases h1 : smallB s[i] = true
  · have := next_word s i hi hs h1 w
    rw [hc] at this ⊢
    rw [nextT_cons]
    rw [if_pos h1]
    exact this
  · rw [Bool.not_eq_true] at h1
    by_cases h2 : (digitB s[i] || (decide (s[i].toNat = 45) && headDig (from_ s (i + 1)))) = true
    · have := next_num s i (1 + headN digitB (from_ s (i + 1))) hi hs h1 rfl (by
        simp only [Bool.or_eq_true, Bool.and_eq_true, decide_eq_true_eq] at h2
        rcases h2 with h | ⟨h, h'⟩
        · exact .inl h
        · exact .inr ⟨h, (headDig_from s (i + 1)).1 h'⟩) w
      rw [hc] at this ⊢
      rw [nextT_cons]
      rw [if_neg (by simp [h1]), if_pos h2]
      exact this
    · by_cases h3 : (decide (s[i].toNat = 60) && headSmall (from_ s (i + 1)) && headIs 62 ((from_ s (i + 1)).drop (headN partB (from_ s (i + 1))))) = true
      · have h3' := h3
        simp only [Bool.and_eq_true, decide_eq_true_eq, from_drop] at h3'
        obtain ⟨⟨a, b⟩, c⟩ := h3'
        obtain ⟨b1, b2⟩ := (headSmall_from s _).1 b
        obtain ⟨c1, c2⟩ := (headIs_from s _ _).1 c
        have := next_var s i (headN partB (from_ s (i + 1))) hi hs a b1 b2 rfl c1 c2 w
        rw [hc] at this ⊢
        rw [nextT_cons]
        rw [if_neg (by simp [h1]), if_neg h2, if_pos h3]
        by_cases h32 : 32 < headN partB (from_ s (i + 1))
        · rw [if_pos h32] at this ⊢; exact this
        · rw [if_neg h32] at this ⊢; exact this
      · have e1 : decide (97 ≤ s[i].toNat ∧ s[i].toNat ≤ 122) = false := h1
        have e2 : decide (48 ≤ s[i].toNat ∧ s[i].toNat ≤ 57) = false := by
          rw [Bool.not_eq_true, Bool.or_eq_false_iff] at h2; exact h2.1
        have := next_sign s i (headN partB (from_ s (i + 1))) hi hs e1 e2 rfl ?_ w
        · rw [hc] at this ⊢
          rw [nextT_cons]
          rw [if_neg (by simp [h1]), if_neg h2, if_neg h3]
          exact this
        · rw [Bool.not_eq_true, Bool.or_eq_false_iff, Bool.and_eq_false_iff, decide_eq_false_iff_not] at h2
          obtain ⟨_, h2⟩ := h2
          by_cases h45 : s[i].toNat = 45
          · refine .inl ⟨by simp; omega, by simp; omega, ?_⟩
            have h2 := h2.resolve_left (by simp [h45])
            by_cases hl : i + 1 < s.size
            · refine .inr ⟨hl, ?_⟩
              rw [from_lt s _ hl] at h2
              exact h2
            · exact .inl (by omega)
          · refine .inr ⟨by simp; omega, ?_⟩
            by_cases h60 : s[i].toNat = 60
            · refine .inr ⟨by simp; omega, ?_⟩
              by_cases hl : i + 1 < s.size
              · refine .inr ⟨hl, ?_⟩
                rcases hsm : smallB s[i + 1] with _ | _
                · exact .inl hsm
                · refine .inr ⟨hsm, ?_⟩
                  by_cases hl2 : i + 1 + headN partB (from_ s (i + 1)) < s.size
                  · refine .inr ⟨hl2, ?_⟩
                    have hne : ¬ s[i + 1 + headN partB (from_ s (i + 1))].toNat = 62 := by
                      intro h62
                      refine h3 ?_
                      simp only [Bool.and_eq_true, decide_eq_true_eq, from_drop]
                      exact ⟨⟨h60, (headSmall_from s _).2 ⟨hl, hsm⟩⟩, (headIs_from s _ _).2 ⟨hl2, h62⟩⟩
                    simp; omega
                  · exact .inl (by omega)
              · exact .inl (by omega)
            · exact .inl (by simp; omega)
end Go.Proofs.YtgeaccoobhigcaaGreat
namespace Go.Proofs.YtgeaccoobhigcaaGreat
open Go Go.RowKit
attribute [local go_sem] Oper.semAt_some
/-- A block that the iterator has made, and that the loop's body leaves alone. -/
def Shut (p : Option (Nat × Obj)) (W : World) : Prop := ∀ g o, p = some (g, o) → W.heap[g]? = some o
/-- AN ITERATOR that tells the values 'vals' and writes blocks of its own alone. 'Need' is what it needs. -/
def IterT (P : Program) (gf : Nat) (lb : Array Value) (vals : List Value) (Need : World → Prop) : Prop :=
  ∀ (m l : Nat) (J : Nat → World → Prop) (J1 : Nat → Option (Nat × Obj) → World → Prop) (Jx : Nat → World → Prop) (W : World),
    (∀ k A, J k A → Need A) →
    (∀ k A B p, k < vals.length → J k A → A.grownBy B none → (∀ g o, p = some (g, o) → A.heap.size ≤ g ∧ B.heap[g]? = some o) → J1 k p B) →
    (∀ k A B, J k A → A.grownBy B none → J k B) →
    (∀ k A B, Jx k A → A.grownBy B none → Jx k B) →
    (∀ k p x A, vals[k]? = some x → J1 k p A → YieldAt Fence.wide m P l #[x] A fun e B => ((e = .returned (.bool true) ∧ J (k + 1) B) ∨ (e = .returned (.bool false) ∧ Jx (k + 1) B)) ∧ Shut p B) →
    J 0 W →
    Calls P gf (#[.func (.yield l) #[] #[]] ++ lb) W fun e B => (∃ v, e = .returned v) ∧ (J vals.length B ∨ ∃ k, k ≤ vals.length ∧ Jx k B)
theorem grown_of_below {A B : World} (h : Below A.heap.size A B) : A.grownBy B none := ⟨h.os, h.tape, h.output, h.size, fun k hk _ => h.block k hk⟩
theorem from_all (s : ByteArray) : from_ s 0 = s.data.toList := from_zero s
set_option maxHeartbeats 2000000 in
theorem tokens_iter (Bt : Nat) (s : ByteArray) (hs : s.size ≤ 1099511627776) :
    IterT Tryz.prog 72 #[.pointer (some ⟨Bt, 0, none⟩)] ((toks s.data.toList).map Tk.val) (fun W => W.cell? ⟨Bt, 0, none⟩ = some (.string s)) := by
  intro m l J J1 Jx W hN hS hg hgx hY h0
  have hc := hN 0 W h0
  refine (callsIn_wide (n := m + 1)).1 ?_
  refine callsIn_of_wp Tryz.func72 rfl trivial ?_
  simp only [Tryz.ntmps72, List.size_toArray, List.length_cons, List.length_nil, Nat.reduceAdd, Nat.reduceSub, Array.replicate_succ, Array.replicate_zero, List.push_toArray, List.append_toArray, List.nil_append, List.cons_append]
  have hb0 := fun w => blanks_any s 0 (by omega) (by unfold maxLen; omega) w
  have HB0 := Lib.hid hb0
  generalize hL : toks s.data.toList = L at *
  have hL0 : L = toksP (from_ s (0 + skipN false (from_ s 0))) (0 + skipN false (from_ s 0)) := by
    rw [← hL]; unfold toks; rw [← from_all, past_from, Nat.zero_add]
  have HL0 := Lib.hid hL0
  have hq0 : 0 + skipN false (from_ s 0) ≤ s.size := by have := skipN_le false (from_ s 0); rw [from_length] at this; omega
  generalize 0 + skipN false (from_ s 0) = q0 at *
  clear hL hL0
  clear hb0
  have HN := Lib.hid hN
  have HS := Lib.hid hS
  have HGR := Lib.hid hg
  have HY := Lib.hid hY
  clear hN hS hg hY hgx
  gi_wp2_with (refine ⟨trivial, ?_⟩; gi_at_call 73; refine (callsIn_wide.2 (HB0.out _)).mono ?_; rintro e W1 ⟨rfl, rfl⟩)
  gi_loopw [3] (fun t wr => ∃ k q : Nat, q ≤ s.size ∧ t = .int .i64 q ∧ Hid (L.drop k = toksP (from_ s q) q) ∧ J k wr) (fun t _ => s.size - (intOf t).toNat)
  case atStart => exact ⟨0, q0, hq0, rfl, Lib.hid (by rw [List.drop_zero]; exact HL0.out), h0⟩
  case round =>
    obtain ⟨k, q, hq, rfl, HK, hJ⟩ := hrel
    have hc := HN.out k wr hJ
    by_cases hlt : q < s.size
    · have hcons := from_lt s q hlt
      have HKC : Hid (L.drop k = ⟨(nextT (from_ s q)).kind, (nextT (from_ s q)).text, q⟩ :: if (nextT (from_ s q)).kind = 6 then [] else toksP (from_ s (q + (nextT (from_ s q)).len + skipN false (from_ s (q + (nextT (from_ s q)).len)))) (q + (nextT (from_ s q)).len + skipN false (from_ s (q + (nextT (from_ s q)).len)))) := Lib.hid (by
        rw [HK.out, hcons, toksP_cons, ← hcons, from_drop, past_from])
      have hnl : 1 ≤ (nextT (from_ s q)).len ∧ (nextT (from_ s q)).len ≤ s.size - q := by
        rw [← from_length, hcons]; exact nextT_len _ _
      have hnx := fun w => next_any s q hlt hs w
      generalize nextT (from_ s q) = N at HKC hnl hnx
      obtain ⟨kd, tx, ln⟩ := N
      simp only at HKC hnl hnx
      unfold tokV strV at hnx
      have HNX := Lib.hid hnx
      have hkl : k < L.length := by
        rcases Nat.lt_or_ge k L.length with h | h
        · exact h
        · have := HKC.out; rw [List.drop_eq_nil_of_le h] at this; cases this
      have hLk : L[k]? = some ⟨kd, tx, q⟩ := by
        have := HKC.out
        rw [List.drop_eq_getElem_cons hkl] at this
        rw [List.getElem?_eq_getElem hkl]
        injection this with h1 _
        rw [h1]
      have HLK := Lib.hid hLk
      have hbl := fun w => blanks_any s (q + ln) (by omega) (by unfold maxLen; omega) w
      have HBL := Lib.hid hbl
      clear hcons hnx hLk hbl
      gi_wp2_with (refine ⟨trivial, ?_⟩; gi_at_call 74; refine (callsIn_wide.2 (HNX.out _)).mono ?_; rintro e W2 ⟨rfl, hb2⟩; have hx1 := HS.out k wr (W2.alloc (.cells #[.int .i64 kd, .string ⟨tx.toArray⟩, .int .i64 q] 58)) (some (W2.heap.size, .cells #[.int .i64 kd, .string ⟨tx.toArray⟩, .int .i64 q] 58)) (by rw [List.length_map]; exact hkl) hJ (grownBy_trans (grown_of_below hb2) (World.grownBy_alloc W2 _ none)) (by rintro g o e; cases e; exact ⟨hb2.size, heap_alloc_new W2 _⟩); obtain ⟨fn, tmps, assign, body, hy, hR⟩ := HY.out k _ (Tk.val ⟨kd, tx, q⟩) _ (by rw [List.getElem?_map, HLK.out]; rfl) hx1; rw [show Tk.val ⟨kd, tx, q⟩ = .agg #[.int .i64 kd, .string ⟨tx.toArray⟩, .int .i64 q] from rfl] at hy)
      have HKD : Hid (L.drop (k + 1) = if kd = 6 then [] else toksP (from_ s (q + ln + skipN false (from_ s (q + ln)))) (q + ln + skipN false (from_ s (q + ln)))) := Lib.hid (by
        have := HKC.out
        rw [← List.tail_drop, this]; rfl)
      have hq2 : q + ln + skipN false (from_ s (q + ln)) ≤ s.size := by have := skipN_le false (from_ s (q + ln)); rw [from_length] at this; omega
      have hq3 : q < q + ln + skipN false (from_ s (q + ln)) := by omega
      generalize q + ln + skipN false (from_ s (q + ln)) = q2 at HBL HKD hq2 hq3
      refine hR.mono ?_
      rintro e W' ⟨⟨rfl, hJ'⟩ | ⟨rfl, hJx'⟩, hsh⟩
      · have hG := hsh _ _ rfl
        have hg0 : W'.cell? ⟨W2.heap.size, 0, none⟩ = some (.int .i64 kd) := by rw [cell_of_row _ _ _ _ _ _ hG]; rfl
        have hc' := HN.out _ _ hJ'
        clear hsh hG
        by_cases h6 : kd = 6
        · have hl : L.length = k + 1 := by
            have := HKD.out
            rw [if_pos h6] at this
            have := congrArg List.length this
            rw [List.length_drop] at this
            simp at this
            omega
          have HLL := Lib.hid hl
          have e6 : ((kd : Int) == 6) = true := by simp; omega
          clear h6 hl
          gi_wp2
          refine bodyPost_ret (results_none rfl _ _ _) rfl ?_
          exact ⟨⟨_, rfl⟩, .inl (by rw [List.length_map, HLL.out]; exact hJ')⟩
        · have e6 : ((kd : Int) == 6) = false := by simp; omega
          have HKE : Hid (L.drop (k + 1) = toksP (from_ s q2) q2) := Lib.hid (by rw [HKD.out, if_neg h6])
          clear h6
          gi_wp2_with (refine ⟨trivial, ?_⟩; gi_at_call 73; refine (callsIn_wide.2 (HBL.out _)).mono ?_; rintro e W3 ⟨rfl, rfl⟩)
          go_roundw
          case rel => exact ⟨k + 1, q2, hq2, rfl, HKE, hJ'⟩
          case measure => simp [intOf]; omega
      · gi_wp2
        refine bodyPost_ret (results_none rfl _ _ _) rfl ?_
        exact ⟨⟨_, rfl⟩, .inr ⟨k + 1, by rw [List.length_map]; omega, hJx'⟩⟩
    · have hqe : q = s.size := by omega
      have hend : from_ s q = [] := from_ge s q (by omega)
      have HKC : Hid (L.drop k = [⟨5, [], q⟩]) := Lib.hid (by rw [HK.out, hend, toksP_nil])
      have hkl : k < L.length := by
        rcases Nat.lt_or_ge k L.length with h | h
        · exact h
        · have := HKC.out; rw [List.drop_eq_nil_of_le h] at this; cases this
      have hll : L.length = k + 1 := by
        have := congrArg List.length HKC.out
        rw [List.length_drop] at this
        simp at this
        omega
      have hLk : L[k]? = some ⟨5, [], q⟩ := by
        have := HKC.out
        rw [List.drop_eq_getElem_cons hkl] at this
        rw [List.getElem?_eq_getElem hkl]
        injection this with h1 _
        rw [h1]
      have HLK := Lib.hid hLk
      have HLL := Lib.hid hll
      have hx1 := HS.out k wr wr none (by rw [List.length_map]; exact hkl) hJ (grownBy_refl _ _) (by rintro g o e; cases e)
      obtain ⟨fn, tmps, assign, body, hy, hR⟩ := HY.out k _ (Tk.val ⟨5, [], q⟩) _ (by rw [List.getElem?_map, HLK.out]; rfl) hx1
      rw [show Tk.val ⟨5, [], q⟩ = .agg #[.int .i64 5, .string ⟨#[]⟩, .int .i64 q] from rfl, hqe] at hy
      clear hqe hend hLk hll
      gi_wp2
      refine hR.mono ?_
      rintro e W' ⟨⟨rfl, hJ'⟩ | ⟨rfl, hJx'⟩, _⟩
      · gi_wp2
        go_end0
        exact ⟨⟨_, rfl⟩, .inl (by rw [List.length_map, HLL.out]; exact hJ')⟩
      · gi_wp2
        go_end0
        exact ⟨⟨_, rfl⟩, .inr ⟨k + 1, by rw [List.length_map]; omega, hJx'⟩⟩
end Go.Proofs.YtgeaccoobhigcaaGreat
namespace Go.Proofs.YtgeaccoobhigcaaGreat
open Go Go.RowKit
attribute [local go_sem] Oper.semAt_some
theorem below_putObj {W : World} {l n₀ : Nat} (o : Obj) (h : n₀ ≤ l) : Below n₀ W (W.putObj l o) :=
  ⟨rfl, rfl, rfl, by simp, fun k hk => World.putObj_heap_other (by omega)⟩
theorem below_of_grown {A B : World} {n₀ : Nat} (hg : A.grownBy B none) (h : n₀ ≤ A.heap.size) : Below n₀ A B := ⟨hg.os, hg.tape, hg.output, hg.size, fun k hk => hg.block k (by omega) (by simp)⟩
theorem take_snoc' {α : Type} {l : List α} {k : Nat} {x : α} (h : l[k]? = some x) : l.take (k + 1) = l.take k ++ [x] := by
  rw [List.take_add_one, h]; rfl
/-- A token's cells. -/
def Tk.cells (t : Tk) : List Value := [.int .i64 t.kind, strV t.text, .int .i64 t.pos]
def cellsT (l : List Tk) : List Value := l.flatMap Tk.cells
theorem cellsT_snoc (l : List Tk) (x : Tk) : cellsT (l ++ [x]) = cellsT l ++ x.cells := by simp [cellsT]
theorem Tryz.info58 : (Tryz.prog.info? 58).map (fun i => (i.zero, i.size, i.bytes)) = some (some (.agg #[.int .i64 0, .string ⟨#[]⟩, .int .i64 0]), 3, 32) := by kernel_rfl
theorem toksF_length : ∀ (f : Nat) (l : Bs) (p : Nat), (toksF f l p).length ≤ f
  | 0, _, _ => by simp [toksF]
  | f + 1, [], p => by rw [toksF_nil]; simp
  | f + 1, c :: r, p => by
    rw [toksF_cons]
    split
    · simp
    · have := toksF_length f (past ((c :: r).drop (nextT (c :: r)).len)) (p + (nextT (c :: r)).len + skipN false ((c :: r).drop (nextT (c :: r)).len))
      simp only [List.length_cons]; omega
theorem toks_length (l : Bs) : (toks l).length ≤ l.length + 1 := by
  have := toksF_length ((past l).length + 1) (past l) (skipN false l)
  have := past_len l
  unfold toks toksP
  omega
theorem own_lt {W : World} {base : Nat} {e : TypeId} {size n : Nat} {v : Value} {xs : List Value} (h : W.ownsRow base e size v n xs) {g : Nat} (hg : v.ownBlock = some g) : base ≤ g ∧ g < W.heap.size := by
  rcases h.2 with ⟨rfl, _⟩ | ⟨g', cap, cur, rfl, hb, hh, _⟩
  · simp [Value.ownBlock] at hg
  · have : g' = g := by simpa [Value.ownBlock] using hg
    subst this
    exact ⟨hb, lt_of_block hh⟩
/-- What a loop that collects tokens keeps. -/
structure Coll (w : World) (nb Bt : Nat) (s : ByteArray) (l D B0 : Nat) (rec : Loop) (vals : List Tk) (k : Nat) (p : Option (Nat × Obj)) (A : World) : Prop where
  need : Boxed A Bt 9 (.string s)
  bel : Below w.heap.size w A
  loop : A.heap[l]? = some (.loop rec)
  dfr : A.heap[D]? = some (.deferred (some []))
  nl : nb ≤ A.heap.size
  sd : w.heap.size ≤ B0 ∧ B0 < nb ∧ Bt < nb ∧ Bt ≠ B0 ∧ nb ≤ D ∧ D < l
  box : ∃ v, Boxed A B0 75 v ∧ A.ownsRow nb 58 3 v k (cellsT (vals.take k)) ∧ ∀ g o, p = some (g, o) → v.ownBlock ≠ some g
  shut : Shut p A
  off : ∀ g o, p = some (g, o) → g ≠ l ∧ g ≠ D ∧ g ≠ B0
section
variable {w : World} {nb Bt : Nat} {s : ByteArray} {l D B0 : Nat} {rec rec' : Loop} {vals : List Tk} {k : Nat} {p : Option (Nat × Obj)} {A B : World}
theorem Coll.more (h : Coll w nb Bt s l D B0 rec vals k p A) (hg : A.grownBy B none) : Coll w nb Bt s l D B0 rec vals k p B := by
  obtain ⟨v, hv, ho, hp⟩ := h.box
  have hb : Below w.heap.size A B := below_of_grown hg h.bel.size
  refine ⟨h.need.kept hg (by simp), h.bel.trans hb, (hg.block l (lt_of_block h.loop) (by simp)).trans h.loop, (hg.block D (lt_of_block h.dfr) (by simp)).trans h.dfr,
    Nat.le_trans h.nl hg.size, h.sd, ⟨v, hv.kept hg (by simp), ho.kept hg ?_, hp⟩, fun g o e => (hg.block g (lt_of_block (h.shut g o e)) (by simp)).trans (h.shut g o e), h.off⟩
  cases v.ownBlock <;> simp
theorem Coll.shutNew (h : Coll w nb Bt s l D B0 rec vals k none A) (hg : A.grownBy B none) (p : Option (Nat × Obj)) (hp : ∀ g o, p = some (g, o) → A.heap.size ≤ g ∧ B.heap[g]? = some o) :
    Coll w nb Bt s l D B0 rec vals k p B := by
  obtain ⟨h1, h2, h3, h4, h5, h6, ⟨v, hv, ho, _⟩, _, _⟩ := h.more hg
  obtain ⟨v', hv', ho', _⟩ := h.box
  have evv : v' = v := by
    have e1 := (hg.block B0 hv'.lt (by simp)).trans hv'
    have e2 := e1.symm.trans hv
    injection e2 with e2
    injection e2 with e2 _
    simpa using e2
  subst evv
  refine ⟨h1, h2, h3, h4, h5, h6, ⟨v', hv, ho, fun g o e e2 => ?_⟩, fun g o e => (hp g o e).2, fun g o e => ?_⟩
  · have := (own_lt ho' e2).2
    have := (hp g o e).1
    omega
  · have := (hp g o e).1
    have := lt_of_block h.loop
    have := lt_of_block h.dfr
    have := hv'.lt
    omega
theorem Coll.turn (h : Coll w nb Bt s l D B0 rec vals k p A) : Coll w nb Bt s l D B0 rec' vals k p (A.putObj l (.loop rec')) := by
  obtain ⟨v, hv, ho, hp⟩ := h.box
  have sd := h.sd
  have hb : Below w.heap.size A (A.putObj l (.loop rec')) := below_putObj _ (by omega)
  refine ⟨h.need.kept (grownBy_putObj' _ _ _) (fun e => by cases e; omega), h.bel.trans hb, World.putObj_heap_same (lt_of_block h.loop), (World.putObj_heap_other (by omega)).trans h.dfr,
    by simpa using h.nl, h.sd, ⟨v, hv.kept (grownBy_putObj' _ _ _) (fun e => by cases e; omega), ownsRow_putObj ho _ h.loop rfl, hp⟩, fun g o e => (World.putObj_heap_other (h.off g o e).1).trans (h.shut g o e), h.off⟩
/-- What an append onto the row in the box leaves as it was. -/
theorem app_same {tmp : Obj} {w1 : World} {v v' : Value} (hgrow : (A.alloc tmp).grownBy w1 v.ownBlock) {g : Nat} (hg : g < A.heap.size) (h0 : g ≠ B0) (hv : v.ownBlock ≠ some g) :
    (w1.setCell ⟨B0, 0, none⟩ v').heap[g]? = A.heap[g]? :=
  (Below.heap_setCell _ _ _ _ h0).trans ((hgrow.block g (by simp; omega) (fun e => hv e.symm)).trans (Below.heap_alloc A tmp g hg))
/-- One more token behind what has come. -/
theorem Coll.step {tmp : Obj} {w1 : World} {v v' : Value} {x : Tk} {m : Nat} (h : Coll w nb Bt s l D B0 rec vals k p A) (hx : vals[k]? = some x) (hv : Boxed A B0 75 v) (ho : A.ownsRow nb 58 3 v k (cellsT (vals.take k)))
    (hp : ∀ g o, p = some (g, o) → v.ownBlock ≠ some g) (hm : m = k + 1)
    (hown' : w1.ownsRow nb 58 3 v' m (cellsT (vals.take k) ++ x.cells)) (hgrow : (A.alloc tmp).grownBy w1 v.ownBlock) :
    Coll w nb Bt s l D B0 rec vals (k + 1) none (w1.setCell ⟨B0, 0, none⟩ v') ∧ Shut p (w1.setCell ⟨B0, 0, none⟩ v') ∧ ∀ g, g < nb → g ≠ B0 → (w1.setCell ⟨B0, 0, none⟩ v').heap[g]? = A.heap[g]? := by
  have sd := h.sd
  subst hm
  have hv1 : Boxed w1 B0 75 v := (hv.alloc tmp).kept hgrow (hv.not_row (by decide) ho)
  have hlow : ∀ g, g < nb → v.ownBlock ≠ some g := fun g hg e => by have := (own_lt ho e).1; omega
  have hcells : ∀ g o, A.heap[g]? = some o → o.isCells = false → v.ownBlock ≠ some g := by
    intro g o hg hc e
    rcases ho.2 with ⟨rfl, _⟩ | ⟨g', cap, cur, rfl, _, hh, _⟩
    · simp [Value.ownBlock] at e
    · have : g' = g := by simpa [Value.ownBlock] using e
      subst this
      rw [hh] at hg
      cases hg
      cases hc
  have hsame : ∀ g, g < A.heap.size → g ≠ B0 → v.ownBlock ≠ some g → (w1.setCell ⟨B0, 0, none⟩ v').heap[g]? = A.heap[g]? := fun g h1 h2 h3 => app_same hgrow h1 h2 h3
  have hnl := h.nl
  have hsz : A.heap.size ≤ (w1.setCell ⟨B0, 0, none⟩ v').heap.size := by
    have := hgrow.size
    simp only [World.size_alloc] at this
    simp [World.setCell]
    omega
  refine ⟨⟨(hsame Bt (by omega) (by omega) (hlow Bt sd.2.2.1)).trans h.need, ?_, (hsame l (lt_of_block h.loop) (by omega) (hcells l _ h.loop rfl)).trans h.loop, (hsame D (lt_of_block h.dfr) (by omega) (hcells D _ h.dfr rfl)).trans h.dfr,
    Nat.le_trans h.nl hsz, h.sd, ⟨v', hv1.set v', ?_, fun g o e => by cases e⟩, fun g o e => (by cases e), fun g o e => (by cases e)⟩, fun g o e => ?_, fun g h1 h2 => hsame g (by omega) h2 (hlow g h1)⟩
  · refine h.bel.trans ⟨?_, ?_, ?_, hsz, fun g hg => hsame g (by have := h.bel.size; omega) (by omega) (hlow g (by omega))⟩
    · exact hgrow.os
    · exact hgrow.tape
    · exact hgrow.output
  · rw [take_snoc' hx, cellsT_snoc]
    exact hown'.kept (grownBy_setCell' w1 B0 v') (.inr (hv1.not_row (by decide) hown').symm)
  · have hg := h.shut g o e
    exact (hsame g (lt_of_block hg) (h.off g o e).2.2 (hp g o e)).trans hg
end
/-- A row that the call owns reads as a slice. -/
theorem SlR.of_owns {w : World} {base : Nat} {e : TypeId} {size : Nat} {v : Value} {n : Nat} {cs : List Value} (h : w.ownsRow base e size v n cs) :
    ∃ go c, v = .slice go n c ∧ SlR w size go n c cs ∧ ∀ a, go = some a → base ≤ a.block := by
  rcases h.2 with ⟨rfl, rfl⟩ | ⟨g, cap, cur, rfl, hb, hg, hn, hc, hsz, htake⟩
  · have : cs = [] := List.eq_nil_of_length_eq_zero (by rw [h.1]; simp)
    subst this
    exact ⟨none, 0, rfl, SlR.nil w size, by simp⟩
  · refine ⟨some ⟨g, 0, none⟩, cap, rfl, ⟨h.1, hn, hc, by simp, ?_⟩, by intro a ha; cases ha; exact hb⟩
    intro a ha
    cases ha
    refine CellsAt.of_block hg 0 _ ?_
    intro j u hj
    rw [← htake, List.getElem?_take] at hj
    split at hj
    · rw [Nat.zero_add]; simpa using hj
    · cases hj
end Go.Proofs.YtgeaccoobhigcaaGreat
namespace Go.Proofs.YtgeaccoobhigcaaGreat
open Go Go.RowKit
theorem cellsT_length (L : List Tk) : (cellsT L).length = L.length * 3 := by
  induction L with
  | nil => rfl
  | cons x r ih => simp only [cellsT, List.flatMap_cons, List.length_append, List.length_cons] at ih ⊢; rw [ih]; simp [Tk.cells]; omega
theorem cellsT_at {L : List Tk} {k : Nat} {t : Tk} (h : L[k]? = some t) : (cellsT L)[k * 3]? = some (.int .i64 t.kind) ∧ (cellsT L)[k * 3 + 1]? = some (strV t.text) ∧ (cellsT L)[k * 3 + 2]? = some (.int .i64 t.pos) := by
  have hk : k < L.length := (List.getElem?_eq_some_iff.1 h).1
  have e : cellsT L = cellsT (L.take k) ++ (t.cells ++ cellsT (L.drop (k + 1))) := by
    have h1 : L = L.take k ++ t :: L.drop (k + 1) := by
      have h2 := List.getElem?_eq_some_iff.1 h
      obtain ⟨h3, h4⟩ := h2
      rw [← h4, ← List.drop_eq_getElem_cons h3, List.take_append_drop]
    conv => lhs; rw [h1]
    simp [cellsT]
  have hl : (cellsT (L.take k)).length = k * 3 := by rw [cellsT_length, List.length_take, Nat.min_eq_left (by omega)]
  rw [e]
  refine ⟨?_, ?_, ?_⟩
  · rw [List.getElem?_append_right (by omega), hl, Nat.sub_self]; rfl
  · rw [List.getElem?_append_right (by omega), hl, show k * 3 + 1 - k * 3 = 1 by omega]; rfl
  · rw [List.getElem?_append_right (by omega), hl, show k * 3 + 2 - k * 3 = 2 by omega]; rfl
/-- A token's cells in a slice that reads them. -/
theorem SlR.tok {w : World} {ao : Option Addr} {n c : Nat} {L : List Tk} {k : Nat} {t : Tk} (h : SlR w 3 ao n c (cellsT L)) (hk : L[k]? = some t) :
    ∃ g o, ao = some ⟨g, o, none⟩ ∧ w.cell? ⟨g, o + k * 3, none⟩ = some (.int .i64 t.kind) ∧ w.cell? ⟨g, o + k * 3 + 1, none⟩ = some (strV t.text) ∧ w.cell? ⟨g, o + k * 3 + 2, none⟩ = some (.int .i64 t.pos) := by
  obtain ⟨h0, h1, h2⟩ := cellsT_at hk
  have hn : 0 < n := by
    have hk' : k < L.length := (List.getElem?_eq_some_iff.1 hk).1
    have := h.1
    rw [cellsT_length] at this
    omega
  cases ao with
  | none => have := h.2.2.2.1 rfl; have := h.2.1; omega
  | some a =>
    have ha := h.2.2.2.2 a rfl
    have c0 := ha _ _ h0
    have hs : a.spot = none := by
      have hl : 0 < (cellsT L).length := by rw [h.1]; omega
      have h00 := ha 0 _ (List.getElem?_eq_getElem hl)
      rw [addr_add_zero] at h00
      exact World.cell?_spot h00
    obtain ⟨g, o, sp⟩ := a
    simp only at hs
    subst hs
    have c1 := ha _ _ h1
    have c2 := ha _ _ h2
    rw [addr_add_lit] at c0 c1 c2
    exact ⟨g, o, rfl, c0, by rw [Nat.add_assoc]; exact c1, by rw [Nat.add_assoc]; exact c2⟩
end Go.Proofs.YtgeaccoobhigcaaGreat
namespace Go.Proofs.YtgeaccoobhigcaaGreat
open Go Go.RowKit
attribute [local go_sem] Oper.semAt_some
/-- lex.Tokens: an iterator over the text. -/
theorem tokens_any (s : ByteArray) (w : World) :
    Calls Tryz.prog 48 #[.string s] w fun e w' => e = .returned (.func (.func 72) #[] #[.pointer (some ⟨w.heap.size, 0, none⟩)]) ∧ w' = w.alloc (.cells #[.string s] 9) := by
  go_enter Tryz.func48, Tryz.ntmps48
  go_wp2
  go_ret
  exact ⟨rfl, rfl⟩
set_option maxRecDepth 100000 in
theorem eg56 (args : Array Value) (w : World) : (callFunc 72 args).run Tryz.prog w = .ok (.enter 72 args) w := rfl
/-- ONE ROUND, the busy record under a name. -/
theorem rf_round2 {m : Nat} {P : Program} {l D : Nat} {fn : FuncId} {tmps : Array Value} {ps : Array Tmp} {assign body : Code} {args : Array Value} {W : World} {R : Ending → World → Prop}
    (hl : W.heap[l]? = some (.loop (rfRec fn tmps ps assign body D .ready none))) (hps : args.size = ps.size)
    (H : ∀ rb, assign.wpIn (Fence.wide.inRound l) m P (Exit.then (fun a₁ W1 => W1.heap[l]? = some (.loop (rfRec fn tmps ps assign body D .ready none)) ∧
        body.wpIn (Fence.wide.inRound l) m P (rfEnd l rb (rfRec fn tmps ps assign body D) R) a₁ (W1.putObj l (.loop rb))) (fun _ _ _ => False))
      { tmps := (ps.zip args).foldl (fun t (p, v) => t.setIfInBounds p v) tmps, defers := [] } W) :
    YieldAt Fence.wide m P l args W R := rf_round hl hps (H _)
theorem row3_new (W : World) (a b c : Value) (t : TypeId) : ∀ j u, [a, b, c][j]? = some u → (W.alloc (.cells #[a, b, c] t)).cell? ((⟨W.heap.size, 0, none⟩ : Addr).add j) = some u :=
  CellsAt.of_block (heap_alloc_new W _) 0 _ (by intro j u h; simpa using h)
set_option maxHeartbeats 2000000 in
theorem lexAll_any (s : ByteArray) (hs : s.size ≤ 1099511627776) (w : World) :
    Calls Tryz.prog 26 #[.string s] w fun e w' => ∃ go c, e = .returned (.slice go (toks s.data.toList).length c) ∧ SlR w' 3 go (toks s.data.toList).length c (cellsT (toks s.data.toList)) ∧
      (∀ a, go = some a → w.heap.size ≤ a.block) ∧ Below w.heap.size w w' := by
  obtain ⟨i0, hi, hz0, hz1, hz2⟩ := info_parts Tryz.info58
  have hlen := toks_length s.data.toList
  rw [size_toList] at hlen
  have hitr := fun Bt => tokens_iter Bt s hs
  generalize toks s.data.toList = L at hlen hitr ⊢
  refine (callsIn_wide (n := 10)).1 ?_
  refine callsIn_of_wp_marks Tryz.func26 rfl trivial ?_
  simp only [Tryz.ntmps26, List.size_toArray, List.length_cons, List.length_nil, Nat.reduceAdd, Nat.reduceSub, Array.replicate_succ, Array.replicate_zero, List.push_toArray, List.append_toArray, List.nil_append, List.cons_append]
  gi_wp2_with (refine ⟨trivial, ?_⟩; gi_at_call 48; refine (callsIn_wide.2 (tokens_any _ _)).mono ?_; rintro e W1 ⟨rfl, rfl⟩)
  have hbox : Boxed ((w.alloc (.cells #[.slice none 0 0] 75)).alloc (.cells #[.string s] 9)) w.heap.size 75 (.slice none 0 0) := (Boxed.new w 75 (.slice none 0 0)).alloc _
  have htx : Boxed ((w.alloc (.cells #[.slice none 0 0] 75)).alloc (.cells #[.string s] 9)) (w.heap.size + 1) 9 (.string s) := by
    have := Boxed.new (w.alloc (.cells #[.slice none 0 0] 75)) 9 (.string s); rwa [World.size_alloc] at this
  have hbel : Below w.heap.size w ((w.alloc (.cells #[.slice none 0 0] 75)).alloc (.cells #[.string s] 9)) := ((Below.refl _ w).alloc (Nat.le_refl _) _).alloc (by simp) _
  have hsz : ((w.alloc (.cells #[.slice none 0 0] 75)).alloc (.cells #[.string s] 9)).heap.size = w.heap.size + 2 := by simp
  generalize (w.alloc (.cells #[.slice none 0 0] 75)).alloc (.cells #[.string s] 9) = w0 at hbox htx hbel hsz ⊢
  refine rf_stmt (gf := 72) (lb := #[.pointer (some ⟨w.heap.size + 1, 0, none⟩)]) rfl eg56 ?_
  rw [hsz]
  intro fn W1 hb1 hs1 hd1 hl1
  have hB1 : Boxed W1 w.heap.size 75 (.slice none 0 0) := (hb1.block _ (by omega)).trans hbox
  have hT1 : Boxed W1 (w.heap.size + 1) 9 (.string s) := (hb1.block _ (by omega)).trans htx
  have hbw : Below w.heap.size w W1 := hbel.trans (hb1.mono (by omega))
  generalize hrec : rfRec fn _ _ _ _ (w.heap.size + 2) .ready none = rec at hl1
  have sd : w.heap.size ≤ w.heap.size ∧ w.heap.size < w.heap.size + 2 ∧ w.heap.size + 1 < w.heap.size + 2 ∧ w.heap.size + 1 ≠ w.heap.size ∧ w.heap.size + 2 ≤ w.heap.size + 2 ∧ w.heap.size + 2 < w.heap.size + 2 + 1 := by omega
  generalize hBt : w.heap.size + 1 = Bt at *
  generalize hD : w.heap.size + 2 = D at *
  generalize hl : D + 1 = l at *
  refine (callsIn_wide.2 (hitr Bt 5 l
    (fun k A => Coll w D Bt s l D w.heap.size rec L k none A)
    (fun k p A => Coll w D Bt s l D w.heap.size rec L k p A)
    (fun _ _ => False) W1
    (fun k A h => h.need.cell)
    (fun k A B p _ h hg hp => h.shutNew hg p hp)
    (fun k A B h hg => h.more hg)
    (fun _ _ _ h _ => h)
    (fun k p x A hx h => ?_)
    ⟨hT1, hbw, hl1, hd1, by omega, sd, ⟨_, hB1, World.ownsRow_nil _ _ _ _, by intro g o e; cases e⟩, fun g o e => (by cases e), fun g o e => (by cases e)⟩)).mono ?_
  · have hlr := h.loop
    subst hrec
    obtain ⟨t, hLk, rfl⟩ : ∃ t : Tk, L[k]? = some t ∧ x = t.val := by
      rw [List.getElem?_map] at hx
      cases hxk : L[k]? with
      | none => simp [hxk] at hx
      | some q => exact ⟨q, rfl, by simpa [hxk] using hx.symm⟩
    obtain ⟨kd, tx, ps⟩ := t
    rw [show Tk.val ⟨kd, tx, ps⟩ = .agg #[.int .i64 kd, .string ⟨tx.toArray⟩, .int .i64 ps] from rfl]
    refine rf_round2 hlr rfl ?_
    intro rb
    have HLK := Lib.hid hLk
    clear hx hLk
    gi_wp2
    have h1 := h.more (World.grownBy_alloc A (.cells #[.int .i64 kd, .string ⟨tx.toArray⟩, .int .i64 ps] 58) none)
    have ht : (A.alloc (.cells #[.int .i64 kd, .string ⟨tx.toArray⟩, .int .i64 ps] 58)).heap[A.heap.size]? = some (.cells #[.int .i64 kd, .string ⟨tx.toArray⟩, .int .i64 ps] 58 (0, 0)) := heap_alloc_new A _
    refine ⟨h1.loop, ?_⟩
    have hAl : A.heap.size ≠ l := by have := lt_of_block h.loop; omega
    have h2 := h1.turn (rec' := rb)
    have ht2 : ((A.alloc (.cells #[.int .i64 kd, .string ⟨tx.toArray⟩, .int .i64 ps] 58)).putObj l (.loop rb)).heap[A.heap.size]? = _ := (World.putObj_heap_other hAl).trans ht
    have hnl := h.nl
    have hpo := h.off
    have hsA : A.heap.size < ((A.alloc (.cells #[.int .i64 kd, .string ⟨tx.toArray⟩, .int .i64 ps] 58)).putObj l (.loop rb)).heap.size := by simp
    generalize (A.alloc (.cells #[.int .i64 kd, .string ⟨tx.toArray⟩, .int .i64 ps] 58)).putObj l (.loop rb) = A2 at h2 ht2 hsA ⊢
    have hc0 : A2.cell? ⟨A.heap.size, 0, none⟩ = some (.int .i64 kd) := by rw [cell_of_row _ _ _ _ _ _ ht2]; rfl
    have hc1 : A2.cell? ⟨A.heap.size, 1, none⟩ = some (.string ⟨tx.toArray⟩) := by rw [cell_of_row _ _ _ _ _ _ ht2]; rfl
    have hc2 : A2.cell? ⟨A.heap.size, 2, none⟩ = some (.int .i64 ps) := by rw [cell_of_row _ _ _ _ _ _ ht2]; rfl
    obtain ⟨v, hv, ho, hpv⟩ := h2.box
    have hvc := hv.cell
    have hlk : k < L.length := by
      have := HLK.out
      exact (List.getElem?_eq_some_iff.1 this).1
    have hnl2 := h2.nl
    clear ht ht2 h1
    gi_wp2_with (gi_at_builtin; refine wpListIn_append_own _ rfl _ _ 75 rfl D 58 i0 (.agg #[.int .i64 0, .string ⟨#[]⟩, .int .i64 0]) 3 32 Tryz.underlying75 hi hz0 hz1 hz2 rfl (by decide) _ _ _ rfl (ho.alloc _) ⟨A2.heap.size, 0, none⟩ 1 1 [.int .i64 kd, .string ⟨tx.toArray⟩, .int .i64 ps] rfl rfl (row3_new _ _ _ _ _) (by simp [Value.oneCell']) (by unfold maxLen; omega) (by omega) (by simp; omega) ?_; intro v' w1 hown' hgrow _; obtain ⟨g', cap', rfl⟩ := ownsRow_succ hown'; have hv1 := (hv.alloc (.cells #[.int .i64 kd, .string ⟨tx.toArray⟩, .int .i64 ps] 58)).kept hgrow (hv.not_row (by decide) ho); have hvc1 := hv1.cell; have hvf1 := hv1.frozen)
    obtain ⟨h3, hsh3, _⟩ := h2.step (x := ⟨kd, tx, ps⟩) HLK.out hv ho hpv rfl hown' hgrow
    exact ⟨h3.loop, ⟨rfl, h3.turn⟩, fun g o e => (World.putObj_heap_other (hpo g o e).1).trans (hsh3 g o e)⟩
  · rintro e W2 ⟨hv, hc | ⟨_, _, hf⟩⟩
    · have hlr := hc.loop
      subst hrec
      refine ⟨hv, .ready, none, by simp, hlr, ?_⟩
      intro re
      have hc2 := hc.turn (rec' := re)
      dsimp only
      generalize W2.putObj _ _ = W3 at hc2 ⊢
      clear hc hlr
      obtain ⟨v, hv, ho, _⟩ := hc2.box
      have hvc := hv.cell
      have hDr := hc2.dfr
      have hbl := hc2.bel
      rw [List.length_map] at ho
      gi_wp2
      refine ⟨by simp, .inl ⟨_, _, rfl, run_takeDeferred hDr, ?_⟩⟩
      refine ⟨_, results_tmp rfl _ _ _, ?_⟩
      obtain ⟨go, c, rfl, hsl, hbk⟩ := SlR.of_owns (ownsRow_putObj ho (.deferred none) hDr rfl)
      rw [List.take_of_length_le (Nat.le_refl _)] at hsl
      exact ⟨go, c, by simp, hsl, fun a ha => by have := hbk a ha; omega, hbl.trans (below_putObj _ (by omega))⟩
    · exact hf.elim
end Go.Proofs.YtgeaccoobhigcaaGreat
namespace Go.Proofs.YtgeaccoobhigcaaGreat
open Go Go.RowKit
set_option maxHeartbeats 400000 in
theorem within_any (v n : Int) (w : World) (h1 : 1 ≤ n) (h2 : n ≤ 9223372036854775807) :
    Calls Tryz.prog 15 #[.int .i64 v, .int .i64 n] w fun e w' => e = .returned (.int .i64 (v % n)) ∧ w = w' := by
  have e1 : v.tmod n < 0 → v.tmod n + n = v % n := fun h => by
    have := Int.tmod_eq_emod (a := v) (b := n)
    rw [Int.tmod_eq_emod] at h ⊢
    split at h
    · have := Int.emod_nonneg v (show n ≠ 0 by omega); omega
    · rename_i hc; rw [if_neg hc]; omega
  have e2 : ¬ v.tmod n < 0 → v.tmod n = v % n := fun h => by
    rw [Int.tmod_eq_emod] at h ⊢
    split
    · omega
    · rename_i hc
      rw [if_neg hc] at h
      have := Int.emod_lt_of_pos v (show 0 < n by omega)
      omega
  have lo : -n < v.tmod n := Int.lt_tmod_of_pos v (by omega)
  have hi : v.tmod n < n := Int.tmod_lt_of_pos v (by omega)
  obtain ⟨t, ht⟩ : ∃ t, t = v.tmod n := ⟨_, rfl⟩
  have hnn : ¬ n < 1 := by omega
  rw [← ht] at e1 e2 lo hi
  have E1 := Lib.hid e1; clear e1
  have E2 := Lib.hid e2; clear e2
  replace ht : v.tmod n = t := ht.symm
  by_cases hc : t < 0
  · go_enter Tryz.func15, Tryz.ntmps15
    go_wp2
    go_ret
    exact ⟨ret_int (E1.out hc), rfl⟩
  · go_enter Tryz.func15, Tryz.ntmps15
    go_wp2
    go_ret
    exact ⟨ret_int (E2.out hc), rfl⟩
end Go.Proofs.YtgeaccoobhigcaaGreat
