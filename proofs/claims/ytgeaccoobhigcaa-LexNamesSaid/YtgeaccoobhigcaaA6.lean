/-
  The walk of sym.Parse over numbers.
-/
import Derived.Test.YtgeaccoobhigcaaA5
import Derived.Below
namespace Go.Proofs.Ytgeaccoobhigcaa
open Go.RowKit

/-- Is it a number's text, within the bounds? -/
def numT (l : Bs) : Bool := readOk l && decide (valN 0 (bodyT l) ≤ 2147483647)
def symV (k : Int) (t : Bs) (n : Int) : Value := .agg #[.int .i64 k, strV t, .int .i64 n]

theorem valN_ge : ∀ (l : Bs) (n : Nat), n ≤ valN n l
  | [], n => Nat.le_refl _
  | c :: r, n => by have := valN_ge r (10 * n + (c.toNat - 48)); unfold valN; omega
theorem valN_nil (n : Nat) : valN n [] = n := rfl
theorem valN_cons (n : Nat) (c : UInt8) (r : Bs) : valN n (c :: r) = valN (10 * n + (c.toNat - 48)) r := by
  generalize hd : 10 * n + (c.toNat - 48) = d
  conv => lhs; unfold valN
  simp only [hd]
theorem val_zero (l : Bs) (h : numForm l = true) : (valN 0 l = 0) ↔ headIs 48 l = true := by
  unfold numForm at h
  cases l with
  | nil => simp at h
  | cons c r =>
    rw [valN_cons]
    generalize hd : 10 * 0 + (c.toNat - 48) = d
    simp only [Bool.and_eq_true, decide_eq_true_eq, Bool.not_eq_true', List.all_cons, headIs, List.length_cons, Bool.and_eq_false_iff, decide_eq_false_iff_not] at h ⊢
    obtain ⟨⟨⟨h0, h1⟩, h2⟩, h3, h4⟩ := h
    have h3' : 48 ≤ c.toNat ∧ c.toNat ≤ 57 := by unfold digitB at h3; exact of_decide_eq_true h3
    constructor
    · intro hv
      have hg := valN_ge r d
      omega
    · intro hc
      have hr : r = [] := by
        rcases h2 with h2 | h2
        · exact absurd hc h2
        · exact List.eq_nil_of_length_eq_zero (by omega)
      subst hr
      have : d = 0 := by omega
      subst this
      rw [valN_nil]

theorem numT_neg (s : ByteArray) (h0 : 0 < s.size) (hh : s[0].toNat = 45) : numT s.data.toList = (numOk 2147483647 (s.extract 1 s.size).data.toList && !(decide (valN 0 (s.extract 1 s.size).data.toList = 0))) ∧ readV s.data.toList = - (valN 0 (s.extract 1 s.size).data.toList : Int) := by
  have hn : headIs 45 s.data.toList = true := by rw [headIs_eq s 45 h0]; simpa using hh
  have hb : bodyT s.data.toList = (s.extract 1 s.size).data.toList := by rw [from_tail s h0]; unfold bodyT; rw [hn]; rfl
  refine ⟨?_, by unfold readV; rw [hn, hb]; rfl⟩
  unfold numT readOk
  rw [hn, hb, numOk_eq]
  generalize (s.extract 1 s.size).data.toList = l
  rcases hF : numForm l with _ | _
  · simp
  · have := val_zero l hF
    rw [Bool.eq_iff_iff]
    simp
    rw [this, Bool.not_eq_true]
    exact and_comm
theorem numT_pos (s : ByteArray) (h0 : 0 < s.size) (hh : s[0].toNat ≠ 45) : numT s.data.toList = numOk 2147483647 s.data.toList ∧ readV s.data.toList = (valN 0 s.data.toList : Int) := by
  have hn : headIs 45 s.data.toList = false := by rw [headIs_eq s 45 h0]; simpa using hh
  have hb : bodyT s.data.toList = s.data.toList := by unfold bodyT; rw [hn]; rfl
  refine ⟨?_, by unfold readV; rw [hn, hb]; rfl⟩
  unfold numT readOk
  rw [hn, hb, numOk_eq]
  simp

theorem wordB_no3 (s : ByteArray) (h0 : 0 < s.size) (hh : digitB s[0] = true ∨ s[0].toNat = 45) : wordB s.data.toList = false := by
  refine wordB_no2 s h0 ?_
  simp [digitB, smallB] at hh ⊢
  omega

theorem number_lit (s : ByteArray) (hs : s.size ≤ 1099511627776) (w : World) :
    Calls Try.prog 125 #[.string s, .int .i64 2147483647] w fun e w' => (∃ n : Nat, e = .returned (.tuple #[.int .i64 n, .bool (numOk 2147483647 s.data.toList)]) ∧ (numOk 2147483647 s.data.toList = true → n = valN 0 s.data.toList)) ∧ w' = w := by
  have h := number_any s 2147483647 hs (Nat.le_refl _) w
  rwa [show ((2147483647 : Nat) : Int) = 2147483647 from by decide] at h

def parsed (ok : Bool) (k : Int) (t : Bs) (n : Int) : Value := if ok then .tuple #[symV k t n, .bool true] else .tuple #[symV 0 [] 0, .bool false]

set_option maxHeartbeats 2000000 in
theorem parse_num (s : ByteArray) (hs : s.size ≤ 1099511627776) (h0 : 0 < s.size) (hh : digitB s[0] = true ∨ s[0].toNat = 45) (w : World) :
    Calls Try.prog 94 #[.string s] w fun e w' => e = .returned (parsed (numT s.data.toList) 2 [] (readV s.data.toList)) ∧ Below w.heap.size w w' := by
  have hw := wordB_no3 s h0 hh
  have hne : (s.toList == []) = false := by
    rw [ByteArray.toList_eq, toList_cons s h0]; rfl
  have hgr : decide (65 ≤ s[0].toNat ∧ s[0].toNat ≤ 90) = false := by
    simp [digitB] at hh ⊢; omega
  have hcw : ∀ w, Calls Try.prog 100 #[.string s] w fun e w' => e = .returned (.bool false) ∧ w' = w := fun w => by have := word_any s hs w; rw [hw] at this; exact this
  have HCW := Lib.hid hcw
  clear hw hcw
  by_cases h45 : s[0].toNat = 45
  · have e45 : ((s[0].toNat : Int) == 45) = true := by simp; omega
    obtain ⟨hT, hV⟩ := numT_neg s h0 h45
    have hz := extract1_size s
    have hn := number_lit (s.extract 1 s.size) (by rw [hz]; omega)
    have hbd : numOk 2147483647 (s.extract 1 s.size).data.toList = true → valN 0 (s.extract 1 s.size).data.toList ≤ 2147483647 := by
      rw [numOk_eq]; simp
    generalize hok : numOk 2147483647 (s.extract 1 s.size).data.toList = ok at hT hn hbd
    generalize hvl : valN 0 (s.extract 1 s.size).data.toList = v at hT hV hn hbd
    rw [hT, hV]
    clear hT hV hz hh h45 hok hvl
    rcases ok with _ | _
    · have HN : Hid (∀ w, Calls Try.prog 125 #[.string (s.extract 1 s.size), .int .i64 2147483647] w fun e w' => (∃ n : Nat, e = .returned (.tuple #[.int .i64 n, .bool false])) ∧ w' = w) := Lib.hid fun w => (hn w).mono fun e w' ⟨⟨n, h, _⟩, h2⟩ => ⟨⟨n, h⟩, h2⟩
      clear hn hbd
      rw [show parsed (false && !decide (v = 0)) 2 [] (-(v : Int)) = .tuple #[symV 0 [] 0, .bool false] from rfl]
      go_enter Try.func94, Try.ntmps94
      go_wp2_with (first | (go_at_call 100; refine (HCW.out _).mono ?_; rintro e w' ⟨rfl, rfl⟩) | (go_at_call 124; refine (great_any _ _).mono ?_; rintro e w' ⟨rfl, rfl⟩) | (go_at_call 125; refine (HN.out _).mono ?_; rintro e w' ⟨⟨n, rfl⟩, rfl⟩))
      exact bodyPost_ret (v := .tuple #[symV 0 [] 0, .bool false]) (by simp [results, Try.results94, go_sem]; try rfl) rfl ⟨rfl, (Below.refl _ _).alloc (Nat.le_refl _) _⟩
    · have HN : Hid (∀ w, Calls Try.prog 125 #[.string (s.extract 1 s.size), .int .i64 2147483647] w fun e w' => e = .returned (.tuple #[.int .i64 v, .bool true]) ∧ w' = w) := Lib.hid fun w => (hn w).mono fun e w' ⟨⟨n, h, h1⟩, h2⟩ => ⟨by rw [h, h1 rfl], h2⟩
      have hb := hbd rfl
      clear hn hbd
      by_cases hv0 : v = 0
      · subst hv0
        rw [show parsed (true && !decide (0 = 0)) 2 [] (-((0 : Nat) : Int)) = .tuple #[symV 0 [] 0, .bool false] from rfl]
        go_enter Try.func94, Try.ntmps94
        go_wp2_with (first | (go_at_call 100; refine (HCW.out _).mono ?_; rintro e w' ⟨rfl, rfl⟩) | (go_at_call 124; refine (great_any _ _).mono ?_; rintro e w' ⟨rfl, rfl⟩) | (go_at_call 125; refine (HN.out _).mono ?_; rintro e w' ⟨rfl, rfl⟩))
        exact bodyPost_ret (v := .tuple #[symV 0 [] 0, .bool false]) (by simp [results, Try.results94, go_sem]; try rfl) rfl ⟨rfl, (Below.refl _ _).alloc (Nat.le_refl _) _⟩
      · rw [show parsed (true && !decide (v = 0)) 2 [] (-(v : Int)) = .tuple #[symV 2 [] (-(v : Int)), .bool true] by simp [hv0, parsed]]
        have hv1 : 0 < v := by omega
        have hve : ((v : Int) == 0) = false := by simp; omega
        clear hv0
        go_enter Try.func94, Try.ntmps94
        go_wp2_with (first | (go_at_call 100; refine (HCW.out _).mono ?_; rintro e w' ⟨rfl, rfl⟩) | (go_at_call 124; refine (great_any _ _).mono ?_; rintro e w' ⟨rfl, rfl⟩) | (go_at_call 125; refine (HN.out _).mono ?_; rintro e w' ⟨rfl, rfl⟩))
        exact bodyPost_ret (v := .tuple #[symV 2 [] (-(v : Int)), .bool true]) (by simp [results, Try.results94, go_sem]; try rfl) rfl ⟨rfl, (Below.refl _ _).alloc (Nat.le_refl _) _⟩
  · have e45 : ((s[0].toNat : Int) == 45) = false := by simp; omega
    obtain ⟨hT, hV⟩ := numT_pos s h0 h45
    have hn := number_lit s hs
    generalize hok : numOk 2147483647 s.data.toList = ok at hT hn
    generalize hvl : valN 0 s.data.toList = v at hV hn
    rw [hT, hV]
    clear hT hV hh h45 hok hvl
    rcases ok with _ | _
    · have HN : Hid (∀ w, Calls Try.prog 125 #[.string s, .int .i64 2147483647] w fun e w' => (∃ n : Nat, e = .returned (.tuple #[.int .i64 n, .bool false])) ∧ w' = w) := Lib.hid fun w => (hn w).mono fun e w' ⟨⟨n, h, _⟩, h2⟩ => ⟨⟨n, h⟩, h2⟩
      clear hn
      rw [show parsed false 2 [] (v : Int) = .tuple #[symV 0 [] 0, .bool false] from rfl]
      go_enter Try.func94, Try.ntmps94
      go_wp2_with (first | (go_at_call 100; refine (HCW.out _).mono ?_; rintro e w' ⟨rfl, rfl⟩) | (go_at_call 124; refine (great_any _ _).mono ?_; rintro e w' ⟨rfl, rfl⟩) | (go_at_call 125; refine (HN.out _).mono ?_; rintro e w' ⟨⟨n, rfl⟩, rfl⟩))
      exact bodyPost_ret (v := .tuple #[symV 0 [] 0, .bool false]) (by simp [results, Try.results94, go_sem]; try rfl) rfl ⟨rfl, (Below.refl _ _).alloc (Nat.le_refl _) _⟩
    · have HN : Hid (∀ w, Calls Try.prog 125 #[.string s, .int .i64 2147483647] w fun e w' => e = .returned (.tuple #[.int .i64 v, .bool true]) ∧ w' = w) := Lib.hid fun w => (hn w).mono fun e w' ⟨⟨n, h, h1⟩, h2⟩ => ⟨by rw [h, h1 rfl], h2⟩
      clear hn
      rw [show parsed true 2 [] (v : Int) = .tuple #[symV 2 [] (v : Int), .bool true] from rfl]
      go_enter Try.func94, Try.ntmps94
      go_wp2_with (first | (go_at_call 100; refine (HCW.out _).mono ?_; rintro e w' ⟨rfl, rfl⟩) | (go_at_call 124; refine (great_any _ _).mono ?_; rintro e w' ⟨rfl, rfl⟩) | (go_at_call 125; refine (HN.out _).mono ?_; rintro e w' ⟨rfl, rfl⟩))
      exact bodyPost_ret (v := .tuple #[symV 2 [] (v : Int), .bool true]) (by simp [results, Try.results94, go_sem]; try rfl) rfl ⟨rfl, (Below.refl _ _).alloc (Nat.le_refl _) _⟩
end Go.Proofs.Ytgeaccoobhigcaa
