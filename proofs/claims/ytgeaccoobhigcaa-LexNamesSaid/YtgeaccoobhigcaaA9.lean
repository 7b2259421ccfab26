/-
  The tokens of a text, and lex.next at any place.
-/
import Derived.Test.YtgeaccoobhigcaaA8
namespace Go.Proofs.Ytgeaccoobhigcaa
open Go.RowKit

theorem nextT_cons (c : UInt8) (r : Bs) : nextT (c :: r) =
    if smallB c then ⟨if 32 < headN partB (c :: r) then 6 else 1, (c :: r).take (headN partB (c :: r)), headN partB (c :: r)⟩
    else if digitB c || (decide (c.toNat = 45) && headDig r) then
      ⟨if numT ((c :: r).take (1 + headN digitB r)) then 2 else 6, (c :: r).take (1 + headN digitB r), 1 + headN digitB r⟩
    else if decide (c.toNat = 60) && headSmall r && headIs 62 (r.drop (headN partB r)) then
      if 32 < headN partB r then ⟨6, (c :: r).take (headN partB r + 2), headN partB r + 2⟩ else ⟨3, r.take (headN partB r), headN partB r + 2⟩
    else signNx c (c :: r) := rfl
theorem headN_pos {p : UInt8 → Bool} {c : UInt8} {r : Bs} (h : p c = true) : 1 ≤ headN p (c :: r) := by simp [headN, h]
theorem signNx_len (c : UInt8) (r : Bs) : 1 ≤ (signNx c (c :: r)).len ∧ (signNx c (c :: r)).len ≤ (c :: r).length := by
  unfold signNx
  split
  · simp
  · rename_i h
    have := (signT_pre (c :: r)).resolve_left h
    exact ⟨by have : (signT (c :: r)).length ≠ 0 := fun e => h (List.eq_nil_of_length_eq_zero e); simp only; omega, this.length_le⟩
theorem headIs_len {n : Nat} {l : Bs} (h : headIs n l = true) : 1 ≤ l.length := by
  cases l with
  | nil => simp [headIs] at h
  | cons => simp
/-- A token takes at least one byte, and no more than there are. -/
theorem nextT_len (c : UInt8) (r : Bs) : 1 ≤ (nextT (c :: r)).len ∧ (nextT (c :: r)).len ≤ (c :: r).length := by
  rw [nextT_cons]
  split
  · rename_i h
    exact ⟨headN_pos (by simp [partB, h]), headN_le _ _⟩
  · split
    · have := headN_le digitB r
      simp only [List.length_cons]
      omega
    · split
      · rename_i h
        have h1 := headN_le partB r
        simp only [Bool.and_eq_true] at h
        have h2 := headIs_len h.2
        rw [List.length_drop] at h2
        split
        · simp only [List.length_cons]; omega
        · simp only [List.length_cons]; omega
      · exact signNx_len c r

/-- A token: its kind, its text, its place. -/
structure Tk where
  kind : Nat
  text : Bs
  pos : Nat
def Tk.val (t : Tk) : Value := tokV t.kind t.text t.pos
/-- What is left behind blanks and remarks. -/
def past (l : Bs) : Bs := l.drop (skipN false l)
def toksF : Nat → Bs → Nat → List Tk
  | 0, _, _ => []
  | f + 1, l, p => if l = [] then [⟨5, [], p⟩] else
    ⟨(nextT l).kind, (nextT l).text, p⟩ :: if (nextT l).kind = 6 then [] else toksF f (past (l.drop (nextT l).len)) (p + (nextT l).len + skipN false (l.drop (nextT l).len))
/-- The tokens of what stands at a place, where no blank stands. -/
def toksP (l : Bs) (p : Nat) : List Tk := toksF (l.length + 1) l p
/-- The tokens of a text. -/
def toks (l : Bs) : List Tk := toksP (past l) (skipN false l)

theorem past_len (l : Bs) : (past l).length ≤ l.length := by simp [past]
theorem toksF_nil (f : Nat) (p : Nat) : toksF (f + 1) [] p = [⟨5, [], p⟩] := by rw [toksF, if_pos rfl]
theorem toksF_cons (f : Nat) (c : UInt8) (r : Bs) (p : Nat) : toksF (f + 1) (c :: r) p = ⟨(nextT (c :: r)).kind, (nextT (c :: r)).text, p⟩ ::
    if (nextT (c :: r)).kind = 6 then [] else toksF f (past ((c :: r).drop (nextT (c :: r)).len)) (p + (nextT (c :: r)).len + skipN false ((c :: r).drop (nextT (c :: r)).len)) := by
  rw [toksF, if_neg (by simp)]
theorem toksF_fuel : ∀ (n f : Nat) (l : Bs) (p : Nat), l.length < n → n ≤ f → toksF f l p = toksF n l p
  | 0, _, _, _, h, _ => by omega
  | n + 1, 0, _, _, _, hf => by omega
  | n + 1, f + 1, [], p, h, hf => by rw [toksF_nil, toksF_nil]
  | n + 1, f + 1, c :: r, p, h, hf => by
    have hl := nextT_len c r
    rw [toksF_cons, toksF_cons]
    rw [toksF_fuel n f _ _ (by have := past_len ((c :: r).drop (nextT (c :: r)).len); rw [List.length_drop] at this; omega) (by omega)]
theorem toksP_nil (p : Nat) : toksP [] p = [⟨5, [], p⟩] := toksF_nil _ p
theorem toksP_cons (c : UInt8) (r : Bs) (p : Nat) : toksP (c :: r) p = ⟨(nextT (c :: r)).kind, (nextT (c :: r)).text, p⟩ ::
    if (nextT (c :: r)).kind = 6 then [] else toksP (past ((c :: r).drop (nextT (c :: r)).len)) (p + (nextT (c :: r)).len + skipN false ((c :: r).drop (nextT (c :: r)).len)) := by
  have hl := nextT_len c r
  unfold toksP
  rw [toksF_cons]
  have := past_len ((c :: r).drop (nextT (c :: r)).len)
  rw [List.length_drop] at this
  rw [toksF_fuel ((past ((c :: r).drop (nextT (c :: r)).len)).length + 1) _ _ _ (by omega) (by omega)]

theorem from_drop (s : ByteArray) (i n : Nat) : (from_ s i).drop n = from_ s (i + n) := by unfold from_; rw [List.drop_drop]
theorem past_from (s : ByteArray) (i : Nat) : past (from_ s i) = from_ s (i + skipN false (from_ s i)) := by unfold past; rw [from_drop]
theorem headIs_from (s : ByteArray) (n k : Nat) : headIs n (from_ s k) = true ↔ ∃ h : k < s.size, s[k].toNat = n := by
  by_cases h : k < s.size
  · rw [from_lt s k h]; simp [headIs, h]
  · rw [from_ge s k (by omega)]; simp [headIs, h]
theorem headSmall_from (s : ByteArray) (k : Nat) : headSmall (from_ s k) = true ↔ ∃ h : k < s.size, smallB s[k] = true := by
  by_cases h : k < s.size
  · rw [from_lt s k h]; simp [headSmall, h]
  · rw [from_ge s k (by omega)]; simp [headSmall, h]
theorem headDig_from (s : ByteArray) (k : Nat) : headDig (from_ s k) = true ↔ ∃ h : k < s.size, digitB s[k] = true := by
  by_cases h : k < s.size
  · rw [from_lt s k h]; simp [headDig, h]
  · rw [from_ge s k (by omega)]; simp [headDig, h]

/-- LEX.NEXT at any place within the text. -/
theorem next_any (s : ByteArray) (i : Nat) (hi : i < s.size) (hs : s.size ≤ 1099511627776) (w : World) :
    Calls Try.prog 58 #[.string s, .int .i64 i] w fun e w' =>
      e = .returned (.tuple #[tokV (nextT (from_ s i)).kind (nextT (from_ s i)).text i, .int .i64 ((i + (nextT (from_ s i)).len : Nat) : Int)]) ∧ Below w.heap.size w w' := by
  have hc := from_lt s i hi
  by_cases h1 : smallB s[i] = true
  · have := next_word s i hi hs h1 w
    rw [hc] at this ⊢
    rw [nextT_cons]
    rw [if_pos h1]
    exact this
  · rw [Bool.not_eq_true] at h1
    by_cases h2 : (digitB s[i] || (decide (s[i].toNat = 45) && headDig (from_ s (i + 1)))) = true
    · have := next_num s i (1 + headN digitB (from_ s (i + 1))) hi hs h1 rfl (by
        simp only [Bool.or_eq_true, Bool.and_eq_true, decide_eq_true_eq] at h2
        rcases h2 with h | ⟨h, h'⟩
        · exact .inl h
        · exact .inr ⟨h, (headDig_from s (i + 1)).1 h'⟩) w
      rw [hc] at this ⊢
      rw [nextT_cons]
      rw [if_neg (by simp [h1]), if_pos h2]
      exact this
    · by_cases h3 : (decide (s[i].toNat = 60) && headSmall (from_ s (i + 1)) && headIs 62 ((from_ s (i + 1)).drop (headN partB (from_ s (i + 1))))) = true
      · have h3' := h3
        simp only [Bool.and_eq_true, decide_eq_true_eq, from_drop] at h3'
        obtain ⟨⟨a, b⟩, c⟩ := h3'
        obtain ⟨b1, b2⟩ := (headSmall_from s _).1 b
        obtain ⟨c1, c2⟩ := (headIs_from s _ _).1 c
        have := next_var s i (headN partB (from_ s (i + 1))) hi hs a b1 b2 rfl c1 c2 w
        rw [hc] at this ⊢
        rw [nextT_cons]
        rw [if_neg (by simp [h1]), if_neg h2, if_pos h3]
        by_cases h32 : 32 < headN partB (from_ s (i + 1))
        · rw [if_pos h32] at this ⊢; exact this
        · rw [if_neg h32] at this ⊢; exact this
      · have e1 : decide (97 ≤ s[i].toNat ∧ s[i].toNat ≤ 122) = false := h1
        have e2 : decide (48 ≤ s[i].toNat ∧ s[i].toNat ≤ 57) = false := by
          rw [Bool.not_eq_true, Bool.or_eq_false_iff] at h2; exact h2.1
        have := next_sign s i (headN partB (from_ s (i + 1))) hi hs e1 e2 rfl ?_ w
        · rw [hc] at this ⊢
          rw [nextT_cons]
          rw [if_neg (by simp [h1]), if_neg h2, if_neg h3]
          exact this
        · rw [Bool.not_eq_true, Bool.or_eq_false_iff, Bool.and_eq_false_iff, decide_eq_false_iff_not] at h2
          obtain ⟨_, h2⟩ := h2
          by_cases h45 : s[i].toNat = 45
          · refine .inl ⟨by simp; omega, by simp; omega, ?_⟩
            have h2 := h2.resolve_left (by simp [h45])
            by_cases hl : i + 1 < s.size
            · refine .inr ⟨hl, ?_⟩
              rw [from_lt s _ hl] at h2
              exact h2
            · exact .inl (by omega)
          · refine .inr ⟨by simp; omega, ?_⟩
            by_cases h60 : s[i].toNat = 60
            · refine .inr ⟨by simp; omega, ?_⟩
              by_cases hl : i + 1 < s.size
              · refine .inr ⟨hl, ?_⟩
                rcases hsm : smallB s[i + 1] with _ | _
                · exact .inl hsm
                · refine .inr ⟨hsm, ?_⟩
                  by_cases hl2 : i + 1 + headN partB (from_ s (i + 1)) < s.size
                  · refine .inr ⟨hl2, ?_⟩
                    have hne : ¬ s[i + 1 + headN partB (from_ s (i + 1))].toNat = 62 := by
                      intro h62
                      refine h3 ?_
                      simp only [Bool.and_eq_true, decide_eq_true_eq, from_drop]
                      exact ⟨⟨h60, (headSmall_from s _).2 ⟨hl, hsm⟩⟩, (headIs_from s _ _).2 ⟨hl2, h62⟩⟩
                    simp; omega
                  · exact .inl (by omega)
              · exact .inl (by omega)
            · exact .inl (by simp; omega)
end Go.Proofs.Ytgeaccoobhigcaa
