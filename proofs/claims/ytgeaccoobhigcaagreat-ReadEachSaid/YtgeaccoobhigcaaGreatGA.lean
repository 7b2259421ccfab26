/-
  Each token stands where it says: of the tokens of a text. Tokens written one behind the other, with gaps, are read as the same. What a text's tokens are, token by token: kinds and texts alone.
-/
import Derived.Test.YtgeaccoobhigcaaGreatG9
namespace Go.Proofs.YtgeaccoobhigcaaGreat
/-- A token as it is written. -/
def textT (t : Tk) : Bs := if t.kind = 5 then [] else if t.kind = 3 then 60 :: (t.text ++ [62]) else t.text
/-- Just blanks and remarks? -/
def emptyG (l : Bs) : Bool := decide (skipN false l = l.length)
theorem skipN_take : ∀ (b : Bool) (l : Bs), skipN b (l.take (skipN b l)) = skipN b l
  | b, [] => by cases b <;> rfl
  | true, c :: r => by
    have ih := skipN_take (decide (c.toNat ≠ 10)) r
    rw [show skipN true (c :: r) = skipN (decide (c.toNat ≠ 10)) r + 1 from rfl, List.take_succ_cons]
    rw [show ∀ x, skipN true (c :: x) = skipN (decide (c.toNat ≠ 10)) x + 1 from fun _ => rfl, ih]
  | false, c :: r => by
    rcases hb : blankB c with _ | _
    · by_cases h35 : c.toNat = 35
      · have ih := skipN_take true r
        have e : ∀ x, skipN false (c :: x) = skipN true x + 1 := fun x => by simp [skipN, hb, h35]
        rw [e, List.take_succ_cons, e, ih]
      · have e : ∀ x, skipN false (c :: x) = 0 := fun x => by simp [skipN, hb, h35]
        rw [e, List.take_zero]; rfl
    · have ih := skipN_take false r
      have e : ∀ x, skipN false (c :: x) = skipN false x + 1 := fun x => by simp [skipN, hb]
      rw [e, List.take_succ_cons, e, ih]
theorem empty_take (l : Bs) : emptyG (l.take (skipN false l)) = true := by
  unfold emptyG
  rw [skipN_take, List.length_take, Nat.min_eq_left (skipN_le _ _)]
  simp
theorem headIs_drop {n k : Nat} {l : Bs} (h : headIs n (l.drop k) = true) : ∃ c, l[k]? = some c ∧ c.toNat = n := by
  cases hd : l.drop k with
  | nil => rw [hd] at h; simp [headIs] at h
  | cons c r =>
    rw [hd] at h
    refine ⟨c, ?_, by simpa [headIs] using h⟩
    have := congrArg (fun x => x[0]?) hd
    simpa using this
theorem byte_eq {c d : UInt8} (h : c.toNat = d.toNat) : c = d := UInt8.toNat_inj.1 h
theorem nextT_text (c : UInt8) (r : Bs) (p : Nat) : textT ⟨(nextT (c :: r)).kind, (nextT (c :: r)).text, p⟩ = (c :: r).take (nextT (c :: r)).len ∧ (nextT (c :: r)).kind ≠ 5 := by
  rw [nextT_cons]
  split
  · split <;> simp [textT]
  · split
    · split <;> simp [textT]
    · split
      · rename_i h
        simp only [Bool.and_eq_true, decide_eq_true_eq] at h
        obtain ⟨d, hd, h62⟩ := headIs_drop h.2
        split
        · simp [textT]
        · have hc : c = 60 := byte_eq (d := 60) (by rw [h.1.1]; rfl)
          have hd2 : d = 62 := byte_eq (d := 62) (by rw [h62]; rfl)
          subst hc
          subst hd2
          refine ⟨?_, by simp⟩
          simp only [textT]
          rw [if_neg (by decide), if_pos trivial, List.take_succ_cons, List.take_add_one, hd]
          rfl
      · unfold signNx
        split
        · simp [textT]
        · rename_i h
          have hp := (signT_pre (c :: r)).resolve_left h
          refine ⟨?_, by simp⟩
          simp only [textT]
          rw [if_neg (by decide), if_neg (by decide)]
          exact (List.prefix_iff_eq_take.1 hp)
/-- Each token stands where it says, and nothing but blanks and remarks between. -/
def Places (S : Bs) : Nat → List Tk → Prop
  | _, [] => False
  | at_, t :: r => at_ ≤ t.pos ∧ t.pos + (textT t).length ≤ S.length ∧ (S.drop t.pos).take (textT t).length = textT t ∧ emptyG ((S.drop at_).take (t.pos - at_)) = true ∧
    ((t.kind = 5 ∨ t.kind = 6) ↔ r = []) ∧ (r ≠ [] → Places S (t.pos + (textT t).length) r)
theorem toksP_ne (l : Bs) (p : Nat) : toksP l p ≠ [] := by
  cases l with
  | nil => rw [toksP_nil]; simp
  | cons c r => rw [toksP_cons]; simp
theorem places_P : ∀ (n : Nat) (S : Bs) (at_ p : Nat), (S.drop p).length < n → at_ ≤ p → p ≤ S.length → emptyG ((S.drop at_).take (p - at_)) = true → Places S at_ (toksP (S.drop p) p)
  | 0, _, _, _, h, _, _, _ => by omega
  | n + 1, S, at_, p, hn, hap, hpl, he => by
    cases hd : S.drop p with
    | nil =>
      rw [toksP_nil]
      refine ⟨hap, ?_, ?_, he, by simp, by simp⟩
      · simp [textT]; omega
      · simp [textT]
    | cons c r =>
      have hl : (c :: r).length = S.length - p := by rw [← hd, List.length_drop]
      have hlen := nextT_len c r
      obtain ⟨ht, hk⟩ := nextT_text c r p
      rw [toksP_cons]
      generalize hN : nextT (c :: r) = N at hlen ht hk
      obtain ⟨kd, tx, ln⟩ := N
      simp only at hlen ht hk ⊢
      have htl : (textT ⟨kd, tx, p⟩).length = ln := by rw [ht, List.length_take]; omega
      have hdd : (c :: r).drop ln = S.drop (p + ln) := by rw [← hd, List.drop_drop]
      have hpast : past ((c :: r).drop ln) = S.drop (p + ln + skipN false ((c :: r).drop ln)) := by
        unfold past
        rw [hdd, List.drop_drop]
      refine ⟨hap, by rw [htl]; show p + ln ≤ S.length; omega, by rw [htl]; show (S.drop p).take ln = _; rw [hd, ht], he, ?_, ?_⟩
      · by_cases h6 : kd = 6
        · simp [h6]
        · simp [h6, hk, toksP_ne]
      · intro hne
        rw [htl]
        by_cases h6 : kd = 6
        · simp [h6] at hne
        · rw [if_neg h6]
          have hs := skipN_le false ((c :: r).drop ln)
          rw [List.length_drop] at hs
          rw [hpast]
          refine places_P n S (p + ln) _ ?_ (by omega) (by omega) ?_
          · rw [List.length_drop] at hn ⊢; omega
          · rw [show p + ln + skipN false ((c :: r).drop ln) - (p + ln) = skipN false ((c :: r).drop ln) by omega, hdd]
            exact empty_take _
theorem places_toks (S : Bs) : Places S 0 (toks S) := by
  unfold toks past
  refine places_P ((S.drop (skipN false S)).length + 1) S 0 _ (by omega) (by omega) (skipN_le _ _) ?_
  rw [Nat.sub_zero, List.drop_zero]
  exact empty_take _
end Go.Proofs.YtgeaccoobhigcaaGreat
namespace Go.Proofs.YtgeaccoobhigcaaGreat
theorem places_last {S : Bs} : ∀ (L : List Tk) (at_ : Nat), Places S at_ L → ∀ i t, L[i]? = some t → ((t.kind = 5 ∨ t.kind = 6) ↔ i + 1 = L.length)
  | [], _, h, _, _, _ => h.elim
  | u :: r, at_, h, i, t, hi => by
    obtain ⟨_, _, _, _, h5, h6⟩ := h
    cases i with
    | zero =>
      simp only [List.getElem?_cons_zero, Option.some.injEq] at hi
      subst hi
      rw [h5]
      cases r <;> simp
    | succ i =>
      rw [List.getElem?_cons_succ] at hi
      have hne : r ≠ [] := by rintro rfl; simp at hi
      have := places_last r _ (h6 hne) i t hi
      rw [this]
      simp
end Go.Proofs.YtgeaccoobhigcaaGreat
namespace Go.Proofs.YtgeaccoobhigcaaGreat
open Go Go.RowKit
theorem wordB_parts {l : Bs} (h : wordB l = true) : ∃ c r, l = c :: r ∧ smallB c = true ∧ (∀ d ∈ l, partB d = true) ∧ l.length ≤ 32 := by
  unfold wordB at h
  simp only [Bool.and_eq_true, decide_eq_true_eq, List.all_eq_true] at h
  obtain ⟨⟨⟨h1, h2⟩, h3⟩, h4⟩ := h
  cases l with
  | nil => simp at h1
  | cons c r => exact ⟨c, r, rfl, h3, h4, h2⟩
end Go.Proofs.YtgeaccoobhigcaaGreat
