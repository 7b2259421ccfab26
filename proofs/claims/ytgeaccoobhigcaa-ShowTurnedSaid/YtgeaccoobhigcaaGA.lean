/-
  Each token stands where it says: of the tokens of a text. A text behind another one: its tokens behind the other ones. Tokens written one behind the other, with gaps, are read as the same. Words, variables and numbers that stand alone. What a text's tokens are, token by token: kinds and texts alone. What a text's tokens are, token by token: numbers, signs, symbols and atoms. What the tokens of a printed production are. What the tokens of a printed production are: acts, and the whole.
-/
import Derived.Test.YtgeaccoobhigcaaG9
import Derived.Test.YtgeaccoobhigcaaG4
namespace Go.Proofs.Ytgeaccoobhigcaa
/-- A token as it is written. -/
def textT (t : Tk) : Bs := if t.kind = 5 then [] else if t.kind = 3 then 60 :: (t.text ++ [62]) else t.text
/-- Just blanks and remarks? -/
def emptyG (l : Bs) : Bool := decide (skipN false l = l.length)

theorem skipN_take : ∀ (b : Bool) (l : Bs), skipN b (l.take (skipN b l)) = skipN b l
  | b, [] => by cases b <;> rfl
  | true, c :: r => by
    have ih := skipN_take (decide (c.toNat ≠ 10)) r
    rw [show skipN true (c :: r) = skipN (decide (c.toNat ≠ 10)) r + 1 from rfl, List.take_succ_cons]
    rw [show ∀ x, skipN true (c :: x) = skipN (decide (c.toNat ≠ 10)) x + 1 from fun _ => rfl, ih]
  | false, c :: r => by
    rcases hb : blankB c with _ | _
    · by_cases h35 : c.toNat = 35
      · have ih := skipN_take true r
        have e : ∀ x, skipN false (c :: x) = skipN true x + 1 := fun x => by simp [skipN, hb, h35]
        rw [e, List.take_succ_cons, e, ih]
      · have e : ∀ x, skipN false (c :: x) = 0 := fun x => by simp [skipN, hb, h35]
        rw [e, List.take_zero]; rfl
    · have ih := skipN_take false r
      have e : ∀ x, skipN false (c :: x) = skipN false x + 1 := fun x => by simp [skipN, hb]
      rw [e, List.take_succ_cons, e, ih]
theorem empty_take (l : Bs) : emptyG (l.take (skipN false l)) = true := by
  unfold emptyG
  rw [skipN_take, List.length_take, Nat.min_eq_left (skipN_le _ _)]
  simp

theorem headIs_drop {n k : Nat} {l : Bs} (h : headIs n (l.drop k) = true) : ∃ c, l[k]? = some c ∧ c.toNat = n := by
  cases hd : l.drop k with
  | nil => rw [hd] at h; simp [headIs] at h
  | cons c r =>
    rw [hd] at h
    refine ⟨c, ?_, by simpa [headIs] using h⟩
    have := congrArg (fun x => x[0]?) hd
    simpa using this
theorem byte_eq {c d : UInt8} (h : c.toNat = d.toNat) : c = d := UInt8.toNat_inj.1 h

theorem nextT_text (c : UInt8) (r : Bs) (p : Nat) : textT ⟨(nextT (c :: r)).kind, (nextT (c :: r)).text, p⟩ = (c :: r).take (nextT (c :: r)).len ∧ (nextT (c :: r)).kind ≠ 5 := by
  rw [nextT_cons]
  split
  · split <;> simp [textT]
  · split
    · split <;> simp [textT]
    · split
      · rename_i h
        simp only [Bool.and_eq_true, decide_eq_true_eq] at h
        obtain ⟨d, hd, h62⟩ := headIs_drop h.2
        split
        · simp [textT]
        · have hc : c = 60 := byte_eq (d := 60) (by rw [h.1.1]; rfl)
          have hd2 : d = 62 := byte_eq (d := 62) (by rw [h62]; rfl)
          subst hc
          subst hd2
          refine ⟨?_, by simp⟩
          simp only [textT]
          rw [if_neg (by decide), if_pos trivial, List.take_succ_cons, List.take_add_one, hd]
          rfl
      · unfold signNx
        split
        · simp [textT]
        · rename_i h
          have hp := (signT_pre (c :: r)).resolve_left h
          refine ⟨?_, by simp⟩
          simp only [textT]
          rw [if_neg (by decide), if_neg (by decide)]
          exact (List.prefix_iff_eq_take.1 hp)

/-- Each token stands where it says, and nothing but blanks and remarks between. -/
def Places (S : Bs) : Nat → List Tk → Prop
  | _, [] => False
  | at_, t :: r => at_ ≤ t.pos ∧ t.pos + (textT t).length ≤ S.length ∧ (S.drop t.pos).take (textT t).length = textT t ∧ emptyG ((S.drop at_).take (t.pos - at_)) = true ∧
    ((t.kind = 5 ∨ t.kind = 6) ↔ r = []) ∧ (r ≠ [] → Places S (t.pos + (textT t).length) r)

theorem toksP_ne (l : Bs) (p : Nat) : toksP l p ≠ [] := by
  cases l with
  | nil => rw [toksP_nil]; simp
  | cons c r => rw [toksP_cons]; simp

theorem places_P : ∀ (n : Nat) (S : Bs) (at_ p : Nat), (S.drop p).length < n → at_ ≤ p → p ≤ S.length → emptyG ((S.drop at_).take (p - at_)) = true → Places S at_ (toksP (S.drop p) p)
  | 0, _, _, _, h, _, _, _ => by omega
  | n + 1, S, at_, p, hn, hap, hpl, he => by
    cases hd : S.drop p with
    | nil =>
      rw [toksP_nil]
      refine ⟨hap, ?_, ?_, he, by simp, by simp⟩
      · simp [textT]; omega
      · simp [textT]
    | cons c r =>
      have hl : (c :: r).length = S.length - p := by rw [← hd, List.length_drop]
      have hlen := nextT_len c r
      obtain ⟨ht, hk⟩ := nextT_text c r p
      rw [toksP_cons]
      generalize hN : nextT (c :: r) = N at hlen ht hk
      obtain ⟨kd, tx, ln⟩ := N
      simp only at hlen ht hk ⊢
      have htl : (textT ⟨kd, tx, p⟩).length = ln := by rw [ht, List.length_take]; omega
      have hdd : (c :: r).drop ln = S.drop (p + ln) := by rw [← hd, List.drop_drop]
      have hpast : past ((c :: r).drop ln) = S.drop (p + ln + skipN false ((c :: r).drop ln)) := by
        unfold past
        rw [hdd, List.drop_drop]
      refine ⟨hap, by rw [htl]; show p + ln ≤ S.length; omega, by rw [htl]; show (S.drop p).take ln = _; rw [hd, ht], he, ?_, ?_⟩
      · by_cases h6 : kd = 6
        · simp [h6]
        · simp [h6, hk, toksP_ne]
      · intro hne
        rw [htl]
        by_cases h6 : kd = 6
        · simp [h6] at hne
        · rw [if_neg h6]
          have hs := skipN_le false ((c :: r).drop ln)
          rw [List.length_drop] at hs
          rw [hpast]
          refine places_P n S (p + ln) _ ?_ (by omega) (by omega) ?_
          · rw [List.length_drop] at hn ⊢; omega
          · rw [show p + ln + skipN false ((c :: r).drop ln) - (p + ln) = skipN false ((c :: r).drop ln) by omega, hdd]
            exact empty_take _

theorem places_toks (S : Bs) : Places S 0 (toks S) := by
  unfold toks past
  refine places_P ((S.drop (skipN false S)).length + 1) S 0 _ (by omega) (by omega) (skipN_le _ _) ?_
  rw [Nat.sub_zero, List.drop_zero]
  exact empty_take _
end Go.Proofs.Ytgeaccoobhigcaa
namespace Go.Proofs.Ytgeaccoobhigcaa

theorem blank_not {d : UInt8} (h : blankB d = true) : smallB d = false ∧ digitB d = false ∧ partB d = false ∧ d.toNat ≠ 62 ∧ d.toNat ≠ 60 ∧ d.toNat ≠ 45 ∧ d.toNat ≠ 35 ∧ d.toNat ≤ 32 := by
  simp only [blankB, decide_eq_true_eq] at h
  simp only [partB, smallB, digitB, Bool.or_eq_false_iff, decide_eq_false_iff_not]
  omega
theorem headN_stop {p : UInt8 → Bool} {d : UInt8} (b : Bs) (h : p d = false) : ∀ l : Bs, headN p (l ++ d :: b) = headN p l
  | [] => by simp [headN, h]
  | c :: r => by simp [headN, headN_stop b h r]
theorem headDig_stop {d : UInt8} (b : Bs) (h : digitB d = false) (l : Bs) : headDig (l ++ d :: b) = headDig l := by
  cases l <;> simp [headDig, h]
theorem headSmall_stop {d : UInt8} (b : Bs) (h : smallB d = false) (l : Bs) : headSmall (l ++ d :: b) = headSmall l := by
  cases l <;> simp [headSmall, h]
theorem headIs_stop {d : UInt8} (b : Bs) {n : Nat} (h : d.toNat ≠ n) (l : Bs) : headIs n (l ++ d :: b) = headIs n l := by
  cases l <;> simp [headIs, h]
theorem pre_stop {d : UInt8} (b : Bs) : ∀ (x l : Bs), (∀ c ∈ x, c ≠ d) → headB x (l ++ d :: b) = headB x l
  | [], _, _ => by simp [headB]
  | c :: x, [], h => by
    have : c ≠ d := h c (by simp)
    simp [headB, List.isPrefixOf, this]
  | c :: x, e :: l, h => by
    have ih := pre_stop b x l (fun y hy => h y (by simp [hy]))
    unfold headB at ih ⊢
    simp [List.isPrefixOf, ih]
theorem firstAt_stop {d : UInt8} (b l : Bs) : ∀ ss : List Bs, (∀ x ∈ ss, ∀ c ∈ x, c ≠ d) → firstAt (l ++ d :: b) ss = firstAt l ss
  | [], _ => rfl
  | x :: ss, h => by
    unfold firstAt
    rw [pre_stop b x l (h x (by simp)), firstAt_stop b l ss (fun y hy => h y (by simp [hy]))]
theorem signs_big : ∀ x ∈ signs, ∀ c ∈ x, 33 ≤ c.toNat := by decide
theorem signT_stop {d : UInt8} (b l : Bs) (h : blankB d = true) : signT (l ++ d :: b) = signT l :=
  firstAt_stop b l signs fun x hx c hc e => by have := signs_big x hx c hc; have := (blank_not h).2.2.2.2.2.2.2; subst e; omega

/-- A blank ends a token. -/
theorem nextT_blank (c : UInt8) (r : Bs) {d : UInt8} (b : Bs) (h : blankB d = true) : nextT (c :: (r ++ d :: b)) = nextT (c :: r) := by
  obtain ⟨h1, h2, h3, h4, h5, h6, h7, h8⟩ := blank_not h
  rw [nextT_cons, nextT_cons]
  have e1 : headN partB (c :: (r ++ d :: b)) = headN partB (c :: r) := headN_stop b h3 (c :: r)
  have e2 : headN digitB (r ++ d :: b) = headN digitB r := headN_stop b h2 r
  have e3 : headN partB (r ++ d :: b) = headN partB r := headN_stop b h3 r
  have l1 := headN_le partB (c :: r)
  have l2 := headN_le digitB r
  have l3 := headN_le partB r
  have t1 : ∀ n, n ≤ (c :: r).length → (c :: (r ++ d :: b)).take n = (c :: r).take n := fun n hn => by
    rw [show c :: (r ++ d :: b) = (c :: r) ++ d :: b from rfl, List.take_append_of_le_length hn]
  have t2 : ∀ n, n ≤ r.length → (r ++ d :: b).take n = r.take n := fun n hn => List.take_append_of_le_length hn
  have d1 : headIs 62 ((r ++ d :: b).drop (headN partB r)) = headIs 62 (r.drop (headN partB r)) := by
    rw [List.drop_append_of_le_length l3, headIs_stop b h4]
  have s1 : signNx c (c :: (r ++ d :: b)) = signNx c (c :: r) := by
    unfold signNx
    rw [show c :: (r ++ d :: b) = (c :: r) ++ d :: b from rfl, signT_stop b _ h]
  rw [e1, e2, e3, headDig_stop b h2, headSmall_stop b h1, d1, s1, t1 _ l1, t1 _ (by simp only [List.length_cons]; omega), t2 _ l3]
  split
  · rfl
  · split
    · rfl
    · split
      · rename_i hv
        simp only [Bool.and_eq_true] at hv
        have h2 := headIs_len hv.2
        rw [List.length_drop] at h2
        rw [t1 _ (by simp only [List.length_cons]; omega)]
      · rfl

theorem blank10 : blankB 10 = true := by decide
theorem skip_join (b : Bs) : ∀ (m : Bool) (l : Bs), (skipN m (l ++ [10]) = l.length + 1 ∧ skipN m (l ++ 10 :: b) = l.length + 1 + skipN false b) ∨
    (skipN m (l ++ [10]) < l.length ∧ skipN m (l ++ 10 :: b) = skipN m (l ++ [10]))
  | true, [] => .inl ⟨rfl, by rw [List.nil_append, show skipN true (10 :: b) = skipN false b + 1 from rfl]; simp; omega⟩
  | false, [] => .inl ⟨rfl, by rw [List.nil_append, show skipN false (10 :: b) = skipN false b + 1 from rfl]; simp; omega⟩
  | true, c :: r => by
    have e : ∀ x, skipN true (c :: x) = skipN (decide (c.toNat ≠ 10)) x + 1 := fun _ => rfl
    rcases skip_join b (decide (c.toNat ≠ 10)) r with ⟨h1, h2⟩ | ⟨h1, h2⟩
    · exact .inl ⟨by rw [List.cons_append, e, h1]; rfl, by rw [List.cons_append, e, h2]; simp only [List.length_cons]; omega⟩
    · exact .inr ⟨by rw [List.cons_append, e]; simp only [List.length_cons]; omega, by rw [List.cons_append, List.cons_append, e, e, h2]⟩
  | false, c :: r => by
    rcases hb : blankB c with _ | _
    · by_cases h35 : c.toNat = 35
      · have e : ∀ x, skipN false (c :: x) = skipN true x + 1 := fun x => by simp [skipN, hb, h35]
        rcases skip_join b true r with ⟨h1, h2⟩ | ⟨h1, h2⟩
        · exact .inl ⟨by rw [List.cons_append, e, h1]; rfl, by rw [List.cons_append, e, h2]; simp only [List.length_cons]; omega⟩
        · exact .inr ⟨by rw [List.cons_append, e]; simp only [List.length_cons]; omega, by rw [List.cons_append, List.cons_append, e, e, h2]⟩
      · have e : ∀ x, skipN false (c :: x) = 0 := fun x => by simp [skipN, hb, h35]
        exact .inr ⟨by rw [List.cons_append, e]; simp, by rw [List.cons_append, List.cons_append, e, e]⟩
    · have e : ∀ x, skipN false (c :: x) = skipN false x + 1 := fun x => by simp [skipN, hb]
      rcases skip_join b false r with ⟨h1, h2⟩ | ⟨h1, h2⟩
      · exact .inl ⟨by rw [List.cons_append, e, h1]; rfl, by rw [List.cons_append, e, h2]; simp only [List.length_cons]; omega⟩
      · exact .inr ⟨by rw [List.cons_append, e]; simp only [List.length_cons]; omega, by rw [List.cons_append, List.cons_append, e, e, h2]⟩

/-- The same tokens further on. -/
def Tk.on (n : Nat) (t : Tk) : Tk := ⟨t.kind, t.text, t.pos + n⟩
theorem toksP_on : ∀ (n : Nat) (l : Bs) (p q : Nat), l.length < n → toksP l (p + q) = (toksP l p).map (Tk.on q)
  | 0, _, _, _, h => by omega
  | n + 1, [], p, q, _ => by rw [toksP_nil, toksP_nil]; rfl
  | n + 1, c :: r, p, q, h => by
    have hl := nextT_len c r
    have hp := past_len ((c :: r).drop (nextT (c :: r)).len)
    rw [List.length_drop] at hp
    rw [toksP_cons, toksP_cons, List.map_cons]
    congr 1
    split
    · rfl
    · rw [← toksP_on n _ _ q (by omega)]
      congr 1
      omega

/-- What LexJoins says of the three lists. -/
def Joined (k : Nat) (x y z : List Tk) : Prop := ∃ xs t, x = xs ++ [t] ∧ ((t.kind = 6 ∧ z = x) ∨ (t.kind ≠ 6 ∧ z = xs ++ y.map (Tk.on k)))
theorem Joined.cons {k : Nat} {x y z : List Tk} (h : Joined k x y z) (t : Tk) : Joined k (t :: x) y (t :: z) := by
  obtain ⟨xs, u, rfl, h⟩ := h
  refine ⟨t :: xs, u, rfl, ?_⟩
  rcases h with ⟨h1, rfl⟩ | ⟨h1, rfl⟩
  · exact .inl ⟨h1, rfl⟩
  · exact .inr ⟨h1, rfl⟩

theorem joined_skip (b l : Bs) (p : Nat) (ih : ∀ l' : Bs, l'.length ≤ l.length → l' ≠ [] → ∀ q, q + l'.length = p + l.length → Joined (q + l'.length + 1) (toksP (l' ++ [10]) q) (toks b) (toksP (l' ++ 10 :: b) q)) :
    Joined (p + l.length + 1) (toksP (past (l ++ [10])) (p + skipN false (l ++ [10]))) (toks b) (toksP (past (l ++ 10 :: b)) (p + skipN false (l ++ 10 :: b))) := by
  rcases skip_join b false l with ⟨h1, h2⟩ | ⟨h1, h2⟩
  · have e1 : past (l ++ [10]) = [] := by unfold past; rw [h1]; exact List.drop_eq_nil_of_le (by simp)
    have e2 : past (l ++ 10 :: b) = past b := by
      unfold past
      rw [h2, show l ++ 10 :: b = (l ++ [10]) ++ b by simp, List.drop_append, List.drop_eq_nil_of_le (by simp), List.nil_append]
      congr 1
      simp only [List.length_append, List.length_cons, List.length_nil]
      omega
    rw [e1, e2, h1, h2, toksP_nil]
    refine ⟨[], _, rfl, .inr ⟨by simp, ?_⟩⟩
    rw [List.nil_append]
    unfold toks
    rw [← toksP_on ((past b).length + 1) _ _ _ (by omega)]
    congr 1
    omega
  · have e1 : past (l ++ [10]) = l.drop (skipN false (l ++ [10])) ++ [10] := by
      unfold past; rw [List.drop_append_of_le_length (by omega)]
    have e2 : past (l ++ 10 :: b) = l.drop (skipN false (l ++ [10])) ++ 10 :: b := by
      unfold past; rw [h2, List.drop_append_of_le_length (by omega)]
    rw [e1, e2, h2]
    have := ih (l.drop (skipN false (l ++ [10]))) (by rw [List.length_drop]; omega) (by intro e; have := congrArg List.length e; rw [List.length_drop] at this; simp at this; omega) (p + skipN false (l ++ [10])) (by rw [List.length_drop]; omega)
    rw [List.length_drop] at this
    rw [show p + l.length + 1 = p + skipN false (l ++ [10]) + (l.length - skipN false (l ++ [10])) + 1 by omega]
    exact this

theorem joined_P (b : Bs) : ∀ (n : Nat) (l : Bs) (p : Nat), l.length < n → l ≠ [] → Joined (p + l.length + 1) (toksP (l ++ [10]) p) (toks b) (toksP (l ++ 10 :: b) p)
  | 0, _, _, h, _ => by omega
  | n + 1, [], _, _, h => absurd rfl h
  | n + 1, c :: r, p, hn, _ => by
    rw [List.cons_append, List.cons_append, toksP_cons, toksP_cons, nextT_blank c r [] blank10, nextT_blank c r b blank10]
    have hlen := nextT_len c r
    generalize hN : nextT (c :: r) = N at hlen
    obtain ⟨kd, tx, ln⟩ := N
    simp only at hlen ⊢
    by_cases h6 : kd = 6
    · rw [if_pos h6, if_pos h6]
      exact ⟨[], _, rfl, .inl ⟨h6, rfl⟩⟩
    · rw [if_neg h6, if_neg h6]
      refine Joined.cons ?_ _
      have e1 : (c :: (r ++ [10])).drop ln = (c :: r).drop ln ++ [10] := by
        rw [show c :: (r ++ [10]) = (c :: r) ++ [10] from rfl, List.drop_append_of_le_length hlen.2]
      have e2 : (c :: (r ++ 10 :: b)).drop ln = (c :: r).drop ln ++ 10 :: b := by
        rw [show c :: (r ++ 10 :: b) = (c :: r) ++ 10 :: b from rfl, List.drop_append_of_le_length hlen.2]
      rw [e1, e2]
      have hdl : ((c :: r).drop ln).length = (c :: r).length - ln := List.length_drop
      have := joined_skip b ((c :: r).drop ln) (p + ln) (fun l' h1 h2 q hq => joined_P b n l' q (by simp only [List.length_cons] at hn hdl; omega) h2)
      rw [hdl] at this
      rw [show p + (c :: r).length + 1 = p + ln + ((c :: r).length - ln) + 1 by omega]
      exact this

theorem joined_toks (a b : Bs) : Joined (a.length + 1) (toks (a ++ [10])) (toks b) (toks (a ++ 10 :: b)) := by
  have := joined_skip b a 0 (fun l' _ h2 q _ => joined_P b (l'.length + 1) l' q (by omega) h2)
  rw [Nat.zero_add, Nat.zero_add, Nat.zero_add] at this
  exact this
end Go.Proofs.Ytgeaccoobhigcaa
namespace Go.Proofs.Ytgeaccoobhigcaa

theorem headN_take {p : UInt8 → Bool} : ∀ l : Bs, headN p (l.take (headN p l)) = headN p l
  | [] => rfl
  | c :: r => by
    rcases h : p c with _ | _
    · simp [headN, h]
    · have ih := headN_take (p := p) r
      simp [headN, h, ih]
theorem firstAt_self : ∀ (ss : List Bs) (l x : Bs), firstAt l ss = x → x ≠ [] → firstAt x ss = x ∧ x ∈ ss
  | [], l, x, h, hx => by simp [firstAt] at h; exact absurd h hx
  | y :: ss, l, x, h, hx => by
    unfold firstAt at h
    by_cases hy : headB y l = true
    · rw [if_pos hy] at h
      subst h
      unfold firstAt
      rw [if_pos (by simp [headB])]
      exact ⟨rfl, by simp⟩
    · rw [if_neg hy] at h
      obtain ⟨h1, h2⟩ := firstAt_self ss l x h hx
      have hp : x <+: l := by
        have := (firstAt_pre l ss).resolve_left (by rw [h]; exact hx)
        rwa [h] at this
      refine ⟨?_, by simp [h2]⟩
      unfold firstAt
      rw [if_neg, h1]
      intro h3
      exact hy (List.isPrefixOf_iff_prefix.2 ((List.isPrefixOf_iff_prefix.1 h3).trans hp))
theorem signs_tail : ∀ x ∈ signs, headSmall x.tail = false ∧ (headDig x.tail = false) := by decide

theorem take_one_more {r : Bs} {k n : Nat} (h : headIs n (r.drop k) = true) (hn : n < 256) : r.take (k + 1) = r.take k ++ [UInt8.ofNat n] := by
  obtain ⟨d, hd, hdn⟩ := headIs_drop h
  rw [List.take_add_one, hd]
  simp only [Option.toList_some]
  congr 2
  exact byte_eq (by rw [hdn]; simp [UInt8.toNat_ofNat', Nat.mod_eq_of_lt hn])

/-- A token's own bytes are the same token. -/
theorem nextT_take (c : UInt8) (r : Bs) (h6 : (nextT (c :: r)).kind ≠ 6) : nextT ((c :: r).take (nextT (c :: r)).len) = nextT (c :: r) := by
  obtain ⟨m, hm⟩ : ∃ m, (nextT (c :: r)).len = m + 1 := ⟨(nextT (c :: r)).len - 1, by have := (nextT_len c r).1; omega⟩
  rw [hm, List.take_succ_cons]
  rw [nextT_cons] at h6 hm ⊢
  rw [nextT_cons c r]
  by_cases hs : smallB c = true
  · rw [if_pos hs] at h6 hm ⊢
    rw [if_pos hs]
    have hp : partB c = true := by simp [partB, hs]
    have e : ∀ x, headN partB (c :: x) = headN partB x + 1 := fun x => by simp [headN, hp]
    simp only [e] at hm ⊢
    obtain rfl : m = headN partB r := by omega
    rw [headN_take, List.take_succ_cons, List.take_take, Nat.min_self, ← List.take_succ_cons]
  · rw [if_neg hs] at h6 hm ⊢
    rw [if_neg hs]
    by_cases hd : (digitB c || (decide (c.toNat = 45) && headDig r)) = true
    · rw [if_pos hd] at h6 hm ⊢
      simp only at hm
      obtain rfl : m = headN digitB r := by omega
      have hd' : (digitB c || (decide (c.toNat = 45) && headDig (r.take (headN digitB r)))) = true := by
        simp only [Bool.or_eq_true, Bool.and_eq_true, decide_eq_true_eq] at hd ⊢
        rcases hd with h | ⟨h1, h2⟩
        · exact .inl h
        · refine .inr ⟨h1, ?_⟩
          cases r with
          | nil => simp [headDig] at h2
          | cons x r => simp only [headDig] at h2; simp [headN, h2, headDig]
      rw [if_pos hd', headN_take, Nat.add_comm 1, List.take_succ_cons, List.take_take, Nat.min_self, List.take_succ_cons]
    · rw [if_neg hd] at h6 hm ⊢
      by_cases hv : (decide (c.toNat = 60) && headSmall r && headIs 62 (r.drop (headN partB r))) = true
      · rw [if_pos hv] at h6 hm ⊢
        have hv0 := hv
        simp only [Bool.and_eq_true, decide_eq_true_eq] at hv
        obtain ⟨⟨v1, v2⟩, v3⟩ := hv
        by_cases h32 : 32 < headN partB r
        · rw [if_pos h32] at h6; exact absurd rfl h6
        · rw [if_neg h32] at hm ⊢
          simp only at hm
          obtain rfl : m = headN partB r + 1 := by omega
          have ht := take_one_more v3 (by decide)
          have hle := headN_le partB r
          have hlt : headN partB r < r.length := by have := headIs_len v3; rw [List.length_drop] at this; omega
          have hz : ∀ k, headDig (r.take (k + 1)) = headDig r ∧ headSmall (r.take (k + 1)) = headSmall r := fun k => by cases r <;> simp [headDig, headSmall]
          have hpn : headN partB (r.take (headN partB r + 1)) = headN partB r := by
            rw [ht, headN_stop [] (by decide), headN_take]
          rw [(hz _).1, if_neg hd, (hz _).2, hpn]
          have h3 : headIs 62 ((r.take (headN partB r + 1)).drop (headN partB r)) = true := by
            rw [ht, List.drop_append_of_le_length (by rw [List.length_take]; omega), List.drop_eq_nil_of_le (by rw [List.length_take]; omega)]
            rfl
          rw [if_pos (by simp [v1, v2, h3]), if_neg h32, List.take_take, Nat.min_eq_left (by omega)]
      · rw [if_neg hv] at h6 hm ⊢
        unfold signNx at h6 hm ⊢
        by_cases hx : signT (c :: r) = []
        · rw [if_pos hx] at h6; exact absurd rfl h6
        · rw [if_neg hx] at hm ⊢
          simp only at hm
          have hp := (signT_pre (c :: r)).resolve_left hx
          have he : c :: r.take m = signT (c :: r) := by
            rw [← List.take_succ_cons, ← hm]; exact (List.prefix_iff_eq_take.1 hp).symm
          obtain ⟨h1, h2⟩ := firstAt_self signs (c :: r) _ rfl hx
          obtain ⟨t1, t2⟩ := signs_tail _ h2
          have htl : r.take m = (signT (c :: r)).tail := by rw [← he]; rfl
          change headSmall (signT (c :: r)).tail = false at t1
          change headDig (signT (c :: r)).tail = false at t2
          rw [← htl] at t1 t2
          rw [t1, t2]
          have hd2 : digitB c = false := by simp only [Bool.not_eq_true, Bool.or_eq_false_iff] at hd; exact hd.1
          rw [if_neg (by simp [hd2]), if_neg (by simp)]
          have h1' : signT (c :: r.take m) = signT (c :: r) := by rw [he]; exact h1
          rw [h1', if_neg hx]

/-- What may stand between tokens. -/
def Gap (g : Bs) : Prop := (∃ d b, g = d :: b ∧ blankB d = true) ∧ ∀ x, skipN false (g ++ x) = g.length + skipN false x
theorem Gap.past {g : Bs} (h : Gap g) (x : Bs) : past (g ++ x) = past x := by
  unfold Go.Proofs.Ytgeaccoobhigcaa.past
  rw [h.2, List.drop_append, List.drop_eq_nil_of_le (by omega), List.nil_append]
  congr 1
  omega

/-- Kind and text. -/
def Tk.kt (t : Tk) : Nat × Bs := (t.kind, t.text)
/-- The first n tokens written one behind the other. -/
def writ (L : List Tk) (g : Nat → Bs) (n : Nat) : Bs := (List.range n).flatMap fun j => textT (L.getD j ⟨0, [], 0⟩) ++ g j
theorem writ_zero (L : List Tk) (g : Nat → Bs) : writ L g 0 = [] := rfl
theorem writ_succ (L : List Tk) (g : Nat → Bs) (n : Nat) : writ L g (n + 1) = writ L g n ++ (textT (L.getD n ⟨0, [], 0⟩) ++ g n) := by
  unfold writ; rw [List.range_succ, List.flatMap_append]; simp
theorem writ_cons (t : Tk) (L : List Tk) (g : Nat → Bs) (n : Nat) : writ (t :: L) g (n + 1) = textT t ++ (g 0 ++ writ L (fun j => g (j + 1)) n) := by
  unfold writ; rw [List.range_succ_eq_map, List.flatMap_cons, List.flatMap_map]; simp

theorem past_head {l : Bs} {c : UInt8} {r : Bs} (h : past l = c :: r) : ∀ x, skipN false (c :: x) = 0 := by
  have key : ∀ (b : Bool) (l : Bs), l.drop (skipN b l) = c :: r → blankB c = false ∧ c.toNat ≠ 35 := by
    intro b l
    induction l generalizing b with
    | nil => intro h; cases b <;> simp [skipN] at h
    | cons y l ih =>
      intro h
      cases b with
      | true =>
        rw [show skipN true (y :: l) = skipN (decide (y.toNat ≠ 10)) l + 1 from rfl, List.drop_succ_cons] at h
        exact ih _ h
      | false =>
        rcases hb : blankB y with _ | _
        · by_cases h35 : y.toNat = 35
          · rw [show skipN false (y :: l) = skipN true l + 1 by simp [skipN, hb, h35], List.drop_succ_cons] at h
            exact ih _ h
          · rw [show skipN false (y :: l) = 0 by simp [skipN, hb, h35], List.drop_zero] at h
            injection h with h1 _
            subst h1
            exact ⟨hb, h35⟩
        · rw [show skipN false (y :: l) = skipN false l + 1 by simp [skipN, hb], List.drop_succ_cons] at h
          exact ih _ h
  obtain ⟨h1, h2⟩ := key false l h
  intro x
  simp [skipN, h1, h2]

theorem spaced_P : ∀ (n : Nat) (l0 : Bs) (p q : Nat) (g : Nat → Bs), l0.length < n → (∀ j, Gap (g j)) → (∀ t ∈ toksP (past l0) p, t.kind ≠ 6) →
    skipN false (writ (toksP (past l0) p) g ((toksP (past l0) p).length - 1)) = 0 ∧ (toksP (writ (toksP (past l0) p) g ((toksP (past l0) p).length - 1)) q).map Tk.kt = (toksP (past l0) p).map Tk.kt
  | 0, _, _, _, _, h, _, _ => by omega
  | n + 1, l0, p, q, g, hn, hg, h6 => by
    cases hl : past l0 with
    | nil => rw [toksP_nil]; exact ⟨rfl, by rw [show writ [⟨5, [], p⟩] g ([(⟨5, [], p⟩ : Tk)].length - 1) = [] from rfl, toksP_nil]; rfl⟩
    | cons c r =>
      have hpl := past_len l0
      rw [hl] at h6 hpl
      have hlen := nextT_len c r
      obtain ⟨ht, _⟩ := nextT_text c r p
      have htk := nextT_take c r
      rw [toksP_cons] at h6 ⊢
      have h6' : (nextT (c :: r)).kind ≠ 6 := h6 ⟨(nextT (c :: r)).kind, (nextT (c :: r)).text, p⟩ (by simp)
      rw [if_neg h6'] at h6 ⊢
      replace htk := htk h6'
      generalize hN : nextT (c :: r) = N at hlen ht htk h6 h6'
      obtain ⟨kd, tx, ln⟩ := N
      simp only at hlen ht h6 h6' htk ⊢
      obtain ⟨ih1, ih2⟩ := spaced_P n ((c :: r).drop ln) (p + ln + skipN false ((c :: r).drop ln)) (q + ln + (g 0).length) (fun j => g (j + 1)) (by rw [List.length_drop]; simp only [List.length_cons] at hlen hpl ⊢; omega) (fun j => hg _)
        (fun t ht => h6 t (by simp [ht]))
      generalize hL : toksP (past ((c :: r).drop ln)) (p + ln + skipN false ((c :: r).drop ln)) = L at ih1 ih2 h6
      have hLl : 0 < L.length := by rw [← hL]; exact List.length_pos_iff.2 (toksP_ne _ _)
      rw [show (({ kind := kd, text := tx, pos := p } : Tk) :: L).length - 1 = (L.length - 1) + 1 by simp only [List.length_cons]; omega, writ_cons, ht]
      obtain ⟨⟨d, b, hgd, hd⟩, hgs⟩ := hg 0
      generalize writ L (fun j => g (j + 1)) (L.length - 1) = U at ih1 ih2
      obtain ⟨m, hm⟩ : ∃ m, ln = m + 1 := ⟨ln - 1, by omega⟩
      have hU : (c :: r).take ln ++ (g 0 ++ U) = c :: (r.take m ++ d :: (b ++ U)) := by rw [hm, List.take_succ_cons, hgd]; simp
      have hnx : nextT (c :: (r.take m ++ d :: (b ++ U))) = ⟨kd, tx, ln⟩ := by
        rw [nextT_blank c (r.take m) (b ++ U) hd, ← htk, hm, List.take_succ_cons]
      have hdr : (c :: (r.take m ++ d :: (b ++ U))).drop ln = g 0 ++ U := by
        rw [← hU]
        exact List.drop_left' (by rw [List.length_take]; omega)
      refine ⟨by rw [hU]; exact past_head hl _, ?_⟩
      rw [hU, toksP_cons, hnx]
      simp only
      rw [if_neg h6', hdr, (hg 0).past, hgs, ih1, show past U = U by unfold past; rw [ih1]; rfl, List.map_cons, List.map_cons, Nat.add_zero, ih2]
      rfl

/-- LexSpaces, of the tokens. -/
theorem spaced_toks (s : Bs) (g : Nat → Bs) (hg : ∀ j, Gap (g j)) (h6 : ∀ t ∈ toks s, t.kind ≠ 6) : (toks (writ (toks s) g ((toks s).length - 1))).map Tk.kt = (toks s).map Tk.kt := by
  obtain ⟨h1, h2⟩ := spaced_P (s.length + 1) s (skipN false s) 0 g (by omega) hg h6
  rw [show toksP (past s) (skipN false s) = toks s from rfl] at h1 h2
  rw [show toks (writ (toks s) g ((toks s).length - 1)) = toksP (past (writ (toks s) g ((toks s).length - 1))) (skipN false (writ (toks s) g ((toks s).length - 1))) from rfl, h1, show past (writ (toks s) g ((toks s).length - 1)) = writ (toks s) g ((toks s).length - 1) by unfold past; rw [h1]; rfl]
  exact h2

theorem places_last {S : Bs} : ∀ (L : List Tk) (at_ : Nat), Places S at_ L → ∀ i t, L[i]? = some t → ((t.kind = 5 ∨ t.kind = 6) ↔ i + 1 = L.length)
  | [], _, h, _, _, _ => h.elim
  | u :: r, at_, h, i, t, hi => by
    obtain ⟨_, _, _, _, h5, h6⟩ := h
    cases i with
    | zero =>
      simp only [List.getElem?_cons_zero, Option.some.injEq] at hi
      subst hi
      rw [h5]
      cases r <;> simp
    | succ i =>
      rw [List.getElem?_cons_succ] at hi
      have hne : r ≠ [] := by rintro rfl; simp at hi
      have := places_last r _ (h6 hne) i t hi
      rw [this]
      simp
theorem no_bad (s : Bs) {t : Tk} (h : (toks s)[(toks s).length - 1]? = some t) (h5 : t.kind = 5) : ∀ u ∈ toks s, u.kind ≠ 6 := by
  intro u hu h6
  obtain ⟨i, hi, hu⟩ := List.getElem_of_mem hu
  have hu' : (toks s)[i]? = some u := by rw [List.getElem?_eq_getElem hi, hu]
  have := (places_last (S := s) (toks s) 0 (places_toks s) i u hu').1 (.inr h6)
  rw [show (toks s).length - 1 = i by omega, hu'] at h
  injection h with h
  subst h
  omega
theorem gap_all : ∀ g ∈ ([[32], [10], [9, 32, 13], [32, 35, 32, 60, 120, 62, 32, 40, 10], [32, 32]] : List Bs), Gap g := by
  intro g hg
  simp only [List.mem_cons, List.not_mem_nil, or_false] at hg
  rcases hg with rfl | rfl | rfl | rfl | rfl
  all_goals
    refine ⟨⟨_, _, rfl, by decide⟩, fun x => ?_⟩
    simp [skipN, blankB]
    try omega
end Go.Proofs.Ytgeaccoobhigcaa
namespace Go.Proofs.Ytgeaccoobhigcaa

theorem toks_one {c : UInt8} {r : Bs} {k : Nat} {t : Bs} (h0 : skipN false (c :: r) = 0) (h : nextT (c :: r) = ⟨k, t, (c :: r).length⟩) :
    toks (c :: r) = ⟨k, t, 0⟩ :: if k = 6 then [] else [⟨5, [], (c :: r).length⟩] := by
  unfold toks
  rw [show past (c :: r) = c :: r by unfold past; rw [h0]; rfl, h0, toksP_cons, h]
  simp only
  rw [List.drop_eq_nil_of_le (Nat.le_refl _)]
  rw [show past [] = [] from rfl, toksP_nil]
  simp [skipN]

/-- Letters. -/
def letN (n : Nat) : Bs := (List.range n).map fun i => UInt8.ofNat (97 + i % 26)
theorem letN_succ (n : Nat) : letN (n + 1) = letN n ++ [UInt8.ofNat (97 + n % 26)] := by
  unfold letN; rw [List.range_succ, List.map_append]; rfl
theorem letN_length (n : Nat) : (letN n).length = n := by simp [letN]
theorem letN_small (n : Nat) : ∀ c ∈ letN n, smallB c = true := by
  intro c hc
  simp only [letN, List.mem_map, List.mem_range] at hc
  obtain ⟨i, _, rfl⟩ := hc
  have : i % 26 < 26 := Nat.mod_lt _ (by omega)
  have e : (UInt8.ofNat (97 + i % 26)).toNat = 97 + i % 26 := by rw [UInt8.toNat_ofNat']; exact Nat.mod_eq_of_lt (by omega)
  unfold smallB
  rw [e]
  simp
  omega
theorem headN_all {p : UInt8 → Bool} : ∀ (l b : Bs), (∀ c ∈ l, p c = true) → headN p (l ++ b) = l.length + headN p b
  | [], _, _ => by simp
  | c :: r, b, h => by
    have ih := headN_all r b (fun x hx => h x (by simp [hx]))
    have hc := h c (by simp)
    rw [List.cons_append, show headN p (c :: (r ++ b)) = headN p (r ++ b) + 1 by simp [headN, hc], ih]
    simp only [List.length_cons]; omega
theorem small_part {c : UInt8} (h : smallB c = true) : partB c = true := by simp [partB, h]

theorem names_word (n : Nat) (h : 1 ≤ n) : toks (letN n) = ⟨if 32 < n then 6 else 1, letN n, 0⟩ :: if (if 32 < n then 6 else 1) = 6 then [] else [⟨5, [], n⟩] := by
  have hs := letN_small n
  have hl := letN_length n
  generalize letN n = w at hs hl ⊢
  cases w with
  | nil => simp at hl; omega
  | cons c r =>
    have hc := hs c (by simp)
    have hN : headN partB (c :: r) = n := by
      have := headN_all (p := partB) (c :: r) [] (fun x hx => small_part (hs x hx))
      rw [List.append_nil] at this
      rw [this, hl]; rfl
    have h0 : skipN false (c :: r) = 0 := by
      have : blankB c = false := by unfold smallB at hc; simp [blankB] at hc ⊢; omega
      have : c.toNat ≠ 35 := by unfold smallB at hc; simp at hc; omega
      simp [skipN, *]
    have := toks_one (k := if 32 < n then 6 else 1) (t := c :: r) h0 (by
      rw [nextT_cons, if_pos hc, hN, hl, List.take_of_length_le (by omega)])
    rw [this, hl]

theorem names_var (n : Nat) (h : 1 ≤ n) : toks (60 :: (letN n ++ [62])) = ⟨if 32 < n then 6 else 3, if 32 < n then 60 :: (letN n ++ [62]) else letN n, 0⟩ :: if (if 32 < n then 6 else 3) = 6 then [] else [⟨5, [], n + 2⟩] := by
  have hs := letN_small n
  have hl := letN_length n
  generalize letN n = w at hs hl ⊢
  have hN : headN partB (w ++ [62]) = n := by
    rw [headN_all w [62] (fun x hx => small_part (hs x hx)), hl]; rfl
  have hsm : headSmall (w ++ [62]) = true := by
    cases w with
    | nil => simp at hl; omega
    | cons c r => exact hs c (by simp)
  have h62 : headIs 62 ((w ++ [62]).drop n) = true := by rw [List.drop_left' hl]; rfl
  have hlen : (60 :: (w ++ [62])).length = n + 2 := by simp; omega
  have := toks_one (c := 60) (r := w ++ [62]) (k := if 32 < n then 6 else 3) (t := if 32 < n then 60 :: (w ++ [62]) else w) rfl (by
      rw [nextT_cons, if_neg (by decide), if_neg (by simp [digitB]), hN, hsm, h62, if_pos (by decide), hlen]
      by_cases h32 : 32 < n
      · rw [if_pos h32, if_pos h32, if_pos h32, List.take_of_length_le (by omega)]
      · rw [if_neg h32, if_neg h32, if_neg h32, List.take_left' hl])
  rw [this, hlen]

theorem nines_val : ∀ n, n ≤ 9 → valN 0 (List.replicate n 57) ≤ 2147483647 := by decide
theorem names_num (n : Nat) (h : 1 ≤ n) : toks (45 :: List.replicate n 57) = ⟨if 9 < n then 6 else 2, 45 :: List.replicate n 57, 0⟩ :: if (if 9 < n then 6 else 2) = 6 then [] else [⟨5, [], n + 1⟩] := by
  have hN : headN digitB (List.replicate n 57) = n := by
    have := headN_all (p := digitB) (List.replicate n 57) [] (fun x hx => by rw [List.eq_of_mem_replicate hx]; decide)
    rw [List.append_nil] at this
    rw [this]; simp [headN]
  have hlen : (45 :: List.replicate n (57 : UInt8)).length = n + 1 := by simp
  have hd : headDig (List.replicate n 57) = true := by cases n with
    | zero => omega
    | succ m => rfl
  have hnt : numT (45 :: List.replicate n 57) = decide (n ≤ 9) := by
    unfold numT readOk numForm
    rw [show bodyT (45 :: List.replicate n 57) = List.replicate n 57 from rfl]
    by_cases h9 : n ≤ 9
    · have hv := nines_val n h9
      have h48 : headIs 48 (List.replicate n 57) = false := by cases n <;> rfl
      have hall : (List.replicate n (57 : UInt8)).all digitB = true := by
        rw [List.all_eq_true]; intro x hx; rw [List.eq_of_mem_replicate hx]; decide
      rw [h48, hall]
      simp [hv, h9, h]
      omega
    · by_cases h10 : n = 10
      · subst h10; decide
      · simp [h9]
        intro hh
        omega
  have := toks_one (c := 45) (r := List.replicate n 57) (k := if 9 < n then 6 else 2) (t := 45 :: List.replicate n 57) rfl (by
      rw [nextT_cons, if_neg (by decide), hd, if_pos (by decide), hN, hlen, List.take_of_length_le (by rw [hlen]; omega), hnt, Nat.add_comm 1]
      by_cases h9 : n ≤ 9
      · rw [if_pos (by simpa using h9), if_neg (by omega)]
      · rw [if_neg (by simpa using h9), if_pos (by omega)])
  rw [this, hlen]
end Go.Proofs.Ytgeaccoobhigcaa
namespace Go.Proofs.Ytgeaccoobhigcaa
open Go Go.RowKit

/-- Kinds and texts of the tokens that stand from there on. -/
def kts (l : Bs) : List (Nat × Bs) := (toks l).map Tk.kt
theorem toksP_kt (l : Bs) (p q : Nat) : (toksP l p).map Tk.kt = (toksP l q).map Tk.kt := by
  have h1 := toksP_on (l.length + 1) l 0 p (by omega)
  have h2 := toksP_on (l.length + 1) l 0 q (by omega)
  rw [Nat.zero_add] at h1 h2
  rw [h1, h2, List.map_map, List.map_map]
  congr 1
theorem kts_past (l : Bs) (p : Nat) : kts l = (toksP (past l) p).map Tk.kt := toksP_kt _ _ _
theorem kts_nil : kts [] = [(5, [])] := rfl
theorem past_blank {c : UInt8} (r : Bs) (h : blankB c = true) : past (c :: r) = past r := by
  unfold past
  rw [skipN, if_pos h]
  rfl
theorem kts_blank {c : UInt8} (r : Bs) (h : blankB c = true) : kts (c :: r) = kts r := by
  rw [kts_past _ 0, kts_past r 0, past_blank r h]
theorem kts_tok {c : UInt8} {r : Bs} {k n : Nat} {t : Bs} (h0 : blankB c = false) (h1 : c.toNat ≠ 35) (hk : k ≠ 6) (h : nextT (c :: r) = ⟨k, t, n⟩) : kts (c :: r) = (k, t) :: kts ((c :: r).drop n) := by
  have hp : past (c :: r) = c :: r := by
    unfold past
    rw [skipN, if_neg (by simp [h0]), if_neg h1]
    rfl
  rw [kts_past _ 0, hp, toksP_cons, h]
  simp only [if_neg hk, List.map_cons]
  rw [kts_past _ (0 + n + skipN false (List.drop n (c :: r)))]
  rfl
theorem drop_app {α : Type} (a b : List α) : (a ++ b).drop a.length = b := by simp
theorem kts_app {c : UInt8} {r b : Bs} {k : Nat} {t : Bs} (h0 : blankB c = false) (h1 : c.toNat ≠ 35) (hk : k ≠ 6) (h : nextT (c :: (r ++ b)) = ⟨k, t, (c :: r).length⟩) : kts (c :: (r ++ b)) = (k, t) :: kts b := by
  rw [kts_tok h0 h1 hk h]
  congr 2
  exact drop_app (c :: r) b
/-- The first byte is none of some kind. -/
def HeadNo (p : UInt8 → Bool) (l : Bs) : Prop := ∀ c r, l = c :: r → p c = false
theorem HeadNo.cons {p : UInt8 → Bool} {c : UInt8} {r : Bs} (h : p c = false) : HeadNo p (c :: r) := by
  intro d s e
  cases e
  exact h
theorem headN_headNo {p : UInt8 → Bool} {l : Bs} (h : HeadNo p l) : headN p l = 0 := by
  cases l with
  | nil => rfl
  | cons c r => simp [headN, h c r rfl]
theorem headN_app {p : UInt8 → Bool} {l b : Bs} (hl : ∀ c ∈ l, p c = true) (h : HeadNo p b) : headN p (l ++ b) = l.length := by
  rw [headN_all l b hl, headN_headNo h, Nat.add_zero]
theorem wordB_parts {l : Bs} (h : wordB l = true) : ∃ c r, l = c :: r ∧ smallB c = true ∧ (∀ d ∈ l, partB d = true) ∧ l.length ≤ 32 := by
  unfold wordB at h
  simp only [Bool.and_eq_true, decide_eq_true_eq, List.all_eq_true] at h
  obtain ⟨⟨⟨h1, h2⟩, h3⟩, h4⟩ := h
  cases l with
  | nil => simp at h1
  | cons c r => exact ⟨c, r, rfl, h3, h4, h2⟩
theorem small_no {c : UInt8} (h : smallB c = true) : blankB c = false ∧ c.toNat ≠ 35 := by
  simp only [smallB, decide_eq_true_eq] at h
  constructor
  · simp [blankB]; omega
  · omega
/-- A word. -/
theorem kts_word {t b : Bs} (h : wordB t = true) (hb : HeadNo partB b) : kts (t ++ b) = (1, t) :: kts b := by
  obtain ⟨c, r, rfl, hc, hp, hl⟩ := wordB_parts h
  obtain ⟨h0, h1⟩ := small_no hc
  refine kts_app h0 h1 (by decide) ?_
  have hn : headN partB (c :: (r ++ b)) = (c :: r).length := headN_app (l := c :: r) hp hb
  rw [nextT]
  simp only [hc, if_true, hn]
  rw [if_neg (by omega)]
  congr 1
  exact List.take_left (l₁ := c :: r)
/-- A variable. -/
theorem kts_var {t b : Bs} (h : wordB t = true) : kts (60 :: (t ++ 62 :: b)) = (3, t) :: kts b := by
  obtain ⟨c, r, rfl, hc, hp, hl⟩ := wordB_parts h
  have hn : headN partB (c :: r ++ 62 :: b) = (c :: r).length := headN_app hp (HeadNo.cons (by decide))
  have e : kts (60 :: ((c :: r ++ [62]) ++ b)) = (3, c :: r) :: kts b := by
    refine kts_app (by decide) (by decide) (by decide) ?_
    rw [List.append_assoc]
    show nextT (60 :: (c :: r ++ 62 :: b)) = _
    have h3 : headSmall (c :: r ++ 62 :: b) = true := hc
    have h4 : headIs 62 ((c :: r ++ 62 :: b).drop (c :: r).length) = true := by rw [drop_app]; rfl
    have h5 : (c :: r ++ 62 :: b).take (c :: r).length = c :: r := List.take_left
    generalize c :: r ++ 62 :: b = X at hn h3 h4 h5 ⊢
    rw [nextT_cons, if_neg (by decide), if_neg (by simp [digitB]), if_pos (by rw [hn, h3, h4]; decide), hn, if_neg (by omega), h5]
    simp
  simpa using e
end Go.Proofs.Ytgeaccoobhigcaa
namespace Go.Proofs.Ytgeaccoobhigcaa
open Go Go.RowKit

theorem valN_snoc : ∀ (l : Bs) (a : Nat) (c : UInt8), valN a (l ++ [c]) = 10 * valN a l + (c.toNat - 48)
  | [], a, c => by rw [List.nil_append, valN_cons, valN_nil, valN_nil]
  | x :: l, a, c => by rw [List.cons_append, valN_cons, valN_cons, valN_snoc l]
theorem ofNat_dig {k : Nat} (h : k < 10) : (UInt8.ofNat (48 + k)).toNat = 48 + k := by
  rw [UInt8.toNat_ofNat']
  exact Nat.mod_eq_of_lt (by omega)
theorem digF_facts : ∀ (f n : Nat), n < f → (∀ c ∈ digF f n, digitB c = true) ∧ valN 0 (digF f n) = n ∧ 1 ≤ (digF f n).length ∧ (0 < n → headIs 48 (digF f n) = false) ∧ (n = 0 → (digF f n).length = 1)
  | 0, _, h => by omega
  | f + 1, n, h => by
    unfold digF
    by_cases h10 : n < 10
    · rw [if_pos h10]
      have := ofNat_dig h10
      refine ⟨?_, ?_, by simp, ?_, by simp⟩
      · intro c hc
        rw [List.mem_singleton.1 hc]
        simp [digitB]
        omega
      · rw [valN_cons, valN_nil, this]; omega
      · intro h0
        simp [headIs]
        omega
    · rw [if_neg h10]
      obtain ⟨h1, h2, h3, h4, h5⟩ := digF_facts f (n / 10) (by omega)
      have hd := ofNat_dig (show n % 10 < 10 by omega)
      refine ⟨?_, ?_, by simp, ?_, by omega⟩
      · intro c hc
        rcases List.mem_append.1 hc with hc | hc
        · exact h1 c hc
        · rw [List.mem_singleton.1 hc]
          simp [digitB]
          omega
      · rw [valN_snoc, h2, hd]; omega
      · intro _
        have h6 := h4 (by omega)
        generalize digF f (n / 10) = l at h3 h6
        cases l with
        | nil => simp at h3
        | cons c r => exact h6
theorem digL_form {n : Nat} (h : n ≤ 2147483647) : numForm (digL n) = true ∧ valN 0 (digL n) = n ∧ (∀ c ∈ digL n, digitB c = true) := by
  obtain ⟨h1, h2, h3, h4, h5⟩ := digF_facts (n + 1) n (by omega)
  have h6 : (digL n).length ≤ 10 := digL_len 9 n (Nat.lt_of_le_of_lt h (by decide))
  refine ⟨?_, h2, h1⟩
  unfold numForm
  have h7 : (digL n).all digitB = true := List.all_eq_true.2 h1
  have h3' : 1 ≤ (digL n).length := h3
  rw [h7, decide_eq_true h3', decide_eq_true h6]
  simp only [Bool.true_and, Bool.and_true, Bool.not_eq_true', Bool.and_eq_false_iff, decide_eq_false_iff_not]
  rcases Nat.eq_zero_or_pos n with h0 | h0
  · right; have := h5 h0; unfold digL; omega
  · left; exact h4 h0
theorem digL_head (n : Nat) : ∃ c r, digL n = c :: r ∧ digitB c = true := by
  obtain ⟨h1, h2, h3, h4, h5⟩ := digF_facts (n + 1) n (by omega)
  unfold digL
  generalize digF (n + 1) n = l at *
  cases l with
  | nil => simp at h3
  | cons c r => exact ⟨c, r, rfl, h1 c (by simp)⟩
theorem digit_no {c : UInt8} (h : digitB c = true) : c.toNat ≠ 45 ∧ blankB c = false ∧ c.toNat ≠ 35 ∧ smallB c = false := by
  simp only [digitB, decide_eq_true_eq] at h
  refine ⟨by omega, by simp [blankB]; omega, by omega, by simp [smallB]; omega⟩
theorem headIs_cons {k : Nat} {c : UInt8} {r : Bs} : headIs k (c :: r) = decide (c.toNat = k) := rfl
/-- A number. -/
theorem num_text {n : Int} (h1 : -2147483647 ≤ n) (h2 : n ≤ 2147483647) : numT (numS n).data.toList = true ∧ readV (numS n).data.toList = n := by
  unfold numS
  by_cases hn : n < 0
  · rw [if_pos hn]
    obtain ⟨h3, h4, h5⟩ := digL_form (n := (-n).toNat) (by omega)
    rw [ByteArray.data_append, Array.toList_append]
    show numT (45 :: digL (-n).toNat) = true ∧ readV (45 :: digL (-n).toNat) = n
    unfold numT readOk readV bodyT
    rw [headIs_cons]
    simp only [show (45 : UInt8).toNat = 45 from rfl, decide_true, if_true, List.tail_cons, h3, h4, Bool.true_and]
    have h6 := val_zero _ h3
    rw [h4] at h6
    refine ⟨?_, by omega⟩
    have : headIs 48 (digL (-n).toNat) = false := by
      rw [Bool.eq_false_iff]
      intro hh
      have := h6.2 hh
      omega
    rw [this]
    simp
    omega
  · rw [if_neg hn]
    obtain ⟨h3, h4, h5⟩ := digL_form (n := n.toNat) (by omega)
    obtain ⟨c, r, hl, hc⟩ := digL_head n.toNat
    show numT (digL n.toNat) = true ∧ readV (digL n.toNat) = n
    have h6 : headIs 45 (digL n.toNat) = false := by
      rw [hl, headIs_cons]
      simp [(digit_no hc).1]
    unfold numT readOk readV bodyT
    rw [h6]
    simp only [Bool.false_eq_true, if_false, h3, h4, Bool.true_and, Bool.false_and, Bool.not_false, decide_eq_true_eq]
    omega
theorem kts_num {n : Int} {b : Bs} (h1 : -2147483647 ≤ n) (h2 : n ≤ 2147483647) (hb : HeadNo digitB b) : kts ((numS n).data.toList ++ b) = (2, (numS n).data.toList) :: kts b := by
  obtain ⟨ht, _⟩ := num_text h1 h2
  have key : ∃ c r, (numS n).data.toList = c :: r ∧ (∀ d ∈ r, digitB d = true) ∧ (digitB c = true ∨ (c = 45 ∧ ∃ d s, r = d :: s)) := by
    unfold numS
    by_cases hn : n < 0
    · rw [if_pos hn]
      obtain ⟨h3, h4, h5⟩ := digL_form (n := (-n).toNat) (by omega)
      obtain ⟨c, r, hl, hc⟩ := digL_head (-n).toNat
      rw [ByteArray.data_append, Array.toList_append]
      exact ⟨45, digL (-n).toNat, rfl, h5, .inr ⟨rfl, c, r, hl⟩⟩
    · rw [if_neg hn]
      obtain ⟨h3, h4, h5⟩ := digL_form (n := n.toNat) (by omega)
      obtain ⟨c, r, hl, hc⟩ := digL_head n.toNat
      refine ⟨c, r, hl, fun d hd => h5 d (by rw [hl]; simp [hd]), .inl hc⟩
  obtain ⟨c, r, hl, hr, hc⟩ := key
  rw [hl] at ht ⊢
  have hn : headN digitB (r ++ b) = r.length := headN_app hr hb
  have hblank : blankB c = false ∧ c.toNat ≠ 35 ∧ smallB c = false := by
    rcases hc with hc | ⟨rfl, _⟩
    · exact (digit_no hc).2
    · decide
  have hcond : (digitB c || (decide (c.toNat = 45) && headDig (r ++ b))) = true := by
    rcases hc with hc | ⟨rfl, d, s, rfl⟩
    · rw [hc]; rfl
    · have := hr d (by simp)
      show (_ || (_ && digitB d)) = true
      rw [this]; decide
  refine kts_app hblank.1 hblank.2.1 (by decide) ?_
  have hk : (c :: (r ++ b)).take (1 + r.length) = c :: r := by rw [Nat.add_comm, List.take_succ_cons, List.take_left' rfl]
  rw [nextT_cons, if_neg (by rw [hblank.2.2]; decide), if_pos hcond, hn, hk, ht]
  simp [Nat.add_comm]
/-- A sign. -/
theorem kts_s (c : UInt8) (r b : Bs) (h : nextT (c :: (r ++ b)) = ⟨4, c :: r, (c :: r).length⟩) (h0 : blankB c = false := by decide) (h1 : c.toNat ≠ 35 := by decide) : kts (c :: (r ++ b)) = (4, c :: r) :: kts b := kts_app h0 h1 (by decide) h

/-- What may stand behind a word: a blank, a closing sign, or nothing. -/
def Sep (b : Bs) : Prop := b = [] ∨ ∃ c r, b = c :: r ∧ (c = 32 ∨ c = 41 ∨ c = 10 ∨ c = 125)
theorem Sep.no {p : UInt8 → Bool} {b : Bs} (h : Sep b) (h1 : p 32 = false) (h2 : p 41 = false) (h3 : p 10 = false) (h4 : p 125 = false) : HeadNo p b := by
  rcases h with rfl | ⟨c, r, rfl, rfl | rfl | rfl | rfl⟩
  · intro d s e; cases e
  all_goals exact HeadNo.cons (by assumption)
theorem Sep.blank (r : Bs) : Sep (32 :: r) := .inr ⟨_, _, rfl, .inl rfl⟩
theorem Sep.shut (r : Bs) : Sep (41 :: r) := .inr ⟨_, _, rfl, .inr (.inl rfl)⟩
theorem Sep.line (r : Bs) : Sep (10 :: r) := .inr ⟨_, _, rfl, .inr (.inr (.inl rfl))⟩
theorem Sep.right (r : Bs) : Sep (125 :: r) := .inr ⟨_, _, rfl, .inr (.inr (.inr rfl))⟩
def symK (s : Sm) : Nat × Bs := if s.k = 3 then (1, s.t.data.toList) else (2, (numS s.n).data.toList)
def atomK (a : Am) : Nat × Bs := if a.v.size = 0 then symK a.s else (3, a.v.data.toList)
theorem nil_str {s : ByteArray} (h : s.size = 0) : s = ⟨#[]⟩ := by
  obtain ⟨⟨l⟩⟩ := s
  have : l.length = 0 := h
  rw [List.eq_nil_of_length_eq_zero this]
theorem const_cases {s : Sm} (h : constB s = true) : (s.k = 2 ∧ s.t = ⟨#[]⟩ ∧ -2147483647 ≤ s.n ∧ s.n ≤ 2147483647) ∨ (s.k = 3 ∧ s.n = 0 ∧ wordB s.t.data.toList = true) := by
  unfold constB at h
  simp only [Bool.and_eq_true, decide_eq_true_eq] at h
  obtain ⟨h1, h2⟩ := h
  unfold validB at h2
  rw [if_neg h1] at h2
  split at h2
  · simp only [Bool.and_eq_true, decide_eq_true_eq] at h2
    exact .inl ⟨‹_›, nil_str h2.1, h2.2.1, h2.2.2⟩
  · split at h2
    · simp only [Bool.and_eq_true, decide_eq_true_eq] at h2
      exact .inr ⟨‹_›, h2.1, h2.2⟩
    · cases h2
theorem const_valid {s : Sm} (h : constB s = true) : validB s = true := by
  unfold constB at h
  simp only [Bool.and_eq_true] at h
  exact h.2
theorem symS_const {s : Sm} (h : constB s = true) : symS s = if s.k = 3 then s.t else numS s.n := by
  unfold symS
  rw [if_pos (const_valid h), if_neg]
  rcases const_cases h with ⟨h1, _⟩ | ⟨h1, _⟩ <;> omega
theorem kts_sym {s : Sm} {b : Bs} (h : constB s = true) (hb : Sep b) : kts ((symS s).data.toList ++ b) = symK s :: kts b := by
  rw [symS_const h]
  unfold symK
  rcases const_cases h with ⟨h1, h2, h3, h4⟩ | ⟨h1, h2, h3⟩
  · rw [if_neg (by omega), if_neg (by omega)]
    exact kts_num h3 h4 (hb.no rfl rfl rfl rfl)
  · rw [if_pos h1, if_pos h1]
    exact kts_word h3 (hb.no rfl rfl rfl rfl)
theorem data_cat (a b : ByteArray) : (a ++ b).data.toList = a.data.toList ++ b.data.toList := by rw [ByteArray.data_append, Array.toList_append]
theorem kts_atom {a : Am} {b : Bs} (h : atomB a = true) (hb : Sep b) : kts ((atomS a).data.toList ++ b) = atomK a :: kts b := by
  unfold atomB at h
  unfold atomS atomK
  by_cases h0 : a.v.size = 0
  · rw [if_pos h0] at h ⊢
    rw [if_pos h0]
    exact kts_sym h hb
  · rw [if_neg h0] at h ⊢
    rw [if_neg h0]
    simp only [Bool.and_eq_true] at h
    rw [data_cat, data_cat]
    have := kts_var (b := b) h.1
    simpa using this
end Go.Proofs.Ytgeaccoobhigcaa
namespace Go.Proofs.Ytgeaccoobhigcaa
open Go Go.RowKit

abbrev Ks := List (Nat × Bs)
theorem kts_s1 (c : UInt8) (b : Bs) (h : nextT (c :: b) = ⟨4, [c], 1⟩) (h0 : blankB c = false := by decide) (h1 : c.toNat ≠ 35 := by decide) : kts (c :: b) = (4, [c]) :: kts b := kts_s c [] b h h0 h1
theorem kts_32 (b : Bs) : kts (32 :: b) = kts b := kts_blank b (by decide)
theorem kts_10 (b : Bs) : kts (10 :: b) = kts b := kts_blank b (by decide)
theorem kts_open (b : Bs) : kts (40 :: b) = (4, [40]) :: kts b := kts_s1 40 b rfl
theorem kts_shut (b : Bs) : kts (41 :: b) = (4, [41]) :: kts b := kts_s1 41 b rfl
theorem kts_left (b : Bs) : kts (123 :: b) = (4, [123]) :: kts b := kts_s1 123 b rfl
theorem kts_right (b : Bs) : kts (125 :: b) = (4, [125]) :: kts b := kts_s1 125 b rfl
theorem kts_hat (b : Bs) : kts (94 :: b) = (4, [94]) :: kts b := kts_s1 94 b rfl
theorem kts_plus (b : Bs) : kts (43 :: b) = (4, [43]) :: kts b := kts_s1 43 b rfl
theorem kts_star (b : Bs) : kts (42 :: b) = (4, [42]) :: kts b := kts_s1 42 b rfl
theorem kts_minus_open (b : Bs) : kts (45 :: 40 :: b) = (4, [45]) :: (4, [40]) :: kts b := by rw [kts_s1 45 _ rfl, kts_open]
theorem kts_minus_left (b : Bs) : kts (45 :: 123 :: b) = (4, [45]) :: (4, [123]) :: kts b := by rw [kts_s1 45 _ rfl, kts_left]
theorem kts_minus_32 (b : Bs) : kts (45 :: 32 :: b) = (4, [45]) :: kts b := by rw [kts_s1 45 _ rfl, kts_32]
theorem kts_from (b : Bs) : kts (60 :: 60 :: 32 :: b) = (4, [60, 60]) :: kts (32 :: b) := kts_s 60 [60] (32 :: b) rfl
theorem kts_to (b : Bs) : kts (62 :: 62 :: b) = (4, [62, 62]) :: kts b := kts_s 62 [62] b rfl
theorem kts_arrow (b : Bs) : kts (45 :: 45 :: 62 :: b) = (4, [45, 45, 62]) :: kts b := kts_s 45 [45, 62] b rfl
theorem kts_rel {k : Int} (h : relL k ≠ #[]) (b : Bs) : kts ((relL k).toList ++ 32 :: b) = (4, (relL k).toList) :: kts b := by
  unfold relL at h ⊢
  by_cases h2 : k = 2
  · rw [if_pos h2]; exact (kts_s 60 [62] (32 :: b) rfl).trans (by rw [kts_32])
  rw [if_neg h2] at h ⊢
  by_cases h2 : k = 3
  · rw [if_pos h2]; exact (kts_s 60 [] (32 :: b) rfl).trans (by rw [kts_32])
  rw [if_neg h2] at h ⊢
  by_cases h2 : k = 4
  · rw [if_pos h2]; exact (kts_s 60 [61] (32 :: b) rfl).trans (by rw [kts_32])
  rw [if_neg h2] at h ⊢
  by_cases h2 : k = 5
  · rw [if_pos h2]; exact (kts_s 62 [] (32 :: b) rfl).trans (by rw [kts_32])
  rw [if_neg h2] at h ⊢
  by_cases h2 : k = 6
  · rw [if_pos h2]; exact (kts_s 62 [61] (32 :: b) rfl).trans (by rw [kts_32])
  rw [if_neg h2] at h ⊢
  by_cases h2 : k = 7
  · rw [if_pos h2]; exact (kts_s 60 [61, 62] (32 :: b) rfl).trans (by rw [kts_32])
  rw [if_neg h2] at h
  exact absurd rfl h
theorem kts_pref (k : Int) {b : Bs} (hb : Sep b) : kts ((signL k).toList ++ b) = (4, (signL k).toList) :: kts b := by
  have key : ∀ c : UInt8, c = 43 ∨ c = 45 ∨ c = 33 ∨ c = 126 ∨ c = 62 ∨ c = 60 ∨ c = 61 → kts (c :: b) = (4, [c]) :: kts b := by
    intro c hc
    rcases hc with rfl | rfl | rfl | rfl | rfl | rfl | rfl
    all_goals
      rcases hb with rfl | ⟨d, r, rfl, rfl | rfl | rfl | rfl⟩
      all_goals exact kts_s1 _ _ rfl
  unfold signL
  repeat' split
  all_goals exact key _ (by decide)

/-- Rows, each with a blank ahead. -/
theorem kts_rows {α : Type} (f : α → Bs) (k : α → Ks) : ∀ (l : List α) (b : Bs), (∀ a ∈ l, ∀ b, Sep b → kts (f a ++ b) = k a ++ kts b) → Sep b → kts (l.flatMap (fun a => 32 :: f a) ++ b) = l.flatMap k ++ kts b
  | [], _, _, _ => rfl
  | a :: l, b, h, hb => by
    rw [List.flatMap_cons, List.flatMap_cons, List.append_assoc, List.append_assoc, List.cons_append, kts_32, h a (by simp), kts_rows f k l b (fun x hx => h x (by simp [hx])) hb]
    cases l with
    | nil => exact hb
    | cons x l => exact Sep.blank _
theorem take_snoc {α : Type} {l : List α} {n : Nat} (h : n < l.length) : l.take (n + 1) = l.take n ++ [l[n]] := by rw [List.take_add_one, List.getElem?_eq_getElem h]; rfl
theorem getD_at {α : Type} {l : List α} {n : Nat} (d : α) (h : n < l.length) : l.getD n d = l[n] := by rw [List.getD_eq_getElem?_getD, List.getElem?_eq_getElem h]; rfl
theorem listS_data (l : List Sm) : ∀ n, n ≤ l.length → (listS l n).data.toList = [60, 60] ++ (l.take n).flatMap fun s => 32 :: (symS s).data.toList
  | 0, _ => by simp [listS]
  | n + 1, h => by
    rw [listS, data_cat, data_cat, listS_data l n (by omega), take_snoc (by omega), getD_at _ (by omega), List.flatMap_append]
    simp
theorem bracesT_data (l : List Ts) : ∀ n, n ≤ l.length → (bracesT l n).data.toList = [123] ++ (l.take n).flatMap fun s => 32 :: (testT s).data.toList
  | 0, _ => by simp [bracesT]
  | n + 1, h => by
    rw [bracesT, data_cat, data_cat, bracesT_data l n (by omega), take_snoc (by omega), getD_at _ (by omega), List.flatMap_append]
    simp
def testK (t : Ts) : Ks := if t.rel = 8 then (4, [60, 60]) :: (t.list.map symK ++ [(4, [62, 62])]) else if relL t.rel = #[] then [atomK ⟨t.v, t.s⟩] else [(4, (relL t.rel).toList), atomK ⟨t.v, t.s⟩]
theorem flatMap_one {α β : Type} (k : α → β) (l : List α) : l.flatMap (fun a => [k a]) = l.map k := by induction l <;> simp_all
theorem kts_test {t : Ts} {b : Bs} (h : testB t = true) (hb : Sep b) : kts ((testT t).data.toList ++ b) = testK t ++ kts b := by
  unfold testB at h
  unfold testT testK
  by_cases h8 : t.rel = 8
  · rw [if_pos h8] at h ⊢
    rw [if_pos h8]
    simp only [Bool.and_eq_true, decide_eq_true_eq] at h
    obtain ⟨⟨⟨_, _⟩, h3⟩, h4⟩ := h
    rw [data_cat, listS_data _ _ (Nat.le_refl _), List.take_of_length_le (Nat.le_refl _)]
    have hr := kts_rows (fun s => (symS s).data.toList) (fun s => [symK s]) t.list (32 :: 62 :: 62 :: b) (fun a ha b hb => kts_sym (List.all_eq_true.1 h4 a ha) hb) (Sep.blank _)
    rw [flatMap_one, kts_32, kts_to] at hr
    cases hl : t.list with
    | nil => rw [hl] at h3; simp at h3
    | cons x l =>
      rw [hl] at hr
      rw [List.flatMap_cons] at hr ⊢
      have := kts_from ((symS x).data.toList ++ (l.flatMap (fun s => 32 :: (symS s).data.toList) ++ 32 :: 62 :: 62 :: b))
      simp only [List.append_assoc, List.cons_append, List.nil_append] at this hr ⊢
      rw [this, hr]
  · rw [if_neg h8] at h ⊢
    rw [if_neg h8]
    simp only [Bool.and_eq_true] at h
    by_cases hr : relL t.rel = #[]
    · rw [if_pos hr, if_pos hr]
      exact kts_atom h.2 hb
    · rw [if_neg hr, if_neg hr, data_cat, data_cat]
      have := kts_rel hr ((atomS ⟨t.v, t.s⟩).data.toList ++ b)
      simp only [List.append_assoc, List.cons_append, List.nil_append] at this ⊢
      rw [this, kts_atom h.2 hb]
def fieldK (l : List Ts) : Ks := if l.length = 1 then testK (l.getD 0 nilTs) else (4, [123]) :: (l.flatMap testK ++ [(4, [125])])
theorem kts_field {l : List Ts} {b : Bs} (h : l.all testB = true) (hb : Sep b) : kts ((fieldT l).data.toList ++ b) = fieldK l ++ kts b := by
  unfold fieldT fieldK
  by_cases h1 : l.length = 1
  · rw [if_pos h1, if_pos h1]
    refine kts_test (List.all_eq_true.1 h _ ?_) hb
    rw [getD_at _ (by omega)]
    exact List.getElem_mem _
  · rw [if_neg h1, if_neg h1, data_cat, bracesT_data _ _ (Nat.le_refl _), List.take_of_length_le (Nat.le_refl _)]
    have hr := kts_rows (fun s => (testT s).data.toList) testK l (32 :: 125 :: b) (fun a ha b hb => kts_test (List.all_eq_true.1 h a ha) hb) (Sep.blank _)
    rw [kts_32, kts_right] at hr
    simp only [List.append_assoc, List.cons_append, List.nil_append] at hr ⊢
    rw [kts_left, hr]
mutual
def condK : Cd → Ks
  | .mk kind goal id attr value acc conds =>
    if kind = 3 then (4, [45]) :: (4, [123]) :: (condsK conds ++ [(4, [125])])
    else (if kind = 2 then [(4, [45])] else []) ++ ((4, [40]) :: ((if goal then [(1, [115, 116, 97, 116, 101])] else []) ++ ((3, id.data.toList) :: (4, [94]) :: (fieldK attr ++ ((if 0 < value.length then fieldK value else []) ++ ((if acc then [(4, [43])] else []) ++ [(4, [41])]))))))
def condsK : List Cd → Ks
  | [] => []
  | c :: r => condK c ++ condsK r
end
def condsL : List Cd → Bool → Bs
  | [], _ => []
  | c :: r, first => (if first then [] else [32]) ++ (condT c).data.toList ++ condsL r false
theorem condsT_data : ∀ (l : List Cd) (first : Bool) (s : ByteArray), (condsT l first s).data.toList = s.data.toList ++ condsL l first
  | [], _, s => by simp [condsT, condsL]
  | c :: r, first, s => by
    simp only [condsT, condsL]
    rw [condsT_data r, data_cat]
    cases first
    · rw [if_neg (by decide), if_neg (by decide), data_cat]
      simp
    · rw [if_pos rfl, if_pos rfl]
      simp
theorem kts_state (b : Bs) : kts (115 :: 116 :: 97 :: 116 :: 101 :: 32 :: b) = (1, [115, 116, 97, 116, 101]) :: kts b := (kts_word (t := [115, 116, 97, 116, 101]) (b := 32 :: b) (by decide) (HeadNo.cons (by decide))).trans (by rw [kts_32])
/-- Behind a clause's first sign. -/
theorem kts_clause {goal acc : Bool} {id : ByteArray} {attr value : List Ts} {b : Bs} (h1 : wordB id.data.toList = true) (h3 : attr.all testB = true) (h4 : value.all testB = true) :
    kts ((if goal then [115, 116, 97, 116, 101, 32] else []) ++ (60 :: (id.data.toList ++ (62 :: 32 :: 94 :: ((fieldT attr).data.toList ++ ((if 0 < value.length then 32 :: (fieldT value).data.toList else []) ++ ((if acc then [32, 43] else []) ++ (41 :: b)))))))) =
    ((if goal then [(1, [115, 116, 97, 116, 101])] else []) ++ ((3, id.data.toList) :: (4, [94]) :: (fieldK attr ++ ((if 0 < value.length then fieldK value else []) ++ ((if acc then [(4, [43])] else []) ++ (4, [41]) :: kts b))))) := by
  have e1 : kts ((if acc then [32, 43] else []) ++ (41 :: b)) = (if acc then [(4, [43])] else []) ++ (4, [41]) :: kts b := by
    cases acc
    · exact kts_shut b
    · show kts (32 :: 43 :: 41 :: b) = _
      rw [kts_32, kts_plus, kts_shut]; rfl
  have s1 : Sep ((if acc then [32, 43] else []) ++ (41 :: b)) := by
    cases acc
    · exact Sep.shut b
    · exact Sep.blank _
  generalize (if acc then [32, 43] else []) ++ (41 :: b) = B1 at e1 s1 ⊢
  have e2 : kts ((if 0 < value.length then 32 :: (fieldT value).data.toList else []) ++ B1) = (if 0 < value.length then fieldK value else []) ++ kts B1 := by
    split
    · rw [List.cons_append, kts_32, kts_field h4 s1]
    · rfl
  have s2 : Sep ((if 0 < value.length then 32 :: (fieldT value).data.toList else []) ++ B1) := by
    split
    · exact Sep.blank _
    · exact s1
  generalize (if 0 < value.length then 32 :: (fieldT value).data.toList else []) ++ B1 = B2 at e2 s2 ⊢
  have e3 := kts_field h3 s2
  rw [e2, e1] at e3
  have e4 := kts_var (b := 32 :: 94 :: ((fieldT attr).data.toList ++ B2)) h1
  rw [kts_32, kts_hat, e3] at e4
  cases goal
  · exact e4
  · exact (kts_state _).trans (congrArg _ e4)
theorem condT_kind {kind : Int} {goal : Bool} {id : ByteArray} {attr value : List Ts} {acc : Bool} {conds : List Cd} (b : Bs) (h3 : ¬ kind = 3) (h : 1 ≤ attr.length) : (condT (.mk kind goal id attr value acc conds)).data.toList ++ b =
    (if kind = 2 then [45, 40] else [40]) ++ ((if goal then [115, 116, 97, 116, 101, 32] else []) ++ (60 :: (id.data.toList ++ (62 :: 32 :: 94 :: ((fieldT attr).data.toList ++ ((if 0 < value.length then 32 :: (fieldT value).data.toList else []) ++ ((if acc then [32, 43] else []) ++ (41 :: b)))))))) := by
  simp only [condT]
  rw [if_neg h3, if_neg (show ¬ attr.length = 0 by omega)]
  by_cases h2 : kind = 2
  all_goals cases goal
  all_goals cases acc
  all_goals by_cases hv : 0 < value.length
  all_goals simp [h2, hv]
mutual
theorem kts_cond : ∀ (c : Cd) (d : Int) (b : Bs), firstE c d = 0 → kts ((condT c).data.toList ++ b) = condK c ++ kts b
  | .mk kind goal id attr value acc conds, d, b, h => by
    obtain ⟨h1, h2⟩ := firstE_zero h
    rcases condE_zero h1 with ⟨k, _, _, _, _, _, hc, _⟩ | ⟨k, _, i, a1, _, _, ta, tv⟩
    · subst k
      simp only [condT, condK, if_true]
      rw [data_cat, condsT_data]
      have := kts_conds conds (d + 1) true b h2
      simp only [List.append_assoc, List.cons_append, List.nil_append] at this ⊢
      rw [kts_minus_left, this]
    · have h3 : ¬ kind = 3 := by omega
      rw [condT_kind b h3 a1]
      simp only [condK]
      rw [if_neg h3]
      have := kts_clause (goal := goal) (acc := acc) (b := b) i ta tv
      by_cases h2 : kind = 2
      · rw [if_pos h2, if_pos h2]
        refine (kts_minus_open _).trans ?_
        refine (congrArg (fun x => (4, [45]) :: (4, [40]) :: x) this).trans ?_
        simp
      · rw [if_neg h2, if_neg h2]
        refine (kts_open _).trans ?_
        refine (congrArg (fun x => (4, [40]) :: x) this).trans ?_
        simp
theorem kts_conds : ∀ (l : List Cd) (d : Int) (first : Bool) (b : Bs), firstEs l d = 0 → kts (condsL l first ++ 125 :: b) = condsK l ++ (4, [125]) :: kts b
  | [], d, first, b, h => by
    simp only [condsL, condsK]
    exact kts_right b
  | c :: r, d, first, b, h => by
    simp only [condsL, condsK]
    have h1 := firstEs_mem h (List.mem_cons_self ..)
    have h2 : firstEs r d = 0 := by
      simp only [firstEs] at h
      rwa [if_pos h1] at h
    have e1 := kts_cond c d (condsL r false ++ 125 :: b) h1
    rw [kts_conds r d false b h2] at e1
    cases first
    · show kts (32 :: ((condT c).data.toList ++ condsL r false) ++ _) = _
      rw [List.cons_append, kts_32, List.append_assoc, e1, List.append_assoc]
    · show kts (((condT c).data.toList ++ condsL r false) ++ _) = _
      rw [List.append_assoc, e1, List.append_assoc]
end
end Go.Proofs.Ytgeaccoobhigcaa
namespace Go.Proofs.Ytgeaccoobhigcaa
open Go Go.RowKit

def binK (c : UInt8) (a b : Am) : Ks := [(4, [40]), (4, [c]), atomK a, atomK b, (4, [41])]
def termK (t : Tm) : Ks := if t.op = 1 then binK 43 t.a t.b else if t.op = 2 then binK 45 t.a t.b else if t.op = 3 then binK 42 t.a t.b else [atomK t.a]
theorem kts_bin (c : UInt8) (hc : ∀ b, kts (c :: 32 :: b) = (4, [c]) :: kts b) {x y : Am} {b : Bs} (h1 : atomB x = true) (h2 : atomB y = true) : kts ((binS #[c] (atomS x) (atomS y)).data.toList ++ b) = binK c x y ++ kts b := by
  unfold binS binK
  have e1 := kts_atom (b := 41 :: b) h2 (Sep.shut b)
  have e2 := kts_atom (b := 32 :: ((atomS y).data.toList ++ 41 :: b)) h1 (Sep.blank _)
  rw [kts_32, e1, kts_shut] at e2
  simp only [data_cat, List.append_assoc, List.cons_append, List.nil_append]
  rw [kts_open, hc, e2]
theorem kts_term {t : Tm} {b : Bs} (h : termB t = true) (hb : Sep b) : kts ((termS t).data.toList ++ b) = termK t ++ kts b := by
  unfold termB at h
  simp only [Bool.and_eq_true, decide_eq_true_eq] at h
  obtain ⟨⟨h1, h2⟩, h3⟩ := h
  have hy : t.op ≠ 0 → atomB t.b = true := by
    intro h0
    rw [if_neg h0] at h3
    simp only [Bool.and_eq_true] at h3
    exact h3.1.1
  unfold termS termK
  by_cases k1 : t.op = 1
  · rw [if_pos k1, if_pos k1]
    exact kts_bin 43 (fun b => by rw [kts_plus, kts_32]) h2 (hy (by omega))
  rw [if_neg k1, if_neg k1]
  by_cases k2 : t.op = 2
  · rw [if_pos k2, if_pos k2]
    exact kts_bin 45 kts_minus_32 h2 (hy (by omega))
  rw [if_neg k2, if_neg k2]
  by_cases k3 : t.op = 3
  · rw [if_pos k3, if_pos k3]
    exact kts_bin 42 (fun b => by rw [kts_star, kts_32]) h2 (hy (by omega))
  rw [if_neg k3, if_neg k3]
  exact kts_atom h2 hb
def actK (a : Ac) : Ks := (4, [40]) :: (3, a.id.data.toList) :: (4, [94]) :: atomK a.attr :: (termK a.value ++ ((4, (signL a.pref).toList) :: ((if 8 ≤ a.pref ∧ a.pref ≤ 10 then [atomK a.other] else []) ++ [(4, [41])])))
theorem kts_act {a : Ac} (b : Bs) (h : actB a = true) : kts ((actS a).data.toList ++ b) = actK a ++ kts b := by
  unfold actB at h
  simp only [Bool.and_eq_true, decide_eq_true_eq] at h
  obtain ⟨⟨⟨⟨h1, h2⟩, h3⟩, h6⟩, h7⟩ := h
  unfold actS actHead actK
  by_cases h8 : 8 ≤ a.pref ∧ a.pref ≤ 10
  · rw [if_pos h8, if_pos h8]
    rw [if_pos h8.1] at h7
    have e1 := kts_atom (b := 41 :: b) h7 (Sep.shut b)
    have e2 := kts_pref a.pref (Sep.blank ((atomS a.other).data.toList ++ 41 :: b))
    rw [kts_32, e1, kts_shut] at e2
    have e3 := kts_term (b := 32 :: ((signL a.pref).toList ++ 32 :: ((atomS a.other).data.toList ++ 41 :: b))) h3 (Sep.blank _)
    rw [kts_32, e2] at e3
    have e4 := kts_atom (b := 32 :: ((termS a.value).data.toList ++ 32 :: ((signL a.pref).toList ++ 32 :: ((atomS a.other).data.toList ++ 41 :: b)))) h2 (Sep.blank _)
    rw [kts_32, e3] at e4
    have e5 := kts_var (b := 32 :: 94 :: ((atomS a.attr).data.toList ++ 32 :: ((termS a.value).data.toList ++ 32 :: ((signL a.pref).toList ++ 32 :: ((atomS a.other).data.toList ++ 41 :: b))))) h1
    rw [kts_32, kts_hat, e4] at e5
    simp only [data_cat, List.append_assoc, List.cons_append, List.nil_append]
    rw [kts_open, e5]
  · rw [if_neg h8, if_neg h8]
    have e2 := kts_pref a.pref (Sep.shut b)
    rw [kts_shut] at e2
    have e3 := kts_term (b := 32 :: ((signL a.pref).toList ++ 41 :: b)) h3 (Sep.blank _)
    rw [kts_32, e2] at e3
    have e4 := kts_atom (b := 32 :: ((termS a.value).data.toList ++ 32 :: ((signL a.pref).toList ++ 41 :: b))) h2 (Sep.blank _)
    rw [kts_32, e3] at e4
    have e5 := kts_var (b := 32 :: 94 :: ((atomS a.attr).data.toList ++ 32 :: ((termS a.value).data.toList ++ 32 :: ((signL a.pref).toList ++ 41 :: b)))) h1
    rw [kts_32, kts_hat, e4] at e5
    simp only [data_cat, List.append_assoc, List.cons_append, List.nil_append]
    rw [kts_open, e5]
theorem linesC_data : ∀ (l : List Cd) (s : ByteArray), (linesC l s).data.toList = s.data.toList ++ l.flatMap fun c => 32 :: 32 :: ((condT c).data.toList ++ [10])
  | [], s => by simp [linesC]
  | c :: r, s => by
    rw [linesC, linesC_data r]
    simp
theorem linesA_data : ∀ (l : List Ac) (s : ByteArray), (linesA l s).data.toList = s.data.toList ++ l.flatMap fun c => 32 :: 32 :: ((actS c).data.toList ++ [10])
  | [], s => by simp [linesA]
  | c :: r, s => by
    rw [linesA, linesA_data r]
    simp
theorem kts_lines {α : Type} (f : α → Bs) (k : α → Ks) : ∀ (l : List α) (b : Bs), (∀ a ∈ l, ∀ b, kts (f a ++ b) = k a ++ kts b) → kts (l.flatMap (fun a => 32 :: 32 :: (f a ++ [10])) ++ b) = l.flatMap k ++ kts b
  | [], _, _ => rfl
  | a :: l, b, h => by
    rw [List.flatMap_cons, List.flatMap_cons, List.append_assoc, List.append_assoc, List.cons_append, List.cons_append, kts_32, kts_32, List.append_assoc, h a (by simp)]
    exact congrArg (k a ++ ·) ((kts_10 _).trans (kts_lines f k l b (fun x hx => h x (by simp [hx]))))
def prodK (p : Pd) : Ks := (1, [115, 112]) :: (4, [123]) :: (1, p.name.data.toList) :: (p.conds.flatMap condK ++ ((4, [45, 45, 62]) :: (p.acts.flatMap actK ++ [(4, [125])])))
/-- What holds of a production of its form. -/
theorem shapeE_parts {p : Pd} (h : shapeE p = 0) : wordB p.name.data.toList = true ∧ 1 ≤ cdsN p.conds ∧ cdsN p.conds ≤ 16 ∧ 1 ≤ p.acts.length ∧ p.acts.length ≤ 16 ∧ firstEs p.conds 0 = 0 ∧ p.acts.all actB = true := by
  unfold shapeE shapeEq at h
  split at h
  · cases h
  · split at h
    · cases h
    · split at h
      · rename_i h1 h2 h3
        exact absurd h h3
      · split at h
        · cases h
        · refine ⟨by simpa using ‹¬ wordB _ = false›, by omega, by omega, by omega, by omega, by omega, by simpa using ‹¬ p.acts.all actB = false›⟩
theorem prodT_data (p : Pd) (b : Bs) : (prodT p).data.toList ++ b = 115 :: 112 :: 32 :: 123 :: (p.name.data.toList ++ 10 :: (p.conds.flatMap (fun c => 32 :: 32 :: ((condT c).data.toList ++ [10])) ++ (45 :: 45 :: 62 :: 10 :: (p.acts.flatMap (fun c => 32 :: 32 :: ((actS c).data.toList ++ [10])) ++ (125 :: 10 :: b))))) := by
  unfold prodT
  rw [data_cat, linesA_data, data_cat, linesC_data, data_cat, data_cat]
  simp
theorem kts_prod {p : Pd} (b : Bs) (h : shapeE p = 0) : kts ((prodT p).data.toList ++ b) = prodK p ++ kts b := by
  obtain ⟨h1, _, _, _, _, h2, h3⟩ := shapeE_parts h
  rw [prodT_data]
  unfold prodK
  have e1 := kts_lines (fun c => (actS c).data.toList) actK p.acts (125 :: 10 :: b) (fun a ha b => kts_act b (List.all_eq_true.1 h3 a ha))
  rw [kts_right, kts_10] at e1
  have e2 := kts_lines (fun c => (condT c).data.toList) condK p.conds (45 :: 45 :: 62 :: 10 :: (p.acts.flatMap (fun c => 32 :: 32 :: ((actS c).data.toList ++ [10])) ++ (125 :: 10 :: b))) (fun a ha b => kts_cond a 0 b (firstEs_mem h2 ha))
  rw [kts_arrow, kts_10, e1] at e2
  have e3 := kts_word (t := p.name.data.toList) (b := 10 :: (p.conds.flatMap (fun c => 32 :: 32 :: ((condT c).data.toList ++ [10])) ++ (45 :: 45 :: 62 :: 10 :: (p.acts.flatMap (fun c => 32 :: 32 :: ((actS c).data.toList ++ [10])) ++ (125 :: 10 :: b))))) h1 (HeadNo.cons (by decide))
  rw [kts_10, e2] at e3
  have e4 := kts_word (t := [115, 112]) (b := 32 :: 123 :: (p.name.data.toList ++ 10 :: (p.conds.flatMap (fun c => 32 :: 32 :: ((condT c).data.toList ++ [10])) ++ (45 :: 45 :: 62 :: 10 :: (p.acts.flatMap (fun c => 32 :: 32 :: ((actS c).data.toList ++ [10])) ++ (125 :: 10 :: b)))))) (by decide) (HeadNo.cons (by decide))
  rw [kts_32, kts_left, e3] at e4
  exact e4.trans (by simp)
end Go.Proofs.Ytgeaccoobhigcaa
