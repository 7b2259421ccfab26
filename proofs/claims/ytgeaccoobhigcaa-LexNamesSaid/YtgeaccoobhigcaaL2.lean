/-
  A text behind another one: its tokens behind the other ones.
-/
import Derived.Test.YtgeaccoobhigcaaL1
namespace Go.Proofs.Ytgeaccoobhigcaa

theorem blank_not {d : UInt8} (h : blankB d = true) : smallB d = false ∧ digitB d = false ∧ partB d = false ∧ d.toNat ≠ 62 ∧ d.toNat ≠ 60 ∧ d.toNat ≠ 45 ∧ d.toNat ≠ 35 ∧ d.toNat ≤ 32 := by
  simp only [blankB, decide_eq_true_eq] at h
  simp only [partB, smallB, digitB, Bool.or_eq_false_iff, decide_eq_false_iff_not]
  omega
theorem headN_stop {p : UInt8 → Bool} {d : UInt8} (b : Bs) (h : p d = false) : ∀ l : Bs, headN p (l ++ d :: b) = headN p l
  | [] => by simp [headN, h]
  | c :: r => by simp [headN, headN_stop b h r]
theorem headDig_stop {d : UInt8} (b : Bs) (h : digitB d = false) (l : Bs) : headDig (l ++ d :: b) = headDig l := by
  cases l <;> simp [headDig, h]
theorem headSmall_stop {d : UInt8} (b : Bs) (h : smallB d = false) (l : Bs) : headSmall (l ++ d :: b) = headSmall l := by
  cases l <;> simp [headSmall, h]
theorem headIs_stop {d : UInt8} (b : Bs) {n : Nat} (h : d.toNat ≠ n) (l : Bs) : headIs n (l ++ d :: b) = headIs n l := by
  cases l <;> simp [headIs, h]
theorem pre_stop {d : UInt8} (b : Bs) : ∀ (x l : Bs), (∀ c ∈ x, c ≠ d) → headB x (l ++ d :: b) = headB x l
  | [], _, _ => by simp [headB]
  | c :: x, [], h => by
    have : c ≠ d := h c (by simp)
    simp [headB, List.isPrefixOf, this]
  | c :: x, e :: l, h => by
    have ih := pre_stop b x l (fun y hy => h y (by simp [hy]))
    unfold headB at ih ⊢
    simp [List.isPrefixOf, ih]
theorem firstAt_stop {d : UInt8} (b l : Bs) : ∀ ss : List Bs, (∀ x ∈ ss, ∀ c ∈ x, c ≠ d) → firstAt (l ++ d :: b) ss = firstAt l ss
  | [], _ => rfl
  | x :: ss, h => by
    unfold firstAt
    rw [pre_stop b x l (h x (by simp)), firstAt_stop b l ss (fun y hy => h y (by simp [hy]))]
theorem signs_big : ∀ x ∈ signs, ∀ c ∈ x, 33 ≤ c.toNat := by decide
theorem signT_stop {d : UInt8} (b l : Bs) (h : blankB d = true) : signT (l ++ d :: b) = signT l :=
  firstAt_stop b l signs fun x hx c hc e => by have := signs_big x hx c hc; have := (blank_not h).2.2.2.2.2.2.2; subst e; omega

/-- A blank ends a token. -/
theorem nextT_blank (c : UInt8) (r : Bs) {d : UInt8} (b : Bs) (h : blankB d = true) : nextT (c :: (r ++ d :: b)) = nextT (c :: r) := by
  obtain ⟨h1, h2, h3, h4, h5, h6, h7, h8⟩ := blank_not h
  rw [nextT_cons, nextT_cons]
  have e1 : headN partB (c :: (r ++ d :: b)) = headN partB (c :: r) := headN_stop b h3 (c :: r)
  have e2 : headN digitB (r ++ d :: b) = headN digitB r := headN_stop b h2 r
  have e3 : headN partB (r ++ d :: b) = headN partB r := headN_stop b h3 r
  have l1 := headN_le partB (c :: r)
  have l2 := headN_le digitB r
  have l3 := headN_le partB r
  have t1 : ∀ n, n ≤ (c :: r).length → (c :: (r ++ d :: b)).take n = (c :: r).take n := fun n hn => by
    rw [show c :: (r ++ d :: b) = (c :: r) ++ d :: b from rfl, List.take_append_of_le_length hn]
  have t2 : ∀ n, n ≤ r.length → (r ++ d :: b).take n = r.take n := fun n hn => List.take_append_of_le_length hn
  have d1 : headIs 62 ((r ++ d :: b).drop (headN partB r)) = headIs 62 (r.drop (headN partB r)) := by
    rw [List.drop_append_of_le_length l3, headIs_stop b h4]
  have s1 : signNx c (c :: (r ++ d :: b)) = signNx c (c :: r) := by
    unfold signNx
    rw [show c :: (r ++ d :: b) = (c :: r) ++ d :: b from rfl, signT_stop b _ h]
  rw [e1, e2, e3, headDig_stop b h2, headSmall_stop b h1, d1, s1, t1 _ l1, t1 _ (by simp only [List.length_cons]; omega), t2 _ l3]
  split
  · rfl
  · split
    · rfl
    · split
      · rename_i hv
        simp only [Bool.and_eq_true] at hv
        have h2 := headIs_len hv.2
        rw [List.length_drop] at h2
        rw [t1 _ (by simp only [List.length_cons]; omega)]
      · rfl

theorem blank10 : blankB 10 = true := by decide
theorem skip_join (b : Bs) : ∀ (m : Bool) (l : Bs), (skipN m (l ++ [10]) = l.length + 1 ∧ skipN m (l ++ 10 :: b) = l.length + 1 + skipN false b) ∨
    (skipN m (l ++ [10]) < l.length ∧ skipN m (l ++ 10 :: b) = skipN m (l ++ [10]))
  | true, [] => .inl ⟨rfl, by rw [List.nil_append, show skipN true (10 :: b) = skipN false b + 1 from rfl]; simp; omega⟩
  | false, [] => .inl ⟨rfl, by rw [List.nil_append, show skipN false (10 :: b) = skipN false b + 1 from rfl]; simp; omega⟩
  | true, c :: r => by
    have e : ∀ x, skipN true (c :: x) = skipN (decide (c.toNat ≠ 10)) x + 1 := fun _ => rfl
    rcases skip_join b (decide (c.toNat ≠ 10)) r with ⟨h1, h2⟩ | ⟨h1, h2⟩
    · exact .inl ⟨by rw [List.cons_append, e, h1]; rfl, by rw [List.cons_append, e, h2]; simp only [List.length_cons]; omega⟩
    · exact .inr ⟨by rw [List.cons_append, e]; simp only [List.length_cons]; omega, by rw [List.cons_append, List.cons_append, e, e, h2]⟩
  | false, c :: r => by
    rcases hb : blankB c with _ | _
    · by_cases h35 : c.toNat = 35
      · have e : ∀ x, skipN false (c :: x) = skipN true x + 1 := fun x => by simp [skipN, hb, h35]
        rcases skip_join b true r with ⟨h1, h2⟩ | ⟨h1, h2⟩
        · exact .inl ⟨by rw [List.cons_append, e, h1]; rfl, by rw [List.cons_append, e, h2]; simp only [List.length_cons]; omega⟩
        · exact .inr ⟨by rw [List.cons_append, e]; simp only [List.length_cons]; omega, by rw [List.cons_append, List.cons_append, e, e, h2]⟩
      · have e : ∀ x, skipN false (c :: x) = 0 := fun x => by simp [skipN, hb, h35]
        exact .inr ⟨by rw [List.cons_append, e]; simp, by rw [List.cons_append, List.cons_append, e, e]⟩
    · have e : ∀ x, skipN false (c :: x) = skipN false x + 1 := fun x => by simp [skipN, hb]
      rcases skip_join b false r with ⟨h1, h2⟩ | ⟨h1, h2⟩
      · exact .inl ⟨by rw [List.cons_append, e, h1]; rfl, by rw [List.cons_append, e, h2]; simp only [List.length_cons]; omega⟩
      · exact .inr ⟨by rw [List.cons_append, e]; simp only [List.length_cons]; omega, by rw [List.cons_append, List.cons_append, e, e, h2]⟩

/-- The same tokens further on. -/
def Tk.on (n : Nat) (t : Tk) : Tk := ⟨t.kind, t.text, t.pos + n⟩
theorem toksP_on : ∀ (n : Nat) (l : Bs) (p q : Nat), l.length < n → toksP l (p + q) = (toksP l p).map (Tk.on q)
  | 0, _, _, _, h => by omega
  | n + 1, [], p, q, _ => by rw [toksP_nil, toksP_nil]; rfl
  | n + 1, c :: r, p, q, h => by
    have hl := nextT_len c r
    have hp := past_len ((c :: r).drop (nextT (c :: r)).len)
    rw [List.length_drop] at hp
    rw [toksP_cons, toksP_cons, List.map_cons]
    congr 1
    split
    · rfl
    · rw [← toksP_on n _ _ q (by omega)]
      congr 1
      omega

/-- What LexJoins says of the three lists. -/
def Joined (k : Nat) (x y z : List Tk) : Prop := ∃ xs t, x = xs ++ [t] ∧ ((t.kind = 6 ∧ z = x) ∨ (t.kind ≠ 6 ∧ z = xs ++ y.map (Tk.on k)))
theorem Joined.cons {k : Nat} {x y z : List Tk} (h : Joined k x y z) (t : Tk) : Joined k (t :: x) y (t :: z) := by
  obtain ⟨xs, u, rfl, h⟩ := h
  refine ⟨t :: xs, u, rfl, ?_⟩
  rcases h with ⟨h1, rfl⟩ | ⟨h1, rfl⟩
  · exact .inl ⟨h1, rfl⟩
  · exact .inr ⟨h1, rfl⟩

theorem joined_skip (b l : Bs) (p : Nat) (ih : ∀ l' : Bs, l'.length ≤ l.length → l' ≠ [] → ∀ q, q + l'.length = p + l.length → Joined (q + l'.length + 1) (toksP (l' ++ [10]) q) (toks b) (toksP (l' ++ 10 :: b) q)) :
    Joined (p + l.length + 1) (toksP (past (l ++ [10])) (p + skipN false (l ++ [10]))) (toks b) (toksP (past (l ++ 10 :: b)) (p + skipN false (l ++ 10 :: b))) := by
  rcases skip_join b false l with ⟨h1, h2⟩ | ⟨h1, h2⟩
  · have e1 : past (l ++ [10]) = [] := by unfold past; rw [h1]; exact List.drop_eq_nil_of_le (by simp)
    have e2 : past (l ++ 10 :: b) = past b := by
      unfold past
      rw [h2, show l ++ 10 :: b = (l ++ [10]) ++ b by simp, List.drop_append, List.drop_eq_nil_of_le (by simp), List.nil_append]
      congr 1
      simp only [List.length_append, List.length_cons, List.length_nil]
      omega
    rw [e1, e2, h1, h2, toksP_nil]
    refine ⟨[], _, rfl, .inr ⟨by simp, ?_⟩⟩
    rw [List.nil_append]
    unfold toks
    rw [← toksP_on ((past b).length + 1) _ _ _ (by omega)]
    congr 1
    omega
  · have e1 : past (l ++ [10]) = l.drop (skipN false (l ++ [10])) ++ [10] := by
      unfold past; rw [List.drop_append_of_le_length (by omega)]
    have e2 : past (l ++ 10 :: b) = l.drop (skipN false (l ++ [10])) ++ 10 :: b := by
      unfold past; rw [h2, List.drop_append_of_le_length (by omega)]
    rw [e1, e2, h2]
    have := ih (l.drop (skipN false (l ++ [10]))) (by rw [List.length_drop]; omega) (by intro e; have := congrArg List.length e; rw [List.length_drop] at this; simp at this; omega) (p + skipN false (l ++ [10])) (by rw [List.length_drop]; omega)
    rw [List.length_drop] at this
    rw [show p + l.length + 1 = p + skipN false (l ++ [10]) + (l.length - skipN false (l ++ [10])) + 1 by omega]
    exact this

theorem joined_P (b : Bs) : ∀ (n : Nat) (l : Bs) (p : Nat), l.length < n → l ≠ [] → Joined (p + l.length + 1) (toksP (l ++ [10]) p) (toks b) (toksP (l ++ 10 :: b) p)
  | 0, _, _, h, _ => by omega
  | n + 1, [], _, _, h => absurd rfl h
  | n + 1, c :: r, p, hn, _ => by
    rw [List.cons_append, List.cons_append, toksP_cons, toksP_cons, nextT_blank c r [] blank10, nextT_blank c r b blank10]
    have hlen := nextT_len c r
    generalize hN : nextT (c :: r) = N at hlen
    obtain ⟨kd, tx, ln⟩ := N
    simp only at hlen ⊢
    by_cases h6 : kd = 6
    · rw [if_pos h6, if_pos h6]
      exact ⟨[], _, rfl, .inl ⟨h6, rfl⟩⟩
    · rw [if_neg h6, if_neg h6]
      refine Joined.cons ?_ _
      have e1 : (c :: (r ++ [10])).drop ln = (c :: r).drop ln ++ [10] := by
        rw [show c :: (r ++ [10]) = (c :: r) ++ [10] from rfl, List.drop_append_of_le_length hlen.2]
      have e2 : (c :: (r ++ 10 :: b)).drop ln = (c :: r).drop ln ++ 10 :: b := by
        rw [show c :: (r ++ 10 :: b) = (c :: r) ++ 10 :: b from rfl, List.drop_append_of_le_length hlen.2]
      rw [e1, e2]
      have hdl : ((c :: r).drop ln).length = (c :: r).length - ln := List.length_drop
      have := joined_skip b ((c :: r).drop ln) (p + ln) (fun l' h1 h2 q hq => joined_P b n l' q (by simp only [List.length_cons] at hn hdl; omega) h2)
      rw [hdl] at this
      rw [show p + (c :: r).length + 1 = p + ln + ((c :: r).length - ln) + 1 by omega]
      exact this

theorem joined_toks (a b : Bs) : Joined (a.length + 1) (toks (a ++ [10])) (toks b) (toks (a ++ 10 :: b)) := by
  have := joined_skip b a 0 (fun l' _ h2 q _ => joined_P b (l'.length + 1) l' q (by omega) h2)
  rw [Nat.zero_add, Nat.zero_add, Nat.zero_add] at this
  exact this
end Go.Proofs.Ytgeaccoobhigcaa
