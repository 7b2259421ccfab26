/-
  Tokens written one behind the other, with gaps, are read as the same.
-/
import Derived.Test.YtgeaccoobhigcaaL2
namespace Go.Proofs.Ytgeaccoobhigcaa

theorem headN_take {p : UInt8 → Bool} : ∀ l : Bs, headN p (l.take (headN p l)) = headN p l
  | [] => rfl
  | c :: r => by
    rcases h : p c with _ | _
    · simp [headN, h]
    · have ih := headN_take (p := p) r
      simp [headN, h, ih]
theorem firstAt_self : ∀ (ss : List Bs) (l x : Bs), firstAt l ss = x → x ≠ [] → firstAt x ss = x ∧ x ∈ ss
  | [], l, x, h, hx => by simp [firstAt] at h; exact absurd h hx
  | y :: ss, l, x, h, hx => by
    unfold firstAt at h
    by_cases hy : headB y l = true
    · rw [if_pos hy] at h
      subst h
      unfold firstAt
      rw [if_pos (by simp [headB])]
      exact ⟨rfl, by simp⟩
    · rw [if_neg hy] at h
      obtain ⟨h1, h2⟩ := firstAt_self ss l x h hx
      have hp : x <+: l := by
        have := (firstAt_pre l ss).resolve_left (by rw [h]; exact hx)
        rwa [h] at this
      refine ⟨?_, by simp [h2]⟩
      unfold firstAt
      rw [if_neg, h1]
      intro h3
      exact hy (List.isPrefixOf_iff_prefix.2 ((List.isPrefixOf_iff_prefix.1 h3).trans hp))
theorem signs_tail : ∀ x ∈ signs, headSmall x.tail = false ∧ (headDig x.tail = false) := by decide

theorem take_one_more {r : Bs} {k n : Nat} (h : headIs n (r.drop k) = true) (hn : n < 256) : r.take (k + 1) = r.take k ++ [UInt8.ofNat n] := by
  obtain ⟨d, hd, hdn⟩ := headIs_drop h
  rw [List.take_add_one, hd]
  simp only [Option.toList_some]
  congr 2
  exact byte_eq (by rw [hdn]; simp [UInt8.toNat_ofNat', Nat.mod_eq_of_lt hn])

/-- A token's own bytes are the same token. -/
theorem nextT_take (c : UInt8) (r : Bs) (h6 : (nextT (c :: r)).kind ≠ 6) : nextT ((c :: r).take (nextT (c :: r)).len) = nextT (c :: r) := by
  obtain ⟨m, hm⟩ : ∃ m, (nextT (c :: r)).len = m + 1 := ⟨(nextT (c :: r)).len - 1, by have := (nextT_len c r).1; omega⟩
  rw [hm, List.take_succ_cons]
  rw [nextT_cons] at h6 hm ⊢
  rw [nextT_cons c r]
  by_cases hs : smallB c = true
  · rw [if_pos hs] at h6 hm ⊢
    rw [if_pos hs]
    have hp : partB c = true := by simp [partB, hs]
    have e : ∀ x, headN partB (c :: x) = headN partB x + 1 := fun x => by simp [headN, hp]
    simp only [e] at hm ⊢
    obtain rfl : m = headN partB r := by omega
    rw [headN_take, List.take_succ_cons, List.take_take, Nat.min_self, ← List.take_succ_cons]
  · rw [if_neg hs] at h6 hm ⊢
    rw [if_neg hs]
    by_cases hd : (digitB c || (decide (c.toNat = 45) && headDig r)) = true
    · rw [if_pos hd] at h6 hm ⊢
      simp only at hm
      obtain rfl : m = headN digitB r := by omega
      have hd' : (digitB c || (decide (c.toNat = 45) && headDig (r.take (headN digitB r)))) = true := by
        simp only [Bool.or_eq_true, Bool.and_eq_true, decide_eq_true_eq] at hd ⊢
        rcases hd with h | ⟨h1, h2⟩
        · exact .inl h
        · refine .inr ⟨h1, ?_⟩
          cases r with
          | nil => simp [headDig] at h2
          | cons x r => simp only [headDig] at h2; simp [headN, h2, headDig]
      rw [if_pos hd', headN_take, Nat.add_comm 1, List.take_succ_cons, List.take_take, Nat.min_self, List.take_succ_cons]
    · rw [if_neg hd] at h6 hm ⊢
      by_cases hv : (decide (c.toNat = 60) && headSmall r && headIs 62 (r.drop (headN partB r))) = true
      · rw [if_pos hv] at h6 hm ⊢
        have hv0 := hv
        simp only [Bool.and_eq_true, decide_eq_true_eq] at hv
        obtain ⟨⟨v1, v2⟩, v3⟩ := hv
        by_cases h32 : 32 < headN partB r
        · rw [if_pos h32] at h6; exact absurd rfl h6
        · rw [if_neg h32] at hm ⊢
          simp only at hm
          obtain rfl : m = headN partB r + 1 := by omega
          have ht := take_one_more v3 (by decide)
          have hle := headN_le partB r
          have hlt : headN partB r < r.length := by have := headIs_len v3; rw [List.length_drop] at this; omega
          have hz : ∀ k, headDig (r.take (k + 1)) = headDig r ∧ headSmall (r.take (k + 1)) = headSmall r := fun k => by cases r <;> simp [headDig, headSmall]
          have hpn : headN partB (r.take (headN partB r + 1)) = headN partB r := by
            rw [ht, headN_stop [] (by decide), headN_take]
          rw [(hz _).1, if_neg hd, (hz _).2, hpn]
          have h3 : headIs 62 ((r.take (headN partB r + 1)).drop (headN partB r)) = true := by
            rw [ht, List.drop_append_of_le_length (by rw [List.length_take]; omega), List.drop_eq_nil_of_le (by rw [List.length_take]; omega)]
            rfl
          rw [if_pos (by simp [v1, v2, h3]), if_neg h32, List.take_take, Nat.min_eq_left (by omega)]
      · rw [if_neg hv] at h6 hm ⊢
        unfold signNx at h6 hm ⊢
        by_cases hx : signT (c :: r) = []
        · rw [if_pos hx] at h6; exact absurd rfl h6
        · rw [if_neg hx] at hm ⊢
          simp only at hm
          have hp := (signT_pre (c :: r)).resolve_left hx
          have he : c :: r.take m = signT (c :: r) := by
            rw [← List.take_succ_cons, ← hm]; exact (List.prefix_iff_eq_take.1 hp).symm
          obtain ⟨h1, h2⟩ := firstAt_self signs (c :: r) _ rfl hx
          obtain ⟨t1, t2⟩ := signs_tail _ h2
          have htl : r.take m = (signT (c :: r)).tail := by rw [← he]; rfl
          change headSmall (signT (c :: r)).tail = false at t1
          change headDig (signT (c :: r)).tail = false at t2
          rw [← htl] at t1 t2
          rw [t1, t2]
          have hd2 : digitB c = false := by simp only [Bool.not_eq_true, Bool.or_eq_false_iff] at hd; exact hd.1
          rw [if_neg (by simp [hd2]), if_neg (by simp)]
          have h1' : signT (c :: r.take m) = signT (c :: r) := by rw [he]; exact h1
          rw [h1', if_neg hx]

/-- What may stand between tokens. -/
def Gap (g : Bs) : Prop := (∃ d b, g = d :: b ∧ blankB d = true) ∧ ∀ x, skipN false (g ++ x) = g.length + skipN false x
theorem Gap.past {g : Bs} (h : Gap g) (x : Bs) : past (g ++ x) = past x := by
  unfold Go.Proofs.Ytgeaccoobhigcaa.past
  rw [h.2, List.drop_append, List.drop_eq_nil_of_le (by omega), List.nil_append]
  congr 1
  omega

/-- Kind and text. -/
def Tk.kt (t : Tk) : Nat × Bs := (t.kind, t.text)
/-- The first n tokens written one behind the other. -/
def writ (L : List Tk) (g : Nat → Bs) (n : Nat) : Bs := (List.range n).flatMap fun j => textT (L.getD j ⟨0, [], 0⟩) ++ g j
theorem writ_zero (L : List Tk) (g : Nat → Bs) : writ L g 0 = [] := rfl
theorem writ_succ (L : List Tk) (g : Nat → Bs) (n : Nat) : writ L g (n + 1) = writ L g n ++ (textT (L.getD n ⟨0, [], 0⟩) ++ g n) := by
  unfold writ; rw [List.range_succ, List.flatMap_append]; simp
theorem writ_cons (t : Tk) (L : List Tk) (g : Nat → Bs) (n : Nat) : writ (t :: L) g (n + 1) = textT t ++ (g 0 ++ writ L (fun j => g (j + 1)) n) := by
  unfold writ; rw [List.range_succ_eq_map, List.flatMap_cons, List.flatMap_map]; simp

theorem past_head {l : Bs} {c : UInt8} {r : Bs} (h : past l = c :: r) : ∀ x, skipN false (c :: x) = 0 := by
  have key : ∀ (b : Bool) (l : Bs), l.drop (skipN b l) = c :: r → blankB c = false ∧ c.toNat ≠ 35 := by
    intro b l
    induction l generalizing b with
    | nil => intro h; cases b <;> simp [skipN] at h
    | cons y l ih =>
      intro h
      cases b with
      | true =>
        rw [show skipN true (y :: l) = skipN (decide (y.toNat ≠ 10)) l + 1 from rfl, List.drop_succ_cons] at h
        exact ih _ h
      | false =>
        rcases hb : blankB y with _ | _
        · by_cases h35 : y.toNat = 35
          · rw [show skipN false (y :: l) = skipN true l + 1 by simp [skipN, hb, h35], List.drop_succ_cons] at h
            exact ih _ h
          · rw [show skipN false (y :: l) = 0 by simp [skipN, hb, h35], List.drop_zero] at h
            injection h with h1 _
            subst h1
            exact ⟨hb, h35⟩
        · rw [show skipN false (y :: l) = skipN false l + 1 by simp [skipN, hb], List.drop_succ_cons] at h
          exact ih _ h
  obtain ⟨h1, h2⟩ := key false l h
  intro x
  simp [skipN, h1, h2]

theorem spaced_P : ∀ (n : Nat) (l0 : Bs) (p q : Nat) (g : Nat → Bs), l0.length < n → (∀ j, Gap (g j)) → (∀ t ∈ toksP (past l0) p, t.kind ≠ 6) →
    skipN false (writ (toksP (past l0) p) g ((toksP (past l0) p).length - 1)) = 0 ∧ (toksP (writ (toksP (past l0) p) g ((toksP (past l0) p).length - 1)) q).map Tk.kt = (toksP (past l0) p).map Tk.kt
  | 0, _, _, _, _, h, _, _ => by omega
  | n + 1, l0, p, q, g, hn, hg, h6 => by
    cases hl : past l0 with
    | nil => rw [toksP_nil]; exact ⟨rfl, by rw [show writ [⟨5, [], p⟩] g ([(⟨5, [], p⟩ : Tk)].length - 1) = [] from rfl, toksP_nil]; rfl⟩
    | cons c r =>
      have hpl := past_len l0
      rw [hl] at h6 hpl
      have hlen := nextT_len c r
      obtain ⟨ht, _⟩ := nextT_text c r p
      have htk := nextT_take c r
      rw [toksP_cons] at h6 ⊢
      have h6' : (nextT (c :: r)).kind ≠ 6 := h6 ⟨(nextT (c :: r)).kind, (nextT (c :: r)).text, p⟩ (by simp)
      rw [if_neg h6'] at h6 ⊢
      replace htk := htk h6'
      generalize hN : nextT (c :: r) = N at hlen ht htk h6 h6'
      obtain ⟨kd, tx, ln⟩ := N
      simp only at hlen ht h6 h6' htk ⊢
      obtain ⟨ih1, ih2⟩ := spaced_P n ((c :: r).drop ln) (p + ln + skipN false ((c :: r).drop ln)) (q + ln + (g 0).length) (fun j => g (j + 1)) (by rw [List.length_drop]; simp only [List.length_cons] at hlen hpl ⊢; omega) (fun j => hg _)
        (fun t ht => h6 t (by simp [ht]))
      generalize hL : toksP (past ((c :: r).drop ln)) (p + ln + skipN false ((c :: r).drop ln)) = L at ih1 ih2 h6
      have hLl : 0 < L.length := by rw [← hL]; exact List.length_pos_iff.2 (toksP_ne _ _)
      rw [show (({ kind := kd, text := tx, pos := p } : Tk) :: L).length - 1 = (L.length - 1) + 1 by simp only [List.length_cons]; omega, writ_cons, ht]
      obtain ⟨⟨d, b, hgd, hd⟩, hgs⟩ := hg 0
      generalize writ L (fun j => g (j + 1)) (L.length - 1) = U at ih1 ih2
      obtain ⟨m, hm⟩ : ∃ m, ln = m + 1 := ⟨ln - 1, by omega⟩
      have hU : (c :: r).take ln ++ (g 0 ++ U) = c :: (r.take m ++ d :: (b ++ U)) := by rw [hm, List.take_succ_cons, hgd]; simp
      have hnx : nextT (c :: (r.take m ++ d :: (b ++ U))) = ⟨kd, tx, ln⟩ := by
        rw [nextT_blank c (r.take m) (b ++ U) hd, ← htk, hm, List.take_succ_cons]
      have hdr : (c :: (r.take m ++ d :: (b ++ U))).drop ln = g 0 ++ U := by
        rw [← hU]
        exact List.drop_left' (by rw [List.length_take]; omega)
      refine ⟨by rw [hU]; exact past_head hl _, ?_⟩
      rw [hU, toksP_cons, hnx]
      simp only
      rw [if_neg h6', hdr, (hg 0).past, hgs, ih1, show past U = U by unfold past; rw [ih1]; rfl, List.map_cons, List.map_cons, Nat.add_zero, ih2]
      rfl

/-- LexSpaces, of the tokens. -/
theorem spaced_toks (s : Bs) (g : Nat → Bs) (hg : ∀ j, Gap (g j)) (h6 : ∀ t ∈ toks s, t.kind ≠ 6) : (toks (writ (toks s) g ((toks s).length - 1))).map Tk.kt = (toks s).map Tk.kt := by
  obtain ⟨h1, h2⟩ := spaced_P (s.length + 1) s (skipN false s) 0 g (by omega) hg h6
  rw [show toksP (past s) (skipN false s) = toks s from rfl] at h1 h2
  rw [show toks (writ (toks s) g ((toks s).length - 1)) = toksP (past (writ (toks s) g ((toks s).length - 1))) (skipN false (writ (toks s) g ((toks s).length - 1))) from rfl, h1, show past (writ (toks s) g ((toks s).length - 1)) = writ (toks s) g ((toks s).length - 1) by unfold past; rw [h1]; rfl]
  exact h2

theorem places_last {S : Bs} : ∀ (L : List Tk) (at_ : Nat), Places S at_ L → ∀ i t, L[i]? = some t → ((t.kind = 5 ∨ t.kind = 6) ↔ i + 1 = L.length)
  | [], _, h, _, _, _ => h.elim
  | u :: r, at_, h, i, t, hi => by
    obtain ⟨_, _, _, _, h5, h6⟩ := h
    cases i with
    | zero =>
      simp only [List.getElem?_cons_zero, Option.some.injEq] at hi
      subst hi
      rw [h5]
      cases r <;> simp
    | succ i =>
      rw [List.getElem?_cons_succ] at hi
      have hne : r ≠ [] := by rintro rfl; simp at hi
      have := places_last r _ (h6 hne) i t hi
      rw [this]
      simp
theorem no_bad (s : Bs) {t : Tk} (h : (toks s)[(toks s).length - 1]? = some t) (h5 : t.kind = 5) : ∀ u ∈ toks s, u.kind ≠ 6 := by
  intro u hu h6
  obtain ⟨i, hi, hu⟩ := List.getElem_of_mem hu
  have hu' : (toks s)[i]? = some u := by rw [List.getElem?_eq_getElem hi, hu]
  have := (places_last (S := s) (toks s) 0 (places_toks s) i u hu').1 (.inr h6)
  rw [show (toks s).length - 1 = i by omega, hu'] at h
  injection h with h
  subst h
  omega
theorem gap_all : ∀ g ∈ ([[32], [10], [9, 32, 13], [32, 35, 32, 60, 120, 62, 32, 40, 10], [32, 32]] : List Bs), Gap g := by
  intro g hg
  simp only [List.mem_cons, List.not_mem_nil, or_false] at hg
  rcases hg with rfl | rfl | rfl | rfl | rfl
  all_goals
    refine ⟨⟨_, _, rfl, by decide⟩, fun x => ?_⟩
    simp [skipN, blankB]
    try omega
end Go.Proofs.Ytgeaccoobhigcaa
