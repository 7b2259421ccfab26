/-
  What is read of the tokens of a printed production: tests, fields, items, clauses. What is printed is read back: conditions, acts, productions. What is read is balanced: as many left braces as right ones; where it goes wrong is a token's place. A printed production that is cut off ahead of its last sign is none.
-/
import Derived.Test.YtgeaccoobhigcaaGA
import Derived.Test.YtgeaccoobhigcaaGB
namespace Go.Proofs.Ytgeaccoobhigcaa
open Go Go.RowKit

def hdK (R : Ks) : Nat × Bs := R.headD (5, [])
def tk (p : Nat × Bs) : Tk := ⟨p.1, p.2, 0⟩
theorem hd_kt (ts : List Tk) : (headT ts).kt = hdK (ts.map Tk.kt) := by cases ts <;> rfl
theorem tail_kt (ts : List Tk) : ts.tail.map Tk.kt = (ts.map Tk.kt).tail := by cases ts <;> rfl
theorem hd_of {ts : List Tk} {p : Nat × Bs} {R : Ks} (h : ts.map Tk.kt = p :: R) : (headT ts).kt = p ∧ ts.tail.map Tk.kt = R := by
  rw [hd_kt, tail_kt, h]; exact ⟨rfl, rfl⟩
theorem isB_tk (t : Tk) (s : ByteArray) : isB t s = isB (tk t.kt) s := rfl
theorem isB_of {t : Tk} {p : Nat × Bs} (h : t.kt = p) (s : ByteArray) : isB t s = (decide (p.1 = 4) && (p.2 == s.data.toList)) := by subst h; rfl
/-- Such tokens are read as that, whatever of some kind follows. -/
def Reads {α : Type} (P : Pr α) (K : Ks) (F : Ks → Prop) (a : α) : Prop := ∀ ts R, ts.map Tk.kt = K ++ R → F R → ∃ ts', P ts = .ok a ts' ∧ ts'.map Tk.kt = R
def Any (_ : Ks) : Prop := True
theorem Reads.take (s : ByteArray) : Reads (pTake s) [(4, s.data.toList)] Any () := by
  intro ts R h _
  obtain ⟨h1, h2⟩ := hd_of h
  refine ⟨ts.tail, ?_, h2⟩
  unfold pTake
  rw [isB_of h1]
  simp
theorem mk_toList (b : ByteArray) : (⟨b.data.toList.toArray⟩ : ByteArray) = b := by cases b; simp
theorem Reads.text (k : Nat) (s : ByteArray) : Reads (pText k) [(k, s.data.toList)] Any s := by
  intro ts R h _
  obtain ⟨h1, h2⟩ := hd_of h
  refine ⟨ts.tail, ?_, h2⟩
  have h3 : (headT ts).kind = k := congrArg Prod.fst h1
  have h4 : (headT ts).text = s.data.toList := congrArg Prod.snd h1
  unfold pText textB
  rw [if_pos h3, h4, mk_toList]
theorem noneB_eq {s : Sm} (h : noneB s = true) : s = nilSm := by
  unfold noneB at h
  simp only [Bool.and_eq_true, decide_eq_true_eq] at h
  obtain ⟨⟨h1, h2⟩, h3⟩ := h
  obtain ⟨k, t, n⟩ := s
  simp only at h1 h2 h3
  subst h1 h3
  rw [nil_str h2]
  rfl
theorem symK_kind (s : Sm) : (symK s).1 = 1 ∨ (symK s).1 = 2 := by
  unfold symK
  split <;> simp
theorem Reads.const {s : Sm} (h : constB s = true) : Reads pConst [symK s] Any s := by
  intro ts R hts _
  obtain ⟨h1, h2⟩ := hd_of hts
  refine ⟨ts.tail, ?_, h2⟩
  have hc : constHere (headT ts) = true := by
    have : (headT ts).kind = (symK s).1 := congrArg Prod.fst h1
    unfold constHere
    rw [this]
    rcases symK_kind s with h | h <;> rw [h] <;> rfl
  unfold pConst
  rw [if_pos hc]
  congr 1
  unfold symK at h1
  unfold constT
  rcases const_cases h with ⟨k1, k2, k3, k4⟩ | ⟨k1, k2, k3⟩
  · rw [if_neg (by omega)] at h1
    have e1 : (headT ts).kind = 2 := congrArg Prod.fst h1
    have e2 : (headT ts).text = (numS s.n).data.toList := congrArg Prod.snd h1
    rw [if_neg (by omega), e2, (num_text k3 k4).2]
    obtain ⟨k, t, n⟩ := s
    simp only at k1 k2
    rw [k1, k2]
  · rw [if_pos k1] at h1
    have e1 : (headT ts).kind = 1 := congrArg Prod.fst h1
    have e2 : (headT ts).text = s.t.data.toList := congrArg Prod.snd h1
    unfold textB
    rw [if_pos e1, e2, mk_toList]
    obtain ⟨k, t, n⟩ := s
    simp only at k1 k2
    rw [k1, k2]
theorem atomK_kind (a : Am) : (atomK a).1 = 1 ∨ (atomK a).1 = 2 ∨ (atomK a).1 = 3 := by
  unfold atomK
  split
  · rcases symK_kind a.s with h | h
    · exact .inl h
    · exact .inr (.inl h)
  · exact .inr (.inr rfl)
theorem bind_of {α β : Type} {r : Rs α} {a : α} {t : List Tk} (h : r = .ok a t) (f : α → List Tk → Rs β) : r.bind f = f a t := by rw [h]; rfl
theorem Reads.atom {a : Am} (h : atomB a = true) : Reads pAtom [atomK a] Any a := by
  intro ts R hts _
  obtain ⟨h1, h2⟩ := hd_of hts
  unfold atomB at h
  unfold pAtom
  by_cases h0 : a.v.size = 0
  · rw [if_pos h0] at h
    have hk : atomK a = symK a.s := if_pos h0
    rw [hk] at hts h1
    have hk3 : ¬ (headT ts).kind = 3 := by
      have : (headT ts).kind = (symK a.s).1 := congrArg Prod.fst h1
      rcases symK_kind a.s with h | h <;> omega
    obtain ⟨ts', h3, h4⟩ := Reads.const h ts R hts trivial
    refine ⟨ts', ?_, h4⟩
    rw [if_neg hk3, bind_of h3]
    obtain ⟨v, s⟩ := a
    simp only at h0 ⊢
    rw [nil_str h0]
  · rw [if_neg h0] at h
    simp only [Bool.and_eq_true] at h
    have hk : atomK a = (3, a.v.data.toList) := if_neg h0
    rw [hk] at h1
    have e1 : (headT ts).kind = 3 := congrArg Prod.fst h1
    have e2 : (headT ts).text = a.v.data.toList := congrArg Prod.snd h1
    refine ⟨ts.tail, ?_, h2⟩
    unfold textB
    rw [if_pos e1, e2, mk_toList]
    obtain ⟨v, s⟩ := a
    simp only at h ⊢
    rw [noneB_eq h.2]
section
variable {α β : Type} {p : Pr α} {k : β → Ks} {v : β → α} {stop : ByteArray} {F : Ks → Prop}
theorem Reads.many : ∀ (l : List β) (n : Nat), l.length < n → (∀ b ∈ l, Reads p (k b) F (v b)) → (∀ b ∈ l, ∀ R, isB (tk (hdK (k b ++ R))) stop = false ∧ F (k b ++ R)) → (∀ R, F ((4, stop.data.toList) :: R)) →
    ∀ ts R, ts.map Tk.kt = l.flatMap k ++ (4, stop.data.toList) :: R → ∃ ts', pMany p stop n ts = .ok (l.map v) ts' ∧ ts'.map Tk.kt = (4, stop.data.toList) :: R
  | _, 0, h, _, _, _, _, _, _ => by omega
  | [], n + 1, _, _, _, _, ts, R, hts => by
    obtain ⟨h1, h2⟩ := hd_of (R := R) hts
    refine ⟨ts, ?_, hts⟩
    unfold pMany
    rw [isB_of h1]
    simp
  | b :: l, n + 1, hn, hp, hk, hs, ts, R, hts => by
    rw [List.flatMap_cons, List.append_assoc] at hts
    have h1 : isB (headT ts) stop = false := by
      rw [isB_tk, hd_kt, hts]
      exact (hk b (by simp) _).1
    have hF : F (l.flatMap k ++ (4, stop.data.toList) :: R) := by
      cases l with
      | nil => exact hs R
      | cons c l =>
        rw [List.flatMap_cons, List.append_assoc]
        exact (hk c (by simp) _).2
    obtain ⟨t1, h2, h3⟩ := hp b (by simp) ts _ hts hF
    obtain ⟨t2, h4, h5⟩ := Reads.many l n (by simpa using hn) (fun x hx => hp x (by simp [hx])) (fun x hx => hk x (by simp [hx])) hs t1 R h3
    refine ⟨t2, ?_, h5⟩
    unfold pMany
    rw [h1]
    simp only [Bool.false_eq_true, if_false]
    rw [bind_of h2, bind_of h4]
    rfl
theorem Reads.ends (b : β) (l : List β) (hp : ∀ x ∈ b :: l, Reads p (k x) F (v x)) (hl : ∀ x ∈ l, 1 ≤ (k x).length) (hk : ∀ x ∈ l, ∀ R, isB (tk (hdK (k x ++ R))) stop = false ∧ F (k x ++ R)) (hs : ∀ R, F ((4, stop.data.toList) :: R)) :
    Reads (pEnds p stop) ((b :: l).flatMap k ++ [(4, stop.data.toList)]) Any (v b :: l.map v) := by
  intro ts R hts _
  rw [List.append_assoc, List.flatMap_cons, List.append_assoc] at hts
  have hF : F (l.flatMap k ++ (4, stop.data.toList) :: R) := by
    cases l with
    | nil => exact hs R
    | cons c l =>
      rw [List.flatMap_cons, List.append_assoc]
      exact (hk c (by simp) _).2
  obtain ⟨t1, h2, h3⟩ := hp b (by simp) ts _ hts hF
  have hlen : l.length < t1.length + 1 := by
    have h := congrArg List.length h3
    rw [List.length_map, List.length_append] at h
    have h4 : l.length ≤ (l.flatMap k).length := by
      clear h h3 hF hts hk hp
      induction l with
      | nil => simp
      | cons x l ih =>
        rw [List.flatMap_cons, List.length_append, List.length_cons]
        have := hl x (by simp)
        have := ih (fun y hy => hl y (by simp [hy]))
        omega
    omega
  obtain ⟨t2, h4, h5⟩ := Reads.many l (t1.length + 1) hlen (fun x hx => hp x (by simp [hx])) hk hs t1 R h3
  obtain ⟨t3, h6, h7⟩ := Reads.take stop t2 R h5 trivial
  refine ⟨t3, ?_, h7⟩
  unfold pEnds pMany1
  rw [bind_of h2, bind_of h4]
  show (pTake stop t2).bind _ = _
  rw [bind_of h6]
end
theorem relN_relL {k : Int} (h1 : 1 ≤ k) (h7 : k ≤ 7) : relL k = #[] ∧ k = 1 ∨ relL k ≠ #[] ∧ relN (relL k).toList = k ∧ 0 < k ∧ (relL k).toList ≠ [60, 60] ∧ (relL k).toList ≠ [125] ∧ (relL k).toList ≠ [123] ∧ (relL k).toList ≠ [43] := by
  rcases (show k = 1 ∨ k = 2 ∨ k = 3 ∨ k = 4 ∨ k = 5 ∨ k = 6 ∨ k = 7 by omega) with rfl | rfl | rfl | rfl | rfl | rfl | rfl <;> decide
/-- How a test begins. -/
theorem testK_hd {t : Ts} (h : testB t = true) (R : Ks) : 1 ≤ (testK t).length ∧ ((hdK (testK t ++ R)).1 = 1 ∨ (hdK (testK t ++ R)).1 = 2 ∨ (hdK (testK t ++ R)).1 = 3 ∨ (hdK (testK t ++ R)).1 = 4 ∧ ((hdK (testK t ++ R)).2 = [60, 60] ∨ 0 < relN (hdK (testK t ++ R)).2 ∧ (hdK (testK t ++ R)).2 ≠ [60, 60] ∧ (hdK (testK t ++ R)).2 ≠ [125] ∧ (hdK (testK t ++ R)).2 ≠ [123])) := by
  unfold testB at h
  unfold testK
  by_cases h8 : t.rel = 8
  · rw [if_pos h8]
    exact ⟨by simp, .inr (.inr (.inr ⟨rfl, .inl rfl⟩))⟩
  · rw [if_neg h8] at h ⊢
    simp only [Bool.and_eq_true, decide_eq_true_eq] at h
    rcases relN_relL h.1.1.1 h.1.1.2 with ⟨h2, h3⟩ | ⟨h2, h3, h4, h5, h6, h7, _⟩
    · rw [if_pos h2]
      refine ⟨by simp, ?_⟩
      show (atomK ⟨t.v, t.s⟩).1 = _ ∨ (atomK ⟨t.v, t.s⟩).1 = _ ∨ (atomK ⟨t.v, t.s⟩).1 = _ ∨ _
      rcases atomK_kind ⟨t.v, t.s⟩ with h | h | h
      · exact .inl h
      · exact .inr (.inl h)
      · exact .inr (.inr (.inl h))
    · rw [if_neg h2]
      exact ⟨by simp, .inr (.inr (.inr ⟨rfl, .inr ⟨by show 0 < relN (relL t.rel).toList; omega, h5, h6, h7⟩⟩))⟩
theorem isB_k4 {p : Nat × Bs} {s : ByteArray} (h : p.1 ≠ 4) : isB (tk p) s = false := by simp [isB, tk, h]
theorem isB_t4 {p : Nat × Bs} {s : ByteArray} (h : p.2 ≠ s.data.toList) : isB (tk p) s = false := by simp [isB, tk, h]
theorem testK_no {t : Ts} (h : testB t = true) (R : Ks) : isB (tk (hdK (testK t ++ R))) bRight = false ∧ isB (tk (hdK (testK t ++ R))) bLeft = false ∧ fieldHere (tk (hdK (testK t ++ R))) = true := by
  obtain ⟨_, h1⟩ := testK_hd h R
  generalize hdK (testK t ++ R) = p at h1 ⊢
  obtain ⟨k, x⟩ := p
  rcases h1 with h1 | h1 | h1 | ⟨h1, h2⟩
  · simp only at h1; subst h1; exact ⟨rfl, rfl, rfl⟩
  · simp only at h1; subst h1; exact ⟨rfl, rfl, rfl⟩
  · simp only at h1; subst h1; exact ⟨rfl, rfl, rfl⟩
  · simp only at h1 h2; subst h1
    rcases h2 with rfl | ⟨h2, h3, h4, h5⟩
    · exact ⟨rfl, rfl, rfl⟩
    · refine ⟨isB_t4 h4, isB_t4 h5, ?_⟩
      simp [fieldHere, relHere, tk, h2]
theorem Reads.test {t : Ts} (h : testB t = true) : Reads pTest (testK t) Any t := by
  intro ts R hts _
  unfold testB at h
  unfold testK at hts
  unfold pTest
  by_cases h8 : t.rel = 8
  · rw [if_pos h8] at h hts
    simp only [Bool.and_eq_true, decide_eq_true_eq] at h
    obtain ⟨⟨⟨h1, h2⟩, h3⟩, h4⟩ := h
    obtain ⟨e1, e2⟩ := hd_of hts
    rw [if_pos (by rw [isB_of e1]; rfl)]
    obtain ⟨v, s, l, rfl⟩ : ∃ (v : ByteArray) (s : Sm) (l : List Sm), t = ⟨8, v, s, l⟩ := ⟨t.v, t.s, t.list, by cases t; simp only at h8; rw [h8]⟩
    simp only at h1 h2 h3 h4 e2
    cases l with
    | nil => simp at h3
    | cons x l =>
      obtain ⟨t1, g1, g2⟩ := Reads.ends (p := pConst) (k := fun s => [symK s]) (v := fun s => s) (stop := bTo) (F := Any) x l (fun y hy => Reads.const (List.all_eq_true.1 h4 y hy)) (fun _ _ => by simp)
        (fun y hy R => ⟨isB_k4 (by show (symK y).1 ≠ 4; rcases symK_kind y with h | h <;> omega), trivial⟩) (fun _ => trivial) ts.tail R (by rw [e2, flatMap_one]; rfl) trivial
      refine ⟨t1, ?_, g2⟩
      rw [bind_of g1, nil_str h1, noneB_eq h2]
      simp
  · rw [if_neg h8] at h hts
    simp only [Bool.and_eq_true, decide_eq_true_eq] at h
    obtain ⟨⟨h1, h2⟩, h3⟩ := h
    have hl : t.list = [] := List.eq_nil_of_length_eq_zero h2
    rcases relN_relL h1.1 h1.2 with ⟨g1, g2⟩ | ⟨g1, g2, g3, g4, _, _, _⟩
    · rw [if_pos g1] at hts
      obtain ⟨e1, e2⟩ := hd_of hts
      have hk : (headT ts).kind ≠ 4 := by
        have : (headT ts).kind = (atomK ⟨t.v, t.s⟩).1 := congrArg Prod.fst e1
        rcases atomK_kind ⟨t.v, t.s⟩ with h | h | h <;> omega
      rw [if_neg (by simp [isB, hk]), if_neg (by simp [relHere, hk])]
      obtain ⟨t1, a1, a2⟩ := Reads.atom h3 ts R hts trivial
      refine ⟨t1, ?_, a2⟩
      rw [bind_of a1]
      cases t
      simp only at g2 hl ⊢
      rw [g2, hl]
    · rw [if_neg g1] at hts
      obtain ⟨e1, e2⟩ := hd_of hts
      have e3 : (headT ts).text = (relL t.rel).toList := congrArg Prod.snd e1
      have e4 : (headT ts).kind = 4 := congrArg Prod.fst e1
      rw [if_neg (by simp [isB, e3]; intro _ h; exact g4 (by rw [h]; rfl)), if_pos (by simp [relHere, e3, e4, g2, g3])]
      obtain ⟨t1, a1, a2⟩ := Reads.atom h3 ts.tail R e2 trivial
      refine ⟨t1, ?_, a2⟩
      rw [bind_of a1, e3, g2]
      cases t
      simp only at hl ⊢
      rw [hl]
theorem Reads.field {l : List Ts} (h1 : 1 ≤ l.length) (h : l.all testB = true) : Reads pField (fieldK l) Any l := by
  intro ts R hts _
  unfold pField
  unfold fieldK at hts
  have hm := List.all_eq_true.1 h
  by_cases hl : l.length = 1
  · obtain ⟨x, rfl⟩ := List.length_eq_one_iff.1 hl
    rw [if_pos hl] at hts
    have hb := hm x (by simp)
    obtain ⟨t1, a1, a2⟩ := Reads.test hb ts R hts trivial
    refine ⟨t1, ?_, a2⟩
    rw [if_neg, bind_of a1]
    rw [isB_tk, hd_kt, hts]
    show ¬ isB (tk (hdK (testK x ++ R))) bLeft = true
    rw [(testK_no hb R).2.1]
    decide
  · rw [if_neg hl] at hts
    obtain ⟨e1, e2⟩ := hd_of hts
    rw [if_pos (by rw [isB_of e1]; rfl)]
    cases l with
    | nil => simp at h1
    | cons x l =>
      obtain ⟨t1, g1, g2⟩ := Reads.ends (p := pTest) (k := testK) (v := fun s => s) (stop := bRight) (F := Any) x l (fun y hy => Reads.test (hm y hy)) (fun y hy => (testK_hd (hm y (by simp [hy])) []).1)
        (fun y hy R => ⟨(testK_no (hm y (by simp [hy])) R).1, trivial⟩) (fun _ => trivial) ts.tail R e2 trivial
      refine ⟨t1, ?_, g2⟩
      rw [g1]
      simp
theorem fieldK_no {l : List Ts} (h1 : 1 ≤ l.length) (h : l.all testB = true) (R : Ks) : fieldHere (tk (hdK (fieldK l ++ R))) = true := by
  unfold fieldK
  by_cases hl : l.length = 1
  · rw [if_pos hl]
    obtain ⟨x, rfl⟩ := List.length_eq_one_iff.1 hl
    exact (testK_no (List.all_eq_true.1 h x (by simp)) R).2.2
  · rw [if_neg hl]; rfl

/-- What may stand behind an item. -/
def ItemEnd (R : Ks) : Prop := fieldHere (tk (hdK R)) = false ∧ isB (tk (hdK R)) bPlus = false
/-- An item's tokens. -/
structure Itm where
  neg : Bool
  attr : List Ts
  value : List Ts
  acc : Bool
def Itm.K (i : Itm) : Ks := (if i.neg then [(4, [45])] else []) ++ ((4, [94]) :: (fieldK i.attr ++ ((if 0 < i.value.length then fieldK i.value else []) ++ (if i.acc then [(4, [43])] else []))))
structure Itm.Ok (i : Itm) : Prop where
  attr : 1 ≤ i.attr.length ∧ i.attr.all testB = true
  value : i.value.all testB = true
def Itm.cd (i : Itm) (id : ByteArray) (goal : Bool) : Cd := .mk (if i.neg then 2 else 1) goal id i.attr i.value i.acc []
theorem Reads.item {i : Itm} (hi : i.Ok) (id : ByteArray) (goal : Bool) : Reads (pItem id goal) i.K ItemEnd (i.cd id goal) := by
  intro ts R hts hF
  obtain ⟨neg, attr, value, acc⟩ := i
  obtain ⟨⟨ha, hat⟩, hv⟩ := hi
  unfold Itm.K at hts
  simp only at ha hat hv hts
  unfold pItem Itm.cd
  have hmin : isB (headT ts) bMinus = neg := by
    rw [isB_tk, hd_kt, hts]
    cases neg <;> rfl
  have h1 : (if isB (headT ts) bMinus then ts.tail else ts).map Tk.kt = (4, [94]) :: (fieldK attr ++ ((if 0 < value.length then fieldK value else []) ++ ((if acc then [(4, [43])] else []) ++ R))) := by
    rw [hmin]
    cases neg
    · simp only [Bool.false_eq_true, if_false, List.nil_append, List.cons_append, List.append_assoc] at hts ⊢
      exact hts
    · simp only [if_true]
      rw [tail_kt, hts]
      simp
  rw [hmin] at h1 ⊢
  obtain ⟨t1, a1, a2⟩ := Reads.take bHat _ _ h1 trivial
  obtain ⟨t2, b1, b2⟩ := Reads.field ha hat t1 _ a2 trivial
  rw [bind_of a1, bind_of b1]
  have key : ∃ t3, pIf (fieldHere (headT t2)) pField [] t2 = .ok value t3 ∧ t3.map Tk.kt = (if acc then [(4, [43])] else []) ++ R := by
    have hh : fieldHere (headT t2) = fieldHere (tk (hdK (t2.map Tk.kt))) := by rw [← hd_kt]; rfl
    unfold pIf
    rw [hh, b2]
    by_cases hvl : 0 < value.length
    · rw [if_pos hvl] at b2 ⊢
      rw [if_pos (fieldK_no hvl hv _)]
      exact Reads.field hvl hv t2 _ b2 trivial
    · rw [if_neg hvl] at b2 ⊢
      have hnil : value = [] := List.eq_nil_of_length_eq_zero (by omega)
      rw [hnil]
      refine ⟨t2, ?_, b2⟩
      rw [if_neg]
      cases acc
      · simp only [Bool.false_eq_true, if_false, List.nil_append]
        rw [hF.1]
        decide
      · exact Bool.false_ne_true
  obtain ⟨t3, c1, c2⟩ := key
  rw [bind_of c1]
  have hp : isB (headT t3) bPlus = acc := by
    rw [isB_tk, hd_kt, c2]
    cases acc
    · exact hF.2
    · rfl
  rw [hp]
  refine ⟨_, rfl, ?_⟩
  cases acc
  · exact c2
  · show t3.tail.map Tk.kt = R
    rw [tail_kt, c2]
    rfl
theorem ItemEnd.item (i : Itm) (R : Ks) : isB (tk (hdK (i.K ++ R))) bShut = false ∧ ItemEnd (i.K ++ R) := by
  obtain ⟨neg, attr, value, acc⟩ := i
  cases neg
  · exact ⟨rfl, rfl, rfl⟩
  · exact ⟨rfl, rfl, rfl⟩
theorem Itm.K_len (i : Itm) : 1 ≤ i.K.length := by
  obtain ⟨neg, attr, value, acc⟩ := i
  cases neg <;> simp [Itm.K]
def clauseK (goal : Bool) (id : ByteArray) (l : List Itm) : Ks := (4, [40]) :: ((if goal then [(1, [115, 116, 97, 116, 101])] else []) ++ ((3, id.data.toList) :: (l.flatMap Itm.K ++ [(4, [41])])))
theorem Reads.clause (goal : Bool) (id : ByteArray) {l : List Itm} (hl : l ≠ []) (h : ∀ i ∈ l, i.Ok) : Reads pClause (clauseK goal id l) Any (l.map fun i => i.cd id goal) := by
  intro ts R hts _
  unfold clauseK at hts
  unfold pClause
  obtain ⟨t1, a1, a2⟩ := Reads.take bOpen ts _ hts trivial
  rw [bind_of a1]
  have hg : goalHere (headT t1) = goal := by
    have : goalHere (headT t1) = goalHere (tk (hdK (t1.map Tk.kt))) := by rw [← hd_kt]; rfl
    rw [this, a2]
    cases goal <;> rfl
  rw [hg]
  have h1 : (if goal then t1.tail else t1).map Tk.kt = (3, id.data.toList) :: (l.flatMap Itm.K ++ ((4, [41]) :: R)) := by
    cases goal
    · simp only [Bool.false_eq_true, if_false]
      rw [a2]
      simp
    · simp only [if_true]
      rw [tail_kt, a2]
      simp
  obtain ⟨t2, b1, b2⟩ := Reads.text 3 id _ _ h1 trivial
  rw [bind_of b1]
  cases l with
  | nil => exact absurd rfl hl
  | cons x l =>
    exact Reads.ends (p := pItem id goal) (k := Itm.K) (v := fun i => i.cd id goal) (stop := bShut) (F := ItemEnd) x l (fun i hi => Reads.item (h i hi) id goal) (fun i _ => i.K_len) (fun i _ R => ItemEnd.item i R) (fun R => ⟨rfl, rfl⟩) t2 R (by rw [b2]; simp [bShut]) trivial
end Go.Proofs.Ytgeaccoobhigcaa
namespace Go.Proofs.Ytgeaccoobhigcaa
open Go Go.RowKit

theorem condsK_flat : ∀ l : List Cd, condsK l = l.flatMap condK
  | [] => by simp [condsK]
  | c :: r => by rw [condsK, condsK_flat r, List.flatMap_cons]
theorem condK_clause {kind : Int} {goal : Bool} {id : ByteArray} {attr value : List Ts} {acc : Bool} {conds : List Cd} (h : ¬ kind = 3) : condK (.mk kind goal id attr value acc conds) = (if kind = 2 then [(4, [45])] else []) ++ clauseK goal id [⟨false, attr, value, acc⟩] := by
  simp only [condK]
  rw [if_neg h]
  unfold clauseK Itm.K
  simp
theorem condK_hd (c : Cd) (R : Ks) : 1 ≤ (condK c).length ∧ ((hdK (condK c ++ R)) = (4, [45]) ∨ (hdK (condK c ++ R)) = (4, [40])) := by
  obtain ⟨kind, goal, id, attr, value, acc, conds⟩ := c
  simp only [condK]
  split
  · exact ⟨by simp, .inl rfl⟩
  · split
    · exact ⟨by simp, .inl rfl⟩
    · exact ⟨by simp, .inr rfl⟩
theorem condK_no {c : Cd} {R : Ks} {s : ByteArray} (h1 : ([45] : Bs) ≠ s.data.toList) (h2 : ([40] : Bs) ≠ s.data.toList) : isB (tk (hdK (condK c ++ R))) s = false := by
  rcases (condK_hd c R).2 with h | h
  · rw [h]; exact isB_t4 h1
  · rw [h]; exact isB_t4 h2
theorem flat_one {α : Type} : ∀ l : List α, (l.map fun a => [a]).flatten = l
  | [] => rfl
  | a :: l => by rw [List.map_cons, List.flatten_cons, flat_one l]; rfl
mutual
theorem Reads.cond : ∀ (c : Cd) (d : Int) (n : Nat), firstE c d = 0 → d ≤ 3 → 4 ≤ n + d → Reads (pCond n) (condK c) Any [c]
  | .mk kind goal id attr value acc conds, d, n, h, hd, hn => by
    intro ts R hts _
    obtain ⟨m, rfl⟩ : ∃ m, n = m + 1 := ⟨n - 1, by omega⟩
    obtain ⟨h1, h2⟩ := firstE_zero h
    rcases condE_zero h1 with ⟨k, g, i0, a0, v0, ac0, hc, hd3⟩ | ⟨k, c0, i, a1, _, _, ta, tv⟩
    · subst k g ac0
      simp only [condK, if_true] at hts
      obtain ⟨e1, e2⟩ := hd_of hts
      obtain ⟨e3, e4⟩ := hd_of e2
      have hall := Reads.conds conds (d + 1) m h2 (by omega) (by omega)
      cases conds with
      | nil => exact absurd rfl hc
      | cons x l =>
        rw [condsK_flat] at e4
        obtain ⟨t1, g1, g2⟩ := Reads.ends (p := pCond m) (k := condK) (v := fun c => [c]) (stop := bRight) (F := Any) x l hall (fun y _ => (condK_hd y []).1) (fun y _ R => ⟨condK_no (by decide) (by decide), trivial⟩) (fun _ => trivial) ts.tail.tail R e4 trivial
        refine ⟨t1, ?_, g2⟩
        unfold pCond
        rw [if_pos (by rw [isB_of e1]; rfl), if_pos (by rw [isB_of e3]; rfl), bind_of g1]
        show Rs.ok [allOf ([x] :: l.map fun c => [c]).flatten] t1 = _
        rw [List.flatten_cons, flat_one, nil_str i0, List.eq_nil_of_length_eq_zero a0, List.eq_nil_of_length_eq_zero v0]
        rfl
    · have h3 : ¬ kind = 3 := by omega
      rw [condK_clause h3] at hts
      have hnil : conds = [] := List.eq_nil_of_length_eq_zero c0
      subst hnil
      have hcl := Reads.clause goal id (l := [⟨false, attr, value, acc⟩]) (by simp) (fun i hi => by rw [List.mem_singleton.1 hi]; exact ⟨⟨a1, ta⟩, tv⟩)
      by_cases k2 : kind = 2
      · subst k2
        rw [if_pos rfl] at hts
        obtain ⟨e1, e2⟩ := hd_of hts
        obtain ⟨t1, b1, b2⟩ := hcl ts.tail R e2 trivial
        obtain ⟨e3, _⟩ := hd_of e2
        refine ⟨t1, ?_, b2⟩
        unfold pCond
        rw [if_pos (by rw [isB_of e1]; rfl), if_neg (by rw [isB_of e3]; decide), bind_of b1]
        rfl
      · have k1 : kind = 1 := by omega
        subst k1
        rw [if_neg k2] at hts
        obtain ⟨e1, _⟩ := hd_of hts
        obtain ⟨t1, b1, b2⟩ := hcl ts R hts trivial
        refine ⟨t1, ?_, b2⟩
        unfold pCond
        rw [if_neg (by rw [isB_of e1]; decide), b1]
        rfl
theorem Reads.conds : ∀ (l : List Cd) (d : Int) (n : Nat), firstEs l d = 0 → d ≤ 3 → 4 ≤ n + d → ∀ c ∈ l, Reads (pCond n) (condK c) Any [c]
  | [], d, n, h, hd, hn, c, hc => by cases hc
  | x :: r, d, n, h, hd, hn, c, hc => by
    have h1 := firstEs_mem h (List.mem_cons_self ..)
    have h2 : firstEs r d = 0 := by
      simp only [firstEs] at h
      rwa [if_pos h1] at h
    rcases List.mem_cons.1 hc with e | e
    · rw [e]; exact Reads.cond x d n h1 hd hn
    · exact Reads.conds r d n h2 hd hn c e
end
theorem emptyB_eq {a : Am} (h : emptyB a = true) : a = nilAm := by
  unfold emptyB at h
  simp only [Bool.and_eq_true, decide_eq_true_eq] at h
  obtain ⟨v, s⟩ := a
  simp only at h
  rw [nil_str h.1, noneB_eq h.2]
  rfl
theorem Reads.bin {c : UInt8} {x y : Am} (hc : opN [c] ≠ 0) (hx : atomB x = true) (hy : atomB y = true) : Reads pTerm (binK c x y) Any ⟨opN [c], x, y⟩ := by
  intro ts R hts _
  unfold binK at hts
  obtain ⟨e1, e2⟩ := hd_of hts
  obtain ⟨e3, e4⟩ := hd_of e2
  obtain ⟨t1, a1, a2⟩ := Reads.atom hx _ _ e4 trivial
  obtain ⟨t2, b1, b2⟩ := Reads.atom hy _ _ a2 trivial
  obtain ⟨t3, c1, c2⟩ := Reads.take bShut _ _ b2 trivial
  have h1 : opHere (headT ts.tail) = opN [c] := by
    have : opHere (headT ts.tail) = opHere (tk (headT ts.tail).kt) := rfl
    rw [this, e3]; rfl
  refine ⟨t3, ?_, c2⟩
  unfold pTerm
  rw [if_pos (by rw [isB_of e1]; rfl), h1, if_neg hc, bind_of a1, bind_of b1, bind_of c1]
theorem Reads.term {t : Tm} (h : termB t = true) : Reads pTerm (termK t) Any t := by
  unfold termB at h
  simp only [Bool.and_eq_true, decide_eq_true_eq] at h
  obtain ⟨⟨h1, h2⟩, h3⟩ := h
  have hy : t.op ≠ 0 → atomB t.b = true := by
    intro h0
    rw [if_neg h0] at h3
    simp only [Bool.and_eq_true] at h3
    exact h3.1.1
  obtain ⟨op, a, b⟩ := t
  simp only at h1 h2 h3 hy
  unfold termK
  simp only
  rcases (show op = 1 ∨ op = 2 ∨ op = 3 ∨ op = 0 by omega) with rfl | rfl | rfl | rfl
  · rw [if_pos rfl]; exact Reads.bin (c := 43) (by decide) h2 (hy (by decide))
  · rw [if_neg (by decide), if_pos rfl]; exact Reads.bin (c := 45) (by decide) h2 (hy (by decide))
  · rw [if_neg (by decide), if_neg (by decide), if_pos rfl]; exact Reads.bin (c := 42) (by decide) h2 (hy (by decide))
  · rw [if_neg (by decide), if_neg (by decide), if_neg (by decide)]
    rw [if_pos rfl] at h3
    intro ts R hts _
    obtain ⟨e1, e2⟩ := hd_of hts
    obtain ⟨t1, a1, a2⟩ := Reads.atom h2 ts R hts trivial
    refine ⟨t1, ?_, a2⟩
    unfold pTerm
    rw [if_neg, bind_of a1, emptyB_eq h3]
    rw [isB_tk, e1, isB_k4]
    · decide
    · rcases atomK_kind a with h | h | h <;> omega
def ActEnd (R : Ks) : Prop := atomHere (tk (hdK R)) = false
theorem atomHere_K {a : Am} {t : Tk} (ht : t.kt = atomK a) : atomHere t = true := by
  have hk : t.kind = (atomK a).1 := congrArg Prod.fst ht
  unfold atomHere constHere
  rw [hk]
  rcases atomK_kind a with h | h | h <;> rw [h] <;> rfl
theorem Reads.pref {k : Int} {o : Am} (h : 1 ≤ k ∧ k ≤ 10) (ho : if 8 ≤ k then atomB o = true else emptyB o = true) : Reads pPref ((4, (signL k).toList) :: (if 8 ≤ k ∧ k ≤ 10 then [atomK o] else [])) ActEnd (k, o) := by
  intro ts R hts hF
  obtain ⟨e1, e2⟩ := hd_of hts
  have h1 : prefHere (headT ts) = prefN (signL k).toList := by
    have : prefHere (headT ts) = prefHere (tk (headT ts).kt) := rfl
    rw [this, e1]; rfl
  unfold pPref
  rw [h1]
  by_cases h8 : 8 ≤ k
  · rw [if_pos h8] at ho
    rw [if_pos ⟨h8, h.2⟩] at e2
    obtain ⟨e3, _⟩ := hd_of e2
    obtain ⟨t1, a1, a2⟩ := Reads.atom ho _ _ e2 trivial
    have hh := atomHere_K e3
    rcases (show k = 8 ∨ k = 9 ∨ k = 10 by omega) with rfl | rfl | rfl
    all_goals
      refine ⟨t1, ?_, a2⟩
      rw [if_neg (by decide), if_pos ⟨by decide, hh⟩, bind_of a1]
      rfl
  · rw [if_neg h8] at ho
    rw [if_neg (by omega)] at e2
    rw [emptyB_eq ho]
    have hh : atomHere (headT ts.tail) = false := by
      have : atomHere (headT ts.tail) = atomHere (tk (hdK (ts.tail.map Tk.kt))) := by rw [← hd_kt]; rfl
      rw [this, e2]; exact hF
    refine ⟨ts.tail, ?_, e2⟩
    rcases (show k = 1 ∨ k = 2 ∨ k = 3 ∨ k = 4 ∨ k = 5 ∨ k = 6 ∨ k = 7 by omega) with rfl | rfl | rfl | rfl | rfl | rfl | rfl
    all_goals
      rw [if_neg (by decide), if_neg (by rw [hh]; simp)]
      rfl
def actR (a : Ac) : Ks := (4, [94]) :: atomK a.attr :: (termK a.value ++ ((4, (signL a.pref).toList) :: (if 8 ≤ a.pref ∧ a.pref ≤ 10 then [atomK a.other] else [])))
theorem actB_parts {a : Ac} (h : actB a = true) : wordB a.id.data.toList = true ∧ atomB a.attr = true ∧ termB a.value = true ∧ (1 ≤ a.pref ∧ a.pref ≤ 10) ∧ (if 8 ≤ a.pref then atomB a.other = true else emptyB a.other = true) := by
  unfold actB at h
  simp only [Bool.and_eq_true, decide_eq_true_eq] at h
  obtain ⟨⟨⟨⟨h1, h2⟩, h3⟩, h6⟩, h7⟩ := h
  refine ⟨h1, h2, h3, h6, ?_⟩
  split
  · rwa [if_pos ‹_›] at h7
  · rwa [if_neg ‹_›] at h7
theorem Reads.act {a : Ac} (h : actB a = true) : Reads (pAct a.id) (actR a) ActEnd a := by
  intro ts R hts hF
  obtain ⟨h1, h2, h3, h4, h5⟩ := actB_parts h
  unfold actR at hts
  obtain ⟨t1, a1, a2⟩ := Reads.take bHat ts _ hts trivial
  obtain ⟨t2, b1, b2⟩ := Reads.atom h2 t1 _ a2 trivial
  obtain ⟨t3, c1, c2⟩ := Reads.term h3 t2 (((4, (signL a.pref).toList) :: (if 8 ≤ a.pref ∧ a.pref ≤ 10 then [atomK a.other] else [])) ++ R) (b2.trans (List.append_assoc _ _ _)) trivial
  obtain ⟨t4, d1, d2⟩ := Reads.pref h4 h5 t3 R c2 hF
  refine ⟨t4, ?_, d2⟩
  unfold pAct
  rw [bind_of a1, bind_of b1, bind_of c1, bind_of d1]
theorem actK_eq (a : Ac) : actK a = (4, [40]) :: (3, a.id.data.toList) :: (actR a ++ [(4, [41])]) := by
  unfold actK actR
  simp
theorem Reads.acts {a : Ac} (h : actB a = true) : Reads pActs (actK a) Any [a] := by
  intro ts R hts _
  rw [actK_eq] at hts
  obtain ⟨t1, a1, a2⟩ := Reads.take bOpen ts _ hts trivial
  obtain ⟨t2, b1, b2⟩ := Reads.text 3 a.id t1 _ a2 trivial
  obtain ⟨t3, c1, c2⟩ := Reads.ends (p := pAct a.id) (k := fun _ : Unit => actR a) (v := fun _ => a) (stop := bShut) (F := ActEnd) () [] (fun _ _ => Reads.act h) (by simp) (by simp) (fun R => rfl) t2 R (by rw [b2, List.flatMap_cons, List.flatMap_nil, List.append_nil]; rfl) trivial
  refine ⟨t3, ?_, c2⟩
  unfold pActs
  rw [bind_of a1, bind_of b1]
  exact c1
theorem actK_no {a : Ac} {R : Ks} {s : ByteArray} (h : ([40] : Bs) ≠ s.data.toList) : isB (tk (hdK (actK a ++ R))) s = false := isB_t4 h
/-- What is printed is read back. -/
theorem Reads.prod {p : Pd} (h : shapeE p = 0) : Reads pProd (prodK p) Any p := by
  intro ts R hts _
  obtain ⟨h1, h2, _, h3, _, h4, h5⟩ := shapeE_parts h
  obtain ⟨name, conds, acts⟩ := p
  simp only at h1 h2 h3 h4 h5
  unfold prodK at hts
  simp only at hts
  obtain ⟨e1, e2⟩ := hd_of hts
  obtain ⟨t1, a1, a2⟩ := Reads.take bLeft ts.tail _ e2 trivial
  obtain ⟨t2, b1, b2⟩ := Reads.text 1 name t1 _ a2 trivial
  cases conds with
  | nil => simp [cdsN] at h2
  | cons x l =>
    cases acts with
    | nil => simp at h3
    | cons y m =>
      have hlen : 4 ≤ ((t2.length + 1 : Nat) : Int) + 0 := by
        have h6 := congrArg List.length b2
        rw [List.length_map] at h6
        have h7 := (condK_hd x []).1
        have h8 : 1 ≤ (actK y).length := by unfold actK; simp
        rw [List.flatMap_cons, List.flatMap_cons] at h6
        have h9 : ∀ a b : Ks, (a.append b).length = a.length + b.length := fun a b => List.length_append
        rw [h9] at h6
        simp only [List.length_append, List.length_cons, List.length_nil] at h6
        omega
      have hall := Reads.conds (x :: l) 0 (t2.length + 1) h4 (by omega) hlen
      obtain ⟨t3, c1, c2⟩ := Reads.ends (p := pCond (t2.length + 1)) (k := condK) (v := fun c => [c]) (stop := bArrow) (F := Any) x l hall (fun y _ => (condK_hd y []).1) (fun y _ R => ⟨condK_no (by decide) (by decide), trivial⟩) (fun _ => trivial) t2 (((y :: m).flatMap actK ++ [(4, [125])]) ++ R) (by rw [b2]; simp [bArrow]) trivial
      have hm := List.all_eq_true.1 h5
      obtain ⟨t4, d1, d2⟩ := Reads.ends (p := pActs) (k := actK) (v := fun c => [c]) (stop := bRight) (F := Any) y m (fun a ha => Reads.acts (hm a ha)) (fun a _ => by unfold actK; simp) (fun y _ R => ⟨actK_no (by decide), trivial⟩) (fun _ => trivial) t3 R c2 trivial
      refine ⟨t4, ?_, d2⟩
      have hsp : spHere (headT ts) = true := by
        have : spHere (headT ts) = spHere (tk (headT ts).kt) := rfl
        rw [this, e1]; rfl
      unfold pProd
      rw [if_pos hsp, bind_of a1, bind_of b1, bind_of c1, bind_of d1]
      show Rs.ok (⟨name, ([x] :: l.map fun c => [c]).flatten, ([y] :: m.map fun c => [c]).flatten⟩ : Pd) t4 = _
      rw [List.flatten_cons, List.flatten_cons, flat_one, flat_one]
      rfl
theorem prod_back {p : Pd} (h : shapeE p = 0) (b : Bs) : ∃ ts', pProd (toks ((prodT p).data.toList ++ b)) = .ok p ts' ∧ ts'.map Tk.kt = kts b :=
  Reads.prod h _ _ (kts_prod b h) trivial
/-- Texts of productions that are alike are alike. -/
theorem prodT_inj {p q : Pd} (hp : shapeE p = 0) (hq : shapeE q = 0) (h : prodT p = prodT q) : p = q := by
  obtain ⟨t1, h1, _⟩ := prod_back hp []
  obtain ⟨t2, h2, _⟩ := prod_back hq []
  rw [h, h2] at h1
  cases h1
  rfl
end Go.Proofs.Ytgeaccoobhigcaa
namespace Go.Proofs.Ytgeaccoobhigcaa
open Go Go.RowKit

def balT (t : Tk) : Int := if isB t bLeft then 1 else if isB t bRight then -1 else 0
def balL : List Tk → Int
  | [] => 0
  | t :: r => balT t + balL r
theorem balL_app : ∀ a b : List Tk, balL (a ++ b) = balL a + balL b
  | [], b => by simp [balL]
  | t :: a, b => by rw [List.cons_append, balL, balL, balL_app a b]; omega
/-- Tokens of such a balance were taken, none of them the end or a bad one. -/
def Took (n : Int) (ts ts' : List Tk) : Prop := ∃ K, ts = K ++ ts' ∧ balL K = n ∧ ∀ t ∈ K, 1 ≤ t.kind ∧ t.kind ≤ 4
theorem Took.refl (ts : List Tk) : Took 0 ts ts := ⟨[], rfl, rfl, by simp⟩
theorem Took.trans {n m : Int} {a b c : List Tk} (h : Took n a b) (k : Took m b c) : Took (n + m) a c := by
  obtain ⟨K, h1, h2, h3⟩ := h
  obtain ⟨J, k1, k2, k3⟩ := k
  refine ⟨K ++ J, by rw [h1, k1, List.append_assoc], by rw [balL_app, h2, k2], fun t ht => ?_⟩
  rcases List.mem_append.1 ht with ht | ht
  · exact h3 t ht
  · exact k3 t ht
theorem Took.zero {n : Int} {a b : List Tk} (h : Took n a b) (e : n = 0) : Took 0 a b := e ▸ h
theorem head_tail {ts : List Tk} (h : (headT ts).kind ≠ 5) : ts = headT ts :: ts.tail := by
  cases ts with
  | nil => exact absurd rfl h
  | cons t r => rfl
theorem took_tail {ts : List Tk} (h : 1 ≤ (headT ts).kind ∧ (headT ts).kind ≤ 4) : Took (balT (headT ts)) ts ts.tail :=
  ⟨[headT ts], head_tail (by omega), by simp [balL], fun t ht => by rw [List.mem_singleton.1 ht]; exact h⟩
theorem balT_kind {t : Tk} (h : t.kind ≠ 4) : balT t = 0 := by simp [balT, isB, h]
theorem balT_is {t : Tk} {s : ByteArray} (h : isB t s = true) (h1 : s.data.toList ≠ [123]) (h2 : s.data.toList ≠ [125]) : balT t = 0 := by
  unfold isB at h
  simp only [Bool.and_eq_true, beq_iff_eq] at h
  unfold balT isB
  rw [h.2]
  rw [if_neg, if_neg]
  · simp only [Bool.and_eq_true, beq_iff_eq, not_and]
    exact fun _ e => h2 e
  · simp only [Bool.and_eq_true, beq_iff_eq, not_and]
    exact fun _ e => h1 e
theorem balT_left {t : Tk} (h : isB t bLeft = true) : balT t = 1 := by unfold balT; rw [if_pos h]
theorem balT_right {t : Tk} (h : isB t bRight = true) : balT t = -1 := by
  unfold balT
  rw [if_neg, if_pos h]
  unfold isB at h ⊢
  simp only [Bool.and_eq_true, beq_iff_eq] at h
  rw [h.2]
  simp only [Bool.and_eq_true, beq_iff_eq, not_and]
  exact fun _ => by decide
/-- Readers that take what is balanced; and where they go wrong. -/
structure Bal {α : Type} (P : Pr α) : Prop where
  ok : ∀ ts a ts', P ts = .ok a ts' → Took 0 ts ts'
  bad : ∀ ts q, P ts = .bad q → q = 0 ∨ ∃ t ∈ ts, t.pos = q
theorem head_pos (ts : List Tk) : (headT ts).pos = 0 ∨ ∃ t ∈ ts, t.pos = (headT ts).pos := by
  cases ts with
  | nil => exact .inl rfl
  | cons t r => exact .inr ⟨t, by simp, rfl⟩
theorem badAt_pos {α : Type} {ts : List Tk} {q : Nat} (h : (badAt ts : Rs α) = .bad q) : q = 0 ∨ ∃ t ∈ ts, t.pos = q := by
  cases h
  exact head_pos ts
theorem Took.pos {n : Int} {ts ts' : List Tk} {q : Nat} (h : Took n ts ts') (k : q = 0 ∨ ∃ t ∈ ts', t.pos = q) : q = 0 ∨ ∃ t ∈ ts, t.pos = q := by
  obtain ⟨K, h1, _⟩ := h
  rcases k with k | ⟨t, ht, k⟩
  · exact .inl k
  · exact .inr ⟨t, by rw [h1]; simp [ht], k⟩
theorem tail_pos {ts : List Tk} {q : Nat} (k : q = 0 ∨ ∃ t ∈ ts.tail, t.pos = q) : q = 0 ∨ ∃ t ∈ ts, t.pos = q := by
  rcases k with k | ⟨t, ht, k⟩
  · exact .inl k
  · exact .inr ⟨t, List.mem_of_mem_tail ht, k⟩
theorem bind_bad {α β : Type} {r : Rs α} {f : α → List Tk → Rs β} {q : Nat} : r.bind f = .bad q ↔ r = .bad q ∨ ∃ a t, r = .ok a t ∧ f a t = .bad q := by
  cases r with
  | bad p => simp [Rs.bind]
  | ok a t =>
    simp only [Rs.bind]
    exact ⟨fun h => .inr ⟨a, t, rfl, h⟩, fun h => by rcases h with h | ⟨a', t', e, h⟩; cases h; cases e; exact h⟩
/-- A sign that is taken: its balance. -/
theorem take_took {s : ByteArray} {ts ts' : List Tk} {u : Unit} (h : pTake s ts = .ok u ts') : isB (headT ts) s = true ∧ ts' = ts.tail ∧ Took (balT (headT ts)) ts ts' := by
  unfold pTake at h
  split at h
  · rename_i hb
    cases h
    have := isB_k hb
    exact ⟨hb, rfl, took_tail (by omega)⟩
  · exact absurd h bad_not
theorem take_pos {s : ByteArray} {ts : List Tk} {q : Nat} (h : pTake s ts = .bad q) : q = 0 ∨ ∃ t ∈ ts, t.pos = q := by
  unfold pTake at h
  split at h
  · cases h
  · exact badAt_pos h
theorem Bal.take {s : ByteArray} (h1 : s.data.toList ≠ [123]) (h2 : s.data.toList ≠ [125]) : Bal (pTake s) :=
  ⟨fun ts u ts' h => by obtain ⟨a, _, c⟩ := take_took h; exact c.zero (balT_is a h1 h2), fun ts q h => take_pos h⟩
theorem Bal.text {k : Nat} (hk : 1 ≤ k ∧ k ≤ 3) : Bal (pText k) := by
  refine ⟨fun ts a ts' h => ?_, fun ts q h => ?_⟩
  · unfold pText at h
    split at h
    · rename_i hb
      cases h
      exact (took_tail (by omega)).zero (balT_kind (by omega))
    · exact absurd h bad_not
  · unfold pText at h
    split at h
    · cases h
    · exact badAt_pos h
theorem Bal.const : Bal pConst := by
  refine ⟨fun ts a ts' h => ?_, fun ts q h => ?_⟩
  · unfold pConst at h
    split at h
    · rename_i hb
      have := constHere_k hb
      cases h
      exact (took_tail (by omega)).zero (balT_kind (by omega))
    · exact absurd h bad_not
  · unfold pConst at h
    split at h
    · cases h
    · exact badAt_pos h
theorem Bal.bind {α β : Type} {P : Pr α} {f : α → Pr β} (h : Bal P) (hf : ∀ a, Bal (f a)) : Bal (fun ts => (P ts).bind f) := by
  refine ⟨fun ts b ts' e => ?_, fun ts q e => ?_⟩
  · obtain ⟨a, t, h1, h2⟩ := bind_ok.1 e
    exact ((h.ok _ _ _ h1).trans ((hf a).ok _ _ _ h2)).zero (by omega)
  · rcases bind_bad.1 e with e | ⟨a, t, h1, h2⟩
    · exact h.bad _ _ e
    · exact (h.ok _ _ _ h1).pos ((hf a).bad _ _ h2)
theorem Bal.ret {α : Type} (a : α) : Bal (fun ts => .ok a ts) := ⟨fun ts b ts' e => by cases e; exact Took.refl _, fun ts q e => by cases e⟩
theorem Bal.atom : Bal pAtom := by
  refine ⟨fun ts a ts' h => ?_, fun ts q h => ?_⟩
  · unfold pAtom at h
    split at h
    · rename_i hb
      cases h
      exact (took_tail (by omega)).zero (balT_kind (by omega))
    · exact (Bal.const.bind (f := fun s ts => .ok (⟨⟨#[]⟩, s⟩ : Am) ts) fun s => Bal.ret _).ok _ _ _ h
  · unfold pAtom at h
    split at h
    · cases h
    · exact (Bal.const.bind (f := fun s ts => .ok (⟨⟨#[]⟩, s⟩ : Am) ts) fun s => Bal.ret _).bad _ _ h
theorem Bal.many {α : Type} {p : Pr α} (h : Bal p) (stop : ByteArray) : ∀ n, Bal (pMany p stop n)
  | 0 => ⟨fun ts a ts' e => absurd e bad_not, fun ts q e => badAt_pos e⟩
  | n + 1 => by
    have hb : Bal (fun ts => (p ts).bind fun a ts => (pMany p stop n ts).bind fun l ts => .ok (a :: l) ts) := h.bind fun a => (Bal.many h stop n).bind fun l => Bal.ret _
    refine ⟨fun ts a ts' e => ?_, fun ts q e => ?_⟩
    · unfold pMany at e
      split at e
      · cases e; exact Took.refl _
      · exact hb.ok _ _ _ e
    · unfold pMany at e
      split at e
      · cases e
      · exact hb.bad _ _ e
theorem Bal.many1 {α : Type} {p : Pr α} (h : Bal p) (stop : ByteArray) : Bal (pMany1 p stop) := by
  refine ⟨fun ts a ts' e => ?_, fun ts q e => ?_⟩
  · obtain ⟨x, t, h1, h2⟩ := bind_ok.1 e
    exact ((h.ok _ _ _ h1).trans (((h.many stop _).bind (f := fun l ts => .ok (x :: l) ts) fun l => Bal.ret _).ok _ _ _ h2)).zero (by omega)
  · rcases bind_bad.1 e with e | ⟨x, t, h1, h2⟩
    · exact h.bad _ _ e
    · exact (h.ok _ _ _ h1).pos (((h.many stop _).bind (f := fun l ts => .ok (x :: l) ts) fun l => Bal.ret _).bad _ _ h2)
theorem Bal.ends {α : Type} {p : Pr α} (h : Bal p) {stop : ByteArray} (h1 : stop.data.toList ≠ [123]) (h2 : stop.data.toList ≠ [125]) : Bal (pEnds p stop) :=
  (h.many1 stop).bind fun _ => (Bal.take h1 h2).bind fun _ => Bal.ret _
/-- Up to a right brace: one is taken more. -/
theorem ends_right {α : Type} {p : Pr α} (h : Bal p) {ts : List Tk} {l : List α} {ts' : List Tk} (e : pEnds p bRight ts = .ok l ts') : Took (-1) ts ts' := by
  obtain ⟨x, t, h1, h2⟩ := bind_ok.1 e
  obtain ⟨_, t2, h3, h4⟩ := bind_ok.1 h2
  cases h4
  obtain ⟨a, _, c⟩ := take_took h3
  have := ((h.many1 bRight).ok _ _ _ h1).trans c
  rwa [balT_right a] at this
theorem ends_right_pos {α : Type} {p : Pr α} (h : Bal p) {ts : List Tk} {q : Nat} (e : pEnds p bRight ts = .bad q) : q = 0 ∨ ∃ t ∈ ts, t.pos = q := by
  rcases bind_bad.1 e with e | ⟨x, t, h1, h2⟩
  · exact (h.many1 bRight).bad _ _ e
  · refine ((h.many1 bRight).ok _ _ _ h1).pos ?_
    rcases bind_bad.1 h2 with e | ⟨_, t2, h3, h4⟩
    · exact take_pos e
    · cases h4
theorem left_took {ts : List Tk} (h : isB (headT ts) bLeft = true) : Took 1 ts ts.tail := by
  have := isB_k h
  have := took_tail (ts := ts) (by omega)
  rwa [balT_left h] at this
theorem Bal.test : Bal pTest := by
  have h1 : Bal (pEnds pConst bTo) := Bal.const.ends (by decide) (by decide)
  refine ⟨fun ts a ts' h => ?_, fun ts q h => ?_⟩
  · unfold pTest at h
    split at h
    · rename_i hb
      obtain ⟨x, t, h2, h⟩ := bind_ok.1 h
      cases h
      have hk := isB_k hb
      exact ((took_tail (by omega)).trans (h1.ok _ _ _ h2)).zero (by rw [balT_is hb (by decide) (by decide)]; rfl)
    · split at h
      · rename_i hb
        obtain ⟨x, t, h2, h⟩ := bind_ok.1 h
        cases h
        unfold relHere at hb
        simp only [Bool.and_eq_true, decide_eq_true_eq] at hb
        have h3 : balT (headT ts) = 0 := by
          unfold balT isB
          rw [if_neg, if_neg]
          · simp only [Bool.and_eq_true, beq_iff_eq, not_and]
            intro _ e
            rw [e] at hb
            exact absurd hb.2 (by decide)
          · simp only [Bool.and_eq_true, beq_iff_eq, not_and]
            intro _ e
            rw [e] at hb
            exact absurd hb.2 (by decide)
        exact ((took_tail (by omega)).trans (Bal.atom.ok _ _ _ h2)).zero (by rw [h3]; rfl)
      · obtain ⟨x, t, h2, h⟩ := bind_ok.1 h
        cases h
        exact Bal.atom.ok _ _ _ h2
  · unfold pTest at h
    split at h
    · rcases bind_bad.1 h with e | ⟨_, _, _, e⟩
      · exact tail_pos (h1.bad _ _ e)
      · cases e
    · split at h
      · rcases bind_bad.1 h with e | ⟨_, _, _, e⟩
        · exact tail_pos (Bal.atom.bad _ _ e)
        · cases e
      · rcases bind_bad.1 h with e | ⟨_, _, _, e⟩
        · exact Bal.atom.bad _ _ e
        · cases e
theorem Bal.field : Bal pField := by
  refine ⟨fun ts a ts' h => ?_, fun ts q h => ?_⟩
  · unfold pField at h
    split at h
    · rename_i hb
      exact ((left_took hb).trans (ends_right Bal.test h)).zero (by omega)
    · obtain ⟨x, t, h2, h⟩ := bind_ok.1 h
      cases h
      exact Bal.test.ok _ _ _ h2
  · unfold pField at h
    split at h
    · exact tail_pos (ends_right_pos Bal.test h)
    · rcases bind_bad.1 h with e | ⟨_, _, _, e⟩
      · exact Bal.test.bad _ _ e
      · cases e
theorem Bal.opt {α : Type} {p : Pr α} (h : Bal p) (b : Bool) (x : α) : Bal (pIf b p x) := by
  cases b
  · exact Bal.ret x
  · exact h
theorem took_opt {ts : List Tk} {s : ByteArray} (h1 : s.data.toList ≠ [123]) (h2 : s.data.toList ≠ [125]) : Took 0 ts (if isB (headT ts) s then ts.tail else ts) := by
  split
  · rename_i hb
    have := isB_k hb
    exact (took_tail (by omega)).zero (balT_is hb h1 h2)
  · exact Took.refl _
theorem Bal.item (id : ByteArray) (goal : Bool) : Bal (pItem id goal) := by
  refine ⟨fun ts a ts' h => ?_, fun ts q h => ?_⟩
  · obtain ⟨_, t1, h1, h⟩ := bind_ok.1 h
    obtain ⟨x, t2, h2, h⟩ := bind_ok.1 h
    obtain ⟨y, t3, h3, h⟩ := bind_ok.1 h
    cases h
    exact (((took_opt (s := bMinus) (by decide) (by decide)).trans ((Bal.take (s := bHat) (by decide) (by decide)).ok _ _ _ h1)).trans ((Bal.field.ok _ _ _ h2).trans (((Bal.field.opt _ _).ok _ _ _ h3).trans (took_opt (s := bPlus) (by decide) (by decide))))).zero (by omega)
  · have h0 := took_opt (ts := ts) (s := bMinus) (by decide) (by decide)
    rcases bind_bad.1 h with e | ⟨_, t1, h1, h⟩
    · exact h0.pos (take_pos e)
    refine h0.pos (((Bal.take (s := bHat) (by decide) (by decide)).ok _ _ _ h1).pos ?_)
    rcases bind_bad.1 h with e | ⟨x, t2, h2, h⟩
    · exact Bal.field.bad _ _ e
    refine (Bal.field.ok _ _ _ h2).pos ?_
    rcases bind_bad.1 h with e | ⟨y, t3, h3, h⟩
    · exact (Bal.field.opt _ _).bad _ _ e
    · cases h
theorem took_goal (ts : List Tk) : Took 0 ts (if goalHere (headT ts) then ts.tail else ts) := by
  split
  · rename_i hb
    unfold goalHere at hb
    simp only [Bool.and_eq_true, decide_eq_true_eq] at hb
    exact (took_tail (by omega)).zero (balT_kind (by omega))
  · exact Took.refl _
theorem Bal.clause : Bal pClause := by
  have hi := fun id goal => (Bal.item id goal).ends (stop := bShut) (by decide) (by decide)
  refine ⟨fun ts a ts' h => ?_, fun ts q h => ?_⟩
  · obtain ⟨_, t1, h1, h⟩ := bind_ok.1 h
    obtain ⟨x, t2, h2, h⟩ := bind_ok.1 h
    exact (((Bal.take (s := bOpen) (by decide) (by decide)).ok _ _ _ h1).trans ((took_goal t1).trans (((Bal.text (k := 3) (by omega)).ok _ _ _ h2).trans ((hi _ _).ok _ _ _ h)))).zero (by omega)
  · rcases bind_bad.1 h with e | ⟨_, t1, h1, h⟩
    · exact take_pos e
    refine ((Bal.take (s := bOpen) (by decide) (by decide)).ok _ _ _ h1).pos ((took_goal t1).pos ?_)
    rcases bind_bad.1 h with e | ⟨x, t2, h2, h⟩
    · exact (Bal.text (k := 3) (by omega)).bad _ _ e
    · exact ((Bal.text (k := 3) (by omega)).ok _ _ _ h2).pos ((hi _ _).bad _ _ h)
theorem Bal.cond : ∀ n, Bal (pCond n)
  | 0 => ⟨fun ts a ts' e => absurd e bad_not, fun ts q e => badAt_pos e⟩
  | n + 1 => by
    refine ⟨fun ts a ts' h => ?_, fun ts q h => ?_⟩
    · unfold pCond at h
      split at h
      · rename_i hb
        have hk := isB_k hb
        have h1 := (took_tail (ts := ts) (by omega)).zero (balT_is hb (by decide) (by decide))
        split at h
        · rename_i hl
          obtain ⟨x, t, h3, h⟩ := bind_ok.1 h
          cases h
          exact (h1.trans ((left_took hl).trans (ends_right (Bal.cond n) h3))).zero (by omega)
        · obtain ⟨x, t, h3, h⟩ := bind_ok.1 h
          cases h
          exact (h1.trans (Bal.clause.ok _ _ _ h3)).zero (by omega)
      · exact Bal.clause.ok _ _ _ h
    · unfold pCond at h
      split at h
      · split at h
        · rcases bind_bad.1 h with e | ⟨_, _, _, e⟩
          · exact tail_pos (tail_pos (ends_right_pos (Bal.cond n) e))
          · cases e
        · rcases bind_bad.1 h with e | ⟨_, _, _, e⟩
          · exact tail_pos (Bal.clause.bad _ _ e)
          · cases e
      · exact Bal.clause.bad _ _ h
theorem Bal.term : Bal pTerm := by
  have hs := Bal.take (s := bShut) (by decide) (by decide)
  refine ⟨fun ts a ts' h => ?_, fun ts q h => ?_⟩
  · unfold pTerm at h
    split at h
    · rename_i hb
      have hk := isB_k hb
      have h1 := (took_tail (ts := ts) (by omega)).zero (balT_is hb (by decide) (by decide))
      split at h
      · exact absurd h bad_not
      · rename_i ho
        obtain ⟨x, t, h3, h⟩ := bind_ok.1 h
        obtain ⟨y, t2, h4, h⟩ := bind_ok.1 h
        obtain ⟨_, t3, h5, h⟩ := bind_ok.1 h
        cases h
        have h6 : (headT ts.tail).kind = 4 ∧ balT (headT ts.tail) = 0 := by
          unfold opHere at ho
          split at ho
          · rename_i hk4
            refine ⟨hk4, ?_⟩
            unfold balT isB
            rw [if_neg, if_neg]
            · simp only [Bool.and_eq_true, beq_iff_eq, not_and]
              intro _ e
              rw [e] at ho
              exact absurd ho (by decide)
            · simp only [Bool.and_eq_true, beq_iff_eq, not_and]
              intro _ e
              rw [e] at ho
              exact absurd ho (by decide)
          · exact absurd rfl ho
        exact (h1.trans ((took_tail (by omega)).trans ((Bal.atom.ok _ _ _ h3).trans ((Bal.atom.ok _ _ _ h4).trans (hs.ok _ _ _ h5))))).zero (by rw [h6.2]; rfl)
    · obtain ⟨x, t, h3, h⟩ := bind_ok.1 h
      cases h
      exact Bal.atom.ok _ _ _ h3
  · unfold pTerm at h
    split at h
    · split at h
      · exact tail_pos (badAt_pos h)
      · rcases bind_bad.1 h with e | ⟨x, t, h3, h⟩
        · exact tail_pos (tail_pos (Bal.atom.bad _ _ e))
        refine tail_pos (tail_pos ((Bal.atom.ok _ _ _ h3).pos ?_))
        rcases bind_bad.1 h with e | ⟨y, t2, h4, h⟩
        · exact Bal.atom.bad _ _ e
        refine (Bal.atom.ok _ _ _ h4).pos ?_
        rcases bind_bad.1 h with e | ⟨_, t3, h5, h⟩
        · exact take_pos e
        · cases h
    · rcases bind_bad.1 h with e | ⟨_, _, _, e⟩
      · exact Bal.atom.bad _ _ e
      · cases e
theorem prefHere_bal {t : Tk} (h : ¬ (prefHere t).1 = 0) : t.kind = 4 ∧ balT t = 0 := by
  unfold prefHere at h
  split at h
  · rename_i hk4
    refine ⟨hk4, ?_⟩
    unfold balT isB
    rw [if_neg, if_neg]
    · simp only [Bool.and_eq_true, beq_iff_eq, not_and]
      intro _ e
      rw [e] at h
      exact absurd h (by decide)
    · simp only [Bool.and_eq_true, beq_iff_eq, not_and]
      intro _ e
      rw [e] at h
      exact absurd h (by decide)
  · exact absurd rfl h
theorem Bal.pref : Bal pPref := by
  refine ⟨fun ts a ts' h => ?_, fun ts q h => ?_⟩
  · unfold pPref at h
    split at h
    · cases h; exact Took.refl _
    · rename_i hp
      obtain ⟨k1, k2⟩ := prefHere_bal hp
      have h1 := (took_tail (ts := ts) (by omega)).zero k2
      split at h
      · obtain ⟨x, t, h3, h⟩ := bind_ok.1 h
        cases h
        exact (h1.trans (Bal.atom.ok _ _ _ h3)).zero (by omega)
      · cases h; exact h1
  · unfold pPref at h
    split at h
    · cases h
    · split at h
      · rcases bind_bad.1 h with e | ⟨_, _, _, e⟩
        · exact tail_pos (Bal.atom.bad _ _ e)
        · cases e
      · cases h
theorem Bal.act (id : ByteArray) : Bal (pAct id) :=
  (Bal.take (s := bHat) (by decide) (by decide)).bind fun _ => Bal.atom.bind fun _ => Bal.term.bind fun _ => Bal.pref.bind fun _ => Bal.ret _
theorem Bal.acts : Bal pActs :=
  (Bal.take (s := bOpen) (by decide) (by decide)).bind fun _ => (Bal.text (k := 3) (by omega)).bind fun _ => (Bal.act _).ends (by decide) (by decide)
/-- A production: balanced, with a left brace as its second token. -/
theorem prod_took {ts : List Tk} {p : Pd} {ts' : List Tk} (h : pProd ts = .ok p ts') : ∃ K, ts = K ++ ts' ∧ balL K = 0 ∧ (∀ t ∈ K, 1 ≤ t.kind ∧ t.kind ≤ 4) ∧ ∃ t ∈ K, isB t bLeft = true := by
  unfold pProd at h
  split at h
  · rename_i hs
    obtain ⟨u, t1, h1, h⟩ := bind_ok.1 h
    obtain ⟨x, t2, h2, h⟩ := bind_ok.1 h
    obtain ⟨y, t3, h3, h⟩ := bind_ok.1 h
    obtain ⟨z, t4, h4, h⟩ := bind_ok.1 h
    cases h
    unfold spHere at hs
    simp only [Bool.and_eq_true, decide_eq_true_eq] at hs
    obtain ⟨a1, a2, a3⟩ := take_took h1
    rw [balT_left a1] at a3
    have c2 := (Bal.text (k := 1) (by omega)).ok _ _ _ h2
    have c3 := ((Bal.cond _).ends (stop := bArrow) (by decide) (by decide)).ok _ _ _ h3
    have c4 := ends_right Bal.acts h4
    have c0 := (took_tail (ts := ts) (by omega)).zero (balT_kind (by omega))
    obtain ⟨J, j1, j2, j3⟩ := ((c2.trans c3).trans c4)
    have k0 := head_tail (ts := ts) (by omega)
    have k1 := head_tail (ts := ts.tail) (by have := isB_k a1; omega)
    have k1' : (headT ts.tail).kind = 4 := isB_k a1
    refine ⟨headT ts :: headT ts.tail :: J, ?_, ?_, ?_, headT ts.tail, by simp, a1⟩
    · rw [List.cons_append, List.cons_append, ← j1, a2, ← k1, ← k0]
    · rw [balL, balL, j2, balT_left a1, balT_kind (by omega)]; rfl
    · intro t ht
      simp only [List.mem_cons] at ht
      rcases ht with rfl | rfl | ht
      · omega
      · omega
      · exact j3 t ht
  · exact absurd h bad_not
theorem prod_pos {ts : List Tk} {q : Nat} (h : pProd ts = .bad q) : q = 0 ∨ ∃ t ∈ ts, t.pos = q := by
  unfold pProd at h
  split at h
  · rename_i hs
    refine tail_pos ?_
    rcases bind_bad.1 h with e | ⟨u, t1, h1, h⟩
    · exact take_pos e
    obtain ⟨a1, a2, a3⟩ := take_took h1
    refine a3.pos ?_
    rcases bind_bad.1 h with e | ⟨x, t2, h2, h⟩
    · exact (Bal.text (k := 1) (by omega)).bad _ _ e
    refine ((Bal.text (k := 1) (by omega)).ok _ _ _ h2).pos ?_
    have hc := (Bal.cond (t2.length + 1)).ends (stop := bArrow) (by decide) (by decide)
    rcases bind_bad.1 h with e | ⟨y, t3, h3, h⟩
    · exact hc.bad _ _ e
    refine (hc.ok _ _ _ h3).pos ?_
    rcases bind_bad.1 h with e | ⟨z, t4, h4, h⟩
    · exact ends_right_pos Bal.acts e
    · cases h
  · exact badAt_pos h
end Go.Proofs.Ytgeaccoobhigcaa
namespace Go.Proofs.Ytgeaccoobhigcaa
open Go Go.RowKit

def balC (c : UInt8) : Int := if c = 123 then 1 else if c = 125 then -1 else 0
def balB : Bs → Int
  | [] => 0
  | c :: r => balC c + balB r
theorem balB_app : ∀ a b : Bs, balB (a ++ b) = balB a + balB b
  | [], b => by simp [balB]
  | t :: a, b => by rw [List.cons_append, balB, balB, balB_app a b]; omega
/-- Bytes of no weight. -/
def lightB (c : UInt8) : Bool := decide (c ≠ 123) && decide (c ≠ 125) && decide (c ≠ 35)
theorem balB_light : ∀ {l : Bs}, (∀ c ∈ l, c ≠ 123 ∧ c ≠ 125) → balB l = 0
  | [], _ => rfl
  | c :: r, h => by
    have h1 := h c (by simp)
    rw [balB, balB_light (l := r) fun d hd => h d (by simp [hd])]
    simp [balC, h1.1, h1.2]
theorem part_light {c : UInt8} (h : partB c = true) : c ≠ 123 ∧ c ≠ 125 ∧ c ≠ 35 := by
  refine ⟨?_, ?_, ?_⟩ <;> (rintro rfl; revert h; decide)
theorem digit_light {c : UInt8} (h : digitB c = true) : c ≠ 123 ∧ c ≠ 125 ∧ c ≠ 35 := part_light (by simp [partB, h])
theorem blank_light {c : UInt8} (h : blankB c = true) : c ≠ 123 ∧ c ≠ 125 := by
  refine ⟨?_, ?_⟩ <;> (rintro rfl; revert h; decide)
theorem headN_mem {p : UInt8 → Bool} : ∀ (l : Bs), ∀ c ∈ l.take (headN p l), p c = true
  | [], c, h => by simp at h
  | x :: r, c, h => by
    unfold headN at h
    split at h
    · rw [List.take_succ_cons] at h
      rcases List.mem_cons.1 h with rfl | h
      · assumption
      · exact headN_mem r c h
    · simp at h
theorem firstAt_mem (l : Bs) : ∀ (s : List Bs), firstAt l s = [] ∨ firstAt l s ∈ s
  | [] => .inl rfl
  | x :: r => by
    unfold firstAt
    split
    · exact .inr (by simp)
    · rcases firstAt_mem l r with h | h
      · exact .inl h
      · exact .inr (by simp [h])
theorem signs_bal : ∀ s ∈ signs, balB s = balT ⟨4, s, 0⟩ ∧ (isB ⟨4, s, 0⟩ bLeft = true → 123 ∈ s) := by decide
/-- A token weighs what its bytes weigh. -/
theorem tok_bal (c : UInt8) (r : Bs) (p : Nat) (h : (nextT (c :: r)).kind ≠ 6) : balB (textT ⟨(nextT (c :: r)).kind, (nextT (c :: r)).text, p⟩) = balT ⟨(nextT (c :: r)).kind, (nextT (c :: r)).text, p⟩ ∧
    (isB ⟨(nextT (c :: r)).kind, (nextT (c :: r)).text, p⟩ bLeft = true → 123 ∈ textT ⟨(nextT (c :: r)).kind, (nextT (c :: r)).text, p⟩) := by
  have light : ∀ (k : Nat) (t : Bs), k ≠ 4 → k ≠ 5 → (∀ c ∈ t, c ≠ 123 ∧ c ≠ 125) → balB (textT ⟨k, t, p⟩) = balT ⟨k, t, p⟩ ∧ (isB ⟨k, t, p⟩ bLeft = true → 123 ∈ textT ⟨k, t, p⟩) := by
    intro k t hk hk5 ht
    refine ⟨?_, fun e => absurd (isB_k e) hk⟩
    rw [balT_kind hk]
    unfold textT
    rw [if_neg hk5]
    split
    · refine balB_light fun c hc => ?_
      simp only [List.mem_cons, List.mem_append, List.not_mem_nil, or_false] at hc
      rcases hc with rfl | hc | rfl
      · decide
      · exact ht c hc
      · decide
    · exact balB_light ht
  rw [nextT_cons] at h ⊢
  by_cases h1 : smallB c = true
  · rw [if_pos h1] at h ⊢
    by_cases h2 : 32 < headN partB (c :: r)
    · rw [if_pos h2] at h; exact absurd rfl h
    · rw [if_neg h2]
      exact light 1 _ (by decide) (by decide) fun d hd => ⟨(part_light (headN_mem _ d hd)).1, (part_light (headN_mem _ d hd)).2.1⟩
  · rw [if_neg h1] at h ⊢
    by_cases h2 : (digitB c || (decide (c.toNat = 45) && headDig r)) = true
    · rw [if_pos h2] at h ⊢
      split at h
      · rename_i h3
        rw [if_pos h3]
        refine light 2 _ (by decide) (by decide) fun d hd => ?_
        rw [Nat.add_comm, List.take_succ_cons] at hd
        rcases List.mem_cons.1 hd with rfl | hd
        · simp only [Bool.or_eq_true, Bool.and_eq_true, decide_eq_true_eq] at h2
          rcases h2 with h2 | ⟨h2, _⟩
          · exact ⟨(digit_light h2).1, (digit_light h2).2.1⟩
          · exact ⟨by rintro rfl; revert h2; decide, by rintro rfl; revert h2; decide⟩
        · exact ⟨(digit_light (headN_mem _ d hd)).1, (digit_light (headN_mem _ d hd)).2.1⟩
      · exact absurd rfl h
    · rw [if_neg h2] at h ⊢
      by_cases h3 : (decide (c.toNat = 60) && headSmall r && headIs 62 (r.drop (headN partB r))) = true
      · rw [if_pos h3] at h ⊢
        split at h
        · exact absurd rfl h
        · rename_i h4
          rw [if_neg h4]
          exact light 3 _ (by decide) (by decide) fun d hd => ⟨(part_light (headN_mem _ d hd)).1, (part_light (headN_mem _ d hd)).2.1⟩
      · rw [if_neg h3] at h ⊢
        unfold signNx at h ⊢
        by_cases h4 : signT (c :: r) = []
        · rw [if_pos h4] at h; exact absurd rfl h
        · rw [if_neg h4]
          rcases firstAt_mem (c :: r) signs with h5 | h5
          · exact absurd h5 h4
          · obtain ⟨h6, h7⟩ := signs_bal _ h5
            exact ⟨h6, h7⟩
theorem skip_light : ∀ {l : Bs}, 35 ∉ l → ∀ c ∈ l.take (skipN false l), blankB c = true
  | [], _, c, h => by simp at h
  | x :: r, hn, c, h => by
    have hx : x.toNat ≠ 35 := by
      intro e
      have : x = 35 := by rw [← UInt8.toNat_inj]; exact e
      subst this
      exact hn (by simp)
    unfold skipN at h
    rw [if_neg hx] at h
    split at h
    · rw [List.take_succ_cons] at h
      rcases List.mem_cons.1 h with rfl | h
      · assumption
      · exact skip_light (fun e => hn (by simp [e])) c h
    · simp at h
/-- Tokens weigh what the bytes weigh that they were read of. -/
theorem lexed_bal : ∀ (n : Nat) (l : Bs) (p : Nat) (K R : List Tk), l.length < n → 35 ∉ l → toksP l p = K ++ R → (∀ t ∈ K, 1 ≤ t.kind ∧ t.kind ≤ 4) →
    ∃ m, m ≤ l.length ∧ balB (l.take m) = balL K ∧ ((∃ t ∈ K, isB t bLeft = true) → 123 ∈ l.take m)
  | 0, _, _, _, _, h, _, _, _ => by omega
  | _ + 1, l, p, [], R, _, _, _, _ => ⟨0, by omega, by simp [balB, balL], fun ⟨t, ht, _⟩ => by cases ht⟩
  | n + 1, [], p, t :: K, R, _, _, h, hk => by
    rw [toksP_nil] at h
    injection h with h1 _
    have := hk t (by simp)
    rw [← h1] at this
    simp at this
  | n + 1, c :: r, p, t :: K, R, hn, h35, h, hk => by
    have hlen := nextT_len c r
    have hb := tok_bal c r p
    have htx := (nextT_text c r p).1
    rw [toksP_cons, List.cons_append] at h
    injection h with h1 h2
    have hkt := hk t (by simp)
    have h6 : (nextT (c :: r)).kind ≠ 6 := by rw [← h1] at hkt; intro e; rw [e] at hkt; simp at hkt
    rw [if_neg h6] at h2
    obtain ⟨hb1, hb2⟩ := hb h6
    rw [htx, h1] at hb1 hb2
    generalize (nextT (c :: r)).len = N at hlen h2 hb1 hb2
    have h35d : 35 ∉ (c :: r).drop N := fun e => h35 (List.mem_of_mem_drop e)
    have hsk := skip_light h35d
    have hskl := skipN_le false ((c :: r).drop N)
    obtain ⟨m, hm1, hm2, hm3⟩ := lexed_bal n (past ((c :: r).drop N)) _ K R (by unfold past; rw [List.length_drop, List.length_drop]; omega) (fun e => h35d (List.mem_of_mem_drop e)) h2 (fun x hx => hk x (by simp [hx]))
    unfold past at hm1 hm2 hm3
    generalize skipN false ((c :: r).drop N) = S at hsk hskl hm1 hm2 hm3
    rw [List.length_drop] at hm1 hskl
    rw [List.length_drop] at hm1
    have hsplit : (c :: r).take (N + (S + m)) = (c :: r).take N ++ (((c :: r).drop N).take S ++ (((c :: r).drop N).drop S).take m) := by
      rw [List.take_add, List.take_add (l := List.drop N (c :: r))]
    refine ⟨N + (S + m), by omega, ?_, ?_⟩
    · rw [hsplit, balB_app, balB_app, balB_light (l := ((c :: r).drop N).take S) fun d hd => blank_light (hsk d hd), hm2, hb1, balL]
      omega
    · rintro ⟨u, hu, hub⟩
      rw [hsplit]
      rcases List.mem_cons.1 hu with rfl | hu
      · exact List.mem_append_left _ (hb2 hub)
      · exact List.mem_append_right _ (List.mem_append_right _ (hm3 ⟨u, hu, hub⟩))
/-- Such a text read as a production has a balanced beginning with a left brace. -/
theorem prod_bytes {s : Bs} (h : 35 ∉ s) {p : Pd} {ts' : List Tk} (hp : pProd (toks s) = .ok p ts') : ∃ m, balB (s.take m) = 0 ∧ 123 ∈ s.take m := by
  obtain ⟨K, h1, h2, h3, h4⟩ := prod_took hp
  obtain ⟨m, _, m2, m3⟩ := lexed_bal ((past s).length + 1) (past s) _ K ts' (by omega) (fun e => h (List.mem_of_mem_drop e)) h1 h3
  have hsk := skip_light h
  refine ⟨skipN false s + m, ?_, ?_⟩
  · rw [List.take_add, balB_app, balB_light fun d hd => blank_light (hsk d hd), show s.drop (skipN false s) = past s from rfl, m2, h2]
    rfl
  · rw [List.take_add]
    exact List.mem_append_right _ (m3 h4)

/-- Balanced, and never below; no remark in it. -/
structure Dy (l : Bs) : Prop where
  all : balB l = 0
  take : ∀ m, 0 ≤ balB (l.take m)
  mark : 35 ∉ l
theorem Dy.nil : Dy [] := ⟨rfl, fun m => by simp [balB], by simp⟩
theorem Dy.app {a b : Bs} (h : Dy a) (k : Dy b) : Dy (a ++ b) := by
  refine ⟨by rw [balB_app, h.all, k.all]; rfl, fun m => ?_, fun e => ?_⟩
  · rw [List.take_append]
    rw [balB_app]
    have := k.take (m - a.length)
    have := h.take m
    omega
  · rcases List.mem_append.1 e with e | e
    · exact h.mark e
    · exact k.mark e
theorem Dy.light {l : Bs} (h : ∀ c ∈ l, c ≠ 123 ∧ c ≠ 125 ∧ c ≠ 35) : Dy l :=
  ⟨balB_light fun c hc => ⟨(h c hc).1, (h c hc).2.1⟩, fun m => by rw [balB_light fun c hc => ⟨(h c (List.mem_of_mem_take hc)).1, (h c (List.mem_of_mem_take hc)).2.1⟩]; exact Int.le_refl _, fun e => (h 35 e).2.2 rfl⟩
theorem Dy.lit {l : Bs} (h : l.all lightB = true) : Dy l := .light fun c hc => by
  have := List.all_eq_true.1 h c hc
  unfold lightB at this
  simp only [Bool.and_eq_true, decide_eq_true_eq] at this
  exact ⟨this.1.1, this.1.2, this.2⟩
theorem Dy.wrap {a : Bs} (h : Dy a) : Dy (123 :: (a ++ [125])) := by
  refine ⟨?_, fun m => ?_, fun e => ?_⟩
  · rw [balB, balB_app, h.all]; rfl
  · cases m with
    | zero => simp [balB]
    | succ m =>
      rw [List.take_succ_cons, balB, List.take_append, balB_app]
      have h1 := h.take m
      have h2 : -1 ≤ balB (([125] : Bs).take (m - a.length)) := by
        cases m - a.length with
        | zero => simp [balB]
        | succ k => simp [balB, balC]
      have h3 : balC 123 = 1 := rfl
      omega
  · simp only [List.mem_cons, List.mem_append, List.not_mem_nil, or_false] at e
    rcases e with e | e | e
    · cases e
    · exact h.mark e
    · cases e
theorem Dy.flat {α : Type} {f : α → Bs} : ∀ {l : List α}, (∀ a ∈ l, Dy (f a)) → Dy (l.flatMap f)
  | [], _ => Dy.nil
  | a :: l, h => by rw [List.flatMap_cons]; exact (h a (by simp)).app (Dy.flat fun x hx => h x (by simp [hx]))
theorem Dy.word {l : Bs} (h : wordB l = true) : Dy l := by
  obtain ⟨c, r, rfl, _, hp, _⟩ := wordB_parts h
  exact .light fun d hd => part_light (hp d hd)
theorem Dy.num {n : Int} (h1 : -2147483647 ≤ n) (h2 : n ≤ 2147483647) : Dy (numS n).data.toList := by
  unfold numS
  split
  · rw [data_cat]
    exact (Dy.lit (l := [45]) rfl).app (.light fun d hd => digit_light ((digL_form (n := (-n).toNat) (by omega)).2.2 d hd))
  · exact .light fun d hd => digit_light ((digL_form (n := n.toNat) (by omega)).2.2 d hd)
theorem Dy.sym {s : Sm} (h : constB s = true) : Dy (symS s).data.toList := by
  rw [symS_const h]
  rcases const_cases h with ⟨h1, h2, h3, h4⟩ | ⟨h1, h2, h3⟩
  · rw [if_neg (by omega)]; exact Dy.num h3 h4
  · rw [if_pos h1]; exact Dy.word h3
theorem Dy.atom {a : Am} (h : atomB a = true) : Dy (atomS a).data.toList := by
  unfold atomB at h
  unfold atomS
  split at h
  · rw [if_pos ‹_›]; exact Dy.sym h
  · rw [if_neg ‹_›]
    simp only [Bool.and_eq_true] at h
    rw [data_cat, data_cat]
    exact ((Dy.lit (l := [60]) rfl).app (Dy.word h.1)).app (Dy.lit (l := [62]) rfl)
theorem Dy.test {t : Ts} (h : testB t = true) : Dy (testT t).data.toList := by
  unfold testB at h
  unfold testT
  by_cases h8 : t.rel = 8
  · rw [if_pos h8] at h ⊢
    simp only [Bool.and_eq_true] at h
    rw [data_cat, listS_data _ _ (Nat.le_refl _), List.take_of_length_le (Nat.le_refl _)]
    exact ((Dy.lit (l := [60, 60]) rfl).app (Dy.flat fun s hs => (Dy.lit (l := [32]) rfl).app (Dy.sym (List.all_eq_true.1 h.2 s hs)))).app (Dy.lit (l := [32, 62, 62]) rfl)
  · rw [if_neg h8] at h ⊢
    simp only [Bool.and_eq_true, decide_eq_true_eq] at h
    split
    · exact Dy.atom h.2
    · rw [data_cat, data_cat]
      have : Dy (relL t.rel).toList := by
        rcases (show t.rel = 1 ∨ t.rel = 2 ∨ t.rel = 3 ∨ t.rel = 4 ∨ t.rel = 5 ∨ t.rel = 6 ∨ t.rel = 7 by omega) with e | e | e | e | e | e | e <;> rw [e] <;> exact Dy.lit rfl
      exact (this.app (Dy.lit (l := [32]) rfl)).app (Dy.atom h.2)
theorem Dy.field {l : List Ts} (h : l.all testB = true) : Dy (fieldT l).data.toList := by
  unfold fieldT
  split
  · refine Dy.test (List.all_eq_true.1 h _ ?_)
    rw [getD_at _ (by omega)]
    exact List.getElem_mem _
  · rw [data_cat, bracesT_data _ _ (Nat.le_refl _), List.take_of_length_le (Nat.le_refl _)]
    have := ((Dy.flat (f := fun s => 32 :: (testT s).data.toList) fun s hs => (Dy.lit (l := [32]) rfl).app (Dy.test (List.all_eq_true.1 h s hs))).app (Dy.lit (l := [32]) rfl)).wrap
    simpa using this
mutual
theorem Dy.cond : ∀ (c : Cd) (d : Int), firstE c d = 0 → Dy (condT c).data.toList
  | .mk kind goal id attr value acc conds, d, h => by
    obtain ⟨h1, h2⟩ := firstE_zero h
    rcases condE_zero h1 with ⟨k, _, _, _, _, _, hc, _⟩ | ⟨k, _, i, a1, _, _, ta, tv⟩
    · subst k
      simp only [condT, if_true]
      rw [data_cat, condsT_data]
      have := (Dy.lit (l := [45]) rfl).app (Dy.conds conds (d + 1) true h2).wrap
      simpa using this
    · have h3 : ¬ kind = 3 := by omega
      have e := condT_kind (goal := goal) (id := id) (value := value) (acc := acc) (conds := conds) [] h3 a1
      rw [List.append_nil] at e
      rw [e]
      have e1 : Dy (if kind = 2 then [45, 40] else [40]) := by split <;> exact Dy.lit rfl
      have e2 : Dy (if goal then [115, 116, 97, 116, 101, 32] else []) := by cases goal <;> exact Dy.lit rfl
      have e3 : Dy (if 0 < value.length then 32 :: (fieldT value).data.toList else []) := by
        split
        · exact (Dy.lit (l := [32]) rfl).app (Dy.field tv)
        · exact Dy.nil
      have e4 : Dy (if acc then [32, 43] else []) := by cases acc <;> exact Dy.lit rfl
      exact e1.app (e2.app ((Dy.lit (l := [60]) rfl).app ((Dy.word i).app ((Dy.lit (l := [62, 32, 94]) rfl).app ((Dy.field ta).app (e3.app (e4.app (Dy.lit (l := [41]) rfl))))))))
theorem Dy.conds : ∀ (l : List Cd) (d : Int) (first : Bool), firstEs l d = 0 → Dy (condsL l first)
  | [], d, first, h => by simp only [condsL]; exact Dy.nil
  | c :: r, d, first, h => by
    simp only [condsL]
    have h1 := firstEs_mem h (List.mem_cons_self ..)
    have h2 : firstEs r d = 0 := by
      simp only [firstEs] at h
      rwa [if_pos h1] at h
    have e1 : Dy (if first then [] else [32]) := by cases first <;> exact Dy.lit rfl
    exact (e1.app (Dy.cond c d h1)).app (Dy.conds r d false h2)
end
theorem Dy.term {t : Tm} (h : termB t = true) : Dy (termS t).data.toList := by
  unfold termB at h
  simp only [Bool.and_eq_true, decide_eq_true_eq] at h
  obtain ⟨⟨h1, h2⟩, h3⟩ := h
  have hy : t.op ≠ 0 → Dy (atomS t.b).data.toList := by
    intro h0
    rw [if_neg h0] at h3
    simp only [Bool.and_eq_true] at h3
    exact Dy.atom h3.1.1
  have hb : ∀ c, lightB c = true → t.op ≠ 0 → Dy (binS #[c] (atomS t.a) (atomS t.b)).data.toList := by
    intro c hc h0
    unfold binS
    simp only [data_cat]
    exact ((((((Dy.lit (l := [40]) rfl).app (Dy.lit (l := [c]) (by simp [hc]))).app (Dy.lit (l := [32]) rfl)).app (Dy.atom h2)).app (Dy.lit (l := [32]) rfl)).app (hy h0)).app (Dy.lit (l := [41]) rfl)
  unfold termS
  by_cases k1 : t.op = 1
  · rw [if_pos k1]; exact hb 43 rfl (by omega)
  rw [if_neg k1]
  by_cases k2 : t.op = 2
  · rw [if_pos k2]; exact hb 45 rfl (by omega)
  rw [if_neg k2]
  by_cases k3 : t.op = 3
  · rw [if_pos k3]; exact hb 42 rfl (by omega)
  rw [if_neg k3]
  exact Dy.atom h2
theorem Dy.act {a : Ac} (h : actB a = true) : Dy (actS a).data.toList := by
  obtain ⟨h1, h2, h3, h4, h5⟩ := actB_parts h
  have hs : Dy (signL a.pref).toList := by
    unfold signL
    repeat' split
    all_goals exact Dy.lit rfl
  have hh : Dy (actHead a.id (atomS a.attr) (termS a.value) (signL a.pref)).data.toList := by
    unfold actHead
    simp only [data_cat]
    exact (((((((Dy.lit (l := [40, 60]) rfl).app (Dy.word h1)).app (Dy.lit (l := [62, 32, 94]) rfl)).app (Dy.atom h2)).app (Dy.lit (l := [32]) rfl)).app (Dy.term h3)).app (Dy.lit (l := [32]) rfl)).app hs
  unfold actS
  split
  · rename_i h8
    rw [if_pos h8.1] at h5
    rw [data_cat, data_cat, data_cat]
    exact ((hh.app (Dy.lit (l := [32]) rfl)).app (Dy.atom h5)).app (Dy.lit (l := [41]) rfl)
  · rw [data_cat]
    exact hh.app (Dy.lit (l := [41]) rfl)
theorem prod_dy {p : Pd} (h : shapeE p = 0) : ∃ M, (prodT p).data.toList = [115, 112, 32, 123] ++ (M ++ [125, 10]) ∧ Dy M := by
  obtain ⟨h1, _, _, _, _, h2, h3⟩ := shapeE_parts h
  have e := prodT_data p []
  rw [List.append_nil] at e
  rw [e]
  refine ⟨p.name.data.toList ++ 10 :: (p.conds.flatMap (fun c => 32 :: 32 :: ((condT c).data.toList ++ [10])) ++ (45 :: 45 :: 62 :: 10 :: p.acts.flatMap (fun c => 32 :: 32 :: ((actS c).data.toList ++ [10])))), by simp, ?_⟩
  exact (Dy.word h1).app ((Dy.lit (l := [10]) rfl).app ((Dy.flat fun c hc => (Dy.lit (l := [32, 32]) rfl).app ((Dy.cond c 0 (firstEs_mem h2 hc)).app (Dy.lit (l := [10]) rfl))).app
    ((Dy.lit (l := [45, 45, 62, 10]) rfl).app (Dy.flat fun a ha => (Dy.lit (l := [32, 32]) rfl).app ((Dy.act (List.all_eq_true.1 h3 a ha)).app (Dy.lit (l := [10]) rfl))))))
theorem pos_le (S : Bs) : ∀ (L : List Tk) (at_ : Nat), Places S at_ L → ∀ t ∈ L, t.pos ≤ S.length
  | [], _, h, _, _ => h.elim
  | u :: r, at_, h, t, ht => by
    obtain ⟨_, h2, _, _, _, h6⟩ := h
    rcases List.mem_cons.1 ht with rfl | ht
    · omega
    · exact pos_le S r _ (h6 (by rintro rfl; cases ht)) t ht
/-- The cut text. -/
theorem prod_cut {p : Pd} (h : shapeE p = 0) (k : Nat) (hk : k + 3 ≤ (prodT p).data.toList.length) : ∃ q, pProd (toks ((prodT p).data.toList.take k)) = .bad q ∧ q ≤ ((prodT p).data.toList.take k).length := by
  obtain ⟨M, e, hM⟩ := prod_dy h
  rw [e] at hk ⊢
  have hs : ([115, 112, 32, 123] ++ (M ++ [125, 10])).take k = ([115, 112, 32, 123] ++ M).take k := by
    rw [← List.append_assoc, List.take_append_of_le_length]
    simp only [List.length_append, List.length_cons, List.length_nil] at hk ⊢
    omega
  rw [hs]
  cases hp : pProd (toks (([115, 112, 32, 123] ++ M).take k)) with
  | bad q =>
    refine ⟨q, rfl, ?_⟩
    rcases prod_pos hp with h0 | ⟨t, ht, h0⟩
    · omega
    · rw [← h0]
      exact pos_le _ _ _ (places_toks _) t ht
  | ok p' ts' =>
    exfalso
    have h35 : 35 ∉ ([115, 112, 32, 123] ++ M).take k := by
      intro e
      have := List.mem_of_mem_take e
      rcases List.mem_append.1 this with h | h
      · revert h; decide
      · exact hM.mark h
    obtain ⟨m, m1, m2⟩ := prod_bytes h35 hp
    rw [List.take_take] at m1 m2
    generalize min m k = j at m1 m2
    have hj : 4 ≤ j := by
      rcases Nat.lt_or_ge j 4 with hj | hj
      · exfalso
        rw [List.take_append_of_le_length (by simp; omega)] at m2
        rcases (show j = 0 ∨ j = 1 ∨ j = 2 ∨ j = 3 by omega) with rfl | rfl | rfl | rfl <;> revert m2 <;> decide
      · exact hj
    rw [List.take_append, List.take_of_length_le (by simpa using hj), balB_app] at m1
    have := hM.take (j - [115, 112, 32, 123].length)
    have h4 : balB [115, 112, 32, 123] = 1 := by decide
    omega
end Go.Proofs.Ytgeaccoobhigcaa
