/-
  The state of the law RowPlays: the queue, the law's own list, and what each call makes of them.
-/
import Derived.Test.YtkogdiglpncolaaRs
namespace Go.Proofs.Ytkogdiglpncolaa
open Go Go.RowKit

theorem new_err_int (room : Int) (w : World) (h : room < 1 ∨ 65536 < room) :
    Calls Try.prog 24 #[.int .i64 room] w fun e w' => e = .returned (.tuple #[.pointer none, .int .i64 1]) ∧ w = w' := by
  rcases h with h | h
  · go_enter Try.func24, Try.ntmps24
    go_wp2
    go_ret2
    exact ⟨rfl, rfl⟩
  · have h' : ¬ room < 1 := by omega
    go_enter Try.func24, Try.ntmps24
    go_wp2
    go_ret2
    exact ⟨rfl, rfl⟩

/-- The queue at block b holds q; the law's own list holds r. -/
structure PlSt (w : World) (b : Nat) (room : Int) (q r : List Int) (ra : Option Addr) (rcap : Nat) (A : World) : Prop where
  bel : Below w.heap.size w A
  hb : w.heap.size ≤ b
  rs : RS A w.heap.size ra r.length rcap r
  rb : ∀ a, ra = some a → 0 < rcap → a.block ≠ b
  qlen : (q.length : Int) ≤ room
  que : ∃ g c, A.heap[b]? = some (.cells #[.int .i64 room, .slice g q.length c] 62 (0, 0)) ∧ IntSl A g q.length c q ∧ OffB b g q.length ∧ InB (fun i => ∀ a, ra = some a → 0 < rcap → i ≠ a.block) g q.length

section
variable {w : World} {b : Nat} {room : Int} {q r : List Int} {ra : Option Addr} {rcap : Nat} {A B : World}

theorem PlSt.grown (h : PlSt w b room q r ra rcap A) (hg : A.grownBy B none) : PlSt w b room q r ra rcap B := by
  obtain ⟨g, c, h1, h2, h3, h4⟩ := h.que
  exact ⟨h.bel.trans (below_of_grown hg h.bel.size), h.hb, h.rs.kept hg (by simp), h.rb, h.qlen, g, c, (hg.block b (lt_of_block h1) (by simp)).trans h1, SlR.grown h2 hg (by simp), h3, h4⟩

theorem PlSt.push_yes (h : PlSt w b room q r ra rcap A) (h0 : 0 ≤ room) (h1 : room ≤ 65536) (la : Option Addr) (ln lc : Nat) (ys : List Int) (hy : IntSl A la ln lc ys) (hfit : (ln : Int) ≤ room - q.length) :
    Calls Try.prog 22 #[.pointer (some ⟨b, 0, none⟩), .slice la ln lc] A fun e B => e = .returned (.bool true) ∧ PlSt w b room (q ++ ys) r ra rcap B := by
  obtain ⟨g, c, hb1, hs1, ho1, hi1⟩ := h.que
  have hyl := hy.1
  rw [List.length_map, Nat.mul_one] at hyl
  refine (push_yes_int b room q.length c ln lc g la A (q.map (Value.int .i64)) (ys.map (Value.int .i64)) hb1 h0 h1 hs1 ho1 hy hfit).mono ?_
  rintro e B ⟨he, go, c', hb2, hs2, hin, hg⟩
  have hl : q.length + ln = (q ++ ys).length := by rw [List.length_append, hyl]
  rw [hl] at hb2 hs2 hin
  rw [← List.map_append] at hs2
  have hbl := lt_of_block hb1
  refine ⟨he, h.bel.trans (below_of_row hg h.bel.size h.hb), h.hb, h.rs.kept hg (fun i e a ha hp => by cases e; exact h.rb a ha hp), h.rb, by rw [← hl]; omega, go, c', hb2, hs2, hin (fun k => k ≠ b) ho1 (Nat.ne_of_gt hbl), hin _ hi1 (fun a ha hp => ?_)⟩
  have := (h.rs.2 a ha hp).2.2.1
  omega

theorem PlSt.push_no (h : PlSt w b room q r ra rcap A) (h0 : 0 ≤ room) (h1 : room ≤ 65536) (la : Option Addr) (ln lc : Nat) (hln : ln ≤ 1000) (hfit : room - q.length < (ln : Int)) :
    Calls Try.prog 22 #[.pointer (some ⟨b, 0, none⟩), .slice la ln lc] A fun e B => e = .returned (.bool false) ∧ PlSt w b room q r ra rcap B := by
  obtain ⟨g, c, hb1, hs1, ho1, hi1⟩ := h.que
  have := h.qlen
  refine (push_no_int b room q.length c ln lc g la A hb1 h0 h1 (by omega) (by unfold maxLen; omega) hfit).mono ?_
  rintro e B ⟨he, hg⟩
  exact ⟨he, h.grown hg⟩

theorem PlSt.pop_none (h : PlSt w b room [] r ra rcap A) :
    Calls Try.prog 21 #[.pointer (some ⟨b, 0, none⟩)] A fun e B => e = .returned (.tuple #[.int .i64 0, .bool false]) ∧ PlSt w b room [] r ra rcap B := by
  obtain ⟨g, c, hb1, hs1, ho1, hi1⟩ := h.que
  refine (pop_none_int b room c g A hb1).mono ?_
  rintro e B ⟨he, rfl⟩
  exact ⟨he, h⟩

theorem PlSt.pop_some {x : Int} (h : PlSt w b room (x :: q) r ra rcap A) (h1 : room ≤ 65536) :
    Calls Try.prog 21 #[.pointer (some ⟨b, 0, none⟩)] A fun e B => e = .returned (.tuple #[.int .i64 x, .bool true]) ∧ PlSt w b room q r ra rcap B := by
  obtain ⟨g, c, hb1, hs1, ho1, hi1⟩ := h.que
  have hql := h.qlen
  simp only [List.length_cons] at hb1 hs1 ho1 hi1 hql
  refine (pop_some_int b room q.length c g A x (q.map (Value.int .i64)) hb1 hs1 ho1 (by omega)).mono ?_
  rintro e B ⟨he, go, c', hb2, hs2, hin, hg⟩
  exact ⟨he, h.bel.trans (below_of_row hg h.bel.size h.hb), h.hb, h.rs.kept hg (fun i e a ha hp => by cases e; exact h.rb a ha hp), h.rb, by omega, go, c', hb2, hs2, hin (fun k => k ≠ b) ho1, hin _ hi1⟩

theorem PlSt.at_out (h : PlSt w b room q r ra rcap A) (i : Int) (hi : i < 0 ∨ (q.length : Int) ≤ i) :
    Calls Try.prog 25 #[.pointer (some ⟨b, 0, none⟩), .int .i64 i] A fun e B => e = .returned (.tuple #[.int .i64 0, .bool false]) ∧ A = B := by
  obtain ⟨g, c, hb1, hs1, ho1, hi1⟩ := h.que
  exact at_out_int b room i q.length c g A hb1 hi

theorem PlSt.at_in (h : PlSt w b room q r ra rcap A) (k : Nat) (x : Int) (hk : q[k]? = some x) :
    Calls Try.prog 25 #[.pointer (some ⟨b, 0, none⟩), .int .i64 k] A fun e B => e = .returned (.tuple #[.int .i64 x, .bool true]) ∧ A = B := by
  obtain ⟨g, c, hb1, hs1, ho1, hi1⟩ := h.que
  exact at_in_int b room k q.length c g A x _ hb1 hs1 (by rw [List.getElem?_map, hk]; rfl)

theorem PlSt.len_ (h : PlSt w b room q r ra rcap A) :
    Calls Try.prog 23 #[.pointer (some ⟨b, 0, none⟩)] A fun e B => e = .returned (.int .i64 (q.length : Int)) ∧ A = B := by
  obtain ⟨g, c, hb1, hs1, ho1, hi1⟩ := h.que
  exact len_int b room q.length c g A hb1

theorem PlSt.appended (h : PlSt w b room q r ra rcap A) {r2 : List Int} {ra' : Option Addr} {rcap' : Nat} {row : Option Nat} (hr : RS B w.heap.size ra' r2.length rcap' r2) (hg : A.grownBy B row)
    (hrow : ∀ i, row = some i → ∃ a, ra = some a ∧ 0 < rcap ∧ a.block = i) (hat : ∀ a', ra' = some a' → 0 < rcap' → (∃ a, ra = some a ∧ 0 < rcap ∧ a'.block = a.block) ∨ A.heap.size ≤ a'.block) : PlSt w b room q r2 ra' rcap' B := by
  obtain ⟨g, c, h1, h2, h3, h4⟩ := h.que
  have hbl := lt_of_block h1
  have hsz := h.bel.size
  have hnr : ∀ i, i < w.heap.size → some i ≠ row := fun i hi e => by
    obtain ⟨a, ha, hp, hb⟩ := hrow i e.symm
    have := (h.rs.2 a ha hp).2.1
    omega
  refine ⟨h.bel.trans ⟨hg.os, hg.tape, hg.output, hg.size, fun i hi => hg.block i (by omega) (hnr i hi)⟩, h.hb, hr, fun a ha hp => ?_, h.qlen, g, c, (hg.block b hbl (fun e => ?_)).trans h1, SlR.grown h2 hg (fun i e a ha hn => ?_), h3, fun a ha hn a' ha' hp' => ?_⟩
  · rcases hat a ha hp with ⟨a0, e0, p0, b0⟩ | hge
    · rw [b0]; exact h.rb a0 e0 p0
    · omega
  · obtain ⟨a, ha, hp, hb⟩ := hrow b e.symm
    exact h.rb a ha hp hb
  · obtain ⟨a', ha', hp', hb'⟩ := hrow i e
    rw [← hb']
    exact h4 a ha hn a' ha' hp'
  · rcases hat a' ha' hp' with ⟨a0, e0, p0, b0⟩ | hge
    · rw [b0]; exact h4 a ha hn a0 e0 p0
    · have := SlR.inB h2 (by omega) a ha hn
      omega

theorem PlSt.cut {x : Int} (h : PlSt w b room q (x :: r) ra rcap A) : ∃ go, sliced ra 1 (r.length + 1) rcap 1 = .slice go r.length (rcap - 1) ∧ PlSt w b room q r go (rcap - 1) A := by
  obtain ⟨go, e, hb, hrs⟩ := RS.cut h.rs
  obtain ⟨g, c, h1, h2, h3, h4⟩ := h.que
  refine ⟨go, e, h.bel, h.hb, hrs A h.rs, fun a ha hp => ?_, h.qlen, g, c, h1, h2, h3, fun a ha hn a' ha' hp' => ?_⟩
  · obtain ⟨a0, e0, p0, b0⟩ := hb a ha hp
    rw [b0]; exact h.rb a0 e0 p0
  · obtain ⟨a0, e0, p0, b0⟩ := hb a' ha' hp'
    rw [b0]; exact h4 a ha hn a0 e0 p0
end

/-- A call of the law, as it came in. -/
structure ActR where
  d : Int
  n : Int
  la : Option Addr
  ln : Nat
  lc : Nat
  xs : List Int
def ActR.cells (a : ActR) : List Value := [.int .i64 a.d, .int .i64 a.n, .slice a.la a.ln a.lc]
def Acts (w : World) (ao : Option Addr) (len cap : Nat) (l : List ActR) : Prop := SlR w 3 ao len cap (l.flatMap ActR.cells) ∧ ∀ a ∈ l, IntSl w a.la a.ln a.lc a.xs
theorem acts_length (l : List ActR) : (l.flatMap ActR.cells).length = l.length * 3 := by
  induction l with
  | nil => rfl
  | cons x r ih => simp only [List.flatMap_cons, List.length_append, List.length_cons, ih]; simp [ActR.cells]; omega
theorem acts_at {l : List ActR} {k : Nat} {t : ActR} (h : l[k]? = some t) : (l.flatMap ActR.cells)[k * 3]? = some (.int .i64 t.d) ∧ (l.flatMap ActR.cells)[k * 3 + 1]? = some (.int .i64 t.n) ∧ (l.flatMap ActR.cells)[k * 3 + 2]? = some (.slice t.la t.ln t.lc) := by
  have hk : k < l.length := (List.getElem?_eq_some_iff.1 h).1
  have e : l.flatMap ActR.cells = (l.take k).flatMap ActR.cells ++ (t.cells ++ (l.drop (k + 1)).flatMap ActR.cells) := by
    have h1 : l = l.take k ++ t :: l.drop (k + 1) := by
      obtain ⟨h3, h4⟩ := List.getElem?_eq_some_iff.1 h
      rw [← h4, ← List.drop_eq_getElem_cons h3, List.take_append_drop]
    conv => lhs; rw [h1]
    simp
  have hl : ((l.take k).flatMap ActR.cells).length = k * 3 := by rw [acts_length, List.length_take, Nat.min_eq_left (by omega)]
  rw [e]
  refine ⟨?_, ?_, ?_⟩
  · rw [List.getElem?_append_right (by omega), hl, Nat.sub_self]; rfl
  · rw [List.getElem?_append_right (by omega), hl, show k * 3 + 1 - k * 3 = 1 by omega]; rfl
  · rw [List.getElem?_append_right (by omega), hl, show k * 3 + 2 - k * 3 = 2 by omega]; rfl
theorem Acts.at {w : World} {ao : Option Addr} {len cap : Nat} {l : List ActR} {k : Nat} {t : ActR} (h : Acts w ao len cap l) (hk : l[k]? = some t) :
    ∃ g o, ao = some ⟨g, o, none⟩ ∧ w.cell? ⟨g, o + k * 3, none⟩ = some (.int .i64 t.d) ∧ w.cell? ⟨g, o + k * 3 + 1, none⟩ = some (.int .i64 t.n) ∧ w.cell? ⟨g, o + k * 3 + 2, none⟩ = some (.slice t.la t.ln t.lc) ∧ IntSl w t.la t.ln t.lc t.xs := by
  obtain ⟨h0, h1, h2⟩ := acts_at hk
  have hkl : k < l.length := (List.getElem?_eq_some_iff.1 hk).1
  have hl := h.1.1
  rw [acts_length] at hl
  cases ao with
  | none => have := h.1.2.2.2.1 rfl; have := h.1.2.1; omega
  | some a =>
    have ha := h.1.2.2.2.2 a rfl
    have c0 := ha _ _ h0
    have hs : a.spot = none := by
      have hl0 : 0 < (l.flatMap ActR.cells).length := by rw [acts_length]; omega
      have h00 := ha 0 _ (List.getElem?_eq_getElem hl0)
      rw [addr_add_zero] at h00
      exact World.cell?_spot h00
    obtain ⟨g, o, sp⟩ := a
    simp only at hs
    subst hs
    have c1 := ha _ _ h1
    have c2 := ha _ _ h2
    rw [addr_add_lit] at c0 c1 c2
    exact ⟨g, o, rfl, c0, by rw [Nat.add_assoc]; exact c1, by rw [Nat.add_assoc]; exact c2, h.2 t (List.mem_of_getElem? hk)⟩
theorem SlR.kept' {w w' : World} {size : Nat} {ao : Option Addr} {n c : Nat} {cs : List Value} (h : SlR w size ao n c cs) (hb : Below w.heap.size w w') : SlR w' size ao n c cs := by
  refine ⟨h.1, h.2.1, h.2.2.1, h.2.2.2.1, fun a ha j u hj => ?_⟩
  have hc := h.2.2.2.2 a ha j u hj
  exact (hb.cell (World.block_lt_of_cell? w _ hc)).trans hc
theorem Acts.kept {w w' : World} {ao : Option Addr} {len cap : Nat} {l : List ActR} (h : Acts w ao len cap l) (hb : Below w.heap.size w w') : Acts w' ao len cap l :=
  ⟨SlR.kept' h.1 hb, fun a ha => SlR.kept' (h.2 a ha) hb⟩
end Go.Proofs.Ytkogdiglpncolaa
