/-
  lex.Tokens, lex.All, and the collectors over an iterator of tokens.
-/
import Derived.Test.YtgeaccoobhigcaaIt
import Derived.Maps.AppendAt
namespace Go.Proofs.Ytgeaccoobhigcaa
open Go Go.RowKit
attribute [local go_sem] Oper.semAt_some

theorem below_putObj {W : World} {l n₀ : Nat} (o : Obj) (h : n₀ ≤ l) : Below n₀ W (W.putObj l o) :=
  ⟨rfl, rfl, rfl, by simp, fun k hk => World.putObj_heap_other (by omega)⟩
theorem below_of_grown {A B : World} {n₀ : Nat} (hg : A.grownBy B none) (h : n₀ ≤ A.heap.size) : Below n₀ A B := ⟨hg.os, hg.tape, hg.output, hg.size, fun k hk => hg.block k (by omega) (by simp)⟩
theorem take_snoc' {α : Type} {l : List α} {k : Nat} {x : α} (h : l[k]? = some x) : l.take (k + 1) = l.take k ++ [x] := by
  rw [List.take_add_one, h]; rfl

/-- A token's cells. -/
def Tk.cells (t : Tk) : List Value := [.int .i64 t.kind, strV t.text, .int .i64 t.pos]
def cellsT (l : List Tk) : List Value := l.flatMap Tk.cells
theorem cellsT_snoc (l : List Tk) (x : Tk) : cellsT (l ++ [x]) = cellsT l ++ x.cells := by simp [cellsT]
theorem Try.info30 : (Try.prog.info? 30).map (fun i => (i.zero, i.size, i.bytes)) = some (some (.agg #[.int .i64 0, .string ⟨#[]⟩, .int .i64 0]), 3, 32) := by kernel_rfl

theorem toksF_length : ∀ (f : Nat) (l : Bs) (p : Nat), (toksF f l p).length ≤ f
  | 0, _, _ => by simp [toksF]
  | f + 1, [], p => by rw [toksF_nil]; simp
  | f + 1, c :: r, p => by
    rw [toksF_cons]
    split
    · simp
    · have := toksF_length f (past ((c :: r).drop (nextT (c :: r)).len)) (p + (nextT (c :: r)).len + skipN false ((c :: r).drop (nextT (c :: r)).len))
      simp only [List.length_cons]; omega
theorem toks_length (l : Bs) : (toks l).length ≤ l.length + 1 := by
  have := toksF_length ((past l).length + 1) (past l) (skipN false l)
  have := past_len l
  unfold toks toksP
  omega

theorem own_lt {W : World} {base : Nat} {e : TypeId} {size n : Nat} {v : Value} {xs : List Value} (h : W.ownsRow base e size v n xs) {g : Nat} (hg : v.ownBlock = some g) : base ≤ g ∧ g < W.heap.size := by
  rcases h.2 with ⟨rfl, _⟩ | ⟨g', cap, cur, rfl, hb, hh, _⟩
  · simp [Value.ownBlock] at hg
  · have : g' = g := by simpa [Value.ownBlock] using hg
    subst this
    exact ⟨hb, lt_of_block hh⟩

/-- What a loop that collects tokens keeps. -/
structure Coll (w : World) (nb Bt : Nat) (s : ByteArray) (l D B0 : Nat) (rec : Loop) (vals : List Tk) (k : Nat) (p : Option (Nat × Obj)) (A : World) : Prop where
  need : Boxed A Bt 9 (.string s)
  bel : Below w.heap.size w A
  loop : A.heap[l]? = some (.loop rec)
  dfr : A.heap[D]? = some (.deferred (some []))
  nl : nb ≤ A.heap.size
  sd : w.heap.size ≤ B0 ∧ B0 < nb ∧ Bt < nb ∧ Bt ≠ B0 ∧ nb ≤ D ∧ D < l
  box : ∃ v, Boxed A B0 26 v ∧ A.ownsRow nb 30 3 v k (cellsT (vals.take k)) ∧ ∀ g o, p = some (g, o) → v.ownBlock ≠ some g
  shut : Shut p A
  off : ∀ g o, p = some (g, o) → g ≠ l ∧ g ≠ D ∧ g ≠ B0

section
variable {w : World} {nb Bt : Nat} {s : ByteArray} {l D B0 : Nat} {rec rec' : Loop} {vals : List Tk} {k : Nat} {p : Option (Nat × Obj)} {A B : World}
theorem Coll.more (h : Coll w nb Bt s l D B0 rec vals k p A) (hg : A.grownBy B none) : Coll w nb Bt s l D B0 rec vals k p B := by
  obtain ⟨v, hv, ho, hp⟩ := h.box
  have hb : Below w.heap.size A B := below_of_grown hg h.bel.size
  refine ⟨h.need.kept hg (by simp), h.bel.trans hb, (hg.block l (lt_of_block h.loop) (by simp)).trans h.loop, (hg.block D (lt_of_block h.dfr) (by simp)).trans h.dfr,
    Nat.le_trans h.nl hg.size, h.sd, ⟨v, hv.kept hg (by simp), ho.kept hg ?_, hp⟩, fun g o e => (hg.block g (lt_of_block (h.shut g o e)) (by simp)).trans (h.shut g o e), h.off⟩
  cases v.ownBlock <;> simp

theorem Coll.shutNew (h : Coll w nb Bt s l D B0 rec vals k none A) (hg : A.grownBy B none) (p : Option (Nat × Obj)) (hp : ∀ g o, p = some (g, o) → A.heap.size ≤ g ∧ B.heap[g]? = some o) :
    Coll w nb Bt s l D B0 rec vals k p B := by
  obtain ⟨h1, h2, h3, h4, h5, h6, ⟨v, hv, ho, _⟩, _, _⟩ := h.more hg
  obtain ⟨v', hv', ho', _⟩ := h.box
  have evv : v' = v := by
    have e1 := (hg.block B0 hv'.lt (by simp)).trans hv'
    have e2 := e1.symm.trans hv
    injection e2 with e2
    injection e2 with e2 _
    simpa using e2
  subst evv
  refine ⟨h1, h2, h3, h4, h5, h6, ⟨v', hv, ho, fun g o e e2 => ?_⟩, fun g o e => (hp g o e).2, fun g o e => ?_⟩
  · have := (own_lt ho' e2).2
    have := (hp g o e).1
    omega
  · have := (hp g o e).1
    have := lt_of_block h.loop
    have := lt_of_block h.dfr
    have := hv'.lt
    omega

theorem Coll.turn (h : Coll w nb Bt s l D B0 rec vals k p A) : Coll w nb Bt s l D B0 rec' vals k p (A.putObj l (.loop rec')) := by
  obtain ⟨v, hv, ho, hp⟩ := h.box
  have sd := h.sd
  have hb : Below w.heap.size A (A.putObj l (.loop rec')) := below_putObj _ (by omega)
  refine ⟨h.need.kept (grownBy_putObj' _ _ _) (fun e => by cases e; omega), h.bel.trans hb, World.putObj_heap_same (lt_of_block h.loop), (World.putObj_heap_other (by omega)).trans h.dfr,
    by simpa using h.nl, h.sd, ⟨v, hv.kept (grownBy_putObj' _ _ _) (fun e => by cases e; omega), ownsRow_putObj ho _ h.loop rfl, hp⟩, fun g o e => (World.putObj_heap_other (h.off g o e).1).trans (h.shut g o e), h.off⟩

/-- What an append onto the row in the box leaves as it was. -/
theorem app_same {tmp : Obj} {w1 : World} {v v' : Value} (hgrow : (A.alloc tmp).grownBy w1 v.ownBlock) {g : Nat} (hg : g < A.heap.size) (h0 : g ≠ B0) (hv : v.ownBlock ≠ some g) :
    (w1.setCell ⟨B0, 0, none⟩ v').heap[g]? = A.heap[g]? :=
  (Below.heap_setCell _ _ _ _ h0).trans ((hgrow.block g (by simp; omega) (fun e => hv e.symm)).trans (Below.heap_alloc A tmp g hg))

/-- One more token behind what has come. -/
theorem Coll.step {tmp : Obj} {w1 : World} {v v' : Value} {x : Tk} {m : Nat} (h : Coll w nb Bt s l D B0 rec vals k p A) (hx : vals[k]? = some x) (hv : Boxed A B0 26 v) (ho : A.ownsRow nb 30 3 v k (cellsT (vals.take k)))
    (hp : ∀ g o, p = some (g, o) → v.ownBlock ≠ some g) (hm : m = k + 1)
    (hown' : w1.ownsRow nb 30 3 v' m (cellsT (vals.take k) ++ x.cells)) (hgrow : (A.alloc tmp).grownBy w1 v.ownBlock) :
    Coll w nb Bt s l D B0 rec vals (k + 1) none (w1.setCell ⟨B0, 0, none⟩ v') ∧ Shut p (w1.setCell ⟨B0, 0, none⟩ v') ∧ ∀ g, g < nb → g ≠ B0 → (w1.setCell ⟨B0, 0, none⟩ v').heap[g]? = A.heap[g]? := by
  have sd := h.sd
  subst hm
  have hv1 : Boxed w1 B0 26 v := (hv.alloc tmp).kept hgrow (hv.not_row (by decide) ho)
  have hlow : ∀ g, g < nb → v.ownBlock ≠ some g := fun g hg e => by have := (own_lt ho e).1; omega
  have hcells : ∀ g o, A.heap[g]? = some o → o.isCells = false → v.ownBlock ≠ some g := by
    intro g o hg hc e
    rcases ho.2 with ⟨rfl, _⟩ | ⟨g', cap, cur, rfl, _, hh, _⟩
    · simp [Value.ownBlock] at e
    · have : g' = g := by simpa [Value.ownBlock] using e
      subst this
      rw [hh] at hg
      cases hg
      cases hc
  have hsame : ∀ g, g < A.heap.size → g ≠ B0 → v.ownBlock ≠ some g → (w1.setCell ⟨B0, 0, none⟩ v').heap[g]? = A.heap[g]? := fun g h1 h2 h3 => app_same hgrow h1 h2 h3
  have hnl := h.nl
  have hsz : A.heap.size ≤ (w1.setCell ⟨B0, 0, none⟩ v').heap.size := by
    have := hgrow.size
    simp only [World.size_alloc] at this
    simp [World.setCell]
    omega
  refine ⟨⟨(hsame Bt (by omega) (by omega) (hlow Bt sd.2.2.1)).trans h.need, ?_, (hsame l (lt_of_block h.loop) (by omega) (hcells l _ h.loop rfl)).trans h.loop, (hsame D (lt_of_block h.dfr) (by omega) (hcells D _ h.dfr rfl)).trans h.dfr,
    Nat.le_trans h.nl hsz, h.sd, ⟨v', hv1.set v', ?_, fun g o e => by cases e⟩, fun g o e => (by cases e), fun g o e => (by cases e)⟩, fun g o e => ?_, fun g h1 h2 => hsame g (by omega) h2 (hlow g h1)⟩
  · refine h.bel.trans ⟨?_, ?_, ?_, hsz, fun g hg => hsame g (by have := h.bel.size; omega) (by omega) (hlow g (by omega))⟩
    · exact hgrow.os
    · exact hgrow.tape
    · exact hgrow.output
  · rw [take_snoc' hx, cellsT_snoc]
    exact hown'.kept (grownBy_setCell' w1 B0 v') (.inr (hv1.not_row (by decide) hown').symm)
  · have hg := h.shut g o e
    exact (hsame g (lt_of_block hg) (h.off g o e).2.2 (hp g o e)).trans hg
end

theorem run_eql_func_nil32 (gf : Nat) (lb : Array Value) (W : World) : (binOp .eql 32 (.func (.func gf) #[] lb) .nilFunc).run Try.prog W = .ok (.bool false) W := by kernel_rfl

/-- A row that the call owns reads as a slice. -/
theorem SlR.of_owns {w : World} {base : Nat} {e : TypeId} {size : Nat} {v : Value} {n : Nat} {cs : List Value} (h : w.ownsRow base e size v n cs) :
    ∃ go c, v = .slice go n c ∧ SlR w size go n c cs ∧ ∀ a, go = some a → base ≤ a.block := by
  rcases h.2 with ⟨rfl, rfl⟩ | ⟨g, cap, cur, rfl, hb, hg, hn, hc, hsz, htake⟩
  · have : cs = [] := List.eq_nil_of_length_eq_zero (by rw [h.1]; simp)
    subst this
    exact ⟨none, 0, rfl, SlR.nil w size, by simp⟩
  · refine ⟨some ⟨g, 0, none⟩, cap, rfl, ⟨h.1, hn, hc, by simp, ?_⟩, by intro a ha; cases ha; exact hb⟩
    intro a ha
    cases ha
    refine CellsAt.of_block hg 0 _ ?_
    intro j u hj
    rw [← htake, List.getElem?_take] at hj
    split at hj
    · rw [Nat.zero_add]; simpa using hj
    · cases hj
end Go.Proofs.Ytgeaccoobhigcaa
