/-
  A range over a function, in two pieces: the statement, and one round.
-/
import Derived.Test.YtgeaccoobhigcaaLib
import Derived.RangeFuncNested
import Derived.RangeFuncBound
import Derived.RangeFuncCalls
import Derived.RangeFuncLeaves
import Derived.OwnWalkIn
import Derived.TacticsInMore
import Derived.LoopNIn
import Derived.LoopIn
namespace Go.Proofs.Ytgeaccoobhigcaa
open Go Go.RowKit

/-- The record of a loop over a function. -/
def rfRec (fn : FuncId) (tmps : Array Value) (ps : Array Tmp) (assign body : Code) (D : Nat) (st : LoopState) (pe : Option Code) : Loop :=
  { state := st, pending := pe, fn, tmps, params := ps, assign, body, defers := D }

/-- THE STATEMENT: the record is laid; the iterator is called; behind it the pending jump. -/
theorem rf_stmt {n : Nat} {P : Program} {g : Operand} {ps : Array Tmp} {assign body : Code} {Q : Exit → Act → World → Prop} {a : Act} {w : World} {gf : Nat} {lb : Array Value}
    (hg : a.eval g = .func (.func gf) #[] lb) (eg : ∀ args w, (callFunc gf args).run P w = .ok (.enter gf args) w)
    (H : ∀ fn W1, Below w.heap.size w W1 → W1.heap.size = w.heap.size + 2 → W1.heap[w.heap.size]? = some (.deferred (some [])) → W1.heap[w.heap.size + 1]? = some (.loop (rfRec fn a.tmps ps assign body w.heap.size .ready none)) →
      CallsIn Fence.wide (n - 1) P gf (#[.func (.yield (w.heap.size + 1)) #[] #[]] ++ lb) W1 fun e W2 => (∃ v, e = .returned v) ∧ ∃ st pe, st ≠ .busy ∧ W2.heap[w.heap.size + 1]? = some (.loop (rfRec fn a.tmps ps assign body w.heap.size st pe)) ∧
        (∀ re, match pe with
         | none => Q .normal { a with defers := { target := .collected w.heap.size, args := #[] } :: a.defers } (W2.putObj (w.heap.size + 1) (.loop re))
         | some c => c.wpIn Fence.wide n P Q { a with defers := { target := .collected w.heap.size, args := #[] } :: a.defers } (W2.putObj (w.heap.size + 1) (.loop re)))) :
    (Code.rangeFunc g ps assign body).wpIn Fence.wide n P Q a w := by
  refine wpIn_rangeFunc ?_
  intro fn _
  obtain ⟨W1, hW1⟩ : ∃ W1, (w.alloc (.deferred (some []))).alloc (.loop (rfRec fn a.tmps ps assign body w.heap.size .ready none)) = W1 := ⟨_, rfl⟩
  have hL1 : W1.heap[w.heap.size + 1]? = some (.loop (rfRec fn a.tmps ps assign body w.heap.size .ready none)) := by
    rw [← hW1]; have := World.alloc_heap_new (w.alloc (.deferred (some []))) (.loop (rfRec fn a.tmps ps assign body w.heap.size .ready none)); rwa [World.size_alloc] at this
  have hK1 : W1.heap[w.heap.size]? = some (.deferred (some [])) := by
    rw [← hW1]; exact (Below.heap_alloc _ _ _ (by simp)).trans (World.alloc_heap_new w _)
  have hb1 : Below w.heap.size w W1 := by
    rw [← hW1]; exact ((Below.refl _ w).alloc (Nat.le_refl _) _).alloc (by simp) _
  have hs1 : W1.heap.size = w.heap.size + 2 := by rw [← hW1]; simp
  refine ⟨w.heap.size + 1, [{ target := .collected w.heap.size, args := #[] }], W1, { target := .fn (.func gf) lb, args := #[.func (.yield (w.heap.size + 1)) #[] #[]] }, W1, gf,
    #[.func (.yield (w.heap.size + 1)) #[] #[]] ++ lb, W1, ?_, ?_, ?_, ?_, fun h => by simp [Fence.wide] at h, ?_⟩
  · rw [← hW1]; exact run_enterLoop_outer _ _ _ _ _
  · simp only [resolve, hg]
    simp [go_sem]
  · intro f' _; trivial
  · simp [invoke, go_sem, eg]
  · refine (H fn W1 hb1 hs1 hK1 hL1).mono ?_
    rintro e W2 ⟨⟨v, rfl⟩, st, pe, hst, hl, hp⟩
    have := run_endLoop (P := P) hl (by simpa [rfRec] using hst)
    exact ⟨pe, _, this, by cases pe <;> exact hp _⟩

/-- How a round's body may be left. -/
def rfEnd (l : Nat) (rb : Loop) (rec : LoopState → Option Code → Loop) (R : Ending → World → Prop) : Exit → Act → World → Prop
  | .normal, _, W => W.heap[l]? = some (.loop rb) ∧ R (.returned (.bool true)) (W.putObj l (.loop (rec .ready none)))
  | .ret, _, W => W.heap[l]? = some (.loop rb) ∧ R (.returned (.bool false)) (W.putObj l (.loop (rec .done (some .ret))))
  | .exit id, _, W => W.heap[l]? = some (.loop rb) ∧ R (.returned (.bool false)) (W.putObj l (.loop (rec .done (some (.exit id)))))
  | .goto t, _, W => W.heap[l]? = some (.loop rb) ∧ R (.returned (.bool false)) (W.putObj l (.loop (rec .done (some (.goto t)))))
  | .panic _, _, _ => False
  | .outgrown, _, _ => False

/-- ONE ROUND. -/
theorem rf_round {m : Nat} {P : Program} {l D : Nat} {fn : FuncId} {tmps : Array Value} {ps : Array Tmp} {assign body : Code} {args : Array Value} {W : World} {R : Ending → World → Prop}
    (hl : W.heap[l]? = some (.loop (rfRec fn tmps ps assign body D .ready none))) (hps : args.size = ps.size)
    (H : assign.wpIn (Fence.wide.inRound l) m P (Exit.then (fun a₁ W1 => W1.heap[l]? = some (.loop (rfRec fn tmps ps assign body D .ready none)) ∧
        body.wpIn (Fence.wide.inRound l) m P (rfEnd l (rfRec fn tmps ps assign body D .busy none) (rfRec fn tmps ps assign body D) R) a₁ (W1.putObj l (.loop (rfRec fn tmps ps assign body D .busy none)))) (fun _ _ _ => False))
      { tmps := (ps.zip args).foldl (fun t (p, v) => t.setIfInBounds p v) tmps, defers := [] } W) :
    YieldAt Fence.wide m P l args W R := by
  refine ⟨fn, _, assign, body, run_yield (P := P) (args := args) hl (by simpa [rfRec] using hps), roundIn_of_wpIn trivial (wpIn_mono H ?_)⟩
  intro e a₁ W1 h
  cases e with
  | normal =>
    obtain ⟨h1, h2⟩ := h
    refine ⟨_, run_beginRound h1 rfl, wpIn_mono h2 ?_⟩
    intro e a₂ W2 h
    cases e with
    | normal => exact ⟨_, _, run_endRound none h.1, h.2⟩
    | ret => exact ⟨_, _, run_endRound (some .ret) h.1, h.2⟩
    | exit id => exact ⟨_, _, run_endRound (some (.exit id)) h.1, h.2⟩
    | goto t => exact ⟨_, _, run_endRound (some (.goto t)) h.1, h.2⟩
    | panic c => exact h.elim
    | outgrown => exact h.elim
  | _ => exact h.elim

/-- ONE ROUND whose assignment to the loop's variables touches no memory. -/
theorem rf_round1 {m : Nat} {P : Program} {l D : Nat} {fn : FuncId} {tmps : Array Value} {ps : Array Tmp} {assign body : Code} {args : Array Value} {W : World} {R : Ending → World → Prop} (a₁ : Act)
    (hl : W.heap[l]? = some (.loop (rfRec fn tmps ps assign body D .ready none))) (hps : args.size = ps.size)
    (hassign : ∀ K : Act → World → Prop, K a₁ W → assign.wpIn (Fence.wide.inRound l) m P (Exit.then K (fun _ _ _ => False)) { tmps := (ps.zip args).foldl (fun t (p, v) => t.setIfInBounds p v) tmps, defers := [] } W)
    (hbody : ∀ rb, body.wpIn (Fence.wide.inRound l) m P (rfEnd l rb (rfRec fn tmps ps assign body D) R) a₁ (W.putObj l (.loop rb))) :
    YieldAt Fence.wide m P l args W R :=
  rf_round hl hps (hassign _ ⟨hl, hbody _⟩)

/-- What a turn of a block that holds no cells keeps. -/
theorem grownBy_putObj (W : World) (l : Nat) (o : Obj) : W.grownBy (W.putObj l o) (some l) := grownBy_putObj' W l o

end Go.Proofs.Ytgeaccoobhigcaa
