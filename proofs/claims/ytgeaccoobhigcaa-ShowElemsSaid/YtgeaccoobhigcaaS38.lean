/-
  The example of the document.
-/
import Derived.Test.YtgeaccoobhigcaaS37
namespace Go.Proofs.Ytgeaccoobhigcaa
open Go Go.RowKit

theorem oneW_any (s : ByteArray) (w : World) : Calls Try.prog 97 #[.string s] w fun e w' => e = .returned (.agg #[.int .i64 3, .string s, .int .i64 0]) ∧ Below w.heap.size w w' := by
  go_enter Try.func97, Try.ntmps97
  go_wp2
  exact bodyPost_ret (v := .agg #[.int .i64 3, .string s, .int .i64 0]) (by simp [results, Try.results97, go_sem]) rfl ⟨rfl, below_new _ _⟩
theorem oneN_any (n : Int) (w : World) : Calls Try.prog 98 #[.int .i64 n] w fun e w' => e = .returned (.agg #[.int .i64 2, .string ⟨#[]⟩, .int .i64 n]) ∧ Below w.heap.size w w' := by
  go_enter Try.func98, Try.ntmps98
  go_wp2
  exact bodyPost_ret (v := .agg #[.int .i64 2, .string ⟨#[]⟩, .int .i64 n]) (by simp [results, Try.results98, go_sem]) rfl ⟨rfl, below_new _ _⟩

theorem bkeep2 {W w1 : World} (hb : Below W.heap.size W w1) {n : Nat} (hn : n < W.heap.size) : (∀ o, w1.cell? ⟨n, o, none⟩ = W.cell? ⟨n, o, none⟩) ∧ (∀ o, w1.frozen? ⟨n, o, none⟩ = W.frozen? ⟨n, o, none⟩) ∧ n < w1.heap.size :=
  ⟨fun o => hb.cell (p := ⟨n, o, none⟩) hn, fun o => hb.frozen (p := ⟨n, o, none⟩) hn, Nat.lt_of_lt_of_le hn hb.size⟩
theorem BoxC.set_other {W : World} {b : Nat} {t : TypeId} {cs : List Value} (h : BoxC W b t cs) {a : Addr} (hne : b ≠ a.block) (v : Value) : BoxC (W.setCell a v) b t cs :=
  (Below.heap_setCell _ _ _ _ hne).trans h
theorem SlR.of_box {W : World} {b size n : Nat} {t : TypeId} {cs : List Value} (h : BoxC W b t cs) (hl : cs.length = n * size) (hn : n ≤ maxLen) : SlR W size (some ⟨b, 0, none⟩) n n cs :=
  ⟨hl, Nat.le_refl _, hn, by simp, fun a ha j u hj => by
    cases ha
    rw [addr_add_lit, Nat.zero_add]
    exact h.at_ hj⟩
theorem BoxC.new_at {W : World} {cs : List Value} {t : TypeId} {b : Nat} (h : b = W.heap.size) : BoxC (W.alloc (.cells cs.toArray t)) b t cs := h ▸ BoxC.new W cs t
def oneAttr : TestR := ⟨1, ⟨#[]⟩, ⟨3, ⟨#[120]⟩, 0⟩, none, 0, 0, []⟩
def oneValue : TestR := ⟨1, ⟨#[]⟩, ⟨2, ⟨#[]⟩, 1⟩, none, 0, 0, []⟩
def oneCond (A B : Nat) : CondR := .mk 1 true ⟨#[115]⟩ (some ⟨A, 0, none⟩) 1 1 [oneAttr] (some ⟨B, 0, none⟩) 1 1 [oneValue] false none 0 0 []
def oneAct : Ac := ⟨⟨#[115]⟩, ⟨⟨#[]⟩, ⟨3, ⟨#[121]⟩, 0⟩⟩, ⟨0, ⟨⟨#[]⟩, ⟨2, ⟨#[]⟩, 2⟩⟩, ⟨⟨#[]⟩, ⟨0, ⟨#[]⟩, 0⟩⟩⟩, 1, ⟨⟨#[]⟩, ⟨0, ⟨#[]⟩, 0⟩⟩⟩
def oneP (A B C D : Nat) : ProdR := ⟨⟨#[97]⟩, some ⟨C, 0, none⟩, 1, 1, [oneCond A B], some ⟨D, 0, none⟩, 1, 1, [oneAct]⟩
def OneIs (w : World) (e : Ending) (w' : World) : Prop := ∃ A B C D : Nat, e = .returned (oneP A B C D).val ∧ (oneP A B C D).Mem w' ∧ Below w.heap.size w w'
theorem oneMem {W : World} {A B C D : Nat} (hA : BoxC W A 138 oneAttr.cells) (hB : BoxC W B 138 oneValue.cells) (hC : BoxC W C 60 (oneCond A B).cells) (hD : BoxC W D 69 oneAct.cells) : (oneP A B C D).Mem W := by
  have t0 : ∀ t : TestR, t = oneAttr ∨ t = oneValue → t.Mem W := by
    rintro t (rfl | rfl)
    · exact ⟨SlR.nil _ _, by decide +kernel, by decide +kernel, by intro x hx; cases hx⟩
    · exact ⟨SlR.nil _ _, by decide +kernel, by decide +kernel, by intro x hx; cases hx⟩
  refine ⟨by show (⟨#[97]⟩ : ByteArray).size ≤ _; decide +kernel, ?_, ?_, ?_, ?_⟩
  · exact SlR.of_box (n := 1) hC rfl (by decide +kernel)
  · intro c hc
    rcases List.mem_singleton.1 hc with rfl
    refine .mk (by decide +kernel) ⟨SlR.of_box (n := 1) hA rfl (by decide +kernel), fun t ht => t0 t (.inl (List.mem_singleton.1 ht))⟩ ⟨SlR.of_box (n := 1) hB rfl (by decide +kernel), fun t ht => t0 t (.inr (List.mem_singleton.1 ht))⟩ (SlR.nil _ _) (by intro c hc; cases hc)
  · exact SlR.of_box (n := 1) hD rfl (by decide +kernel)
  · intro a ha
    rcases List.mem_singleton.1 ha with rfl
    exact ⟨by decide +kernel, ⟨by decide +kernel, by decide +kernel⟩, ⟨by decide +kernel, by decide +kernel⟩, ⟨by decide +kernel, by decide +kernel⟩, ⟨by decide +kernel, by decide +kernel⟩⟩

set_option maxRecDepth 100000 in
set_option maxHeartbeats 1000000 in
theorem one_any (w : World) : Calls Try.prog 61 #[] w fun e w' => OneIs w e w' := by
  have hlt : w.heap.size < (w.alloc (.cells #[.string ⟨#[]⟩, .slice none 0 0, .slice none 0 0] 48)).heap.size := by simp
  have t1 : True := trivial
  have t2 : True := trivial
  go_enter Try.func61, Try.ntmps61
  go_wp2_with (first | (go_at_call 97; have _t := t1; refine (oneW_any _ _).mono ?_; rintro e w2 ⟨rfl, b2⟩; obtain ⟨hc2, hf2, hlt⟩ := bkeep2 b2 hlt; clear t1) | (go_at_call 98; have _t := t2; refine (oneN_any _ _).mono ?_; rintro e w3 ⟨rfl, b3⟩; obtain ⟨hc3, hf3, hlt⟩ := bkeep2 b3 (n := w.heap.size) (by simp; omega); clear t2) | (go_at_call 97; refine (oneW_any _ _).mono ?_; rintro e w4 ⟨rfl, b4⟩; obtain ⟨hc4, hf4, hlt⟩ := bkeep2 b4 (n := w.heap.size) (by simp; omega)) | (go_at_call 98; refine (oneN_any _ _).mono ?_; rintro e w5 ⟨rfl, b5⟩; obtain ⟨hc5, hf5, hlt⟩ := bkeep2 b5 (n := w.heap.size) (by omega)))
  have k2 : w.heap.size < w2.heap.size := Nat.lt_of_lt_of_le (by simp) b2.size
  have k3 : w2.heap.size < w3.heap.size := Nat.lt_of_lt_of_le (by simp) b3.size
  have k4 : w3.heap.size + 1 < w4.heap.size := Nat.lt_of_lt_of_le (by simp) b4.size
  have k5 : w4.heap.size ≤ w5.heap.size := b5.size
  have hA := (BoxC.new w2 oneAttr.cells 138).below b3
  have hA4 := (hA.below (below_trans (below_new w3 (.cells oneValue.cells.toArray 138)) (below_new _ (.cells (oneCond w2.heap.size w3.heap.size).cells.toArray 60)))).below b4
  have hB4 := ((BoxC.new w3 oneValue.cells 138).below (below_new _ (.cells (oneCond w2.heap.size w3.heap.size).cells.toArray 60))).below b4
  have hC := BoxC.new (w3.alloc (.cells oneValue.cells.toArray 138)) (oneCond w2.heap.size w3.heap.size).cells 60
  rw [World.size_alloc] at hC
  have hC4 := hC.below b4
  have bb : Below w.heap.size w w5 := by
    have h2 := below_trans (below_new w (.cells #[.string ⟨#[]⟩, .slice none 0 0, .slice none 0 0] 48)) b2
    have h3 := below_trans h2 (below_trans (below_new w2 (.cells oneAttr.cells.toArray 138)) b3)
    have h4 := below_trans h3 (below_trans (below_trans (below_new w3 (.cells oneValue.cells.toArray 138)) (below_new _ (.cells (oneCond w2.heap.size w3.heap.size).cells.toArray 60))) b4)
    exact below_trans h4 b5
  refine bodyPost_ret (v := (oneP w2.heap.size w3.heap.size (w3.heap.size + 1) w5.heap.size).val) ?_ rfl ⟨w2.heap.size, w3.heap.size, w3.heap.size + 1, w5.heap.size, rfl, ?_, ?_⟩
  · have g : ∀ o, w5.cell? ⟨w.heap.size, o, none⟩ = (w.alloc (.cells #[.string ⟨#[]⟩, .slice none 0 0, .slice none 0 0] 48)).cell? ⟨w.heap.size, o, none⟩ := fun o =>
      (((hc5 o).trans (hc4 o)).trans (past2 w3 _ _ (by omega) o)).trans (((hc3 o).trans ((below_new w2 _).cell (p := ⟨w.heap.size, o, none⟩) (by simpa using k2))).trans (hc2 o))
    have g0 := g 0
    have g1 := g 1
    have g2 := g 2
    simp at g0 g1 g2
    simp [results, Try.results61, go_sem, hlt, oneP, ProdR.val, g0, g1, g2]
  · refine oneMem ?_ ?_ ?_ ?_
    · exact ((((hA4.below b5).set_other (by simp; omega) _).set_other (by simp; omega) _).set_other (by simp; omega) _).below (below_new _ _)
    · exact ((((hB4.below b5).set_other (by simp; omega) _).set_other (by simp; omega) _).set_other (by simp; omega) _).below (below_new _ _)
    · exact ((((hC4.below b5).set_other (by simp; omega) _).set_other (by simp; omega) _).set_other (by simp; omega) _).below (below_new _ _)
    · exact BoxC.new_at (cs := oneAct.cells) (by simp [World.setCell])
  · exact (((bb.setCell (by simp) _).setCell (by simp) _).setCell (by simp) _).alloc (by simp; exact bb.size) _
end Go.Proofs.Ytgeaccoobhigcaa
