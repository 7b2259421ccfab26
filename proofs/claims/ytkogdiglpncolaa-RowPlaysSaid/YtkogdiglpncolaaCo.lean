/-
  The contracts of List, First and Collect over any iterator that has its contract.
-/
import Derived.Test.YtkogdiglpncolaaIt
import Derived.Maps.AppendAt
namespace Go.Proofs.Ytkogdiglpncolaa
open Go Go.RowKit
attribute [local go_sem] Oper.semAt_some

theorem below_of_grown {A B : World} {n₀ : Nat} (hg : A.grownBy B none) (h : n₀ ≤ A.heap.size) : Below n₀ A B := ⟨hg.os, hg.tape, hg.output, hg.size, fun k hk => hg.block k (by omega) (by simp)⟩
theorem grownBy_below {w A B : World} {row : Option Nat} (h : w.grownBy A row) (hb : Below w.heap.size A B) : w.grownBy B row :=
  ⟨hb.os.trans h.os, hb.tape.trans h.tape, hb.output.trans h.output, Nat.le_trans h.size hb.size, fun k hk hr => (hb.block k hk).trans (h.block k hk hr)⟩
theorem below_putObj {W : World} {l n₀ : Nat} (o : Obj) (h : n₀ ≤ l) : Below n₀ W (W.putObj l o) :=
  ⟨rfl, rfl, rfl, by simp, fun k hk => World.putObj_heap_other (by omega)⟩

theorem take_snoc' {α : Type} {l : List α} {k : Nat} {x : α} (h : l[k]? = some x) : l.take (k + 1) = l.take k ++ [x] := by
  rw [List.take_add_one, h]; rfl

/-- What a loop that collects keeps: the iterator's state, the loop's record, the box that holds what has come. -/
structure Coll (w : World) (nb : Nat) (Need : Nat → World → Prop) (row : Option Nat) (l D B0 : Nat) (rec : Loop) (vals : List Value) (k k' : Nat) (A : World) : Prop where
  need : Need k' A
  grown : w.grownBy A row
  loop : A.heap[l]? = some (.loop rec)
  dfr : A.heap[D]? = some (.deferred (some []))
  le : w.heap.size ≤ nb
  box : ∃ v, Boxed A B0 22 v ∧ A.ownsRow nb 3 1 v k (vals.take k)

theorem Coll.below {w : World} {nb : Nat} {Need : Nat → World → Prop} {row : Option Nat} {l D B0 : Nat} {rec : Loop} {vals : List Value} {k k' k2 : Nat} {A B : World} (h : Coll w nb Need row l D B0 rec vals k k' A)
    (hg : A.grownBy B row) (hrow : ∀ r, row = some r → r < w.heap.size) (hl : w.heap.size ≤ l) (hD : w.heap.size ≤ D) (hB : w.heap.size ≤ B0) (hn : Need k2 B) : Coll w nb Need row l D B0 rec vals k k2 B := by
  obtain ⟨v, hv, ho⟩ := h.box
  have ne : ∀ i, w.heap.size ≤ i → some i ≠ row := fun i hi e => by have := hrow i e.symm; omega
  refine ⟨hn, grownBy_trans h.grown hg, (hg.block l (lt_of_block h.loop) (ne l hl)).trans h.loop, (hg.block D (lt_of_block h.dfr) (ne D hD)).trans h.dfr, h.le, v, hv.kept hg (ne B0 hB), ho.kept hg ?_⟩
  rcases ho.2 with ⟨rfl, _⟩ | ⟨g, cap, cur, rfl, hge, _⟩
  · exact .inl rfl
  · exact .inr (ne g (Nat.le_trans h.le hge))

theorem Coll.more {w : World} {nb : Nat} {Need : Nat → World → Prop} {row : Option Nat} {l D B0 : Nat} {rec : Loop} {vals : List Value} {k k' : Nat} {A B : World} (h : Coll w nb Need row l D B0 rec vals k k' A)
    (hst : ∀ k A B, Need k A → Below w.heap.size A B → Need k B) (hg : A.grownBy B none) : Coll w nb Need row l D B0 rec vals k k' B := by
  obtain ⟨v, hv, ho⟩ := h.box
  refine ⟨hst _ _ _ h.need (below_of_grown hg h.grown.size), grownBy_trans h.grown (grownBy_some _ hg), (hg.block l (lt_of_block h.loop) (by simp)).trans h.loop, (hg.block D (lt_of_block h.dfr) (by simp)).trans h.dfr,
    h.le, v, hv.kept hg (by simp), ho.kept hg ?_⟩
  cases v.ownBlock <;> simp

theorem Coll.turn {w : World} {nb : Nat} {Need : Nat → World → Prop} {row : Option Nat} {l D B0 : Nat} {rec rec' : Loop} {vals : List Value} {k k' : Nat} {A : World} (h : Coll w nb Need row l D B0 rec vals k k' A)
    (hst : ∀ k A B, Need k A → Below w.heap.size A B → Need k B) (hl : w.heap.size ≤ l) (hD : l ≠ D) (hB : l ≠ B0) : Coll w nb Need row l D B0 rec' vals k k' (A.putObj l (.loop rec')) := by
  obtain ⟨v, hv, ho⟩ := h.box
  refine ⟨hst _ _ _ h.need (below_putObj _ hl), grownBy_below h.grown (below_putObj _ hl), World.putObj_heap_same (lt_of_block h.loop), (World.putObj_heap_other (Ne.symm hD)).trans h.dfr,
    h.le, v, hv.kept (grownBy_putObj' _ _ _) (fun e => hB (by cases e; rfl)), ownsRow_putObj ho _ h.loop rfl⟩

theorem run_eql_func_nil43 (gf : Nat) (lb : Array Value) (W : World) : (binOp .eql 43 (.func (.func gf) #[] lb) .nilFunc).run Try.prog W = .ok (.bool false) W := by kernel_rfl

/-- A row that the call owns reads as a slice. -/
theorem SlR.of_owns {w : World} {base : Nat} {e : TypeId} {size : Nat} {v : Value} {n : Nat} {cs : List Value} (h : w.ownsRow base e size v n cs) :
    ∃ go c, v = .slice go n c ∧ SlR w size go n c cs ∧ ∀ a, go = some a → base ≤ a.block := by
  rcases h.2 with ⟨rfl, rfl⟩ | ⟨g, cap, cur, rfl, hb, hg, hn, hc, hsz, htake⟩
  · have : cs = [] := List.eq_nil_of_length_eq_zero (by rw [h.1]; simp)
    subst this
    exact ⟨none, 0, rfl, SlR.nil w size, by simp⟩
  · refine ⟨some ⟨g, 0, none⟩, cap, rfl, ⟨h.1, hn, hc, by simp, ?_⟩, by intro a ha; cases ha; exact hb⟩
    intro a ha
    cases ha
    refine CellsAt.of_block hg 0 _ ?_
    intro j u hj
    rw [← htake, List.getElem?_take] at hj
    split at hj
    · rw [Nat.zero_add]; simpa using hj
    · cases hj

theorem Coll.step {w : World} {nb : Nat} {Need : Nat → World → Prop} {row : Option Nat} {l D B0 : Nat} {rec : Loop} {vals : List Value} {k k' : Nat} {A B : World} {x v : Value} (h : Coll w nb Need row l D B0 rec vals k k' A)
    (hst : ∀ k A B, Need k A → Below w.heap.size A B → Need k B) (hx : vals[k]? = some x) (hk : KeepsOthers A B) (hb : Below nb A B) (hv : Boxed B B0 22 v) (ho : B.ownsRow nb 3 1 v (k + 1) (vals.take k ++ [x])) :
    Coll w nb Need row l D B0 rec vals (k + 1) k' B :=
  ⟨hst _ _ _ h.need (hb.mono h.le), grownBy_below h.grown (hb.mono h.le), hk.same _ _ h.loop rfl, hk.same _ _ h.dfr rfl, h.le, v, hv, by rw [take_snoc' hx]; exact ho⟩

set_option maxHeartbeats 1000000 in
theorem list_any (gf : Nat) (lb : Array Value) (xs : List Int) (Need : Nat → World → Prop) (row : Option Nat) (w : World)
    (hit : IterG Try.prog gf lb (xs.map (Value.int .i64)) Need row) (eg : ∀ args w, (callFunc gf args).run Try.prog w = .ok (.enter gf args) w)
    (h0 : Need 0 w) (hst : ∀ k A B, Need k A → Below w.heap.size A B → Need k B) (hrow : ∀ r, row = some r → r < w.heap.size) (hlen : xs.length ≤ 65536) :
    Calls Try.prog 26 #[.func (.func gf) #[] lb] w fun e w' => ∃ go c', e = .returned (.slice go xs.length c') ∧ IntSl w' go xs.length c' xs ∧ w.grownBy w' row ∧ Need xs.length w' := by
  obtain ⟨i0, hi, hz0, hz1, hz2⟩ := info_parts Try.info3
  refine (callsIn_wide (n := 10)).1 ?_
  refine callsIn_of_wp_marks Try.func26 rfl trivial ?_
  simp only [Try.ntmps26, List.size_toArray, List.length_cons, List.length_nil, Nat.reduceAdd, Nat.reduceSub, Array.replicate_succ, Array.replicate_zero, List.push_toArray, List.append_toArray, List.nil_append, List.cons_append]
  have hnf := run_eql_func_nil43 gf lb
  gi_wp2
  have hbox := Boxed.new w 22 (.slice none 0 0)
  have hbel : Below w.heap.size w (w.alloc (.cells #[.slice none 0 0] 22)) := (Below.refl _ w).alloc (Nat.le_refl _) _
  have hsz : (w.alloc (.cells #[.slice none 0 0] 22)).heap.size = w.heap.size + 1 := by simp
  generalize w.alloc (.cells #[.slice none 0 0] 22) = w0 at hbox hbel hsz ⊢
  refine rf_stmt (gf := gf) (lb := lb) rfl eg ?_
  rw [hsz]
  intro fn W1 hb1 hs1 hd1 hl1
  have hB1 : Boxed W1 w.heap.size 22 (.slice none 0 0) := (hb1.block _ (by omega)).trans hbox
  have hbw : Below w.heap.size w W1 := hbel.trans (hb1.mono (by omega))
  generalize hrec : rfRec fn _ _ _ _ (w.heap.size + 1) .ready none = rec at hl1
  refine (callsIn_wide.2 (hit 5 (w.heap.size + 1 + 1) (fun k A => Coll w w.heap.size Need row (w.heap.size + 1 + 1) (w.heap.size + 1) w.heap.size rec (xs.map (Value.int .i64)) k k A)
    (fun k A => Coll w w.heap.size Need row (w.heap.size + 1 + 1) (w.heap.size + 1) w.heap.size rec (xs.map (Value.int .i64)) k (k + 1) A) (fun _ _ => False) W1
    (fun k A h => h.need)
    (fun k A B _ h hn hg => h.below hg hrow (by omega) (by omega) (by omega) hn)
    (fun k A B h hg => h.more hst hg)
    (fun _ _ _ h _ => h)
    (fun k x A hx h => ?_)
    ⟨hst _ _ _ h0 hbw, ⟨hbw.os, hbw.tape, hbw.output, hbw.size, fun i hi _ => hbw.block i hi⟩, hl1, hd1, Nat.le_refl _, _, hB1, World.ownsRow_nil _ _ _ _⟩)).mono ?_
  · have hlr := h.loop
    subst hrec
    obtain ⟨q, hq⟩ : ∃ q : Int, x = .int .i64 q := by
      rw [List.getElem?_map] at hx
      cases hxk : xs[k]? with
      | none => simp [hxk] at hx
      | some q => exact ⟨q, by simpa [hxk] using hx.symm⟩
    subst hq
    refine rf_round1 _ hlr rfl (fun K hK => by gi_wp2; exact hK) ?_
    intro rb
    have h2 := h.turn (rec' := rb) hst (by omega) (by omega) (by omega)
    generalize A.putObj _ _ = A2 at h2 ⊢
    clear h hlr
    obtain ⟨v, hv, ho⟩ := h2.box
    have hvc := hv.cell
    have hlk : k < xs.length := by
      have := (List.getElem?_eq_some_iff.1 hx).1
      simpa using this
    have HX := Lib.hid hx; clear hx
    have hsz2 : w.heap.size ≤ A2.heap.size := h2.grown.size
    gi_wp2_with (gi_at_builtin; refine wpListIn_append_own _ rfl _ _ 22 rfl w.heap.size 3 i0 (.int .i64 0) 1 8 Try.underlying22 hi hz0 hz1 hz2 rfl (by decide) _ _ _ rfl (ho.alloc _) ⟨A2.heap.size, 0, none⟩ 1 1 [.int .i64 q] rfl rfl (cell_one_new _ _ _) (by simp [Value.oneCell']) (by unfold maxLen; omega) (by omega) (by simp; omega) ?_; intro v' w1 hown' hgrow _; obtain ⟨g', cap', rfl⟩ := ownsRow_succ hown'; obtain ⟨hv1, hv2, hr2, hk2, hb2⟩ := hv.appended (by decide) ho hsz2 (Nat.le_refl _) hown' hgrow; have hc1 := hv1.cell; have hf1 := hv1.frozen)
    have h3 := h2.step hst HX.out hk2 hb2 hv2 hr2
    exact ⟨h3.loop, rfl, h3.turn hst (by omega) (by omega) (by omega)⟩
  · rintro e W2 ⟨hv, hc | ⟨_, _, hf⟩⟩
    · have hlr := hc.loop
      subst hrec
      refine ⟨hv, .ready, none, by simp, hlr, ?_⟩
      intro re
      have hc2 := hc.turn (rec' := re) hst (by omega) (by omega) (by omega)
      dsimp only
      generalize W2.putObj _ _ = W3 at hc2 ⊢
      clear hc hlr
      obtain ⟨v, hv, ho⟩ := hc2.box
      have hvc := hv.cell
      gi_wp2
      refine ⟨by simp, .inl ⟨_, _, rfl, run_takeDeferred hc2.dfr, ?_⟩⟩
      refine ⟨_, results_tmp rfl _ _ _, ?_⟩
      obtain ⟨go, c, rfl, hsl, _⟩ := SlR.of_owns (ownsRow_putObj ho (.deferred none) hc2.dfr rfl)
      rw [List.length_map] at hsl
      refine ⟨go, c, by simp, by rw [List.take_of_length_le (by simp)] at hsl; exact hsl, grownBy_below hc2.grown (below_putObj _ (by omega)), ?_⟩
      have := hst _ _ _ hc2.need (below_putObj (l := w.heap.size + 1) (.deferred none) (by omega))
      simpa using this
    · exact hf.elim
set_option maxHeartbeats 1000000 in
theorem first_any (gf : Nat) (lb : Array Value) (xs : List Int) (n : Int) (Need : Nat → World → Prop) (row : Option Nat) (w : World)
    (hit : IterG Try.prog gf lb (xs.map (Value.int .i64)) Need row) (eg : ∀ args w, (callFunc gf args).run Try.prog w = .ok (.enter gf args) w)
    (h0 : Need 0 w) (hst : ∀ k A B, Need k A → Below w.heap.size A B → Need k B) (hrow : ∀ r, row = some r → r < w.heap.size) (hlen : xs.length ≤ 65536) :
    Calls Try.prog 19 #[.func (.func gf) #[] lb, .int .i64 n] w fun e w' => ∃ go c', e = .returned (.slice go (min n.toNat xs.length) c') ∧ IntSl w' go (min n.toNat xs.length) c' (xs.take n.toNat) ∧ w.grownBy w' row ∧ Need (min n.toNat xs.length) w' := by
  obtain ⟨i0, hi, hz0, hz1, hz2⟩ := info_parts Try.info3
  have hnf := run_eql_func_nil43 gf lb
  by_cases hn : n < 1
  · have hnz : n.toNat = 0 := by omega
    rw [hnz]
    simp only [Nat.zero_min, List.take_zero]
    clear hnz
    refine (callsIn_wide (n := 10)).1 ?_
    refine callsIn_of_wp_marks Try.func19 rfl trivial ?_
    simp only [Try.ntmps19, List.size_toArray, List.length_cons, List.length_nil, Nat.reduceAdd, Nat.reduceSub, Array.replicate_succ, Array.replicate_zero, List.push_toArray, List.append_toArray, List.nil_append, List.cons_append]
    gi_wp2
    have hbel : Below w.heap.size w ((w.alloc (.cells #[.int .i64 n] 3)).alloc (.cells #[.slice none 0 0] 22)) := ((Below.refl _ w).alloc (Nat.le_refl _) _).alloc (by simp) _
    refine ⟨_, results_tmp rfl _ _ _, ?_⟩
    exact ⟨none, 0, rfl, SlR.nil _ _, ⟨hbel.os, hbel.tape, hbel.output, hbel.size, fun i hi _ => hbel.block i hi⟩, hst _ _ _ h0 hbel⟩
  refine (callsIn_wide (n := 10)).1 ?_
  refine callsIn_of_wp_marks Try.func19 rfl trivial ?_
  simp only [Try.ntmps19, List.size_toArray, List.length_cons, List.length_nil, Nat.reduceAdd, Nat.reduceSub, Array.replicate_succ, Array.replicate_zero, List.push_toArray, List.append_toArray, List.nil_append, List.cons_append]
  gi_wp2
  have hnb : Boxed ((w.alloc (.cells #[.int .i64 n] 3)).alloc (.cells #[.slice none 0 0] 22)) w.heap.size 3 (.int .i64 n) := (Boxed.new w 3 (.int .i64 n)).alloc _
  have hbox : Boxed ((w.alloc (.cells #[.int .i64 n] 3)).alloc (.cells #[.slice none 0 0] 22)) (w.heap.size + 1) 22 (.slice none 0 0) := by
    have := Boxed.new (w.alloc (.cells #[.int .i64 n] 3)) 22 (.slice none 0 0); rwa [World.size_alloc] at this
  have hbel : Below w.heap.size w ((w.alloc (.cells #[.int .i64 n] 3)).alloc (.cells #[.slice none 0 0] 22)) := ((Below.refl _ w).alloc (Nat.le_refl _) _).alloc (by simp) _
  have hsz : ((w.alloc (.cells #[.int .i64 n] 3)).alloc (.cells #[.slice none 0 0] 22)).heap.size = w.heap.size + 2 := by simp
  generalize (w.alloc (.cells #[.int .i64 n] 3)).alloc (.cells #[.slice none 0 0] 22) = w0 at hnb hbox hbel hsz ⊢
  refine rf_stmt (gf := gf) (lb := lb) rfl eg ?_
  rw [hsz]
  intro fn W1 hb1 hs1 hd1 hl1
  have hN1 : Boxed W1 w.heap.size 3 (.int .i64 n) := (hb1.block _ (by omega)).trans hnb
  have hB1 : Boxed W1 (w.heap.size + 1) 22 (.slice none 0 0) := (hb1.block _ (by omega)).trans hbox
  have hbw : Below w.heap.size w W1 := hbel.trans (hb1.mono (by omega))
  generalize hrec : rfRec fn _ _ _ _ (w.heap.size + 2) = rec at hl1
  refine (callsIn_wide.2 (hit 5 (w.heap.size + 2 + 1) (fun k A => Coll w (w.heap.size + 1) Need row (w.heap.size + 2 + 1) (w.heap.size + 2) (w.heap.size + 1) (rec .ready none) (xs.map (Value.int .i64)) k k A ∧ Boxed A w.heap.size 3 (.int .i64 n) ∧ (k : Int) < n)
    (fun k A => Coll w (w.heap.size + 1) Need row (w.heap.size + 2 + 1) (w.heap.size + 2) (w.heap.size + 1) (rec .ready none) (xs.map (Value.int .i64)) k (k + 1) A ∧ Boxed A w.heap.size 3 (.int .i64 n) ∧ (k : Int) < n)
    (fun k A => Coll w (w.heap.size + 1) Need row (w.heap.size + 2 + 1) (w.heap.size + 2) (w.heap.size + 1) (rec .done (some (.exit 0))) (xs.map (Value.int .i64)) k k A ∧ (k : Int) = n) W1
    (fun k A h => h.1.need)
    (fun k A B _ h hn hg => ⟨h.1.below hg hrow (by omega) (by omega) (by omega) hn, h.2.1.kept hg (fun e => by have := hrow _ e.symm; omega), h.2.2⟩)
    (fun k A B h hg => ⟨h.1.more hst hg, h.2.1.kept hg (by simp), h.2.2⟩)
    (fun k A B h hg => ⟨h.1.more hst hg, h.2⟩)
    (fun k x A hx h => ?_)
    ⟨⟨hst _ _ _ h0 hbw, ⟨hbw.os, hbw.tape, hbw.output, hbw.size, fun i hi _ => hbw.block i hi⟩, hl1, hd1, by omega, _, hB1, World.ownsRow_nil _ _ _ _⟩, hN1, by omega⟩)).mono ?_
  · obtain ⟨h, hbn, hkn⟩ := h
    have hlr := h.loop
    subst hrec
    obtain ⟨q, hq⟩ : ∃ q : Int, x = .int .i64 q := by
      rw [List.getElem?_map] at hx
      cases hxk : xs[k]? with
      | none => simp [hxk] at hx
      | some q => exact ⟨q, by simpa [hxk] using hx.symm⟩
    subst hq
    refine rf_round1 _ hlr rfl (fun K hK => by gi_wp2; exact hK) ?_
    intro rb
    have h2 := h.turn (rec' := rb) hst (by omega) (by omega) (by omega)
    have hbn2 : Boxed (A.putObj (w.heap.size + 2 + 1) (.loop rb)) w.heap.size 3 (.int .i64 n) := hbn.kept (grownBy_putObj' _ _ _) (by simp; omega)
    generalize A.putObj _ _ = A2 at h2 hbn2 ⊢
    clear h hlr hbn
    obtain ⟨v, hv, ho⟩ := h2.box
    have hvc := hv.cell
    have hlk : k < xs.length := by
      have := (List.getElem?_eq_some_iff.1 hx).1
      simpa using this
    have HX := Lib.hid hx; clear hx
    have hsz2 : w.heap.size + 1 ≤ A2.heap.size := by have := hv.lt; omega
    rcases (show (k : Int) + 1 = n ∨ (k : Int) + 1 < n by omega) with hlast | hlast
    · have HL := Lib.hid hlast
      subst hlast
      gi_wp2_with (gi_at_builtin; refine wpListIn_append_own _ rfl _ _ 22 rfl (w.heap.size + 1) 3 i0 (.int .i64 0) 1 8 Try.underlying22 hi hz0 hz1 hz2 rfl (by decide) _ _ _ rfl (ho.alloc _) ⟨A2.heap.size, 0, none⟩ 1 1 [.int .i64 q] rfl rfl (cell_one_new _ _ _) (by simp [Value.oneCell']) (by unfold maxLen; omega) (by omega) (by simp; omega) ?_; intro v' w1 hown' hgrow _; obtain ⟨g', cap', rfl⟩ := ownsRow_succ hown'; obtain ⟨hv1, hv2, hr2, hk2, hb2⟩ := hv.appended (by decide) ho hsz2 (Nat.le_refl _) hown' hgrow; have hc1 := hv1.cell; have hf1 := hv1.frozen; have hc2 := hv2.cell; have hn2 := Boxed.cell (show Boxed _ w.heap.size 3 _ from (hb2.block w.heap.size (by omega)).trans hbn2))
      have h3 := h2.step hst HX.out hk2 hb2 hv2 hr2
      exact ⟨h3.loop, rfl, h3.turn hst (by omega) (by omega) (by omega)⟩
    · have hne : ((k : Int) + 1 == n) = false := by simp; omega
      gi_wp2_with (gi_at_builtin; refine wpListIn_append_own _ rfl _ _ 22 rfl (w.heap.size + 1) 3 i0 (.int .i64 0) 1 8 Try.underlying22 hi hz0 hz1 hz2 rfl (by decide) _ _ _ rfl (ho.alloc _) ⟨A2.heap.size, 0, none⟩ 1 1 [.int .i64 q] rfl rfl (cell_one_new _ _ _) (by simp [Value.oneCell']) (by unfold maxLen; omega) (by omega) (by simp; omega) ?_; intro v' w1 hown' hgrow _; obtain ⟨g', cap', rfl⟩ := ownsRow_succ hown'; obtain ⟨hv1, hv2, hr2, hk2, hb2⟩ := hv.appended (by decide) ho hsz2 (Nat.le_refl _) hown' hgrow; have hc1 := hv1.cell; have hf1 := hv1.frozen; have hc2 := hv2.cell; have hn2 := Boxed.cell (show Boxed _ w.heap.size 3 _ from (hb2.block w.heap.size (by omega)).trans hbn2))
      have h3 := h2.step hst HX.out hk2 hb2 hv2 hr2
      have hb3 : Boxed (w1.setCell ⟨w.heap.size + 1, 0, none⟩ (.slice (some ⟨g', 0, none⟩) (k + 1) cap')) w.heap.size 3 (.int .i64 n) := (hb2.block w.heap.size (by omega)).trans hbn2
      first | exact ⟨h3.loop, .inl ⟨rfl, h3.turn hst (by omega) (by omega) (by omega), hb3.kept (grownBy_putObj' _ _ _) (by simp; omega)⟩⟩ | exact ⟨h3.loop, .inl ⟨rfl, h3.turn hst (by omega) (by omega) (by omega), hb3.kept (grownBy_putObj' _ _ _) (by simp; omega), by omega⟩⟩
  · rintro e W2 ⟨hv, ⟨hc, hbn, hkn⟩ | ⟨k, hk, hc, hkn⟩⟩
    · rw [List.length_map] at hc hkn
      have hlr := hc.loop
      subst hrec
      refine ⟨hv, .ready, none, by simp, hlr, ?_⟩
      intro re
      have hc2 := hc.turn (rec' := re) hst (by omega) (by omega) (by omega)
      dsimp only
      generalize W2.putObj _ _ = W3 at hc2 ⊢
      clear hc hlr hbn
      obtain ⟨v, hv, ho⟩ := hc2.box
      have hvc := hv.cell
      have hmin := Lib.hid (show min n.toNat xs.length = xs.length by omega)
      have htk := Lib.hid (show xs.take n.toNat = xs from List.take_of_length_le (by omega))
      gi_wp2
      refine ⟨by simp, .inl ⟨_, _, rfl, run_takeDeferred hc2.dfr, ?_⟩⟩
      refine ⟨_, results_tmp rfl _ _ _, ?_⟩
      rw [hmin.out, htk.out]
      obtain ⟨go, c, rfl, hsl, _⟩ := SlR.of_owns (ownsRow_putObj ho (.deferred none) hc2.dfr rfl)
      refine ⟨go, c, by simp, by rw [List.take_of_length_le (by simp)] at hsl; exact hsl, grownBy_below hc2.grown (below_putObj _ (by omega)), ?_⟩
      exact hst _ _ _ hc2.need (below_putObj (l := w.heap.size + 2) (.deferred none) (by omega))
    · rw [List.length_map] at hk
      have hlr := hc.loop
      subst hrec
      refine ⟨hv, .done, some (.exit 0), by simp, hlr, ?_⟩
      intro re
      have hc2 := hc.turn (rec' := re) hst (by omega) (by omega) (by omega)
      dsimp only
      generalize W2.putObj _ _ = W3 at hc2 ⊢
      clear hc hlr
      obtain ⟨v, hv, ho⟩ := hc2.box
      have hvc := hv.cell
      have hnk := Lib.hid (show n.toNat = k by omega)
      have hmin := Lib.hid (show min k xs.length = k by omega)
      clear hkn
      gi_wp2
      refine ⟨by simp, .inl ⟨_, _, rfl, run_takeDeferred hc2.dfr, ?_⟩⟩
      refine ⟨_, results_tmp rfl _ _ _, ?_⟩
      rw [hnk.out, hmin.out]
      obtain ⟨go, c, rfl, hsl, _⟩ := SlR.of_owns (ownsRow_putObj ho (.deferred none) hc2.dfr rfl)
      refine ⟨go, c, by simp, by rw [← List.map_take] at hsl; exact hsl, grownBy_below hc2.grown (below_putObj _ (by omega)), ?_⟩
      exact hst _ _ _ hc2.need (below_putObj (l := w.heap.size + 2) (.deferred none) (by omega))

set_option maxHeartbeats 1000000 in
theorem collect_any (gf : Nat) (lb : Array Value) (xs : List Int) (n : Int) (Need : Nat → World → Prop) (row : Option Nat) (w : World)
    (hit : IterG Try.prog gf lb (xs.map (Value.int .i64)) Need row) (eg : ∀ args w, (callFunc gf args).run Try.prog w = .ok (.enter gf args) w)
    (h0 : Need 0 w) (hst : ∀ k A B, Need k A → Below w.heap.size A B → Need k B) (hrow : ∀ r, row = some r → r < w.heap.size) (hlen : xs.length ≤ 65536) :
    Calls Try.prog 16 #[.func (.func gf) #[] lb, .int .i64 n] w fun e w' => ∃ go c', e = .returned (.slice go (min n.toNat xs.length) c') ∧ IntSl w' go (min n.toNat xs.length) c' (xs.take n.toNat) ∧ w.grownBy w' row ∧ Need (min n.toNat xs.length) w' := by
  obtain ⟨i0, hi, hz0, hz1, hz2⟩ := info_parts Try.info3
  have hnf := run_eql_func_nil43 gf lb
  by_cases hn : n < 1
  · have hnz : n.toNat = 0 := by omega
    rw [hnz]
    simp only [Nat.zero_min, List.take_zero]
    clear hnz
    refine (callsIn_wide (n := 10)).1 ?_
    refine callsIn_of_wp_marks Try.func16 rfl trivial ?_
    simp only [Try.ntmps16, List.size_toArray, List.length_cons, List.length_nil, Nat.reduceAdd, Nat.reduceSub, Array.replicate_succ, Array.replicate_zero, List.push_toArray, List.append_toArray, List.nil_append, List.cons_append]
    gi_wp2
    have hbel : Below w.heap.size w ((w.alloc (.cells #[.int .i64 n] 3)).alloc (.cells #[.slice none 0 0] 22)) := ((Below.refl _ w).alloc (Nat.le_refl _) _).alloc (by simp) _
    refine ⟨_, results_tmp rfl _ _ _, ?_⟩
    exact ⟨none, 0, rfl, SlR.nil _ _, ⟨hbel.os, hbel.tape, hbel.output, hbel.size, fun i hi _ => hbel.block i hi⟩, hst _ _ _ h0 hbel⟩
  refine (callsIn_wide (n := 10)).1 ?_
  refine callsIn_of_wp_marks Try.func16 rfl trivial ?_
  simp only [Try.ntmps16, List.size_toArray, List.length_cons, List.length_nil, Nat.reduceAdd, Nat.reduceSub, Array.replicate_succ, Array.replicate_zero, List.push_toArray, List.append_toArray, List.nil_append, List.cons_append]
  gi_wp2
  have hnb : Boxed ((w.alloc (.cells #[.int .i64 n] 3)).alloc (.cells #[.slice none 0 0] 22)) w.heap.size 3 (.int .i64 n) := (Boxed.new w 3 (.int .i64 n)).alloc _
  have hbox : Boxed ((w.alloc (.cells #[.int .i64 n] 3)).alloc (.cells #[.slice none 0 0] 22)) (w.heap.size + 1) 22 (.slice none 0 0) := by
    have := Boxed.new (w.alloc (.cells #[.int .i64 n] 3)) 22 (.slice none 0 0); rwa [World.size_alloc] at this
  have hbel : Below w.heap.size w ((w.alloc (.cells #[.int .i64 n] 3)).alloc (.cells #[.slice none 0 0] 22)) := ((Below.refl _ w).alloc (Nat.le_refl _) _).alloc (by simp) _
  have hsz : ((w.alloc (.cells #[.int .i64 n] 3)).alloc (.cells #[.slice none 0 0] 22)).heap.size = w.heap.size + 2 := by simp
  generalize (w.alloc (.cells #[.int .i64 n] 3)).alloc (.cells #[.slice none 0 0] 22) = w0 at hnb hbox hbel hsz ⊢
  refine rf_stmt (gf := gf) (lb := lb) rfl eg ?_
  rw [hsz]
  intro fn W1 hb1 hs1 hd1 hl1
  have hN1 : Boxed W1 w.heap.size 3 (.int .i64 n) := (hb1.block _ (by omega)).trans hnb
  have hB1 : Boxed W1 (w.heap.size + 1) 22 (.slice none 0 0) := (hb1.block _ (by omega)).trans hbox
  have hbw : Below w.heap.size w W1 := hbel.trans (hb1.mono (by omega))
  generalize hrec : rfRec fn _ _ _ _ (w.heap.size + 2) = rec at hl1
  refine (callsIn_wide.2 (hit 5 (w.heap.size + 2 + 1) (fun k A => Coll w (w.heap.size + 1) Need row (w.heap.size + 2 + 1) (w.heap.size + 2) (w.heap.size + 1) (rec .ready none) (xs.map (Value.int .i64)) k k A ∧ Boxed A w.heap.size 3 (.int .i64 n) ∧ (k : Int) < n)
    (fun k A => Coll w (w.heap.size + 1) Need row (w.heap.size + 2 + 1) (w.heap.size + 2) (w.heap.size + 1) (rec .ready none) (xs.map (Value.int .i64)) k (k + 1) A ∧ Boxed A w.heap.size 3 (.int .i64 n) ∧ (k : Int) < n)
    (fun k A => Coll w (w.heap.size + 1) Need row (w.heap.size + 2 + 1) (w.heap.size + 2) (w.heap.size + 1) (rec .done (some (.exit 0))) (xs.map (Value.int .i64)) k k A ∧ (k : Int) = n) W1
    (fun k A h => h.1.need)
    (fun k A B _ h hn hg => ⟨h.1.below hg hrow (by omega) (by omega) (by omega) hn, h.2.1.kept hg (fun e => by have := hrow _ e.symm; omega), h.2.2⟩)
    (fun k A B h hg => ⟨h.1.more hst hg, h.2.1.kept hg (by simp), h.2.2⟩)
    (fun k A B h hg => ⟨h.1.more hst hg, h.2⟩)
    (fun k x A hx h => ?_)
    ⟨⟨hst _ _ _ h0 hbw, ⟨hbw.os, hbw.tape, hbw.output, hbw.size, fun i hi _ => hbw.block i hi⟩, hl1, hd1, by omega, _, hB1, World.ownsRow_nil _ _ _ _⟩, hN1, by omega⟩)).mono ?_
  · obtain ⟨h, hbn, hkn⟩ := h
    have hlr := h.loop
    subst hrec
    obtain ⟨q, hq⟩ : ∃ q : Int, x = .int .i64 q := by
      rw [List.getElem?_map] at hx
      cases hxk : xs[k]? with
      | none => simp [hxk] at hx
      | some q => exact ⟨q, by simpa [hxk] using hx.symm⟩
    subst hq
    refine rf_round1 _ hlr rfl (fun K hK => by gi_wp2; exact hK) ?_
    intro rb
    have h2 := h.turn (rec' := rb) hst (by omega) (by omega) (by omega)
    have hbn2 : Boxed (A.putObj (w.heap.size + 2 + 1) (.loop rb)) w.heap.size 3 (.int .i64 n) := hbn.kept (grownBy_putObj' _ _ _) (by simp; omega)
    generalize A.putObj _ _ = A2 at h2 hbn2 ⊢
    clear h hlr hbn
    obtain ⟨v, hv, ho⟩ := h2.box
    have hvc := hv.cell
    have hlk : k < xs.length := by
      have := (List.getElem?_eq_some_iff.1 hx).1
      simpa using this
    have HX := Lib.hid hx; clear hx
    have hsz2 : w.heap.size + 1 ≤ A2.heap.size := by have := hv.lt; omega
    rcases (show (k : Int) + 1 = n ∨ (k : Int) + 1 < n by omega) with hlast | hlast
    · have HL := Lib.hid hlast
      subst hlast
      gi_wp2_with (gi_at_builtin; refine wpListIn_append_own _ rfl _ _ 22 rfl (w.heap.size + 1) 3 i0 (.int .i64 0) 1 8 Try.underlying22 hi hz0 hz1 hz2 rfl (by decide) _ _ _ rfl (ho.alloc _) ⟨A2.heap.size, 0, none⟩ 1 1 [.int .i64 q] rfl rfl (cell_one_new _ _ _) (by simp [Value.oneCell']) (by unfold maxLen; omega) (by omega) (by simp; omega) ?_; intro v' w1 hown' hgrow _; obtain ⟨g', cap', rfl⟩ := ownsRow_succ hown'; obtain ⟨hv1, hv2, hr2, hk2, hb2⟩ := hv.appended (by decide) ho hsz2 (Nat.le_refl _) hown' hgrow; have hc1 := hv1.cell; have hf1 := hv1.frozen; have hc2 := hv2.cell; have hn2 := Boxed.cell (show Boxed _ w.heap.size 3 _ from (hb2.block w.heap.size (by omega)).trans hbn2))
      have h3 := h2.step hst HX.out hk2 hb2 hv2 hr2
      exact ⟨h3.loop, rfl, h3.turn hst (by omega) (by omega) (by omega)⟩
    · have hne : ((k : Int) + 1 == n) = false := by simp; omega
      gi_wp2_with (gi_at_builtin; refine wpListIn_append_own _ rfl _ _ 22 rfl (w.heap.size + 1) 3 i0 (.int .i64 0) 1 8 Try.underlying22 hi hz0 hz1 hz2 rfl (by decide) _ _ _ rfl (ho.alloc _) ⟨A2.heap.size, 0, none⟩ 1 1 [.int .i64 q] rfl rfl (cell_one_new _ _ _) (by simp [Value.oneCell']) (by unfold maxLen; omega) (by omega) (by simp; omega) ?_; intro v' w1 hown' hgrow _; obtain ⟨g', cap', rfl⟩ := ownsRow_succ hown'; obtain ⟨hv1, hv2, hr2, hk2, hb2⟩ := hv.appended (by decide) ho hsz2 (Nat.le_refl _) hown' hgrow; have hc1 := hv1.cell; have hf1 := hv1.frozen; have hc2 := hv2.cell; have hn2 := Boxed.cell (show Boxed _ w.heap.size 3 _ from (hb2.block w.heap.size (by omega)).trans hbn2))
      have h3 := h2.step hst HX.out hk2 hb2 hv2 hr2
      have hb3 : Boxed (w1.setCell ⟨w.heap.size + 1, 0, none⟩ (.slice (some ⟨g', 0, none⟩) (k + 1) cap')) w.heap.size 3 (.int .i64 n) := (hb2.block w.heap.size (by omega)).trans hbn2
      first | exact ⟨h3.loop, .inl ⟨rfl, h3.turn hst (by omega) (by omega) (by omega), hb3.kept (grownBy_putObj' _ _ _) (by simp; omega)⟩⟩ | exact ⟨h3.loop, .inl ⟨rfl, h3.turn hst (by omega) (by omega) (by omega), hb3.kept (grownBy_putObj' _ _ _) (by simp; omega), by omega⟩⟩
  · rintro e W2 ⟨hv, ⟨hc, hbn, hkn⟩ | ⟨k, hk, hc, hkn⟩⟩
    · rw [List.length_map] at hc hkn
      have hlr := hc.loop
      subst hrec
      refine ⟨hv, .ready, none, by simp, hlr, ?_⟩
      intro re
      have hc2 := hc.turn (rec' := re) hst (by omega) (by omega) (by omega)
      dsimp only
      generalize W2.putObj _ _ = W3 at hc2 ⊢
      clear hc hlr hbn
      obtain ⟨v, hv, ho⟩ := hc2.box
      have hvc := hv.cell
      have hmin := Lib.hid (show min n.toNat xs.length = xs.length by omega)
      have htk := Lib.hid (show xs.take n.toNat = xs from List.take_of_length_le (by omega))
      gi_wp2
      refine ⟨by simp, .inl ⟨_, _, rfl, run_takeDeferred hc2.dfr, ?_⟩⟩
      refine ⟨_, results_tmp rfl _ _ _, ?_⟩
      rw [hmin.out, htk.out]
      obtain ⟨go, c, rfl, hsl, _⟩ := SlR.of_owns (ownsRow_putObj ho (.deferred none) hc2.dfr rfl)
      refine ⟨go, c, by simp, by rw [List.take_of_length_le (by simp)] at hsl; exact hsl, grownBy_below hc2.grown (below_putObj _ (by omega)), ?_⟩
      exact hst _ _ _ hc2.need (below_putObj (l := w.heap.size + 2) (.deferred none) (by omega))
    · rw [List.length_map] at hk
      have hlr := hc.loop
      subst hrec
      refine ⟨hv, .done, some (.exit 0), by simp, hlr, ?_⟩
      intro re
      have hc2 := hc.turn (rec' := re) hst (by omega) (by omega) (by omega)
      dsimp only
      generalize W2.putObj _ _ = W3 at hc2 ⊢
      clear hc hlr
      obtain ⟨v, hv, ho⟩ := hc2.box
      have hvc := hv.cell
      have hnk := Lib.hid (show n.toNat = k by omega)
      have hmin := Lib.hid (show min k xs.length = k by omega)
      clear hkn
      gi_wp2
      refine ⟨by simp, .inl ⟨_, _, rfl, run_takeDeferred hc2.dfr, ?_⟩⟩
      refine ⟨_, results_tmp rfl _ _ _, ?_⟩
      rw [hnk.out, hmin.out]
      obtain ⟨go, c, rfl, hsl, _⟩ := SlR.of_owns (ownsRow_putObj ho (.deferred none) hc2.dfr rfl)
      refine ⟨go, c, by simp, by rw [← List.map_take] at hsl; exact hsl, grownBy_below hc2.grown (below_putObj _ (by omega)), ?_⟩
      exact hst _ _ _ hc2.need (below_putObj (l := w.heap.size + 2) (.deferred none) (by omega))

end Go.Proofs.Ytkogdiglpncolaa
