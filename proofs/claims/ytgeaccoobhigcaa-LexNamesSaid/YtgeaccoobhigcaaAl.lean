/-
  lex.All: all tokens in a slice.
-/
import Derived.Test.YtgeaccoobhigcaaCo
namespace Go.Proofs.Ytgeaccoobhigcaa
open Go Go.RowKit
attribute [local go_sem] Oper.semAt_some

/-- lex.Tokens: an iterator over the text. -/
theorem tokens_any (s : ByteArray) (w : World) :
    Calls Try.prog 26 #[.string s] w fun e w' => e = .returned (.func (.func 56) #[] #[.pointer (some ⟨w.heap.size, 0, none⟩)]) ∧ w' = w.alloc (.cells #[.string s] 9) := by
  go_enter Try.func26, Try.ntmps26
  go_wp2
  go_ret
  exact ⟨rfl, rfl⟩

set_option maxRecDepth 100000 in
theorem eg56 (args : Array Value) (w : World) : (callFunc 56 args).run Try.prog w = .ok (.enter 56 args) w := rfl

/-- ONE ROUND, the busy record under a name. -/
theorem rf_round2 {m : Nat} {P : Program} {l D : Nat} {fn : FuncId} {tmps : Array Value} {ps : Array Tmp} {assign body : Code} {args : Array Value} {W : World} {R : Ending → World → Prop}
    (hl : W.heap[l]? = some (.loop (rfRec fn tmps ps assign body D .ready none))) (hps : args.size = ps.size)
    (H : ∀ rb, assign.wpIn (Fence.wide.inRound l) m P (Exit.then (fun a₁ W1 => W1.heap[l]? = some (.loop (rfRec fn tmps ps assign body D .ready none)) ∧
        body.wpIn (Fence.wide.inRound l) m P (rfEnd l rb (rfRec fn tmps ps assign body D) R) a₁ (W1.putObj l (.loop rb))) (fun _ _ _ => False))
      { tmps := (ps.zip args).foldl (fun t (p, v) => t.setIfInBounds p v) tmps, defers := [] } W) :
    YieldAt Fence.wide m P l args W R := rf_round hl hps (H _)

theorem row3_new (W : World) (a b c : Value) (t : TypeId) : ∀ j u, [a, b, c][j]? = some u → (W.alloc (.cells #[a, b, c] t)).cell? ((⟨W.heap.size, 0, none⟩ : Addr).add j) = some u :=
  CellsAt.of_block (heap_alloc_new W _) 0 _ (by intro j u h; simpa using h)

set_option maxHeartbeats 2000000 in
theorem lexAll_any (s : ByteArray) (hs : s.size ≤ 1099511627776) (w : World) :
    Calls Try.prog 24 #[.string s] w fun e w' => ∃ go c, e = .returned (.slice go (toks s.data.toList).length c) ∧ SlR w' 3 go (toks s.data.toList).length c (cellsT (toks s.data.toList)) ∧
      (∀ a, go = some a → w.heap.size ≤ a.block) ∧ Below w.heap.size w w' := by
  obtain ⟨i0, hi, hz0, hz1, hz2⟩ := info_parts Try.info30
  have hlen := toks_length s.data.toList
  rw [size_toList] at hlen
  have hitr := fun Bt => tokens_iter Bt s hs
  generalize toks s.data.toList = L at hlen hitr ⊢
  refine (callsIn_wide (n := 10)).1 ?_
  refine callsIn_of_wp_marks Try.func24 rfl trivial ?_
  simp only [Try.ntmps24, List.size_toArray, List.length_cons, List.length_nil, Nat.reduceAdd, Nat.reduceSub, Array.replicate_succ, Array.replicate_zero, List.push_toArray, List.append_toArray, List.nil_append, List.cons_append]
  gi_wp2_with (refine ⟨trivial, ?_⟩; gi_at_call 26; refine (callsIn_wide.2 (tokens_any _ _)).mono ?_; rintro e W1 ⟨rfl, rfl⟩)
  have hbox : Boxed ((w.alloc (.cells #[.slice none 0 0] 26)).alloc (.cells #[.string s] 9)) w.heap.size 26 (.slice none 0 0) := (Boxed.new w 26 (.slice none 0 0)).alloc _
  have htx : Boxed ((w.alloc (.cells #[.slice none 0 0] 26)).alloc (.cells #[.string s] 9)) (w.heap.size + 1) 9 (.string s) := by
    have := Boxed.new (w.alloc (.cells #[.slice none 0 0] 26)) 9 (.string s); rwa [World.size_alloc] at this
  have hbel : Below w.heap.size w ((w.alloc (.cells #[.slice none 0 0] 26)).alloc (.cells #[.string s] 9)) := ((Below.refl _ w).alloc (Nat.le_refl _) _).alloc (by simp) _
  have hsz : ((w.alloc (.cells #[.slice none 0 0] 26)).alloc (.cells #[.string s] 9)).heap.size = w.heap.size + 2 := by simp
  generalize (w.alloc (.cells #[.slice none 0 0] 26)).alloc (.cells #[.string s] 9) = w0 at hbox htx hbel hsz ⊢
  refine rf_stmt (gf := 56) (lb := #[.pointer (some ⟨w.heap.size + 1, 0, none⟩)]) rfl eg56 ?_
  rw [hsz]
  intro fn W1 hb1 hs1 hd1 hl1
  have hB1 : Boxed W1 w.heap.size 26 (.slice none 0 0) := (hb1.block _ (by omega)).trans hbox
  have hT1 : Boxed W1 (w.heap.size + 1) 9 (.string s) := (hb1.block _ (by omega)).trans htx
  have hbw : Below w.heap.size w W1 := hbel.trans (hb1.mono (by omega))
  generalize hrec : rfRec fn _ _ _ _ (w.heap.size + 2) .ready none = rec at hl1
  have sd : w.heap.size ≤ w.heap.size ∧ w.heap.size < w.heap.size + 2 ∧ w.heap.size + 1 < w.heap.size + 2 ∧ w.heap.size + 1 ≠ w.heap.size ∧ w.heap.size + 2 ≤ w.heap.size + 2 ∧ w.heap.size + 2 < w.heap.size + 2 + 1 := by omega
  generalize hBt : w.heap.size + 1 = Bt at *
  generalize hD : w.heap.size + 2 = D at *
  generalize hl : D + 1 = l at *
  refine (callsIn_wide.2 (hitr Bt 5 l
    (fun k A => Coll w D Bt s l D w.heap.size rec L k none A)
    (fun k p A => Coll w D Bt s l D w.heap.size rec L k p A)
    (fun _ _ => False) W1
    (fun k A h => h.need.cell)
    (fun k A B p _ h hg hp => h.shutNew hg p hp)
    (fun k A B h hg => h.more hg)
    (fun _ _ _ h _ => h)
    (fun k p x A hx h => ?_)
    ⟨hT1, hbw, hl1, hd1, by omega, sd, ⟨_, hB1, World.ownsRow_nil _ _ _ _, by intro g o e; cases e⟩, fun g o e => (by cases e), fun g o e => (by cases e)⟩)).mono ?_
  · have hlr := h.loop
    subst hrec
    obtain ⟨t, hLk, rfl⟩ : ∃ t : Tk, L[k]? = some t ∧ x = t.val := by
      rw [List.getElem?_map] at hx
      cases hxk : L[k]? with
      | none => simp [hxk] at hx
      | some q => exact ⟨q, rfl, by simpa [hxk] using hx.symm⟩
    obtain ⟨kd, tx, ps⟩ := t
    rw [show Tk.val ⟨kd, tx, ps⟩ = .agg #[.int .i64 kd, .string ⟨tx.toArray⟩, .int .i64 ps] from rfl]
    refine rf_round2 hlr rfl ?_
    intro rb
    have HLK := Lib.hid hLk
    clear hx hLk
    gi_wp2
    have h1 := h.more (World.grownBy_alloc A (.cells #[.int .i64 kd, .string ⟨tx.toArray⟩, .int .i64 ps] 30) none)
    have ht : (A.alloc (.cells #[.int .i64 kd, .string ⟨tx.toArray⟩, .int .i64 ps] 30)).heap[A.heap.size]? = some (.cells #[.int .i64 kd, .string ⟨tx.toArray⟩, .int .i64 ps] 30 (0, 0)) := heap_alloc_new A _
    refine ⟨h1.loop, ?_⟩
    have hAl : A.heap.size ≠ l := by have := lt_of_block h.loop; omega
    have h2 := h1.turn (rec' := rb)
    have ht2 : ((A.alloc (.cells #[.int .i64 kd, .string ⟨tx.toArray⟩, .int .i64 ps] 30)).putObj l (.loop rb)).heap[A.heap.size]? = _ := (World.putObj_heap_other hAl).trans ht
    have hnl := h.nl
    have hpo := h.off
    have hsA : A.heap.size < ((A.alloc (.cells #[.int .i64 kd, .string ⟨tx.toArray⟩, .int .i64 ps] 30)).putObj l (.loop rb)).heap.size := by simp
    generalize (A.alloc (.cells #[.int .i64 kd, .string ⟨tx.toArray⟩, .int .i64 ps] 30)).putObj l (.loop rb) = A2 at h2 ht2 hsA ⊢
    have hc0 : A2.cell? ⟨A.heap.size, 0, none⟩ = some (.int .i64 kd) := by rw [cell_of_row _ _ _ _ _ _ ht2]; rfl
    have hc1 : A2.cell? ⟨A.heap.size, 1, none⟩ = some (.string ⟨tx.toArray⟩) := by rw [cell_of_row _ _ _ _ _ _ ht2]; rfl
    have hc2 : A2.cell? ⟨A.heap.size, 2, none⟩ = some (.int .i64 ps) := by rw [cell_of_row _ _ _ _ _ _ ht2]; rfl
    obtain ⟨v, hv, ho, hpv⟩ := h2.box
    have hvc := hv.cell
    have hlk : k < L.length := by
      have := HLK.out
      exact (List.getElem?_eq_some_iff.1 this).1
    have hnl2 := h2.nl
    clear ht ht2 h1
    gi_wp2_with (gi_at_builtin; refine wpListIn_append_own _ rfl _ _ 26 rfl D 30 i0 (.agg #[.int .i64 0, .string ⟨#[]⟩, .int .i64 0]) 3 32 Try.underlying26 hi hz0 hz1 hz2 rfl (by decide) _ _ _ rfl (ho.alloc _) ⟨A2.heap.size, 0, none⟩ 1 1 [.int .i64 kd, .string ⟨tx.toArray⟩, .int .i64 ps] rfl rfl (row3_new _ _ _ _ _) (by simp [Value.oneCell']) (by unfold maxLen; omega) (by omega) (by simp; omega) ?_; intro v' w1 hown' hgrow _; obtain ⟨g', cap', rfl⟩ := ownsRow_succ hown'; have hv1 := (hv.alloc (.cells #[.int .i64 kd, .string ⟨tx.toArray⟩, .int .i64 ps] 30)).kept hgrow (hv.not_row (by decide) ho); have hvc1 := hv1.cell; have hvf1 := hv1.frozen)
    obtain ⟨h3, hsh3, _⟩ := h2.step (x := ⟨kd, tx, ps⟩) HLK.out hv ho hpv rfl hown' hgrow
    exact ⟨h3.loop, ⟨rfl, h3.turn⟩, fun g o e => (World.putObj_heap_other (hpo g o e).1).trans (hsh3 g o e)⟩
  · rintro e W2 ⟨hv, hc | ⟨_, _, hf⟩⟩
    · have hlr := hc.loop
      subst hrec
      refine ⟨hv, .ready, none, by simp, hlr, ?_⟩
      intro re
      have hc2 := hc.turn (rec' := re)
      dsimp only
      generalize W2.putObj _ _ = W3 at hc2 ⊢
      clear hc hlr
      obtain ⟨v, hv, ho, _⟩ := hc2.box
      have hvc := hv.cell
      have hDr := hc2.dfr
      have hbl := hc2.bel
      rw [List.length_map] at ho
      gi_wp2
      refine ⟨by simp, .inl ⟨_, _, rfl, run_takeDeferred hDr, ?_⟩⟩
      refine ⟨_, results_tmp rfl _ _ _, ?_⟩
      obtain ⟨go, c, rfl, hsl, hbk⟩ := SlR.of_owns (ownsRow_putObj ho (.deferred none) hDr rfl)
      rw [List.take_of_length_le (Nat.le_refl _)] at hsl
      exact ⟨go, c, by simp, hsl, fun a ha => by have := hbk a ha; omega, hbl.trans (below_putObj _ (by omega))⟩
    · exact hf.elim
end Go.Proofs.Ytgeaccoobhigcaa
