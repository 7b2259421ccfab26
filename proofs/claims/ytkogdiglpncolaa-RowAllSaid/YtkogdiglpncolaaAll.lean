/-
  The walk of the law RowAll: it returns true and leaves what was there as it was, at every argument.
-/
import Derived.Test.YtkogdiglpncolaaUs
import Derived.Shelf.RegionOpen
namespace Go.Proofs.Ytkogdiglpncolaa
open Go Go.RowKit
attribute [local go_sem] Oper.semAt_some

/-- The state of the law's loop when k elements have come. -/
structure AllSt (w : World) (R Q b G : Nat) (go : Option Addr) (len c1 : Nat) (zs : List Int) (rec : Loop) (k : Nat) (A : World) : Prop where
  bel : Below R w A
  res : Boxed A R 4 (.bool false)
  qbx : Boxed A Q 41 (.pointer (some ⟨b, 0, none⟩))
  old : IntSl A go len c1 zs
  loop : A.heap[G + 2 + 1]? = some (.loop rec)
  dfr : A.heap[G + 2]? = some (.deferred (some []))
  que : ∃ g c vs v, A.heap[b]? = some (.cells #[.int .i64 1000, .slice g (len + k) c] 62 (0, 0)) ∧ IntSl A g (len + k) c vs ∧ Boxed A G 22 v ∧ A.ownsRow G 3 1 v k ((zs.take k).map (Value.int .i64)) ∧
    InB (fun i => i ≠ b ∧ i ≠ G ∧ v.ownBlock ≠ some i) g (len + k)

/-- A turn of the loop's record keeps it. -/
theorem AllSt.turn {w : World} {R Q b G : Nat} {go : Option Addr} {len c1 : Nat} {zs : List Int} {rec : Loop} {k : Nat} {A : World} (h : AllSt w R Q b G go len c1 zs rec k A) (rec' : Loop) (hR : R < G) (hQ : Q < G) (hb : b < G) (hgo : InB (fun i => i < Q) go len) :
    AllSt w R Q b G go len c1 zs rec' k (A.putObj (G + 2 + 1) (.loop rec')) := by
  obtain ⟨g, c, vs, v, h1, h2, h3, h4, h5⟩ := h.que
  have hp := grownBy_putObj' A (G + 2 + 1) (.loop rec')
  have hl := h.loop
  refine ⟨h.bel.trans (below_putObj _ (by omega)), h.res.kept hp (by simp; omega), h.qbx.kept hp (by simp; omega), SlR.grown h.old hp (fun i e => by cases e; exact fun a ha hn => by have := hgo a ha hn; omega), World.putObj_heap_same (lt_of_block hl), (World.putObj_heap_other (by omega)).trans h.dfr,
    g, c, vs, v, (World.putObj_heap_other (by omega)).trans h1, SlR.putObj h2 _ hl rfl, h3.kept hp (by simp; omega), ownsRow_putObj h4 _ hl rfl, h5⟩

/-- New blocks keep it. -/
theorem AllSt.more {w : World} {R Q b G : Nat} {go : Option Addr} {len c1 : Nat} {zs : List Int} {rec : Loop} {k : Nat} {A B : World} (h : AllSt w R Q b G go len c1 zs rec k A) (hg : A.grownBy B none) : AllSt w R Q b G go len c1 zs rec k B := by
  obtain ⟨g, c, vs, v, h1, h2, h3, h4, h5⟩ := h.que
  exact ⟨h.bel.trans (below_of_grown hg (by have := h.res.lt; omega)), h.res.kept hg (by simp), h.qbx.kept hg (by simp), SlR.grown h.old hg (by simp), (hg.block _ (lt_of_block h.loop) (by simp)).trans h.loop, (hg.block _ (lt_of_block h.dfr) (by simp)).trans h.dfr,
    g, c, vs, v, (hg.block _ (lt_of_block h1) (by simp)).trans h1, SlR.grown h2 hg (by simp), h3.kept hg (by simp), h4.kept hg (by cases v.ownBlock <;> simp), h5⟩

set_option maxRecDepth 100000 in
set_option maxHeartbeats 2000000 in
theorem rowAll_walk (ao : Option Addr) (len cap : Nat) (zs : List Int) (nn : Int) (w : World) (hz : IntSl w ao len cap zs) :
    Calls Try.prog 5 #[.slice ao len cap, .int .i64 nn] w fun e w' => e = .returned (.bool true) ∧ Below w.heap.size w w' := by
  have HL : Hid (zs.length = len) := Lib.hid (by have := hz.1; simpa using this)
  have hcap : (len : Int) ≤ cap := by have := hz.2.1; omega
  have bl : len ≤ 9223372036854775807 := by have := hz.2.1; have := hz.2.2.1; unfold maxLen at this; omega
  have hbox := Boxed.new w 4 (.bool false)
  have hbel : Below w.heap.size w (w.alloc (.cells #[.bool false] 4)) := (Below.refl _ w).alloc (Nat.le_refl _) _
  have hsz : (w.alloc (.cells #[.bool false] 4)).heap.size = w.heap.size + 1 := by simp
  obtain ⟨i0, hi, hz0', hz1, hz2'⟩ := info_parts Try.info3
  by_cases hbig : 100 < len
  · refine (callsIn_wide (n := 10)).1 ?_
    refine callsIn_of_wp_marks Try.func5 rfl trivial ?_
    simp only [Try.ntmps5, List.size_toArray, List.length_cons, List.length_nil, Nat.reduceAdd, Nat.reduceSub, Array.replicate_succ, Array.replicate_zero, List.push_toArray, List.append_toArray, List.nil_append, List.cons_append]
    gi_wp2_with fail
    refine ⟨trivial, (callsIn_wide.2 (wakes_any _)).mono ?_⟩
    rintro e w' ⟨rfl, hg⟩
    have hb1 := hbox.kept hg (by simp)
    have hc := hb1.cell
    have hf := hb1.frozen
    have hr := (hb1.set (.bool true)).cell
    gi_wp2_with fail
    refine ⟨.bool true, ?_, rfl, (hbel.trans (below_of_grown hg (by omega))).setCell (p := ⟨w.heap.size, 0, none⟩) (Nat.le_refl _) _⟩
    simp [results, Try.results5, go_sem, hr]
  have hz0 : IntSl (w.alloc (.cells #[.bool false] 4)) ao len cap zs := SlR.grown hz (World.grownBy_alloc w _ none) (by simp)
  generalize hR : w.heap.size = R at *
  generalize hw0 : w.alloc (.cells #[.bool false] 4) = w0 at *
  refine (callsIn_wide (n := 10)).1 ?_
  refine callsIn_of_wp_marks Try.func5 rfl trivial ?_
  simp only [Try.ntmps5, List.size_toArray, List.length_cons, List.length_nil, Nat.reduceAdd, Nat.reduceSub, Array.replicate_succ, Array.replicate_zero, List.push_toArray, List.append_toArray, List.nil_append, List.cons_append]
  gi_wp2_with fail
  have HR := Lib.hid hR; clear hR
  have HW0 := Lib.hid hw0; clear hw0
  refine ⟨trivial, (callsIn_wide.2 (made_any ao len cap zs w0 hz0 (by omega))).mono ?_⟩
  rintro e w1 ⟨b, rfl, hb0, hg1, go, c1, hb1, hsl1, hoff1⟩
  have hR1 := hbox.kept hg1 (by simp)
  have hbel1 : Below R w w1 := hbel.trans (below_of_grown hg1 (by omega))
  gi_wp2_with fail
  have hq2 := Boxed.new w1 41 (.pointer (some ⟨b, 0, none⟩))
  have hg2 : w1.grownBy (w1.alloc (.cells #[.pointer (some ⟨b, 0, none⟩)] 41)) none := World.grownBy_alloc w1 _ none
  have hsz2 : (w1.alloc (.cells #[.pointer (some ⟨b, 0, none⟩)] 41)).heap.size = w1.heap.size + 1 := by simp
  have hbb := lt_of_block hb1
  generalize hQ : w1.heap.size = Q at *
  generalize w1.alloc (.cells #[.pointer (some ⟨b, 0, none⟩)] 41) = w2 at *
  have hb2 := (hg2.block b (by omega) (by simp)).trans hb1
  have hsl2 := SlR.grown hsl1 hg2 (by simp)
  have hR2 := hR1.kept hg2 (by simp)
  have hbel2 : Below R w w2 := hbel1.trans (below_of_grown hg2 (by have := hR1.lt; omega))
  have hz2 := SlR.below hz hbel2 (by rw [← HR.out]; exact SlR.inB hz (by omega))
  refine ⟨trivial, (callsIn_wide.2 (within_any nn (len + 1) w2 (by omega) (by omega))).mono ?_⟩
  rintro e w' ⟨rfl, rfl⟩
  have k0 : 0 ≤ nn % ((len : Int) + 1) := Int.emod_nonneg _ (by omega)
  have k1 : nn % ((len : Int) + 1) < (len : Int) + 1 := Int.emod_lt_of_pos _ (by omega)
  obtain ⟨k, hk⟩ : ∃ k : Nat, nn % ((len : Int) + 1) = (k : Int) := ⟨(nn % ((len : Int) + 1)).toNat, by omega⟩
  rw [hk] at k0 k1 ⊢
  clear hk
  have hkl : k ≤ len := by omega
  have hq2c := hq2.cell
  have k2 : (k : Int) ≤ cap := by omega
  have HB1 := Lib.hid hb1; clear hb1
  have HB2 := Lib.hid hb2; clear hb2
  have HQ := Lib.hid hQ; clear hQ
  have HS2 := Lib.hid hsz2; clear hsz2
  have hmix : Try.prog.follows .mixedOrders = true := by kernel_rfl
  have hfirst : Calls Try.prog 19 #[.func (.func 30) #[] #[.pointer (some ⟨w2.heap.size, 0, none⟩)], .int .i64 k] (w2.alloc (.cells #[.pointer (some ⟨b, 0, none⟩)] 41)).drew fun e w' =>
      ∃ go c', e = .returned (.slice go k c') ∧ IntSl w' go k c' (zs.take k) ∧ w2.grownBy w' none := by
    refine (all_first w2.heap.size b 1000 k len c1 go zs (w2.alloc (.cells #[.pointer (some ⟨b, 0, none⟩)] 41)).drew (Boxed.new w2 41 _) ((Below.heap_alloc w2 _ b (lt_of_block HB2.out)).trans HB2.out) (SlR.grown hsl2 (World.grownBy_alloc w2 _ none) (by simp)).drew (by rw [HL.out]; omega)).mono ?_
    rintro e w' ⟨go', c', rfl, h1, h2⟩
    rw [Int.toNat_natCast, HL.out, show min k len = k by omega] at h1 ⊢
    exact ⟨go', c', rfl, h1, grownBy_trans (World.grownBy_alloc w2 _ none) (grownBy_of_drew h2)⟩
  gi_wp2_with fail
  refine wpIn_mono (Q := NoPanic _) ?_ NoPanic.imp
  gi_region_with_o (first | (refine ⟨trivial, ?_⟩; gi_at_call 20; refine (callsIn_wide.2 (all_mk (some ⟨b, 0, none⟩) _)).mono ?_; rintro e w3 ⟨rfl, rfl⟩) | (refine ⟨trivial, ?_⟩; gi_at_call 19; refine (callsIn_wide.2 hfirst).mono ?_; rintro e w4 ⟨go4, c4, rfl, hsl4, hg4⟩) | (refine ⟨trivial, ?_⟩; gi_at_call 17; refine (callsIn_wide.2 (ints_any go4 ao k c4 k cap (zs.take k) (zs.take k) w4 hsl4 (SlR.take (SlR.grown hz2 hg4 (by simp)) hkl))).mono ?_; rintro e w5 ⟨rfl, j, rfl⟩; rw [decide_eq_true rfl]))
  refine NoPanic.normal ?_
  have hg5 : w2.grownBy (w4.drewN j) none := grownBy_drewN hg4 j
  generalize w4.drewN j = w5 at *
  have hR5 := hR2.kept hg5 (by simp)
  have hq5 := hq2.kept hg5 (by simp)
  have hb5 := (hg5.block b (lt_of_block HB2.out) (by simp)).trans HB2.out
  have hsl5 := SlR.grown hsl2 hg5 (by simp)
  have hz5 := SlR.grown hz2 hg5 (by simp)
  have hbel5 : Below R w w5 := hbel2.trans (below_of_grown hg5 (by have := hR2.lt; omega))
  have hq6c := (hq5.alloc (.cells #[.slice none 0 0] 22)).cell
  have hG6 := Boxed.new w5 22 (.slice none 0 0)
  have hg6 : w5.grownBy ((w5.alloc (.cells #[.slice none 0 0] 22)).alloc (.cells #[.pointer (some ⟨b, 0, none⟩)] 41)) none := grownBy_trans (World.grownBy_alloc w5 _ none) (World.grownBy_alloc _ _ none)
  have hG7 := hG6.alloc (.cells #[.pointer (some ⟨b, 0, none⟩)] 41)
  have hI7 := Boxed.new (w5.alloc (.cells #[.slice none 0 0] 22)) 41 (.pointer (some ⟨b, 0, none⟩))
  rw [World.size_alloc] at hI7
  have HB5 := Lib.hid hb5; clear hb5
  clear hfirst hq2c hsl4 hsl2 hz2 hbel2 hg4 hg5 hR2 hq2 HB2 hg2 HB1
  gi_wp2_with fail
  refine ⟨trivial, (callsIn_wide.2 (all_mk (some ⟨b, 0, none⟩) _)).mono ?_⟩
  rintro e w6 ⟨rfl, rfl⟩
  have hnf := run_eql_func_nil43 30 #[.pointer (some ⟨w5.heap.size + 1, 0, none⟩)]
  gi_wp2_with fail
  have hsz7 : ((w5.alloc (.cells #[.slice none 0 0] 22)).alloc (.cells #[.pointer (some ⟨b, 0, none⟩)] 41)).heap.size = w5.heap.size + 2 := by simp
  generalize hG : w5.heap.size = G at *
  generalize (w5.alloc (.cells #[.slice none 0 0] 22)).alloc (.cells #[.pointer (some ⟨b, 0, none⟩)] 41) = w7 at *
  refine rf_stmt (gf := 30) (lb := #[.pointer (some ⟨G + 1, 0, none⟩)]) rfl (fun _ _ => rfl) ?_
  rw [hsz7]
  intro fn W1 hbl1 hs1 hd1 hl1
  have hRG : R < G := by rw [← hG]; exact hR5.lt
  have hQG : Q < G := by rw [← hG]; exact hq5.lt
  have hbG : b < G := by omega
  have hgoQ : InB (fun i => i < Q) go len := by rw [← HQ.out]; exact SlR.inB hsl1 (by omega)
  generalize hrec : rfRec fn _ _ _ _ (G + 2) = rec at hl1
  have hst0 : AllSt w R Q b G go len c1 zs (rec .ready none) 0 W1 := by
    refine ⟨(hbel5.trans (below_of_grown hg6 (by omega))).trans (hbl1.mono (by omega)), (hbl1.block R (by omega)).trans (hR5.kept hg6 (by simp)), (hbl1.block Q (by omega)).trans (hq5.kept hg6 (by simp)),
      SlR.below (SlR.grown hsl5 hg6 (by simp)) hbl1 (fun a ha hn => by have := hgoQ a ha hn; omega), hl1, hd1, go, c1, zs, .slice none 0 0, (hbl1.block b (by omega)).trans ((hg6.block b (by omega) (by simp)).trans HB5.out),
      SlR.below (SlR.grown hsl5 hg6 (by simp)) hbl1 (fun a ha hn => by have := hgoQ a ha hn; omega), (hbl1.block G (by omega)).trans hG7, World.ownsRow_nil _ _ _ _, fun a ha hn => ⟨hoff1 a ha hn, by have := hgoQ a ha hn; omega, by simp [Value.ownBlock]⟩⟩
  have hI1 : W1.cell? ⟨G + 1, 0, none⟩ = some (.pointer (some ⟨b, 0, none⟩)) := by
    have : Boxed W1 (G + 1) 41 (.pointer (some ⟨b, 0, none⟩)) := (hbl1.block (G + 1) (by omega)).trans hI7
    exact this.cell
  refine (callsIn_wide.2 (all_iter (G + 1) b 1000 len c1 go zs 5 (G + 2 + 1)
    (fun k A => AllSt w R Q b G go len c1 zs (rec .ready none) k A ∧ (k = 0 → A.cell? ⟨G + 1, 0, none⟩ = some (.pointer (some ⟨b, 0, none⟩)) ∧ A.heap[b]? = some (.cells #[.int .i64 1000, .slice go len c1] 62 (0, 0))))
    (fun k A => AllSt w R Q b G go len c1 zs (rec .ready none) k A) (fun _ _ => False) W1
    (fun k A h => ⟨h.2, h.1.old⟩)
    (fun k A B _ h _ hg => h.1.more hg)
    (fun k A B h hg => ⟨h.1.more hg, fun hk => ⟨(World.cell?_of_block (hg.block _ (World.block_lt_of_cell? _ _ (h.2 hk).1) (by simp))).trans (h.2 hk).1, (hg.block b (lt_of_block (h.2 hk).2) (by simp)).trans (h.2 hk).2⟩⟩)
    (fun _ _ _ h _ => h)
    (fun k x A hx h => ?_)
    ⟨hst0, fun _ => ⟨hI1, (hbl1.block b (by omega)).trans ((hg6.block b (by omega) (by simp)).trans HB5.out)⟩⟩)).mono ?_
  · have hlr := h.loop
    subst hrec
    obtain ⟨q, hq⟩ : ∃ q : Int, x = .int .i64 q := by
      rw [List.getElem?_map] at hx
      cases hxk : zs[k]? with
      | none => simp [hxk] at hx
      | some q => exact ⟨q, by simpa [hxk] using hx.symm⟩
    subst hq
    refine rf_round1 _ hlr rfl (fun K hK => by gi_wp2; exact hK) ?_
    intro rb
    have h2 := h.turn rb hRG hQG hbG hgoQ
    generalize A.putObj _ _ = A2 at h2 ⊢
    clear h hlr
    have hlk : k < len := by
      have := (List.getElem?_eq_some_iff.1 hx).1
      simpa [HL.out] using this
    have HX := Lib.hid hx; clear hx
    obtain ⟨g, c, vs, v, hb2, hv2, hgv, how, hin2⟩ := h2.que
    obtain ⟨x0, xs0, rfl⟩ : ∃ x xs, vs = x :: xs := by
      cases vs with
      | nil => have := hv2.1; simp at this; omega
      | cons x xs => exact ⟨x, xs, rfl⟩
    obtain ⟨N, hN⟩ : ∃ N, len + k = N + 1 := ⟨len + k - 1, by omega⟩
    rw [hN] at hb2 hv2 hin2
    have hpop := pop_some_int b 1000 N c g A2 x0 (xs0.map (Value.int .i64)) hb2 hv2 (fun a ha hn => (hin2 a ha hn).1) (by omega)
    have hqc := h2.qbx.cell
    have hN199 : N ≤ 199 := by omega
    have HN := Lib.hid hN; clear hN
    have HB2 := Lib.hid hb2; clear hb2
    gi_wp2_with fail
    refine ⟨trivial, (callsIn_wide.2 hpop).mono ?_⟩
    rintro e A3 ⟨rfl, g3, c3, hb3, hs3, hin3, hg3⟩
    have hq3 := (h2.qbx.kept hg3 (by simp; omega)).cell
    have HB3 := Lib.hid hb3; clear hb3
    gi_wp2_with fail
    have hown := how.lt
    have hnew := SlR.new A3 [.int .i64 (wrap64 (-q)), .int .i64 7] 3 (by simp [maxLen])
    have hb3' := (Below.heap_alloc A3 (.cells #[.int .i64 (wrap64 (-q)), .int .i64 7] 3) b (lt_of_block HB3.out)).trans HB3.out
    have hg3a : A2.grownBy (A3.alloc (.cells #[.int .i64 (wrap64 (-q)), .int .i64 7] 3)) (some b) := grownBy_trans hg3 (World.grownBy_alloc A3 _ _)
    have hpush := push_yes_int b 1000 N c3 2 2 g3 _ _ (xs0.map (Value.int .i64)) [.int .i64 (wrap64 (-q)), .int .i64 7] hb3' (by omega) (by omega) (SlR.grown hs3 (World.grownBy_alloc A3 _ none) (by simp)) (fun a ha hn => (hin3 _ hin2 a ha hn).1) hnew (by omega)
    refine ⟨trivial, (callsIn_wide.2 hpush).mono ?_⟩
    rintro e A4 ⟨rfl, g4, c4, hb4, hs4, hin4, hg4⟩
    have hg24 := grownBy_trans hg3a hg4
    have hin4' : InB (fun i => i ≠ b ∧ i ≠ G ∧ v.ownBlock ≠ some i) g4 (N + 2) := hin4 _ (hin3 _ hin2) ⟨by have := lt_of_block HB2.out; have := hg3a.size; omega, by have := hgv.lt; have := hg3a.size; omega, fun e => by have := hown _ e; have := hg3a.size; omega⟩
    have hgv4 := hgv.kept hg24 (by simp; omega)
    have how4 := how.kept hg24 (by
      cases hvo : v.ownBlock with
      | none => exact .inl rfl
      | some i => exact .inr (by intro e; cases e; have := hown _ hvo; omega))
    have hgc4 := hgv4.cell
    have hsz4 : G ≤ A4.heap.size := by have := hgv4.lt; omega
    have HB4 := Lib.hid hb4; clear hb4 hb3'
    clear hpop hnew hpush hin4 hin3
    gi_wp2_with (gi_at_builtin; refine wpListIn_append_at _ rfl _ _ 22 rfl G 3 i0 (.int .i64 0) 1 8 Try.underlying22 hi hz0' hz1 hz2' rfl (by decide) v k _ rfl (how4.alloc _) ⟨A4.heap.size, 0, none⟩ 1 1 [.int .i64 q] rfl rfl (cell_one_new _ _ _) (by simp [Value.oneCell']) (by unfold maxLen; omega) (by omega) (by simp; omega) ?_; intro v' w1 hown' hgrow hat; obtain ⟨g', cap', rfl⟩ := ownsRow_succ hown'; obtain ⟨hv1, hv2', hr2, hk2, hb2'⟩ := hgv4.appended (by decide) how4 hsz4 (Nat.le_refl _) hown' hgrow; have hc1 := hv1.cell; have hf1 := hv1.frozen; have hc2 := hv2'.cell)
    have hRb : R ≤ b := by omega
    have hR2 := h2.res.lt
    have hlp := h2.loop
    have hS : AllSt w R Q b G go len c1 zs rb (k + 1) (w1.setCell ⟨G, 0, none⟩ (.slice (some ⟨g', 0, none⟩) (k + 1) cap')) := by
      refine ⟨(h2.bel.trans (below_of_row hg24 (by omega) hRb)).trans (hb2'.mono (by omega)), (hb2'.block R hRG).trans (h2.res.kept hg24 (by simp; omega)), (hb2'.block Q hQG).trans (h2.qbx.kept hg24 (by simp; omega)),
        SlR.below (SlR.grown h2.old hg24 (fun i e => by cases e; exact hoff1)) hb2' (fun a ha hn => by have := hgoQ a ha hn; omega), hk2.same _ _ ((hg24.block _ (lt_of_block hlp) (by simp; omega)).trans hlp) rfl, hk2.same _ _ ((hg24.block _ (lt_of_block h2.dfr) (by simp; omega)).trans h2.dfr) rfl,
        g4, c4, xs0 ++ [wrap64 (-q), 7], _, ?_, ?_, hv2', ?_, ?_⟩
      · rw [(hb2'.block b hbG).trans HB4.out, show N + 2 = len + (k + 1) by have := HN.out; omega]
      · rw [show len + (k + 1) = N + 2 by have := HN.out; omega]
        have h1 := SlR.grown hs4 (World.grownBy_alloc A4 (.cells #[.int .i64 q] 3) none) (by simp)
        have h2' := SlR.grown h1 hgrow (fun i e a ha hn => fun e2 => (hin4' a ha hn).2.2 (by rw [e, e2]))
        have h3 := SlR.grown h2' (grownBy_setCell w1 ⟨G, 0, none⟩ (.slice (some ⟨g', 0, none⟩) (k + 1) cap')) (fun i e a ha hn => by cases e; exact (hin4' a ha hn).2.1)
        unfold IntSl
        rw [List.map_append]
        exact h3
      · rw [List.map_take, take_snoc' HX.out, ← List.map_take]
        exact hr2
      · rw [show len + (k + 1) = N + 2 by have := HN.out; omega]
        intro a ha hn
        refine ⟨(hin4' a ha hn).1, (hin4' a ha hn).2.1, ?_⟩
        rcases hat with h | h
        · rw [h]; exact (hin4' a ha hn).2.2
        · rw [h]
          have := SlR.inB hs4 (by omega) a ha hn
          simp
          omega
    exact ⟨hS.loop, rfl, hS.turn _ hRG hQG hbG hgoQ⟩
  · rintro e W2 ⟨hv, ⟨hc, _⟩ | ⟨_, _, hf⟩⟩
    · rw [List.length_map, HL.out] at hc
      have hlr := hc.loop
      subst hrec
      refine ⟨hv, .ready, none, by simp, hlr, ?_⟩
      intro re
      have hc2 := hc.turn re hRG hQG hbG hgoQ
      dsimp only
      generalize W2.putObj _ _ = W3 at hc2 ⊢
      clear hc hlr
      obtain ⟨g, c, vs, v, hb3, hs3, hgv, how, hin3⟩ := hc2.que
      obtain ⟨go6, c6, rfl, hsl6, _⟩ := SlR.of_owns how
      have hgc := hgv.cell
      have hqc := hc2.qbx.cell
      have hz3 := SlR.below hz hc2.bel (by rw [← HR.out]; exact SlR.inB hz (by omega))
      rw [List.take_of_length_le (by rw [HL.out]; omega)] at hsl6
      have HB3 := Lib.hid hb3; clear hb3
      gi_wp2_with fail
      refine ⟨trivial, (callsIn_wide.2 (ints_any go6 ao len c6 len cap zs zs W3 hsl6 hz3)).mono ?_⟩
      rintro e W4 ⟨rfl, j', rfl⟩
      rw [decide_eq_true rfl]
      gi_wp2_with fail
      refine ⟨trivial, (callsIn_wide.2 (len_int b 1000 (len + len) c g (W3.drewN j') HB3.out)).mono ?_⟩
      rintro e W5 ⟨rfl, rfl⟩
      have h2l : ((len : Int) + (len : Int) == 2 * (len : Int)) = true := by simp; omega
      gi_wp2_with fail
      refine ⟨trivial, (callsIn_wide.2 (wakes_any (W3.drewN j'))).mono ?_⟩
      rintro e W6 ⟨rfl, hg6'⟩
      have hg36 : W3.grownBy W6 none := grownBy_of_drewN hg6'
      have hR6 := hc2.res.kept hg36 (by simp)
      have hRc := hR6.cell
      have hRf := hR6.frozen
      have hRr := (hR6.set (.bool true)).cell
      have hD6 := (hg36.block _ (lt_of_block hc2.dfr) (by simp)).trans hc2.dfr
      have hD7 := (Below.heap_setCell W6 ⟨R, 0, none⟩ (.bool true) (G + 2) (by simp; omega)).trans hD6
      have HD7 := Lib.hid hD7; clear hD7 hD6
      gi_wp2_with fail
      refine ⟨by simp, .inl ⟨_, _, rfl, run_takeDeferred HD7.out, ?_⟩⟩
      refine ⟨.bool true, ?_, rfl, ?_⟩
      · have hr := ((hR6.set (.bool true)).kept (grownBy_putObj' _ (G + 2) (.deferred none)) (by simp; omega)).cell
        simp [results, Try.results5, go_sem, hr]
      · exact ((hc2.bel.trans (below_of_grown hg36 (by first | trivial | exact trivial | simp | (have := hc2.res.lt; omega)))).setCell (p := ⟨R,0,none⟩) (Nat.le_refl _) _).trans (below_putObj _ (by omega))
    · exact hf.elim
end Go.Proofs.Ytkogdiglpncolaa
