/-
  The walk of the law RowDrains: it returns true and leaves what was there as it was, at every argument.
-/
import Derived.Test.YtkogdiglpncolaaDb
import Derived.Shelf.RegionOpen
namespace Go.Proofs.Ytkogdiglpncolaa
open Go Go.RowKit
attribute [local go_sem] Oper.semAt_some

/-- The state of the law's loop when k elements have come and the queue holds ql. -/
structure DrSt (w : World) (R Q b G : Nat) (mo : Int) (want : List Int) (rec : Loop) (ql : List Int) (k : Nat) (A : World) : Prop where
  bel : Below R w A
  mor : Boxed A R 3 (.int .i64 mo)
  res : Boxed A (R + 1) 4 (.bool false)
  qbx : Boxed A Q 41 (.pointer (some ⟨b, 0, none⟩))
  ibx : Boxed A (G + 1) 41 (.pointer (some ⟨b, 0, none⟩))
  loop : A.heap[G + 2 + 1]? = some (.loop rec)
  dfr : A.heap[G + 2]? = some (.deferred (some []))
  que : ∃ g c v, A.heap[b]? = some (.cells #[.int .i64 1000, .slice g ql.length c] 62 (0, 0)) ∧ IntSl A g ql.length c ql ∧ Boxed A G 22 v ∧ A.ownsRow G 3 1 v k ((want.take k).map (Value.int .i64)) ∧
    InB (fun i => i ≠ b ∧ i ≠ G ∧ v.ownBlock ≠ some i) g ql.length

theorem own_base {W : World} {base : Nat} {e : TypeId} {size n : Nat} {v : Value} {xs : List Value} (h : W.ownsRow base e size v n xs) {g : Nat} (hg : v.ownBlock = some g) : base ≤ g := by
  rcases h.2 with ⟨rfl, _⟩ | ⟨g', cap, cur, rfl, hb, _⟩
  · simp [Value.ownBlock] at hg
  · have : g' = g := by simpa [Value.ownBlock] using hg
    omega

theorem grown_own {A B C : World} {e : TypeId} {size n : Nat} {v : Value} {xs : List Value} {W : World} (h : W.ownsRow A.heap.size e size v n xs) (h1 : A.grownBy B none) (h2 : B.grownBy C v.ownBlock) : A.grownBy C none := by
  cases hvo : v.ownBlock with
  | none => rw [hvo] at h2; exact grownBy_trans h1 h2
  | some i => rw [hvo] at h2; exact grownBy_new h1 h2 (.inl (own_base h hvo))

section
variable {w : World} {R Q b G : Nat} {mo : Int} {want : List Int} {rec : Loop} {ql : List Int} {k : Nat} {A : World}
/-- A turn of the loop's record keeps it. -/
theorem DrSt.turn (h : DrSt w R Q b G mo want rec ql k A) (rec' : Loop) (hR : R + 1 < b) (hb : b < Q) (hQ : Q < G) :
    DrSt w R Q b G mo want rec' ql k (A.putObj (G + 2 + 1) (.loop rec')) := by
  obtain ⟨g, c, v, h1, h2, h3, h4, h5⟩ := h.que
  have hp := grownBy_putObj' A (G + 2 + 1) (.loop rec')
  have hl := h.loop
  refine ⟨h.bel.trans (below_putObj _ (by omega)), h.mor.kept hp (by simp; omega), h.res.kept hp (by simp; omega), h.qbx.kept hp (by simp; omega), h.ibx.kept hp (by simp), World.putObj_heap_same (lt_of_block hl), (World.putObj_heap_other (by omega)).trans h.dfr,
    g, c, v, (World.putObj_heap_other (by omega)).trans h1, SlR.putObj h2 _ hl rfl, h3.kept hp (by simp; omega), ownsRow_putObj h4 _ hl rfl, h5⟩

/-- What the iterator does to the queue keeps it. -/
theorem DrSt.popped (h : DrSt w R Q b G mo want rec ql k A) {B : World} {q2 : List Int} {g g' : Option Addr} {c c' : Nat} (hR : R + 1 < b) (hb : b < Q) (hQ : Q < G)
    (hA : QAt (G + 1) b 1000 ql g c A) (hB : QAt (G + 1) b 1000 q2 g' c' B) (hin : ∀ K : Nat → Prop, InB K g ql.length → InB K g' q2.length) (hg : A.grownBy B (some b)) : DrSt w R Q b G mo want rec q2 k B := by
  obtain ⟨g0, c0, v, h1, h2, h3, h4, h5⟩ := h.que
  have e : g0 = g := by
    have e := h1.symm.trans hA.2.1
    simp only [Option.some.injEq, Obj.cells.injEq] at e
    have := congrArg (fun (x : Array Value) => x.getD 1 undef) e.1
    have : g0 = g ∧ c0 = c := by simpa using this
    exact this.1
  subst e
  have hvb : v.ownBlock ≠ some b := by
    cases hv : v.ownBlock with
    | none => simp
    | some i =>
      intro e
      cases e
      rcases h4.2 with ⟨rfl, _⟩ | ⟨g', cap, cur, rfl, hb', _⟩
      · simp [Value.ownBlock] at hv
      · have : g' = b := by simpa [Value.ownBlock] using hv
        omega
  refine ⟨h.bel.trans (below_of_row hg (by have := h.res.lt; omega) (by omega)), h.mor.kept hg (by simp; omega), h.res.kept hg (by simp; omega), h.qbx.kept hg (by simp; omega), h.ibx.kept hg (by simp; omega), (hg.block _ (lt_of_block h.loop) (by simp; omega)).trans h.loop, (hg.block _ (lt_of_block h.dfr) (by simp; omega)).trans h.dfr,
    g', c', v, hB.2.1, hB.2.2.1, h3.kept hg (by simp; omega), h4.kept hg ?_, hin _ h5⟩
  cases hv : v.ownBlock with
  | none => exact .inl rfl
  | some i => exact .inr (by intro e; cases e; exact hvb hv)
/-- One more number behind what has come. -/
theorem DrSt.got (h : DrSt w R Q b G mo want rec ql k A) (hR : R + 1 < b) (hb : b < Q) (hQ : Q < G) {x : Int} (hx : want[k]? = some x) {v v' : Value} {tmp : Obj} {w1 : World} {m : Nat} (hm : m = k + 1)
    (hgv : Boxed A G 22 v) (how : A.ownsRow G 3 1 v k ((want.take k).map (Value.int .i64))) (hown' : w1.ownsRow G 3 1 v' m ((want.take k).map (Value.int .i64) ++ [.int .i64 x])) (hgrow : (A.alloc tmp).grownBy w1 v.ownBlock)
    (hat : v'.ownBlock = v.ownBlock ∨ v'.ownBlock = some (A.alloc tmp).heap.size) : DrSt w R Q b G mo want rec ql (k + 1) (w1.setCell ⟨G, 0, none⟩ v') := by
  subst hm
  obtain ⟨g, c, v0, h1, h2, h3, h4, h5⟩ := h.que
  have e : v0 = v := by
    have e := h3.symm.trans hgv
    simp only [Option.some.injEq, Obj.cells.injEq] at e
    have := congrArg (fun (x : Array Value) => x.getD 0 undef) e.1
    simpa using this
  subst e
  have hsz : G ≤ A.heap.size := by have := hgv.lt; omega
  obtain ⟨hv1, hv2', hr2, hk2, hb2'⟩ := hgv.appended (by decide) how hsz (Nat.le_refl _) hown' hgrow
  have hi := ((h.ibx.alloc tmp).kept hgrow (h.ibx.not_row (by decide) how)).kept (grownBy_setCell' w1 G v') (by simp)
  refine ⟨h.bel.trans (hb2'.mono (by omega)), (hb2'.block R (by omega)).trans h.mor, (hb2'.block (R + 1) (by omega)).trans h.res, (hb2'.block Q (by omega)).trans h.qbx, hi, hk2.same _ _ h.loop rfl, hk2.same _ _ h.dfr rfl,
    g, c, v', (hb2'.block b (by omega)).trans h1, ?_, hv2', ?_, ?_⟩
  · have h1 := SlR.grown h2 (World.grownBy_alloc A tmp none) (by simp)
    have h2' := SlR.grown h1 hgrow (fun i e a ha hn => fun e2 => (h5 a ha hn).2.2 (by rw [e, e2]))
    exact SlR.grown h2' (grownBy_setCell w1 ⟨G, 0, none⟩ v') (fun i e a ha hn => by cases e; exact (h5 a ha hn).2.1)
  · rw [take_snoc' hx, List.map_append]
    exact hr2
  · intro a ha hn
    refine ⟨(h5 a ha hn).1, (h5 a ha hn).2.1, ?_⟩
    rcases hat with h | h
    · rw [h]; exact (h5 a ha hn).2.2
    · rw [h]
      have := SlR.inB h2 (by omega) a ha hn
      simp
      omega
end

set_option maxRecDepth 100000 in
set_option maxHeartbeats 2000000 in
theorem rowDrains_walk (ao : Option Addr) (len cap : Nat) (zs : List Int) (nn more : Int) (w : World) (hz : IntSl w ao len cap zs) :
    Calls Try.prog 8 #[.slice ao len cap, .int .i64 nn, .int .i64 more] w fun e w' => e = .returned (.bool true) ∧ Below w.heap.size w w' := by
  have HL : Hid (zs.length = len) := Lib.hid (by have := hz.1; simpa using this)
  have hcap : (len : Int) ≤ cap := by have := hz.2.1; omega
  have bl : len ≤ 9223372036854775807 := by have := hz.2.1; have := hz.2.2.1; unfold maxLen at this; omega
  have hbm0 := Boxed.new w 3 (.int .i64 more)
  have hbm := hbm0.alloc (.cells #[.bool false] 4)
  have hbox := Boxed.new (w.alloc (.cells #[.int .i64 more] 3)) 4 (.bool false)
  rw [World.size_alloc] at hbox
  have hbel : Below w.heap.size w ((w.alloc (.cells #[.int .i64 more] 3)).alloc (.cells #[.bool false] 4)) := ((Below.refl _ w).alloc (Nat.le_refl _) _).alloc (by simp) _
  have hsz : ((w.alloc (.cells #[.int .i64 more] 3)).alloc (.cells #[.bool false] 4)).heap.size = w.heap.size + 2 := by simp
  obtain ⟨i0, hi, hz0', hz1, hz2'⟩ := info_parts Try.info3
  by_cases hbig : 100 < len
  · refine (callsIn_wide (n := 10)).1 ?_
    refine callsIn_of_wp_marks Try.func8 rfl trivial ?_
    simp only [Try.ntmps8, List.size_toArray, List.length_cons, List.length_nil, Nat.reduceAdd, Nat.reduceSub, Array.replicate_succ, Array.replicate_zero, List.push_toArray, List.append_toArray, List.nil_append, List.cons_append]
    gi_wp2_with fail
    refine ⟨trivial, (callsIn_wide.2 (wakes_any _)).mono ?_⟩
    rintro e w' ⟨rfl, hg⟩
    have hb1 := hbox.kept hg (by simp)
    have hc := hb1.cell
    have hf := hb1.frozen
    have hr := (hb1.set (.bool true)).cell
    gi_wp2_with fail
    refine ⟨.bool true, ?_, rfl, (hbel.trans (below_of_grown hg (by omega))).setCell (p := ⟨w.heap.size + 1, 0, none⟩) (by simp) _⟩
    simp [results, Try.results8, go_sem, hr]
  have hz0 : IntSl ((w.alloc (.cells #[.int .i64 more] 3)).alloc (.cells #[.bool false] 4)) ao len cap zs := SlR.grown (SlR.grown hz (World.grownBy_alloc w _ none) (by simp)) (World.grownBy_alloc _ _ none) (by simp)
  generalize hR : w.heap.size = R at *
  generalize hw0 : (w.alloc (.cells #[.int .i64 more] 3)).alloc (.cells #[.bool false] 4) = w0 at *
  refine (callsIn_wide (n := 10)).1 ?_
  refine callsIn_of_wp_marks Try.func8 rfl trivial ?_
  simp only [Try.ntmps8, List.size_toArray, List.length_cons, List.length_nil, Nat.reduceAdd, Nat.reduceSub, Array.replicate_succ, Array.replicate_zero, List.push_toArray, List.append_toArray, List.nil_append, List.cons_append]
  gi_wp2_with fail
  have HR := Lib.hid hR; clear hR
  have HW0 := Lib.hid hw0; clear hw0
  refine ⟨trivial, (callsIn_wide.2 (made_new ao len cap zs w0 hz0 (by omega))).mono ?_⟩
  rintro e w1 ⟨b, rfl, hb0, hg1, go, c1, hb1, hsl1, hoff1, hnew1⟩
  have hR1 := hbox.kept hg1 (by simp)
  have hM1 := hbm.kept hg1 (by simp)
  have hbel1 : Below R w w1 := hbel.trans (below_of_grown hg1 (by omega))
  gi_wp2_with fail
  have hq2 := Boxed.new w1 41 (.pointer (some ⟨b, 0, none⟩))
  have hg2 : w1.grownBy (w1.alloc (.cells #[.pointer (some ⟨b, 0, none⟩)] 41)) none := World.grownBy_alloc w1 _ none
  have hsz2 : (w1.alloc (.cells #[.pointer (some ⟨b, 0, none⟩)] 41)).heap.size = w1.heap.size + 1 := by simp
  have hbb := lt_of_block hb1
  generalize hQ : w1.heap.size = Q at *
  generalize w1.alloc (.cells #[.pointer (some ⟨b, 0, none⟩)] 41) = w2 at *
  have hb2 := (hg2.block b (by omega) (by simp)).trans hb1
  have hsl2 := SlR.grown hsl1 hg2 (by simp)
  have hR2 := hR1.kept hg2 (by simp)
  have hM2 := hM1.kept hg2 (by simp)
  have hbel2 : Below R w w2 := hbel1.trans (below_of_grown hg2 (by have := hR1.lt; omega))
  have hz2 := SlR.below hz hbel2 (by rw [← HR.out]; exact SlR.inB hz (by omega))
  refine ⟨trivial, (callsIn_wide.2 (within_any nn (len + 1) w2 (by omega) (by omega))).mono ?_⟩
  rintro e w' ⟨rfl, rfl⟩
  have k0 : 0 ≤ nn % ((len : Int) + 1) := Int.emod_nonneg _ (by omega)
  have k1 : nn % ((len : Int) + 1) < (len : Int) + 1 := Int.emod_lt_of_pos _ (by omega)
  obtain ⟨k, hk⟩ : ∃ k : Nat, nn % ((len : Int) + 1) = (k : Int) := ⟨(nn % ((len : Int) + 1)).toNat, by omega⟩
  rw [hk] at k0 k1 ⊢
  clear hk
  have hkl : k ≤ len := by omega
  have hq2c := hq2.cell
  have k2 : (k : Int) ≤ cap := by omega
  have HB1 := Lib.hid hb1; clear hb1
  have HB2 := Lib.hid hb2; clear hb2
  have HQ := Lib.hid hQ; clear hQ
  have HS2 := Lib.hid hsz2; clear hsz2
  have hmix : Try.prog.follows .mixedOrders = true := by kernel_rfl
  have hQb : Q ≠ b := by omega
  have hne2 : w2.heap.size ≠ b := by have := lt_of_block HB2.out; omega
  have hfirst : Calls Try.prog 19 #[.func (.func 31) #[] #[.pointer (some ⟨w2.heap.size, 0, none⟩)], .int .i64 k] (w2.alloc (.cells #[.pointer (some ⟨b, 0, none⟩)] 41)).drew fun e w' =>
      ∃ go c', e = .returned (.slice go k c') ∧ IntSl w' go k c' (zs.take k) ∧ w2.grownBy w' (some b) ∧ ∃ g c2, w'.heap[b]? = some (.cells #[.int .i64 1000, .slice g (len - k) c2] 62 (0, 0)) ∧ IntSl w' g (len - k) c2 (zs.drop k) ∧ OffB b g (len - k) ∧ InB (fun i => R + 2 ≤ i) g (len - k) := by
    refine (drain_first w2.heap.size b 1000 k len c1 go zs (w2.alloc (.cells #[.pointer (some ⟨b, 0, none⟩)] 41)).drew (Boxed.new w2 41 _) ((Below.heap_alloc w2 _ b (lt_of_block HB2.out)).trans HB2.out) (SlR.grown hsl2 (World.grownBy_alloc w2 _ none) (by simp)).drew hoff1 (by rw [HL.out]; omega) hne2 (fun i => R + 2 ≤ i) (fun a ha hn => by have := hnew1 a ha hn; omega)).mono ?_
    rintro e w' ⟨go', c', rfl, h1, h2, h3⟩
    rw [Int.toNat_natCast, HL.out, show min k len = k by omega] at h1 h3 ⊢
    exact ⟨go', c', rfl, h1, grownBy_trans (World.grownBy_alloc w2 _ _) (grownBy_of_drew h2), h3⟩
  obtain ⟨gd, hcut, hcutS⟩ := SlR.cutl hz hkl
  have hrun := run_cutl ao len cap k hkl
  rw [hcut] at hrun
  clear hcut
  gi_wp2_with fail
  refine wpIn_mono (Q := NoPanic _) ?_ NoPanic.imp
  have hoffz : OffB b ao len := fun a ha hn => by have := SlR.inB hz (by omega) a ha hn; have := HR.out; omega
  gi_region_with_o (first | (refine ⟨trivial, ?_⟩; gi_at_call 28; refine (callsIn_wide.2 (drain_mk (some ⟨b, 0, none⟩) _)).mono ?_; rintro e w3 ⟨rfl, rfl⟩) | (refine ⟨trivial, ?_⟩; gi_at_call 19; refine (callsIn_wide.2 hfirst).mono ?_; rintro e w4 ⟨go4, c4, rfl, hsl4, hg4, g4, c44, hb4, hq4, hoff4, hin4⟩; have hz4 := SlR.grown hz2 hg4 (fun i e => by cases e; exact hoffz); have hzt : IntSl w4 ao k cap (zs.take k) := SlR.take hz4 hkl; have hqc4 := (hq2.kept hg4 (by simp; omega)).cell; have HB4 := Lib.hid hb4; clear hb4) | (refine ⟨trivial, ?_⟩; gi_at_call 17; (with_reducible refine (callsIn_wide.2 (ints_any go4 ao k c4 k cap (zs.take k) (zs.take k) w4 hsl4 hzt)).mono ?_); rintro e w5 ⟨rfl, j, rfl⟩; rw [decide_eq_true rfl]) | (refine ⟨trivial, ?_⟩; gi_at_call 20; refine (callsIn_wide.2 (all_mk (some ⟨b, 0, none⟩) _)).mono ?_; rintro e w6 ⟨rfl, rfl⟩) | (refine ⟨trivial, ?_⟩; gi_at_call 26; refine (callsIn_wide.2 (all_list_new b 1000 (len - k) c44 g4 (zs.drop k) w4 j HB4.out hq4 (by omega))).mono ?_; rintro e w7 ⟨go7, c7, rfl, hsl7, hg7⟩; have hzd : IntSl w7 gd (len - k) (cap - k) (zs.drop k) := hcutS w7 (SlR.grown hz4 hg7 (by simp))) | (refine ⟨trivial, ?_⟩; gi_at_call 17; (with_reducible refine (callsIn_wide.2 (ints_any go7 gd (len - k) c7 (len - k) (cap - k) (zs.drop k) (zs.drop k) w7 hsl7 hzd)).mono ?_); rintro e w8 ⟨rfl, j8, rfl⟩; rw [decide_eq_true rfl]))
  refine NoPanic.normal ?_
  have hg8 : w4.grownBy (w7.drewN j8) none := grownBy_drewN hg7 j8
  generalize w7.drewN j8 = w8 at hg8 ⊢
  have hg28 : w2.grownBy w8 (some b) := grownBy_trans hg4 (grownBy_some _ hg8)
  have hR8 := hR2.kept hg28 (by simp; omega)
  have hM8 := hM2.kept hg28 (by simp; omega)
  have hq8 := hq2.kept hg28 (by simp; omega)
  have hb8 := (hg8.block b (lt_of_block HB4.out) (by simp)).trans HB4.out
  have hsl8 := SlR.grown hq4 hg8 (by simp)
  have hbel8 : Below R w w8 := hbel2.trans (below_of_row hg28 (by have := hR2.lt; omega) (by omega))
  have hleft8 := hcutS w8 (SlR.grown hz4 hg8 (by simp))
  have hM8c := hM8.cell
  have hM8f := hM8.frozen
  have HB8 := Lib.hid hb8; clear hb8
  clear hfirst hq2c hsl2 hz2 hbel2 hg4 hR2 hM2 hq2 HB2 hg2 HB1 hsl7 hzd hg7 hzt hqc4 hz4 hq4 HB4 hoffz hsl4 hg28 hg8
  gi_wp2_with fail
  refine ⟨trivial, (callsIn_wide.2 (within_any more 20 w8 (by omega) (by omega))).mono ?_⟩
  rintro e w' ⟨rfl, rfl⟩
  have m0 : 0 ≤ more % 20 := Int.emod_nonneg _ (by omega)
  have m1 : more % 20 < 20 := Int.emod_lt_of_pos _ (by omega)
  obtain ⟨mo, hmo⟩ : ∃ mo : Nat, more % 20 = (mo : Int) := ⟨(more % 20).toNat, by omega⟩
  rw [hmo] at m0 m1 ⊢
  clear hmo
  have hM9 := hM8.set (.int .i64 (mo : Int))
  have hs9 := grownBy_setCell w8 ⟨R, 0, none⟩ (.int .i64 (mo : Int))
  have hR9 := hR8.kept hs9 (by simp)
  have hRQ : R + 1 < b := by omega
  have hq9 := hq8.kept hs9 (by simp; omega)
  have hb9 := (hs9.block b (lt_of_block HB8.out) (by simp; omega)).trans HB8.out
  have hsl9 := SlR.grown hsl8 hs9 (fun i e a ha hn => by cases e; have h9 : R + 2 ≤ a.block := hin4 a ha hn; show a.block ≠ R; omega)
  have hbel9 : Below R w (w8.setCell ⟨R, 0, none⟩ (.int .i64 (mo : Int))) := hbel8.setCell (p := ⟨R, 0, none⟩) (Nat.le_refl _) _
  have hleft9 : IntSl (w8.setCell ⟨R, 0, none⟩ (.int .i64 (mo : Int))) gd (len - k) (cap - k) (zs.drop k) := hcutS _ (SlR.below hz hbel9 (by rw [← HR.out]; exact SlR.inB hz (by omega)))
  have hq10c := (hq9.alloc (.cells #[.slice none 0 0] 22)).cell
  have hG10 := (Boxed.new (w8.setCell ⟨R, 0, none⟩ (.int .i64 (mo : Int))) 22 (.slice none 0 0)).alloc (.cells #[.pointer (some ⟨b, 0, none⟩)] 41)
  have hI10 := Boxed.new ((w8.setCell ⟨R, 0, none⟩ (.int .i64 (mo : Int))).alloc (.cells #[.slice none 0 0] 22)) 41 (.pointer (some ⟨b, 0, none⟩))
  rw [World.size_alloc] at hI10
  have HB9 := Lib.hid hb9; clear hb9
  clear hleft8 hbel8 hM8 hR8 hq8 hs9 hsl8 HB8
  gi_wp2_with fail
  refine ⟨trivial, (callsIn_wide.2 (drain_mk (some ⟨b, 0, none⟩) _)).mono ?_⟩
  rintro e w6 ⟨rfl, rfl⟩
  have HS89 : Hid ((w8.setCell ⟨R, 0, none⟩ (.int .i64 (mo : Int))).heap.size = w8.heap.size) := Lib.hid (by simp [World.setCell])
  generalize w8.setCell ⟨R, 0, none⟩ (.int .i64 (mo : Int)) = w9 at *
  clear hM8c hM8f
  gi_wp2_with fail
  rw [← HS89.out]
  clear HS89
  have hsz7 : ((w9.alloc (.cells #[.slice none 0 0] 22)).alloc (.cells #[.pointer (some ⟨b, 0, none⟩)] 41)).heap.size = w9.heap.size + 2 := by simp
  have hg10 : w9.grownBy ((w9.alloc (.cells #[.slice none 0 0] 22)).alloc (.cells #[.pointer (some ⟨b, 0, none⟩)] 41)) none := grownBy_trans (World.grownBy_alloc w9 _ none) (World.grownBy_alloc _ _ none)
  have hinG : InB (fun i => i < w9.heap.size) g4 (len - k) := SlR.inB hsl9 (by omega)
  have hbw9 := lt_of_block HB9.out
  have hQw9 := hq9.lt
  generalize hG : w9.heap.size = G at *
  generalize (w9.alloc (.cells #[.slice none 0 0] 22)).alloc (.cells #[.pointer (some ⟨b, 0, none⟩)] 41) = w10 at *
  refine rf_stmt (gf := 31) (lb := #[.pointer (some ⟨G + 1, 0, none⟩)]) rfl (fun _ _ => rfl) ?_
  rw [hsz7]
  intro fn W1 hbl1 hs1 hd1 hl1
  generalize hrec : rfRec fn _ _ _ _ (G + 2) = rec at hl1
  have hbQ : b < Q := by omega
  have hll : (zs.drop k).length = len - k := by rw [List.length_drop, HL.out]
  have hst0 : DrSt w R Q b G mo (wantL (zs.drop k) mo) (rec .ready none) (zs.drop k) 0 W1 := by
    refine ⟨(hbel9.trans (below_of_grown hg10 (by omega))).trans (hbl1.mono (by omega)), (hbl1.block R (by omega)).trans (hM9.kept hg10 (by simp)), (hbl1.block (R + 1) (by omega)).trans (hR9.kept hg10 (by simp)), (hbl1.block Q (by omega)).trans (hq9.kept hg10 (by simp)), (hbl1.block (G + 1) (by omega)).trans hI10, hl1, hd1, g4, c44, .slice none 0 0, ?_, ?_, (hbl1.block G (by omega)).trans hG10, World.ownsRow_nil _ _ _ _, ?_⟩
    · rw [hll]; exact (hbl1.block b (by omega)).trans ((hg10.block b (by omega) (by simp)).trans HB9.out)
    · rw [hll]; exact SlR.below (SlR.grown hsl9 hg10 (by simp)) hbl1 (fun a ha hn => by have := hinG a ha hn; omega)
    · rw [hll]; exact fun a ha hn => ⟨hoff4 a ha hn, by have h9 : a.block < G := hinG a ha hn; omega, by simp [Value.ownBlock]⟩
  have hleft1 : IntSl W1 gd (len - k) (cap - k) (zs.drop k) := hcutS _ (SlR.below hz hst0.bel (by rw [← HR.out]; exact SlR.inB hz (by omega)))
  clear hsl9 hbel9 hR9 hM9 hq9 hq10c hG10 hI10 hleft9 hg10 hinG HB9 hin4 hoff4 hrun
  generalize hlf : zs.drop k = left at *
  have hNle := drN_le left mo
  refine (callsIn_wide.2 (drain_iterQ (G + 1) b (drN left mo) 1000 (drQ left mo) (drX left mo) (drR left mo) (drQ_cons left mo) (drQ_end left mo) (fun k _ => by have := drQ_len left mo k; omega) (by omega) 5 (G + 2 + 1)
    (fun k A => DrSt w R Q b G mo (wantL left mo) (rec .ready none) (drQ left mo k) k A)
    (fun k A => DrSt w R Q b G mo (wantL left mo) (rec .ready none) (drR left mo k) k A) (fun _ _ => False) W1
    (fun k A h => ?_)
    (fun k A B g c g' c' hk h hA hB hin hg => h.popped hRQ hbQ hQw9 hA hB hin hg)
    (fun k A hk h => ?_)
    (by rw [drQ_zero]; exact hst0))).mono ?_
  · obtain ⟨g, c, v, h1, h2, _, _, h5⟩ := h.que
    exact ⟨g, c, h.ibx, h1, h2, fun a ha hn => (h5 a ha hn).1⟩
  · have hlr := h.loop
    subst hrec
    refine rf_round1 _ hlr rfl (fun K hK => by gi_wp2; exact hK) ?_
    intro rb
    have h2 := h.turn rb hRQ hbQ hQw9
    generalize A.putObj _ _ = A2 at h2 ⊢
    clear h hlr
    have hxk := drX_at left mo k hk
    have hlne : left ≠ [] := by rintro rfl; simp [drN] at hk
    have hQL := drQ_len left mo (k + 1)
    have hkN : k < left.length + mo := by omega
    have HX := Lib.hid hxk; clear hxk
    have hmc := h2.mor.cell
    have hqc := h2.qbx.cell
    by_cases hkm : k < mo
    · have hpq := drR_push left mo k hlne hkm
      obtain ⟨g, c, v, hb2, hv2, hgv, how, hin2⟩ := h2.que
      obtain ⟨go6, c6, rfl, _, _⟩ := SlR.of_owns how
      have hgc := hgv.cell
      have hrl : (drR left mo k).length + 1 = (drQ left mo (k + 1)).length := by rw [← hpq]; simp
      have hkm' : (k : Int) < (mo : Int) := by omega
      generalize drX left mo k = x at HX ⊢
      have hown := how.lt
      have hnew := SlR.new A2 [.int .i64 (1000 + (k : Int))] 3 (by simp [maxLen])
      have hb2' := (Below.heap_alloc A2 (.cells #[.int .i64 (1000 + (k : Int))] 3) b (lt_of_block hb2)).trans hb2
      have hg2a : A2.grownBy (A2.alloc (.cells #[.int .i64 (1000 + (k : Int))] 3)) (some b) := World.grownBy_alloc A2 _ _
      have hpush := push_yes_int b 1000 (drR left mo k).length c 1 1 g _ _ ((drR left mo k).map (Value.int .i64)) [.int .i64 (1000 + (k : Int))] hb2' (by omega) (by omega) (SlR.grown hv2 (World.grownBy_alloc A2 _ none) (by simp)) (fun a ha hn => (hin2 a ha hn).1) hnew (by omega)
      have HB2 := Lib.hid hb2; clear hb2 hb2'
      have HPQ := Lib.hid hpq; clear hpq
      have HRL := Lib.hid hrl; clear hrl
      gi_wp2_with fail
      refine ⟨trivial, (callsIn_wide.2 hpush).mono ?_⟩
      rintro e A4 ⟨rfl, g4', c4', hb4, hs4, hin4, hg4⟩
      have hg24 := grownBy_trans hg2a hg4
      have hvb : (Value.slice go6 k c6).ownBlock ≠ some b := fun e => by have := own_base how e; omega
      have hin4' : InB (fun i => i ≠ b ∧ i ≠ G ∧ (Value.slice go6 k c6).ownBlock ≠ some i) g4' ((drR left mo k).length + 1) := hin4 _ hin2 ⟨by have := lt_of_block HB2.out; have := hg2a.size; omega, by have := hgv.lt; have := hg2a.size; omega, fun e => by have h1 := hown _ e; have h2 := hg2a.size; omega⟩
      have h4 : DrSt w R Q b G mo (wantL left mo) rb (drQ left mo (k + 1)) k A4 := by
        refine ⟨h2.bel.trans (below_of_row hg24 (by have := h2.res.lt; omega) (by omega)), h2.mor.kept hg24 (by simp; omega), h2.res.kept hg24 (by simp; omega), h2.qbx.kept hg24 (by simp; omega), h2.ibx.kept hg24 (by simp; omega), (hg24.block _ (lt_of_block h2.loop) (by simp; omega)).trans h2.loop, (hg24.block _ (lt_of_block h2.dfr) (by simp; omega)).trans h2.dfr,
          g4', c4', _, ?_, ?_, hgv.kept hg24 (by simp; omega), how.kept hg24 ?_, ?_⟩
        · rw [← HRL.out]; exact hb4
        · rw [← HPQ.out]
          unfold IntSl
          rw [List.map_append, List.length_append]
          exact hs4
        · cases hvo : (Value.slice go6 k c6).ownBlock with
          | none => exact .inl rfl
          | some i => exact .inr (by intro e; cases e; exact hvb hvo)
        · rw [← HRL.out]; exact hin4'
      have hgv4 := hgv.kept hg24 (by simp; omega)
      have how4 := how.kept hg24 (by
        cases hvo : (Value.slice go6 k c6).ownBlock with
        | none => exact .inl rfl
        | some i => exact .inr (by intro e; cases e; exact hvb hvo))
      have hsz4 : G ≤ A4.heap.size := by have := hgv4.lt; omega
      have hgc4 := hgv4.cell
      clear hb4 hs4 hin4 hin4' hpush hnew hgv how hg24 hg4 hg2a hv2 hin2 hown hvb h2 hmc hqc hgc
      gi_wp2_with (gi_at_builtin; refine wpListIn_append_at _ rfl _ _ 22 rfl G 3 i0 (.int .i64 0) 1 8 Try.underlying22 hi hz0' hz1 hz2' rfl (by decide) (.slice go6 k c6) k _ rfl (how4.alloc _) ⟨A4.heap.size, 0, none⟩ 1 1 [.int .i64 x] rfl rfl (cell_one_new _ _ _) (by simp [Value.oneCell']) (by unfold maxLen; omega) (by omega) (by simp; omega) ?_; intro v' w1 hown' hgrow hat; obtain ⟨g', cap', rfl⟩ := ownsRow_succ hown'; obtain ⟨hv1, hv2', _, _, _⟩ := hgv4.appended (by decide) how4 hsz4 (Nat.le_refl _) hown' hgrow; have hc1 := hv1.cell; have hf1 := hv1.frozen; have hc2 := hv2'.cell)
      have hS := h4.got hRQ hbQ hQw9 HX.out rfl hgv4 how4 hown' hgrow hat
      exact ⟨hS.loop, rfl, hS.turn _ hRQ hbQ hQw9⟩
    · have h4 : DrSt w R Q b G mo (wantL left mo) rb (drQ left mo (k + 1)) k A2 := by rw [← drR_same left mo k (by omega)]; exact h2
      clear h2
      obtain ⟨g, c, v, _, _, hgv4, how4, _⟩ := h4.que
      obtain ⟨go6, c6, rfl, _, _⟩ := SlR.of_owns how4
      have hgc := hgv4.cell
      have hkm' : ¬ (k : Int) < (mo : Int) := by omega
      generalize drX left mo k = x at HX ⊢
      have hsz4 : G ≤ A2.heap.size := by have := hgv4.lt; omega
      gi_wp2_with (gi_at_builtin; refine wpListIn_append_at _ rfl _ _ 22 rfl G 3 i0 (.int .i64 0) 1 8 Try.underlying22 hi hz0' hz1 hz2' rfl (by decide) (.slice go6 k c6) k _ rfl (how4.alloc _) ⟨A2.heap.size, 0, none⟩ 1 1 [.int .i64 x] rfl rfl (cell_one_new _ _ _) (by simp [Value.oneCell']) (by unfold maxLen; omega) (by omega) (by simp; omega) ?_; intro v' w1 hown' hgrow hat; obtain ⟨g', cap', rfl⟩ := ownsRow_succ hown'; obtain ⟨hv1, hv2', _, _, _⟩ := hgv4.appended (by decide) how4 hsz4 (Nat.le_refl _) hown' hgrow; have hc1 := hv1.cell; have hf1 := hv1.frozen; have hc2 := hv2'.cell)
      have hS := h4.got hRQ hbQ hQw9 HX.out rfl hgv4 how4 hown' hgrow hat
      exact ⟨hS.loop, rfl, hS.turn _ hRQ hbQ hQw9⟩
  · rintro e W2 ⟨hv, hc | ⟨_, _, hf⟩⟩
    · have hlr := hc.loop
      subst hrec
      refine ⟨hv, .ready, none, by simp, hlr, ?_⟩
      intro re
      have hc2 := hc.turn re hRQ hbQ hQw9
      dsimp only
      generalize W2.putObj _ _ = W3 at hc2 ⊢
      clear hc hlr hst0 hleft1
      have hleft3 : IntSl W3 gd (len - k) (cap - k) left := hcutS _ (SlR.below hz hc2.bel (by rw [← HR.out]; exact SlR.inB hz (by omega)))
      obtain ⟨g, c, v, hb3, hs3, hgv, how, hin3⟩ := hc2.que
      obtain ⟨go6, c6, rfl, hsl6, _⟩ := SlR.of_owns how
      have hgc := hgv.cell
      have hqc := hc2.qbx.cell
      rw [drQ_end] at hb3
      have HB3 : Hid (W3.heap[b]? = some (.cells #[.int .i64 1000, .slice g 0 c] 62 (0, 0))) := Lib.hid hb3
      clear hb3 hs3 hin3 hgv how hcutS hlf
      generalize hm : len - k = m at *
      by_cases hle : left = []
      · have hm0 : m = 0 := by rw [← hll, hle]; rfl
        have hN0 : drN left mo = 0 := by unfold drN; rw [if_pos hle]
        rw [hN0] at hgc
        have HM := Lib.hid hm
        clear hm hle hN0 hsl6 hleft3
        subst hm0
        gi_wp2_with fail
        refine ⟨trivial, (callsIn_wide.2 (len_int b 1000 0 c g W3 HB3.out)).mono ?_⟩
        rintro e W5 ⟨rfl, rfl⟩
        gi_wp2_with fail
        refine ⟨trivial, (callsIn_wide.2 (wakes_any W3)).mono ?_⟩
        rintro e W6 ⟨rfl, hg36⟩
        have hR6 := hc2.res.kept hg36 (by simp)
        have hRc := hR6.cell
        have hRf := hR6.frozen
        have hRr := (hR6.set (.bool true)).cell
        have hD6 := (hg36.block _ (lt_of_block hc2.dfr) (by simp)).trans hc2.dfr
        have hD7 := (Below.heap_setCell W6 ⟨R + 1, 0, none⟩ (.bool true) (G + 2) (by simp; omega)).trans hD6
        have HD7 := Lib.hid hD7; clear hD7 hD6
        gi_wp2_with fail
        refine ⟨by simp, .inl ⟨_, _, rfl, run_takeDeferred HD7.out, ?_⟩⟩
        refine ⟨.bool true, ?_, rfl, ?_⟩
        · have hr := ((hR6.set (.bool true)).kept (grownBy_putObj' _ (G + 2) (.deferred none)) (by simp; omega)).cell
          simp [results, Try.results8, go_sem, hr]
        · exact ((hc2.bel.trans (below_of_grown hg36 (by have := hc2.res.lt; omega))).setCell (p := ⟨R + 1, 0, none⟩) (by simp) _).trans (below_putObj _ (by omega))
      · have hm0 : 0 < m := by rw [← hll]; exact List.length_pos_iff.2 hle
        have hNm : drN left mo = m + mo := by unfold drN; rw [if_neg hle, hll]
        rw [hNm] at hgc hsl6
        rw [List.take_of_length_le (by rw [wantL_len, hll]; exact Nat.le_refl _)] at hsl6
        have HM := Lib.hid hm
        have HLL := Lib.hid hll
        have hme : ((m : Int) == 0) = false := by simp; omega
        have hbm : m ≤ 100 := by omega
        have hb3l := lt_of_block HB3.out
        clear hm hll hle hNm hNle
        gi_wp2_with fail
        refine ⟨trivial, (callsIn_wide.2 (copy_own gd m (cap - k) left W3 hleft3 (by omega) hm0)).mono ?_⟩
        rintro e W4 ⟨u0, rfl, hown0, hg34⟩
        gi_wp2_with fail
        gi_loopw [11, 12] (fun u t wr => ∃ j : Nat, j ≤ mo ∧ t = .int .i64 j ∧ wr.ownsRow W3.heap.size 3 1 u (m + j) ((wantL left j).map (Value.int .i64)) ∧ W3.grownBy wr none) (fun _ t _ => mo - (intOf t).toNat)
        case atStart => exact ⟨0, by omega, rfl, by unfold wantL; rw [show pushes 0 = [] from rfl, List.append_nil]; exact hown0, hg34⟩
        case round =>
          obtain ⟨j, hj, rfl, hown, hgw⟩ := hrel
          have hmc := (hc2.mor.kept hgw (by simp)).cell
          by_cases hlt : j < mo
          · have hlt' : (j : Int) < (mo : Int) := by omega
            gi_wp2_with (gi_at_builtin; refine wpListIn_append_at _ rfl _ _ 22 rfl W3.heap.size 3 i0 (.int .i64 0) 1 8 Try.underlying22 hi hz0' hz1 hz2' rfl (by decide) _ (m + j) _ rfl (hown.alloc _) ⟨wr.heap.size, 0, none⟩ 1 1 [.int .i64 (1000 + (j : Int))] rfl rfl (cell_one_new _ _ _) (by simp [Value.oneCell']) (by unfold maxLen; omega) (by omega) (by have := hgw.size; simp; omega) ?_; intro v' w1 hown' hgrow hat)
            go_roundw
            case rel =>
              refine ⟨j + 1, by omega, by go_num, ?_, ?_⟩
              · unfold wantL at hown' ⊢
                rw [pushes_succ, ← List.append_assoc, List.map_append, ← Nat.add_assoc]
                exact hown'
              · have h1 := grownBy_trans hgw (World.grownBy_alloc wr (.cells #[.int .i64 (1000 + (j : Int))] 3) none)
                exact grown_own hown h1 hgrow
            case measure => simp [intOf]; omega
          · obtain rfl : j = mo := by omega
            obtain ⟨go7, c7, rfl, hsl7, _⟩ := SlR.of_owns hown
            have hsl6w := SlR.grown hsl6 hgw (by simp)
            have hgcw : wr.cell? ⟨G, 0, none⟩ = some (.slice go6 (m + j) c6) := (World.cell?_of_block (hgw.block G (World.block_lt_of_cell? _ _ hgc) (by simp))).trans hgc
            have hqcw := (hc2.qbx.kept hgw (by simp)).cell
            have hbw := (hgw.block b hb3l (by simp)).trans HB3.out
            have HBW := Lib.hid hbw; clear hbw
            gi_wp2_with fail
            refine ⟨trivial, (callsIn_wide.2 (ints_any go6 go7 (m + j) c6 (m + j) c7 (wantL left j) (wantL left j) wr hsl6w hsl7)).mono ?_⟩
            rintro e W4 ⟨rfl, j4, rfl⟩
            rw [decide_eq_true rfl]
            have hqc4 : (wr.drewN j4).cell? ⟨Q, 0, none⟩ = some (.pointer (some ⟨b, 0, none⟩)) := hqcw
            gi_wp2_with fail
            refine ⟨trivial, (callsIn_wide.2 (len_int b 1000 0 c g (wr.drewN j4) HBW.out)).mono ?_⟩
            rintro e W5 ⟨rfl, rfl⟩
            gi_wp2_with fail
            refine ⟨trivial, (callsIn_wide.2 (wakes_any (wr.drewN j4))).mono ?_⟩
            rintro e W6 ⟨rfl, hg6⟩
            have hg36 : W3.grownBy W6 none := grownBy_trans hgw (grownBy_of_drewN hg6)
            have hR6 := hc2.res.kept hg36 (by simp)
            have hRc := hR6.cell
            have hRf := hR6.frozen
            have hRr := (hR6.set (.bool true)).cell
            have hD6 := (hg36.block _ (lt_of_block hc2.dfr) (by simp)).trans hc2.dfr
            have hD7 := (Below.heap_setCell W6 ⟨R + 1, 0, none⟩ (.bool true) (G + 2) (by simp; omega)).trans hD6
            have HD7 := Lib.hid hD7; clear hD7 hD6
            gi_wp2_with fail
            refine ⟨by simp, .inl ⟨_, _, rfl, run_takeDeferred HD7.out, ?_⟩⟩
            refine ⟨.bool true, ?_, rfl, ?_⟩
            · have hr := ((hR6.set (.bool true)).kept (grownBy_putObj' _ (G + 2) (.deferred none)) (by simp; omega)).cell
              simp [results, Try.results8, go_sem, hr]
            · exact ((hc2.bel.trans (below_of_grown hg36 (by have := hc2.res.lt; omega))).setCell (p := ⟨R + 1, 0, none⟩) (by simp) _).trans (below_putObj _ (by omega))
    · exact hf.elim
end Go.Proofs.Ytkogdiglpncolaa
