/-
  The law ShowLines holds for every input: the given statement Rows.ShowLinesSaid, without any condition of its own.
-/
import Derived.Test.YtgeaccoobhigcaaG9
import Derived.Test.YtgeaccoobhigcaaG2
import Derived.Test.YtgeaccoobhigcaaG1
import Derived.Shelf.RegionOpen
import Derived.Deep.QuietTactic
import Derived.BigQuiet
import Derived.Test.YtgeaccoobhigcaaG6
import Derived.Deep.RegionHeld3
import Derived.Test.YtgeaccoobhigcaaG7
import Derived.ProofKit
import Derived.OpenShut
import Derived.ShutString
import Derived.ChangeOld
import Derived.Below
namespace Go.Proofs.Ytgeaccoobhigcaa
open Go Go.RowKit
attribute [local go_sem] Oper.semAt_some

/-- AN ITERATOR that tells the values 'vals'; the first c blocks that it makes are its own, and are written as it likes. -/
def IterP (P : Program) (gf : Nat) (lb : Array Value) (vals : List Value) (c : Nat) (Need : World → Prop) : Prop :=
  ∀ (m q : Nat) (J Jx : Nat → World → Prop) (W : World),
    (∀ k A, J k A → Need A ∧ W.heap.size ≤ A.heap.size) →
    (∀ k A B row, J k A → A.grownBy B row → (∀ b, row = some b → W.heap.size ≤ b ∧ b < W.heap.size + c) → J k B) →
    (∀ k A B row, Jx k A → A.grownBy B row → (∀ b, row = some b → W.heap.size ≤ b ∧ b < W.heap.size + c) → Jx k B) →
    (∀ k x A, vals[k]? = some x → J k A → W.heap.size + c ≤ A.heap.size → YieldAt Fence.wide m P q #[x] A fun e B => ((e = .returned (.bool true) ∧ J (k + 1) B) ∨ (e = .returned (.bool false) ∧ Jx (k + 1) B)) ∧
      ∀ b, W.heap.size ≤ b → b < W.heap.size + c → B.heap[b]? = A.heap[b]?) →
    J 0 W →
    Calls P gf (#[.func (.yield q) #[] #[]] ++ lb) W fun e B => (∃ v, e = .returned v) ∧ (J vals.length B ∨ ∃ k, k ≤ vals.length ∧ Jx k B)

theorem el_len (e : El) : e.cells.length = 12 := rfl
theorem el_cells (e : El) : e.val = .agg e.cells.toArray := rfl
theorem twelve_cells {W : World} {g o : Nat} {a0 a1 a2 a3 a4 a5 a6 a7 a8 a9 a10 a11 : Value} (h : ∀ j u, [a0, a1, a2, a3, a4, a5, a6, a7, a8, a9, a10, a11][j]? = some u → W.cell? ⟨g, o + j, none⟩ = some u) :
    (W.cell? ⟨g, o, none⟩ = some a0 ∧ W.cell? ⟨g, o + 1, none⟩ = some a1 ∧ W.cell? ⟨g, o + 2, none⟩ = some a2 ∧ W.cell? ⟨g, o + 3, none⟩ = some a3 ∧ W.cell? ⟨g, o + 4, none⟩ = some a4 ∧ W.cell? ⟨g, o + 5, none⟩ = some a5) ∧
    W.cell? ⟨g, o + 6, none⟩ = some a6 ∧ W.cell? ⟨g, o + 7, none⟩ = some a7 ∧ W.cell? ⟨g, o + 8, none⟩ = some a8 ∧ W.cell? ⟨g, o + 9, none⟩ = some a9 ∧ W.cell? ⟨g, o + 10, none⟩ = some a10 ∧ W.cell? ⟨g, o + 11, none⟩ = some a11 :=
  ⟨⟨h 0 _ rfl, h 1 _ rfl, h 2 _ rfl, h 3 _ rfl, h 4 _ rfl, h 5 _ rfl⟩, h 6 _ rfl, h 7 _ rfl, h 8 _ rfl, h 9 _ rfl, h 10 _ rfl, h 11 _ rfl⟩

set_option maxRecDepth 100000 in
set_option maxHeartbeats 4000000 in
theorem of_iter (Bl : Nat) (ao : Option Addr) (n c : Nat) (l : List El) (hl : l.length = n) (hn : n ≤ 1000000) :
    IterP Try.prog 81 #[.pointer (some ⟨Bl, 0, none⟩)] (l.map El.val) 0 (fun W => W.cell? ⟨Bl, 0, none⟩ = some (.slice ao n c) ∧ SlR W 12 ao n c (l.flatMap El.cells)) := by
  intro m q J Jx W hN hg hgx hY h0
  have hc := (hN 0 W h0).1.1
  have hcap := (hN 0 W h0).1.2.2.1
  refine (callsIn_wide (n := m + 1)).1 ?_
  refine callsIn_of_wp Try.func81 rfl trivial ?_
  simp only [Try.ntmps81, List.size_toArray, List.length_cons, List.length_nil, Nat.reduceAdd, Nat.reduceSub, Array.replicate_succ, Array.replicate_zero, List.push_toArray, List.append_toArray, List.nil_append, List.cons_append]
  have HN := Lib.hid hN
  have HGR := Lib.hid hg
  have HY := Lib.hid hY
  have HL := Lib.hid hl
  clear hN hg hY hgx hl
  gi_wp2
  gi_loopw [3] (fun t wr => ∃ k : Nat, k ≤ n ∧ t = .int .i64 k ∧ J k wr) (fun t _ => n - (intOf t).toNat)
  case atStart => exact ⟨0, by omega, rfl, h0⟩
  case round =>
    obtain ⟨k, hkn, rfl, hJ⟩ := hrel
    obtain ⟨⟨hc, hsl⟩, hsz⟩ := HN.out k wr hJ
    by_cases hlt : k < n
    · obtain ⟨x, hx⟩ : ∃ x, l[k]? = some x := ⟨_, List.getElem?_eq_getElem (by rw [HL.out]; exact hlt)⟩
      obtain ⟨g, o, rfl, hcell⟩ := hsl.row_at el_len (by omega) hx
      obtain ⟨fn, tmps, assign, body, hy, hR⟩ := HY.out k x.val _ (by rw [List.getElem?_map, hx]; rfl) hJ hsz
      obtain ⟨⟨ik, it, in_⟩, ⟨ak, at_, an⟩, ⟨vk, vt, vn⟩, acc, goal, tag⟩ := x
      obtain ⟨⟨c0, c1, c2, c3, c4, c5⟩, c6, c7, c8, c9, c10, c11⟩ := twelve_cells hcell
      unfold El.val at hy
      simp only at hy
      have HR := Lib.hid hR
      clear hcell hx hsl hR
      gi_wp2
      refine HR.out.mono ?_
      rintro e W' ⟨⟨rfl, hJ'⟩ | ⟨rfl, hJx'⟩, _⟩
      · clear c0 c1 c2 c3 c4 c5 c6 c7 c8 c9 c10 c11 hc hy
        gi_wp2
        go_roundw
        case rel => exact ⟨k + 1, by omega, by go_num, hJ'⟩
        case measure => simp [intOf]; omega
      · clear c0 c1 c2 c3 c4 c5 c6 c7 c8 c9 c10 c11 hc hy
        gi_wp2
        refine bodyPost_ret (results_none rfl _ _ _) rfl ?_
        exact ⟨⟨_, rfl⟩, .inr ⟨k + 1, by rw [List.length_map, HL.out]; omega, hJx'⟩⟩
    · have hke : k = n := by omega
      subst hke
      gi_wp2
      go_end0
      exact ⟨⟨_, rfl⟩, .inl (by rw [List.length_map, HL.out]; exact hJ)⟩
end Go.Proofs.Ytgeaccoobhigcaa
namespace Go.Proofs.Ytgeaccoobhigcaa
open Go Go.RowKit
attribute [local go_sem] Oper.semAt_some

theorem run_eql_func_nil82 (gf : Nat) (lb : Array Value) (W : World) : (binOp .eql 82 (.func (.func gf) #[] lb) .nilFunc).run Try.prog W = .ok (.bool false) W := by kernel_rfl
set_option maxRecDepth 100000 in
theorem eg81 (args : Array Value) (w : World) : (callFunc 81 args).run Try.prog w = .ok (.enter 81 args) w := rfl

set_option maxRecDepth 100000 in
set_option maxHeartbeats 4000000 in
theorem lines_iter (Bf Bl : Nat) (ao : Option Addr) (n c : Nat) (l : List El) (hl : l.length = n) (hn : n ≤ 1000000) (hok : ∀ e ∈ l, e.i.t.size ≤ 9223372036854775807 ∧ e.a.t.size ≤ 9223372036854775807 ∧ e.v.t.size ≤ 9223372036854775807) :
    IterP Try.prog 80 #[.pointer (some ⟨Bf, 0, none⟩)] (l.map fun e => .string (elemS e)) 3
      (fun W => W.cell? ⟨Bf, 0, none⟩ = some (.func (.func 81) #[] #[.pointer (some ⟨Bl, 0, none⟩)]) ∧ W.cell? ⟨Bl, 0, none⟩ = some (.slice ao n c) ∧ SlR W 12 ao n c (l.flatMap El.cells)) := by
  intro m q J Jx W hN hg hgx hY h0
  have hitr := of_iter Bl ao n c l hl hn
  refine (callsIn_wide (n := m + 1)).1 ?_
  refine callsIn_of_wp_marks Try.func80 rfl trivial ?_
  simp only [Try.ntmps80, List.size_toArray, List.length_cons, List.length_nil, Nat.reduceAdd, Nat.reduceSub, Array.replicate_succ, Array.replicate_zero, List.push_toArray, List.append_toArray, List.nil_append, List.cons_append]
  have hnf := run_eql_func_nil82 81 #[.pointer (some ⟨Bl, 0, none⟩)]
  have h1 : J 0 (W.alloc (.cells #[.func (.yield q) #[] #[]] 34)) := hg 0 W _ none h0 (World.grownBy_alloc W _ none) (by simp)
  have hc := (hN 0 _ h1).1.1
  have hbx := Boxed.new W 34 (.func (.yield q) #[] #[])
  have HN := Lib.hid hN
  have HG := Lib.hid hg
  have HGX := Lib.hid hgx
  have HY := Lib.hid hY
  have HI := Lib.hid hitr
  clear hN hg hgx hY hitr
  gi_wp2
  have hsz : (W.alloc (.cells #[.func (.yield q) #[] #[]] 34)).heap.size = W.heap.size + 1 := by simp
  generalize W.alloc (.cells #[.func (.yield q) #[] #[]] 34) = w0 at h1 hc hbx hsz ⊢
  refine rf_stmt (gf := 81) (lb := #[.pointer (some ⟨Bl, 0, none⟩)]) rfl eg81 ?_
  rw [hsz]
  intro fn W1 hb1 hs1 hd1 hl1
  have hJ1 : J 0 W1 := HG.out 0 w0 W1 none h1 (grown_of_below (hb1.mono (by omega))) (by simp)
  have hbx1 : Boxed W1 W.heap.size 34 (.func (.yield q) #[] #[]) := (hb1.block _ (by omega)).trans hbx
  generalize hrec : rfRec fn _ _ _ _ (W.heap.size + 1) = rf at hl1 ⊢
  refine (callsIn_wide.2 (HI.out (m + 1) (W.heap.size + 1 + 1)
    (fun k A => J k A ∧ A.heap[W.heap.size + 1 + 1]? = some (.loop (rf .ready none)) ∧ A.heap[W.heap.size + 1]? = some (.deferred (some [])) ∧ Boxed A W.heap.size 34 (.func (.yield q) #[] #[]))
    (fun k A => Jx k A ∧ A.heap[W.heap.size + 1 + 1]? = some (.loop (rf .done (some .ret))) ∧ A.heap[W.heap.size + 1]? = some (.deferred (some []))) W1
    (fun k A h => ⟨(HN.out k A h.1).1.2, ?_⟩)
    (fun k A B row h hg hr => ?_)
    (fun k A B row h hg hr => ?_)
    (fun k x A hx h _ => ?_)
    ⟨hJ1, hl1, hd1, hbx1⟩)).mono ?_
  · have := lt_of_block h.2.1
    omega
  · obtain rfl : row = none := by
      cases row with
      | none => rfl
      | some b => have := hr b rfl; omega
    exact ⟨HG.out k A B none h.1 hg (by simp), (hg.block _ (lt_of_block h.2.1) (by simp)).trans h.2.1, (hg.block _ (lt_of_block h.2.2.1) (by simp)).trans h.2.2.1, h.2.2.2.kept hg (by simp)⟩
  · obtain rfl : row = none := by
      cases row with
      | none => rfl
      | some b => have := hr b rfl; omega
    obtain ⟨h1, h2, h3⟩ := h
    exact ⟨HGX.out k A B none h1 hg (by simp), (hg.block _ (lt_of_block h2) (by simp)).trans h2, (hg.block _ (lt_of_block h3) (by simp)).trans h3⟩
  · obtain ⟨hJ, hlr, hdf, hby⟩ := h
    subst hrec
    obtain ⟨e, hLk, rfl⟩ : ∃ e : El, l[k]? = some e ∧ x = e.val := by
      rw [List.getElem?_map] at hx
      cases hxk : l[k]? with
      | none => simp [hxk] at hx
      | some q => exact ⟨q, rfl, by simpa [hxk] using hx.symm⟩
    obtain ⟨o1, o2, o3⟩ := hok e (List.mem_of_getElem? hLk)
    have hSE := fun w => showElem_any e o1 o2 o3 w
    have hYY := HY.out k (.string (elemS e))
    rw [List.getElem?_map, hLk, Option.map_some] at hYY
    generalize elemS e = S at hSE hYY
    obtain ⟨⟨ik, it, in_⟩, ⟨ak, at_, an⟩, ⟨vk, vt, vn⟩, acc, goal, tag⟩ := e
    unfold El.val at hSE ⊢
    simp only at hSE ⊢
    have HSE := Lib.hid hSE
    have HYY := Lib.hid hYY
    clear hSE hYY hx hLk o1 o2 o3
    refine rf_round2 hlr rfl ?_
    intro rb
    gi_wp2
    refine ⟨(World.grownBy_alloc A _ none).block _ (lt_of_block hlr) (by simp) |>.trans hlr, ?_⟩
    have hAl := lt_of_block hlr
    obtain ⟨A2, hA2⟩ : ∃ A2, (A.alloc (.cells #[.int .i64 ik, .string it, .int .i64 in_, .int .i64 ak, .string at_, .int .i64 an, .int .i64 vk, .string vt, .int .i64 vn, .bool acc, .bool goal, .int .i64 tag] 74)).putObj (W.heap.size + 1 + 1) (.loop rb) = A2 := ⟨_, rfl⟩
    have hJ2 : J k A2 := by rw [← hA2]; exact HG.out k _ _ _ (HG.out k A _ none hJ (World.grownBy_alloc A _ none) (by simp)) (grownBy_putObj _ (W.heap.size + 1 + 1) _) (by rintro b e; cases e; omega)
    have hbox : BoxC A2 A.heap.size 74 [.int .i64 ik, .string it, .int .i64 in_, .int .i64 ak, .string at_, .int .i64 an, .int .i64 vk, .string vt, .int .i64 vn, .bool acc, .bool goal, .int .i64 tag] := by rw [← hA2]; exact (World.putObj_heap_other (by omega)).trans (BoxC.new A _ 74)
    have hby2 : Boxed A2 W.heap.size 34 (.func (.yield q) #[] #[]) := by rw [← hA2]; exact (hby.alloc _).kept (grownBy_putObj' _ _ _) (by intro e; injection e with e; omega)
    have hlr2 : A2.heap[W.heap.size + 1 + 1]? = some (.loop rb) := by rw [← hA2]; exact World.putObj_heap_same (by simp; omega)
    have hdf2 : A2.heap[W.heap.size + 1]? = some (.deferred (some [])) := by rw [← hA2]; exact (World.putObj_heap_other (by omega)).trans ((Below.heap_alloc A _ _ (by omega)).trans hdf)
    have hsA : W.heap.size + 3 ≤ A2.heap.size := by rw [← hA2]; simp; omega
    rw [hA2]
    clear hJ hlr hdf hby hl1 hA2
    obtain ⟨⟨c0, c1, c2, c3, c4, c5⟩, c6, c7, c8, c9, c10, c11⟩ := twelve_cells (W := A2.drew) (g := A.heap.size) (o := 0) (fun j u h => by rw [Nat.zero_add]; exact hbox.at_ h)
    simp only [Nat.zero_add] at c1 c2 c3 c4 c5 c6 c7 c8 c9 c10 c11
    have hcy : A2.drew.cell? ⟨W.heap.size, 0, none⟩ = some (.func (.yield q) #[] #[]) := hby2.cell
    have hmix : Try.prog.follows .mixedOrders = true := by kernel_rfl
    gi_wp2
    gi_region_with_o (first
      | (refine ⟨trivial, ?_⟩; gi_at_call 42; refine (CallsIn.inRound _ (callsIn_wide.2 (HSE.out _))).mono ?_; rintro e w3 ⟨rfl, b3⟩;
          have B3 := Lib.hid (grown_of_below b3);
          have hJ3 : J k w3 := HG.out k A2 w3 none hJ2 (grownBy_of_drew B3.out) (by simp);
          have hcy3 : w3.cell? ⟨W.heap.size, 0, none⟩ = some (.func (.yield q) #[] #[]) := (hby2.kept (grownBy_of_drew B3.out) (by simp)).cell;
          obtain ⟨fn', tmps', assign', body', hy, hR⟩ := HYY.out w3 trivial hJ3 (Nat.le_trans hsA B3.out.size);
          have HR := Lib.hid hR; clear hR)
      | (refine RoundIn.mono (F := Fence.wide.inRound _) HR.out ?_; rintro e w4 ⟨hd, hs⟩; obtain ⟨b, rfl, hb⟩ : ∃ b : Bool, e = .returned (.bool b) ∧ ((b = true ∧ J (k + 1) w4) ∨ (b = false ∧ Jx (k + 1) w4)) := (by rcases hd with ⟨rfl, h⟩ | ⟨rfl, h⟩; exact ⟨true, rfl, .inl ⟨rfl, h⟩⟩; exact ⟨false, rfl, .inr ⟨rfl, h⟩⟩); have HB := Lib.hid hb; have HSS := Lib.hid hs; clear hd hs hb))
    all_goals
      have h2 := fun b (h1 : W.heap.size ≤ b) (h2 : b < W.heap.size + 3) => (HSS.out b h1 h2).trans (B3.out.block b (by show b < A2.heap.size; omega) (by simp))
      have hl4 : w4.heap[W.heap.size + 1 + 1]? = some (.loop rb) := (h2 _ (by omega) (by omega)).trans hlr2
      have hd4 : w4.heap[W.heap.size + 1]? = some (.deferred (some [])) := (h2 _ (by omega) (by omega)).trans hdf2
      have hb4 : Boxed w4 W.heap.size 34 (.func (.yield q) #[] #[]) := (h2 _ (by omega) (by omega)).trans hby2
      clear h2 HSS hcy3 hcy hy
      rcases HB.out with ⟨rfl, h4⟩ | ⟨rfl, h4⟩
      · gi_wp2
        refine ⟨hl4, ⟨.inl ⟨rfl, HG.out _ _ _ _ h4 (grownBy_putObj _ _ _) (by rintro b e; cases e; omega), World.putObj_heap_same (lt_of_block hl4), (World.putObj_heap_other (by omega)).trans hd4, hb4.kept (grownBy_putObj' _ _ _) (by intro e; injection e with e; omega)⟩, by intro b h1 h2; omega⟩⟩
      · gi_wp2
        refine ⟨hl4, ⟨.inr ⟨rfl, HGX.out _ _ _ _ h4 (grownBy_putObj _ _ _) (by rintro b e; cases e; omega), World.putObj_heap_same (lt_of_block hl4), (World.putObj_heap_other (by omega)).trans hd4⟩, by intro b h1 h2; omega⟩⟩
  · rintro e W2 ⟨hv, ⟨hJ, hlr, hdf, hby⟩ | ⟨k, hk, hJ, hlr, hdf⟩⟩
    · refine ⟨hv, .ready, none, by simp, hlr, ?_⟩
      intro re
      subst hrec
      rw [List.length_map] at hJ
      have h5 := HG.out _ _ _ _ hJ (grownBy_putObj W2 (W.heap.size + 1 + 1) (.loop re)) (by rintro b e; cases e; omega)
      have hd5 : (W2.putObj (W.heap.size + 1 + 1) (.loop re)).heap[W.heap.size + 1]? = some (.deferred (some [])) := (World.putObj_heap_other (by omega)).trans hdf
      dsimp only
      generalize W2.putObj _ _ = W3 at h5 hd5 ⊢
      have h6 := HG.out _ _ _ _ h5 (grownBy_putObj W3 (W.heap.size + 1) (.deferred none)) (by rintro b e; cases e; omega)
      clear hJ hlr hdf hby
      gi_wp2
      refine ⟨by simp, .inl ⟨_, _, rfl, run_takeDeferred hd5, ?_⟩⟩
      exact ⟨_, results_none rfl _ _ _, ⟨_, rfl⟩, .inl (by simpa [hl] using h6)⟩
    · refine ⟨hv, .done, some .ret, by simp, hlr, ?_⟩
      intro re
      subst hrec
      rw [List.length_map] at hk
      have h5 := HGX.out _ _ _ _ hJ (grownBy_putObj W2 (W.heap.size + 1 + 1) (.loop re)) (by rintro b e; cases e; omega)
      have hd5 : (W2.putObj (W.heap.size + 1 + 1) (.loop re)).heap[W.heap.size + 1]? = some (.deferred (some [])) := (World.putObj_heap_other (by omega)).trans hdf
      dsimp only
      generalize W2.putObj _ _ = W3 at h5 hd5 ⊢
      have h6 := HGX.out _ _ _ _ h5 (grownBy_putObj W3 (W.heap.size + 1) (.deferred none)) (by rintro b e; cases e; omega)
      clear hJ hlr hdf
      gi_wp2
      refine ⟨by simp, .inl ⟨_, _, rfl, run_takeDeferred hd5, ?_⟩⟩
      exact ⟨_, results_none rfl _ _ _, ⟨_, rfl⟩, .inr ⟨k, by omega, h6⟩⟩
end Go.Proofs.Ytgeaccoobhigcaa
namespace Go.Proofs.Ytgeaccoobhigcaa
open Go Go.RowKit
attribute [local go_sem] Oper.semAt_some

/-- What a loop that collects texts keeps. -/
structure CollS (w : World) (Need : World → Prop) (nb D l B0 : Nat) (rec : Loop) (vals : List ByteArray) (k : Nat) (A : World) : Prop where
  need : Need A
  bel : Below w.heap.size w A
  loop : A.heap[l]? = some (.loop rec)
  dfr : A.heap[D]? = some (.deferred (some []))
  nl : l < A.heap.size
  sd : w.heap.size ≤ B0 ∧ B0 < D ∧ D < l ∧ l < nb
  box : ∃ v, Boxed A B0 39 v ∧ A.ownsRow nb 9 1 v k ((vals.take k).map Value.string)
def Stays (w : World) (Need : World → Prop) : Prop := ∀ A B row, Need A → A.grownBy B row → (∀ b, row = some b → w.heap.size ≤ b) → Need B
section
variable {w : World} {Need : World → Prop} {nb D l B0 : Nat} {rec rec' : Loop} {vals : List ByteArray} {k : Nat} {A B : World}
theorem CollS.more (hN : Stays w Need) {c : Nat} {row : Option Nat} (h : CollS w Need (l + 1 + c) D l B0 rec vals k A) (hg : A.grownBy B row) (hr : ∀ b, row = some b → l + 1 ≤ b ∧ b < l + 1 + c) : CollS w Need (l + 1 + c) D l B0 rec vals k B := by
  obtain ⟨v, hv, ho⟩ := h.box
  have sd := h.sd
  have hne : ∀ b, b ≤ l → some b ≠ row := fun b hb e => by have := hr b e.symm; omega
  refine ⟨hN A B row h.need hg fun b e => by have := hr b e; omega, ?_, (hg.block l (lt_of_block h.loop) (hne l (Nat.le_refl _))).trans h.loop, (hg.block D (lt_of_block h.dfr) (hne D (by omega))).trans h.dfr,
    Nat.lt_of_lt_of_le h.nl hg.size, h.sd, ⟨v, hv.kept hg (hne B0 (by omega)), ho.kept hg ?_⟩⟩
  · exact h.bel.grown hg h.bel.size fun b e => by have := hr b e; omega
  · cases hv : v.ownBlock with
    | none => exact .inl rfl
    | some g =>
      refine .inr fun e => ?_
      have h1 := own_lt ho hv
      have h2 := hr g e.symm
      omega
theorem CollS.turn (h : CollS w Need nb D l B0 rec vals k A) (hN : Stays w Need) : CollS w Need nb D l B0 rec' vals k (A.putObj l (.loop rec')) := by
  obtain ⟨v, hv, ho⟩ := h.box
  have sd := h.sd
  have hb : Below w.heap.size A (A.putObj l (.loop rec')) := below_putObj _ (by omega)
  exact ⟨hN A _ (some l) h.need (grownBy_putObj' _ _ _) (by rintro b e; cases e; omega), h.bel.trans hb, World.putObj_heap_same (lt_of_block h.loop), (World.putObj_heap_other (by omega)).trans h.dfr,
    by simpa using h.nl, h.sd, ⟨v, hv.kept (grownBy_putObj' _ _ _) (fun e => by cases e; omega), ownsRow_putObj ho _ h.loop rfl⟩⟩
/-- One more text behind what has come. -/
theorem CollS.step (hN : Stays w Need) {tmp : Obj} {w1 : World} {v v' : Value} {x : ByteArray} {m : Nat} (h : CollS w Need nb D l B0 rec vals k A) (hnb : nb ≤ A.heap.size) (hx : vals[k]? = some x) (hv : Boxed A B0 39 v) (ho : A.ownsRow nb 9 1 v k ((vals.take k).map Value.string)) (hm : m = k + 1)
    (hown' : w1.ownsRow nb 9 1 v' m ((vals.take k).map Value.string ++ [.string x])) (hgrow : (A.alloc tmp).grownBy w1 v.ownBlock) :
    CollS w Need nb D l B0 rec vals (k + 1) (w1.setCell ⟨B0, 0, none⟩ v') ∧ ∀ g, g < nb → g ≠ B0 → (w1.setCell ⟨B0, 0, none⟩ v').heap[g]? = A.heap[g]? := by
  have sd := h.sd
  subst hm
  have hv1 : Boxed w1 B0 39 v := (hv.alloc tmp).kept hgrow (hv.not_row (by decide) ho)
  have hlow : ∀ g, g < nb → v.ownBlock ≠ some g := fun g hg e => by have := (own_lt ho e).1; omega
  have hnlA := h.nl
  have hsame : ∀ g, g < A.heap.size → g ≠ B0 → v.ownBlock ≠ some g → (w1.setCell ⟨B0, 0, none⟩ v').heap[g]? = A.heap[g]? := fun g h1 h2 h3 => app_same hgrow h1 h2 h3
  have hsz : A.heap.size ≤ (w1.setCell ⟨B0, 0, none⟩ v').heap.size := by
    have := hgrow.size
    simp only [World.size_alloc] at this
    simp [World.setCell]
    omega
  have hrow : ∀ b, v.ownBlock = some b → w.heap.size ≤ b := fun b e => by have := (own_lt ho e).1; omega
  have n1 := hN A _ none h.need (World.grownBy_alloc A tmp none) (by simp)
  have n2 := hN _ w1 _ n1 hgrow hrow
  have n3 := hN _ _ _ n2 (grownBy_setCell w1 ⟨B0, 0, none⟩ v') (fun b e => by injection e with e; rw [← e]; exact sd.1)
  refine ⟨⟨n3, ?_, (hsame l (lt_of_block h.loop) (by omega) (hlow l (by omega))).trans h.loop, (hsame D (lt_of_block h.dfr) (by omega) (hlow D (by omega))).trans h.dfr,
    Nat.lt_of_lt_of_le h.nl hsz, h.sd, ⟨v', hv1.set v', ?_⟩⟩, fun g h1 h2 => hsame g (by omega) h2 (hlow g h1)⟩
  · refine h.bel.trans ⟨?_, ?_, ?_, hsz, fun g hg => hsame g (by have := h.bel.size; omega) (by omega) (hlow g (by omega))⟩
    · exact hgrow.os
    · exact hgrow.tape
    · exact hgrow.output
  · rw [take_snoc' hx, List.map_append]
    exact hown'.kept (grownBy_setCell' w1 B0 v') (.inr (hv1.not_row (by decide) hown').symm)
end
theorem run_eql_func_nil79 (gf : Nat) (lb : Array Value) (W : World) : (binOp .eql 79 (.func (.func gf) #[] lb) .nilFunc).run Try.prog W = .ok (.bool false) W := by kernel_rfl
set_option maxRecDepth 100000 in
theorem eg80 (args : Array Value) (w : World) : (callFunc 80 args).run Try.prog w = .ok (.enter 80 args) w := rfl
theorem row1_new (W : World) (a : Value) (t : TypeId) : ∀ j u, [a][j]? = some u → (W.alloc (.cells #[a] t)).cell? ((⟨W.heap.size, 0, none⟩ : Addr).add j) = some u :=
  CellsAt.of_block (heap_alloc_new W _) 0 _ (by intro j u h; simpa using h)

set_option maxRecDepth 100000 in
set_option maxHeartbeats 4000000 in
theorem strList_any (lb : Array Value) (c : Nat) (Need : World → Prop) (L : List ByteArray) (hitr : IterP Try.prog 80 lb (L.map Value.string) c Need) (hlen : L.length ≤ 1000000) (w : World) (hN : Stays w Need) (h0 : Need w) :
    Calls Try.prog 48 #[.func (.func 80) #[] lb] w fun e w' => ∃ go c, e = .returned (.slice go L.length c) ∧ SlR w' 1 go L.length c (L.map Value.string) ∧ (∀ a, go = some a → w.heap.size ≤ a.block) ∧ Below w.heap.size w w' := by
  obtain ⟨i0, hi, hz0, hz1, hz2⟩ := info_parts Try.info9
  refine (callsIn_wide (n := 10)).1 ?_
  refine callsIn_of_wp_marks Try.func48 rfl trivial ?_
  simp only [Try.ntmps48, List.size_toArray, List.length_cons, List.length_nil, Nat.reduceAdd, Nat.reduceSub, Array.replicate_succ, Array.replicate_zero, List.push_toArray, List.append_toArray, List.nil_append, List.cons_append]
  have hnf := run_eql_func_nil79 80 lb
  gi_wp2
  have hbox := Boxed.new w 39 (.slice none 0 0)
  have hnd : Need (w.alloc (.cells #[.slice none 0 0] 39)) := hN w _ none h0 (World.grownBy_alloc w _ none) (by simp)
  have hbel : Below w.heap.size w (w.alloc (.cells #[.slice none 0 0] 39)) := (Below.refl _ w).alloc (Nat.le_refl _) _
  have hsz : (w.alloc (.cells #[.slice none 0 0] 39)).heap.size = w.heap.size + 1 := by simp
  generalize w.alloc (.cells #[.slice none 0 0] 39) = w0 at hbox hnd hbel hsz ⊢
  refine rf_stmt (gf := 80) (lb := lb) rfl eg80 ?_
  rw [hsz]
  intro fn W1 hb1 hs1 hd1 hl1
  have hB1 : Boxed W1 w.heap.size 39 (.slice none 0 0) := (hb1.block _ (by omega)).trans hbox
  have hN1 : Need W1 := hN w0 W1 none hnd (grown_of_below (hb1.mono (by omega))) (by simp)
  have hbw : Below w.heap.size w W1 := hbel.trans (hb1.mono (by omega))
  generalize hrec : rfRec fn _ _ _ _ (w.heap.size + 1) .ready none = rec at hl1
  have sd : w.heap.size ≤ w.heap.size ∧ w.heap.size < w.heap.size + 1 ∧ w.heap.size + 1 < w.heap.size + 1 + 1 ∧ w.heap.size + 1 + 1 < w.heap.size + 1 + 1 + 1 + c := by omega
  generalize hD : w.heap.size + 1 = D at *
  generalize hl : D + 1 = l at *
  refine (callsIn_wide.2 (hitr 5 l
    (fun k A => CollS w Need (l + 1 + c) D l w.heap.size rec L k A)
    (fun _ _ => False) W1
    (fun k A h => ⟨h.need, by have := h.nl; omega⟩)
    (fun k A B row h hg hr => h.more hN hg fun b e => by have := hr b e; omega)
    (fun _ _ _ _ h _ _ => h)
    (fun k x A hx h hsA => ?_)
    ⟨hN1, hbw, hl1, hd1, by omega, sd, ⟨_, hB1, World.ownsRow_nil _ _ _ _⟩⟩)).mono ?_
  · have hlr := h.loop
    subst hrec
    obtain ⟨t, hLk, rfl⟩ : ∃ t : ByteArray, L[k]? = some t ∧ x = .string t := by
      rw [List.getElem?_map] at hx
      cases hxk : L[k]? with
      | none => simp [hxk] at hx
      | some q => exact ⟨q, rfl, by simpa [hxk] using hx.symm⟩
    have HLK := Lib.hid hLk
    have hlk : k < L.length := (List.getElem?_eq_some_iff.1 hLk).1
    clear hx hLk
    refine rf_round1 _ hlr rfl (by intro K hK; gi_wp2; exact hK) ?_
    intro rb
    have h2 := h.turn hN (rec' := rb)
    have hs2 : l + 1 + c ≤ (A.putObj l (.loop rb)).heap.size := by simp; omega
    have hsm : ∀ b, l < b → (A.putObj l (.loop rb)).heap[b]? = A.heap[b]? := fun b hb => World.putObj_heap_other (by omega)
    generalize A.putObj l (.loop rb) = A2 at h2 hs2 hsm ⊢
    obtain ⟨v, hv, ho⟩ := h2.box
    have hvc := hv.cell
    gi_wp2_with (gi_at_builtin; refine wpListIn_append_own _ rfl _ _ 39 rfl (l + 1 + c) 9 i0 (.string ⟨#[]⟩) 1 16 Try.underlying39 hi hz0 hz1 hz2 rfl (by decide) _ _ _ rfl (ho.alloc _) ⟨A2.heap.size, 0, none⟩ 1 1 [.string t] rfl rfl (row1_new _ _ _) (by simp [Value.oneCell']) (by unfold maxLen; omega) (by omega) (by simp; omega) ?_; intro v' w1 hown' hgrow _; obtain ⟨g', cap', rfl⟩ := ownsRow_succ hown'; have hv1 := (hv.alloc (.cells #[.string t] 9)).kept hgrow (hv.not_row (by decide) ho); have hvc1 := hv1.cell; have hvf1 := hv1.frozen)
    obtain ⟨h3, hlow⟩ := h2.step hN hs2 HLK.out hv ho rfl hown' hgrow
    exact ⟨h3.loop, ⟨rfl, h3.turn hN⟩, fun b hb1 hb2 => (World.putObj_heap_other (by omega)).trans ((hlow b (by omega) (by omega)).trans (hsm b (by omega)))⟩
  · rintro e W2 ⟨hv, hc | ⟨_, _, hf⟩⟩
    · have hlr := hc.loop
      subst hrec
      refine ⟨hv, .ready, none, by simp, hlr, ?_⟩
      intro re
      have hc2 := hc.turn hN (rec' := re)
      dsimp only
      generalize W2.putObj _ _ = W3 at hc2 ⊢
      clear hc hlr
      obtain ⟨v, hv, ho⟩ := hc2.box
      have hvc := hv.cell
      have hDr := hc2.dfr
      have hbl := hc2.bel
      rw [List.length_map] at ho
      gi_wp2
      refine ⟨by simp, .inl ⟨_, _, rfl, run_takeDeferred hDr, ?_⟩⟩
      refine ⟨_, results_tmp rfl _ _ _, ?_⟩
      obtain ⟨go, c, rfl, hsl, hbk⟩ := SlR.of_owns (ownsRow_putObj ho (.deferred none) hDr rfl)
      rw [List.take_of_length_le (Nat.le_refl _)] at hsl
      exact ⟨go, c, by simp, hsl, fun a ha => by have := hbk a ha; omega, hbl.trans (below_putObj _ (by omega))⟩
    · exact hf.elim
end Go.Proofs.Ytgeaccoobhigcaa
namespace Go.Proofs.Ytgeaccoobhigcaa
open Go Go.RowKit
attribute [local go_sem] Oper.semAt_some

theorem strFirst_zero (lb : Array Value) (w : World) : Calls Try.prog 47 #[.func (.func 80) #[] lb, .int .i64 0] w fun e w' => e = .returned (.slice none 0 0) ∧ Below w.heap.size w w' := by
  have hnf := run_eql_func_nil79 80 lb
  go_enter Try.func47, Try.ntmps47
  go_wp2
  go_ret
  exact ⟨rfl, ((Below.refl _ w).alloc (Nat.le_refl _) _).alloc (by simp) _⟩
set_option maxRecDepth 100000 in
set_option maxHeartbeats 4000000 in
theorem strFirst_any (lb : Array Value) (c : Nat) (Need : World → Prop) (L : List ByteArray) (hitr : IterP Try.prog 80 lb (L.map Value.string) c Need) (hlen : L.length ≤ 1000000) (n : Nat) (hn1 : 1 ≤ n) (hn : n ≤ L.length) (w : World) (hN : Stays w Need) (h0 : Need w) :
    Calls Try.prog 47 #[.func (.func 80) #[] lb, .int .i64 n] w fun e w' => ∃ go c, e = .returned (.slice go n c) ∧ SlR w' 1 go n c ((L.take n).map Value.string) ∧ (∀ a, go = some a → w.heap.size ≤ a.block) ∧ Below w.heap.size w w' := by
  obtain ⟨i0, hi, hz0, hz1, hz2⟩ := info_parts Try.info9
  refine (callsIn_wide (n := 10)).1 ?_
  refine callsIn_of_wp_marks Try.func47 rfl trivial ?_
  simp only [Try.ntmps47, List.size_toArray, List.length_cons, List.length_nil, Nat.reduceAdd, Nat.reduceSub, Array.replicate_succ, Array.replicate_zero, List.push_toArray, List.append_toArray, List.nil_append, List.cons_append]
  have hnf := run_eql_func_nil79 80 lb
  have e1 : ¬ (n : Int) < 1 := by omega
  gi_wp2
  have hbn := Boxed.new w 3 (.int .i64 n)
  have hbn0 : Boxed ((w.alloc (.cells #[.int .i64 n] 3)).alloc (.cells #[.slice none 0 0] 39)) w.heap.size 3 (.int .i64 n) := hbn.alloc _
  have hbox : Boxed ((w.alloc (.cells #[.int .i64 n] 3)).alloc (.cells #[.slice none 0 0] 39)) (w.heap.size + 1) 39 (.slice none 0 0) := by
    have := Boxed.new (w.alloc (.cells #[.int .i64 n] 3)) 39 (.slice none 0 0); rwa [World.size_alloc] at this
  have hnd : Need ((w.alloc (.cells #[.int .i64 n] 3)).alloc (.cells #[.slice none 0 0] 39)) := hN _ _ none (hN w _ none h0 (World.grownBy_alloc w _ none) (by simp)) (World.grownBy_alloc _ _ none) (by simp)
  have hbel : Below w.heap.size w ((w.alloc (.cells #[.int .i64 n] 3)).alloc (.cells #[.slice none 0 0] 39)) := ((Below.refl _ w).alloc (Nat.le_refl _) _).alloc (by simp) _
  have hsz : ((w.alloc (.cells #[.int .i64 n] 3)).alloc (.cells #[.slice none 0 0] 39)).heap.size = w.heap.size + 2 := by simp
  clear hbn
  generalize (w.alloc (.cells #[.int .i64 n] 3)).alloc (.cells #[.slice none 0 0] 39) = w0 at hbox hbn0 hnd hbel hsz ⊢
  refine rf_stmt (gf := 80) (lb := lb) rfl eg80 ?_
  rw [hsz]
  intro fn W1 hb1 hs1 hd1 hl1
  have hB1 : Boxed W1 (w.heap.size + 1) 39 (.slice none 0 0) := (hb1.block _ (by omega)).trans hbox
  have hbn1 : Boxed W1 w.heap.size 3 (.int .i64 n) := (hb1.block _ (by omega)).trans hbn0
  have hN1 : Need W1 := hN w0 W1 none hnd (grown_of_below (hb1.mono (by omega))) (by simp)
  have hbw : Below w.heap.size w W1 := hbel.trans (hb1.mono (by omega))
  generalize hrec : rfRec fn _ _ _ _ (w.heap.size + 2) = rf at hl1 ⊢
  have sd : w.heap.size ≤ w.heap.size + 1 ∧ w.heap.size + 1 < w.heap.size + 2 ∧ w.heap.size + 2 < w.heap.size + 2 + 1 ∧ w.heap.size + 2 + 1 < w.heap.size + 2 + 1 + 1 + c := by omega
  generalize hB0 : w.heap.size + 1 = B0 at *
  generalize hD : w.heap.size + 2 = D at *
  generalize hl : D + 1 = l at *
  refine (callsIn_wide.2 (hitr 5 l
    (fun k A => CollS w Need (l + 1 + c) D l B0 (rf .ready none) L k A ∧ Boxed A w.heap.size 3 (.int .i64 n) ∧ k < n)
    (fun k A => CollS w Need (l + 1 + c) D l B0 (rf .done (some (.exit 0))) L k A ∧ k = n) W1
    (fun k A h => ⟨h.1.need, by have := h.1.nl; omega⟩)
    (fun k A B row h hg hr => ⟨h.1.more hN hg fun b e => by have := hr b e; omega, h.2.1.kept hg (fun e => by have := hr _ e.symm; omega), h.2.2⟩)
    (fun k A B row h hg hr => ⟨h.1.more hN hg fun b e => by have := hr b e; omega, h.2⟩)
    (fun k x A hx h hsA => ?_)
    ⟨⟨hN1, hbw, hl1, hd1, by omega, sd, ⟨_, hB1, World.ownsRow_nil _ _ _ _⟩⟩, hbn1, by omega⟩)).mono ?_
  · obtain ⟨h, hbnA, hkn⟩ := h
    have hlr := h.loop
    obtain ⟨t, hLk, rfl⟩ : ∃ t : ByteArray, L[k]? = some t ∧ x = .string t := by
      rw [List.getElem?_map] at hx
      cases hxk : L[k]? with
      | none => simp [hxk] at hx
      | some q => exact ⟨q, rfl, by simpa [hxk] using hx.symm⟩
    have HLK := Lib.hid hLk
    have hlk : k < L.length := (List.getElem?_eq_some_iff.1 hLk).1
    clear hx hLk
    subst hrec
    refine rf_round1 _ hlr rfl (by intro K hK; gi_wp2; exact hK) ?_
    intro rb
    have h2 := h.turn hN (rec' := rb)
    have hs2 : l + 1 + c ≤ (A.putObj l (.loop rb)).heap.size := by simp; omega
    have hsm : ∀ b, l < b → (A.putObj l (.loop rb)).heap[b]? = A.heap[b]? := fun b hb => World.putObj_heap_other (by omega)
    have hbn2 : Boxed (A.putObj l (.loop rb)) w.heap.size 3 (.int .i64 n) := hbnA.kept (grownBy_putObj' _ _ _) (fun e => by injection e with e; omega)
    generalize A.putObj l (.loop rb) = A2 at h2 hs2 hsm hbn2 ⊢
    obtain ⟨v, hv, ho⟩ := h2.box
    have hvc := hv.cell
    clear h hbnA hlr
    rcases (show k + 1 = n ∨ k + 1 < n by omega) with hlast | hlast
    · have hle : ((n : Int) ≤ (k : Int) + 1) = True := by simp; omega
      have HLA := Lib.hid hlast
      clear hlast
      gi_wp2_with (gi_at_builtin; refine wpListIn_append_own _ rfl _ _ 39 rfl (l + 1 + c) 9 i0 (.string ⟨#[]⟩) 1 16 Try.underlying39 hi hz0 hz1 hz2 rfl (by decide) _ _ _ rfl (ho.alloc _) ⟨A2.heap.size, 0, none⟩ 1 1 [.string t] rfl rfl (row1_new _ _ _) (by simp [Value.oneCell']) (by unfold maxLen; omega) (by omega) (by simp; omega) ?_; intro v' w1 hown' hgrow _; obtain ⟨g', cap', rfl⟩ := ownsRow_succ hown'; have hv1 := (hv.alloc (.cells #[.string t] 9)).kept hgrow (hv.not_row (by decide) ho); have hvc1 := hv1.cell; have hvf1 := hv1.frozen; have hv2 := (hv1.set (.slice (some ⟨g', 0, none⟩) (k + 1) cap')).cell; obtain ⟨h3, hlow⟩ := h2.step hN hs2 HLK.out hv ho rfl hown' hgrow; have hb3 : Boxed (w1.setCell ⟨B0, 0, none⟩ (.slice (some ⟨g', 0, none⟩) (k + 1) cap')) w.heap.size 3 _ := (hlow w.heap.size (by omega) (by omega)).trans hbn2; have hn2 := hb3.cell)
      exact ⟨h3.loop, .inr ⟨rfl, h3.turn hN, HLA.out⟩, fun b hb1 hb2 => (World.putObj_heap_other (by omega)).trans ((hlow b (by omega) (by omega)).trans (hsm b (by omega)))⟩
    · have hle : ((n : Int) ≤ (k : Int) + 1) = False := by simp; omega
      have HLA := Lib.hid hlast
      clear hlast
      gi_wp2_with (gi_at_builtin; refine wpListIn_append_own _ rfl _ _ 39 rfl (l + 1 + c) 9 i0 (.string ⟨#[]⟩) 1 16 Try.underlying39 hi hz0 hz1 hz2 rfl (by decide) _ _ _ rfl (ho.alloc _) ⟨A2.heap.size, 0, none⟩ 1 1 [.string t] rfl rfl (row1_new _ _ _) (by simp [Value.oneCell']) (by unfold maxLen; omega) (by omega) (by simp; omega) ?_; intro v' w1 hown' hgrow _; obtain ⟨g', cap', rfl⟩ := ownsRow_succ hown'; have hv1 := (hv.alloc (.cells #[.string t] 9)).kept hgrow (hv.not_row (by decide) ho); have hvc1 := hv1.cell; have hvf1 := hv1.frozen; have hv2 := (hv1.set (.slice (some ⟨g', 0, none⟩) (k + 1) cap')).cell; obtain ⟨h3, hlow⟩ := h2.step hN hs2 HLK.out hv ho rfl hown' hgrow; have hb3 : Boxed (w1.setCell ⟨B0, 0, none⟩ (.slice (some ⟨g', 0, none⟩) (k + 1) cap')) w.heap.size 3 _ := (hlow w.heap.size (by omega) (by omega)).trans hbn2; have hn2 := hb3.cell)
      exact ⟨h3.loop, .inl ⟨rfl, h3.turn hN, hb3.kept (grownBy_putObj' _ _ _) (fun e => by injection e with e; omega), HLA.out⟩, fun b hb1 hb2 => (World.putObj_heap_other (by omega)).trans ((hlow b (by omega) (by omega)).trans (hsm b (by omega)))⟩
  · rintro e W2 ⟨hv, ⟨hc, hbn, hkn⟩ | ⟨k, hk, hc, hkn⟩⟩
    · rw [List.length_map] at hkn
      omega
    · subst hkn
      refine ⟨hv, .done, some (.exit 0), by simp, hc.loop, ?_⟩
      intro re
      have hc2 := hc.turn hN (rec' := re)
      subst hrec
      dsimp only
      generalize W2.putObj _ _ = W3 at hc2 ⊢
      clear hc
      obtain ⟨v, hv, ho⟩ := hc2.box
      have hvc := hv.cell
      have hDr := hc2.dfr
      have hbl := hc2.bel
      gi_wp2
      refine ⟨by simp, .inl ⟨_, _, rfl, run_takeDeferred hDr, ?_⟩⟩
      refine ⟨_, results_tmp rfl _ _ _, ?_⟩
      obtain ⟨go, c, rfl, hsl, hbk⟩ := SlR.of_owns (ownsRow_putObj ho (.deferred none) hDr rfl)
      exact ⟨go, c, by simp, by first | exact hsl | (rw [List.map_take] at hsl; exact hsl), fun a ha => by have := hbk a ha; omega, hbl.trans (below_putObj _ (by omega))⟩
end Go.Proofs.Ytgeaccoobhigcaa
namespace Go.Proofs.Ytgeaccoobhigcaa
open Go Go.RowKit

set_option maxRecDepth 100000 in
set_option maxHeartbeats 2000000 in
theorem texts_same (l : List ByteArray) (a b : Option Addr) (n c d : Nat) (w : World) (ha : SlR w 1 a n c (l.map Value.string)) (hb : SlR w 1 b n d (l.map Value.string)) (hn : n ≤ 1000000) :
    Calls Try.prog 46 #[.slice a n c, .slice b n d] w fun e w' => e = .returned (.bool true) ∧ Below w.heap.size w w' := by
  have hl : l.length = n := by have := ha.1; simpa using this
  have HA := Lib.hid ha
  have HB := Lib.hid hb
  have HL := Lib.hid hl
  clear ha hb hl
  have hmix : Try.prog.follows .mixedOrders = true := by kernel_rfl
  go_enter Try.func46, Try.ntmps46
  go_wp2
  go_loopw [5] (fun t wr => ∃ i : Nat, i ≤ n ∧ t = .int .i64 i ∧ Below w.heap.size w wr) (fun t _ => n - (intOf t).toNat)
  case atStart => exact ⟨0, by omega, rfl, Below.refl _ _⟩
  case round =>
    obtain ⟨i, hi, rfl, hbw⟩ := hrel
    by_cases hlt : i < n
    · obtain ⟨s, hs⟩ : ∃ s, l[i]? = some s := ⟨_, List.getElem?_eq_getElem (by rw [HL.out]; exact hlt)⟩
      obtain ⟨g, o, rfl, hc, _, hnc⟩ := (HA.out.kept hbw).at (k := i) (c := .string s) (by rw [List.getElem?_map, hs]; rfl)
      obtain ⟨g2, o2, rfl, hc2, _, hnd⟩ := (HB.out.kept hbw).at (k := i) (c := .string s) (by rw [List.getElem?_map, hs]; rfl)
      have hbl := hbw
      have hin : (0 : Int) ≤ (i : Int) ∧ (i : Int) < (n : Int) := by omega
      clear hs
      go_wp2
      go_quiet (fail)
      go_wp2
      go_roundw
      case rel => exact ⟨i + 1, by omega, by go_num, ⟨hbl.os, hbl.tape, hbl.output, hbl.size, hbl.block⟩⟩
      case measure => simp [intOf]; omega
    · have hi6 : i = n := by omega
      subst hi6
      go_wp2
      go_ret
      exact ⟨rfl, hbw⟩
theorem of_any (ao : Option Addr) (n c : Nat) (w : World) : Calls Try.prog 45 #[.slice ao n c] w fun e w' => e = .returned (.func (.func 81) #[] #[.pointer (some ⟨w.heap.size, 0, none⟩)]) ∧ w' = w.alloc (.cells #[.slice ao n c] 77) := by
  go_enter Try.func45, Try.ntmps45
  go_wp2
  go_ret
  exact ⟨rfl, rfl⟩
theorem lines_any (lb : Array Value) (w : World) : Calls Try.prog 44 #[.func (.func 81) #[] lb] w fun e w' => e = .returned (.func (.func 80) #[] #[.pointer (some ⟨w.heap.size, 0, none⟩)]) ∧ w' = w.alloc (.cells #[.func (.func 81) #[] lb] 82) := by
  go_enter Try.func44, Try.ntmps44
  go_wp2
  go_ret
  exact ⟨rfl, rfl⟩
end Go.Proofs.Ytgeaccoobhigcaa
namespace Go.Proofs.Ytgeaccoobhigcaa
open Go Go.RowKit

/-- What the texts of a list's elements lie on. -/
def NeedL (Bf Bl : Nat) (ao : Option Addr) (n c : Nat) (es : List El) (W : World) : Prop :=
  W.cell? ⟨Bf, 0, none⟩ = some (.func (.func 81) #[] #[.pointer (some ⟨Bl, 0, none⟩)]) ∧ W.cell? ⟨Bl, 0, none⟩ = some (.slice ao n c) ∧ SlR W 12 ao n c (es.flatMap El.cells)
theorem needL_stays {Bf Bl : Nat} {ao : Option Addr} {n c : Nat} {es : List El} {w : World} (h1 : Bf < w.heap.size) (h2 : Bl < w.heap.size) (h3 : InB (fun b => b < w.heap.size) ao n) : Stays w (NeedL Bf Bl ao n c es) := by
  rintro A B row ⟨n1, n2, n3⟩ g hr
  have hne : ∀ b, b < w.heap.size → some b ≠ row := fun b hb e => by have := hr b e.symm; omega
  exact ⟨(World.cell?_of_block (g.block _ (World.block_lt_of_cell? A _ n1) (hne _ h1))).trans n1, (World.cell?_of_block (g.block _ (World.block_lt_of_cell? A _ n2) (hne _ h2))).trans n2,
    n3.grown g fun b e a ha hn e2 => by have := h3 a ha hn; have := hr b e; omega⟩
theorem lines_first {Bf Bl : Nat} {ao : Option Addr} {n c : Nat} {es : List El} (hl : es.length = n) (hn : n ≤ 60) (hok : ∀ e ∈ es, e.i.t.size ≤ 9223372036854775807 ∧ e.a.t.size ≤ 9223372036854775807 ∧ e.v.t.size ≤ 9223372036854775807)
    (k : Nat) (hk : k ≤ n) (w : World) (hN : Stays w (NeedL Bf Bl ao n c es)) (h0 : NeedL Bf Bl ao n c es w) :
    Calls Try.prog 47 #[.func (.func 80) #[] #[.pointer (some ⟨Bf, 0, none⟩)], .int .i64 (k : Int)] w fun e w' => ∃ go c, e = .returned (.slice go k c) ∧ SlR w' 1 go k c (((es.map elemS).take k).map Value.string) ∧ Below w.heap.size w w' := by
  rcases Nat.eq_zero_or_pos k with rfl | hk0
  · refine (strFirst_zero _ w).mono ?_
    rintro e w' ⟨rfl, b⟩
    exact ⟨none, 0, rfl, by simpa using SlR.nil w' 1, b⟩
  · have hit := lines_iter Bf Bl ao n c es hl (by omega) hok
    rw [show (es.map fun e => Value.string (elemS e)) = (es.map elemS).map Value.string by rw [List.map_map]; rfl] at hit
    refine (strFirst_any _ 3 (NeedL Bf Bl ao n c es) (es.map elemS) hit (by simp; omega) k hk0 (by simp; omega) w hN h0).mono ?_
    rintro e w' ⟨go, c', rfl, h1, _, h2⟩
    exact ⟨go, c', rfl, h1, h2⟩
theorem lines_list {Bf Bl : Nat} {ao : Option Addr} {n c : Nat} {es : List El} (hl : es.length = n) (hn : n ≤ 60) (hok : ∀ e ∈ es, e.i.t.size ≤ 9223372036854775807 ∧ e.a.t.size ≤ 9223372036854775807 ∧ e.v.t.size ≤ 9223372036854775807)
    (w : World) (hN : Stays w (NeedL Bf Bl ao n c es)) (h0 : NeedL Bf Bl ao n c es w) :
    Calls Try.prog 48 #[.func (.func 80) #[] #[.pointer (some ⟨Bf, 0, none⟩)]] w fun e w' => ∃ go c, e = .returned (.slice go n c) ∧ SlR w' 1 go n c ((es.map elemS).map Value.string) ∧ Below w.heap.size w w' := by
  have hit := lines_iter Bf Bl ao n c es hl (by omega) hok
  rw [show (es.map fun e => Value.string (elemS e)) = (es.map elemS).map Value.string by rw [List.map_map]; rfl] at hit
  refine (strList_any _ 3 (NeedL Bf Bl ao n c es) (es.map elemS) hit (by simp; omega) w hN h0).mono ?_
  rintro e w' ⟨go, c', rfl, h1, _, h2⟩
  rw [List.length_map, hl] at h1 ⊢
  exact ⟨go, c', rfl, h1, h2⟩
theorem own_kept {W W' : World} {base : Nat} {e : TypeId} {size n : Nat} {v : Value} {xs : List Value} (h : W.ownsRow base e size v n xs) (hb : Below W.heap.size W W') : W'.ownsRow base e size v n xs :=
  h.kept (row := none) ⟨hb.os, hb.tape, hb.output, hb.size, fun k hk _ => hb.block k hk⟩ (by cases v.ownBlock <;> simp)
set_option maxRecDepth 100000 in
set_option maxHeartbeats 4000000 in
theorem showLines_walk (ao : Option Addr) (n c : Nat) (es : List El) (k : Int) (w : World) (hs : SlR w 12 ao n c (es.flatMap El.cells)) (hok : ∀ e ∈ es, e.i.t.size ≤ 9223372036854775807 ∧ e.a.t.size ≤ 9223372036854775807 ∧ e.v.t.size ≤ 9223372036854775807) :
    Calls Try.prog 14 #[.slice ao n c, .int .i64 k] w fun e w' => e = .returned (.bool true) ∧ Below w.heap.size w w' := by
  have hl : es.length = n := by have := hs.1; rw [rows_length el_len] at this; omega
  have hn63 : n ≤ 9223372036854775807 := by have := hs.2.1; have := hs.2.2.1; unfold maxLen at this; omega
  have hnc := hs.2.1
  have HS := Lib.hid hs
  have HOK := Lib.hid hok
  have HL := Lib.hid hl
  clear hs hok hl
  obtain ⟨i0, hi, hz0, hz1, hz2⟩ := info_parts Try.info9
  by_cases h60 : n ≤ 60
  · go_enter Try.func14, Try.ntmps14
    go_wp2
    go_loopw [5, 6] (fun v t wr => ∃ i : Nat, i ≤ n ∧ t = .int .i64 i ∧ Hid (wr.ownsRow w.heap.size 9 1 v i (((es.map elemS).take i).map Value.string)) ∧ Below w.heap.size w wr) (fun _ t _ => n - (intOf t).toNat)
    case atStart => exact ⟨0, by omega, rfl, Lib.hid (World.ownsRow_nil _ _ _ _), Below.refl _ _⟩
    case round =>
      obtain ⟨i, hin, rfl, HO, hb⟩ := hrel
      by_cases hlt : i < n
      · obtain ⟨x, hx⟩ : ∃ x, es[i]? = some x := ⟨_, List.getElem?_eq_getElem (by rw [HL.out]; exact hlt)⟩
        obtain ⟨g, o, rfl, hcell⟩ := (HS.out.kept hb).row_at el_len (by omega) hx
        obtain ⟨o1, o2, o3⟩ := HOK.out x (List.mem_of_getElem? hx)
        have hRE := fun w => refElem_any x o1 o2 o3 w
        have hxs : (es.map elemS)[i]? = some (elemS x) := by rw [List.getElem?_map, hx]; rfl
        have HXS := Lib.hid hxs
        clear hx hxs
        generalize elemS x = S at HXS hRE
        obtain ⟨⟨ik, it, in_⟩, ⟨ak, at_, an⟩, ⟨vk, vt, vn⟩, acc, goal, tag⟩ := x
        obtain ⟨⟨c0, c1, c2, c3, c4, c5⟩, c6, c7, c8, c9, c10, c11⟩ := twelve_cells hcell
        unfold El.val at hRE
        simp only at hRE o1 o2 o3
        have HRE := Lib.hid hRE
        have HBW := Lib.hid hb
        clear hcell hRE hb
        by_cases g1 : it.size ≤ 100
        · by_cases g2 : at_.size ≤ 100
          · by_cases g3 : vt.size ≤ 100
            · go_wp2_with (first | (go_at_call 43; refine (HRE.out _).mono ?_; rintro e w3 ⟨rfl, b3⟩; have HO3 := Lib.hid (own_kept HO.out b3); have HB3 := Lib.hid (HBW.out.trans (b3.mono HBW.out.size)); clear b3 c0 c1 c2 c3 c4 c5 c6 c7 c8 c9 c10 c11) | (at_builtin; refine wpList_append_own _ rfl _ _ 39 rfl w.heap.size 9 i0 (.string ⟨#[]⟩) 1 16 Try.underlying39 hi hz0 hz1 hz2 rfl (by decide) _ _ _ rfl (HO3.out.alloc _) ⟨w3.heap.size, 0, none⟩ 1 1 [.string S] rfl rfl (row1_new _ _ _) (by simp [Value.oneCell']) (by unfold maxLen; omega) (by omega) (by have := HB3.out.size; simp; omega) ?_; intro v' w4 hown' hgrow _))
              have HB4 : Hid (Below w.heap.size w w4) := Lib.hid ((HB3.out.alloc HB3.out.size _).grown hgrow (by have := HB3.out.size; simp; omega) (fun g e => (own_lt HO3.out e).1))
              have HO4 : Hid (w4.ownsRow w.heap.size 9 1 v' (i + 1) (((es.map elemS).take (i + 1)).map Value.string)) := Lib.hid (by rw [take_snoc' HXS.out, List.map_append]; exact hown')
              clear hown' hgrow
              go_wp2
              go_roundw
              case rel => exact ⟨i + 1, by omega, by go_num, HO4, HB4.out⟩
              case measure => simp [intOf]; omega
            · have q3 : (100 : Int) < (vt.size : Int) := by omega
              go_wp2_with (go_at_call 32; refine (wakes7_any _).mono ?_; rintro e w3 ⟨rfl, b3⟩)
              go_ret
              exact ⟨rfl, HBW.out.trans (b3.mono HBW.out.size)⟩
          · have q2 : (100 : Int) < (at_.size : Int) := by omega
            go_wp2_with (go_at_call 32; refine (wakes7_any _).mono ?_; rintro e w3 ⟨rfl, b3⟩)
            go_ret
            exact ⟨rfl, HBW.out.trans (b3.mono HBW.out.size)⟩
        · have q1 : (100 : Int) < (it.size : Int) := by omega
          go_wp2_with (go_at_call 32; refine (wakes7_any _).mono ?_; rintro e w3 ⟨rfl, b3⟩)
          go_ret
          exact ⟨rfl, HBW.out.trans (b3.mono HBW.out.size)⟩
      · obtain rfl : i = n := by omega
        obtain ⟨go, rc, hv, hsl, hbk⟩ := SlR.of_owns HO.out
        rw [List.take_of_length_le (by rw [List.length_map, HL.out]; exact Nat.le_refl _)] at hsl
        subst hv
        obtain ⟨j, hj⟩ : ∃ j : Nat, (j : Int) = k % ((i : Int) + 1) := ⟨(k % ((i : Int) + 1)).toNat, by have := Int.emod_nonneg k (show ((i : Int) + 1) ≠ 0 by omega); omega⟩
        have hjl : j ≤ i := by have := Int.emod_lt_of_pos k (show 0 < ((i : Int) + 1) by omega); omega
        have hW := fun w => within_any k ((i : Int) + 1) w (by omega) (by omega)
        rw [← hj] at hW
        have HW := Lib.hid hW
        have HSL := Lib.hid hsl
        have HBW := Lib.hid hb
        have hrc := hsl.2.1
        clear hW hsl hj hb HO hbk
        have hnf := run_eql_func_nil79 80 #[.pointer (some ⟨wr.heap.size + 1, 0, none⟩)]
        go_wp2_with (first | (go_at_call 27; refine (HW.out _).mono ?_; rintro e w3 ⟨rfl, rfl⟩) | (go_at_call 45; refine (of_any _ _ _ _).mono ?_; rintro e w4 ⟨rfl, rfl⟩) | (go_at_call 44; refine (lines_any _ _).mono ?_; rintro e w5 ⟨rfl, rfl⟩))
        obtain ⟨W, hW⟩ : ∃ W, (wr.alloc (.cells #[.slice ao i c] 77)).alloc (.cells #[.func (.func 81) #[] #[.pointer (some ⟨wr.heap.size, 0, none⟩)]] 82) = W := ⟨_, rfl⟩
        have hbW : Below wr.heap.size wr W := by rw [← hW]; exact below_trans (below_new _ _) (below_new _ _)
        have hzW : W.heap.size = wr.heap.size + 2 := by rw [← hW]; simp
        have hf : W.cell? ⟨wr.heap.size + 1, 0, none⟩ = some (.func (.func 81) #[] #[.pointer (some ⟨wr.heap.size, 0, none⟩)]) := by
          rw [← hW]
          have := (Boxed.new (wr.alloc (.cells #[.slice ao i c] 77)) 82 (.func (.func 81) #[] #[.pointer (some ⟨wr.heap.size, 0, none⟩)])).cell
          rwa [World.size_alloc] at this
        have hb2 : W.cell? ⟨wr.heap.size, 0, none⟩ = some (.slice ao i c) := by
          rw [← hW]
          exact ((Boxed.new wr 77 (.slice ao i c)).alloc _).cell
        have hsW : SlR W 12 ao i c (es.flatMap El.cells) := (HS.out.kept HBW.out).kept hbW
        have hin0 : InB (fun b => b < W.heap.size) ao i := hsW.inB (by omega)
        have hst : ∀ W', Below W.heap.size W W' → Stays W' (NeedL (wr.heap.size + 1) wr.heap.size ao i c es) := fun W' b => by
          have := b.size
          exact needL_stays (by omega) (by omega) fun a ha hn => Nat.lt_of_lt_of_le (hin0 a ha hn) this
        have hnd : ∀ W', Below W.heap.size W W' → NeedL (wr.heap.size + 1) wr.heap.size ao i c es W' := fun W' b => hst W (Below.refl _ _) W W' none ⟨hf, hb2, hsW⟩ ⟨b.os, b.tape, b.output, b.size, fun k hk _ => b.block k hk⟩ (by simp)
        have HF := Lib.hid (fun W' b => lines_first HL.out h60 HOK.out j hjl W' (hst W' b) (hnd W' b))
        have HI := Lib.hid (fun W' b => lines_list HL.out h60 HOK.out W' (hst W' b) (hnd W' b))
        have HR := Lib.hid (fun W' (b : Below W.heap.size W W') => (HSL.out.kept hbW).kept b)
        have HBW2 := Lib.hid (HBW.out.trans (hbW.mono HBW.out.size))
        have HB0 : Hid (Below W.heap.size W W.drew) := Lib.hid ⟨rfl, rfl, rfl, Nat.le_refl _, fun _ _ => rfl⟩
        have hmix : Try.prog.follows .mixedOrders = true := by kernel_rfl
        rw [hW]
        clear hW hf hb2 hsW hin0 hst hnd hbW HSL HBW
        have hj0 : (0 : Int) ≤ (j : Int) := by omega
        have hjr : (j : Int) ≤ (rc : Int) := by omega
        go_region_held3 (fun _ => True) (trivial) (first
          | (go_at_call 47; (with_reducible refine (HF.out _ HB0.out).mono ?_); rintro e w11 ⟨a1, c1, rfl, s1, b1⟩; have B1 : Hid (Below W.heap.size W w11) := Lib.hid (HB0.out.trans (b1.mono HB0.out.size)))
          | (go_at_call 46; (with_reducible refine (texts_same _ _ _ _ _ _ _ s1 ((HR.out _ B1.out).take hjl) (by omega)).mono ?_); rintro e w12 ⟨rfl, b2⟩; have B2 : Hid (Below W.heap.size W w12) := Lib.hid (B1.out.trans (b2.mono B1.out.size)))
          | (go_at_call 48; (with_reducible refine (HI.out _ B2.out).mono ?_); rintro e w13 ⟨a3, c3, rfl, s3, b3⟩; have B3 : Hid (Below W.heap.size W w13) := Lib.hid (B2.out.trans (b3.mono B2.out.size)))
          | (go_at_call 46; (with_reducible refine (texts_same _ _ _ _ _ _ _ s3 (HR.out _ B3.out) (by omega)).mono ?_); rintro e w14 ⟨rfl, b4⟩; have B4 : Hid (Below W.heap.size W w14) := Lib.hid (B3.out.trans (b4.mono B3.out.size)))
          | (go_at_call 32; (with_reducible refine (wakes7_any _).mono ?_); rintro e w15 ⟨rfl, b5⟩; have B5 : Hid (Below W.heap.size W w15) := Lib.hid (B4.out.trans (b5.mono B4.out.size))))
        go_wp2
        go_ret
        exact ⟨rfl, HBW2.out.trans (B5.out.mono HBW2.out.size)⟩
  · have h61 : (60 : Int) < (n : Int) := by omega
    go_enter Try.func14, Try.ntmps14
    go_wp2_with (go_at_call 32; refine (wakes7_any _).mono ?_; rintro e w3 ⟨rfl, b3⟩)
    go_ret
    exact ⟨rfl, b3⟩
end Go.Proofs.Ytgeaccoobhigcaa
namespace Go.Proofs.Ytgeaccoobhigcaa
open Go.ChangeShapes Go.WideShapes Go.ChangeAt Go.RowKit
open Go.ChangeMaps (open_string shut_string)

theorem showLines_own : ownKnob Try.prog.godebug = none := by kernel_rfl
theorem showLines_laidOut : laidOutB Try.prog = true := by kernel_rfl

set_option maxRecDepth 100000 in
theorem showLines_lifted (os : Os) (started : os.Started) (H : Type) (enc : TypeId × Value → H) :
    ReturnsInHanded {} Try.checked os 14 .any (Rows.showLinesSpec.pre6 enc Try.prog Try.f14 Rows.showLinesRow.domain false) (Rows.showLinesSpec.post enc Try.prog Try.f14 false true false false) := by
  refine returnsInHanded_of_change (C := Try.checked) showLines_own started (by kernel_rfl) Try.func14
    (ChangeSpec.witness6 (enc := enc) (C := Try.checked) false ⟨#[], #[.slice none 0 0, .int .i64 0], []⟩ 8 (by kernel_rfl) (by kernel_rfl) (by kernel_rfl) (by kernel_rfl)) ?_
  intro W base args ds gs before hval0 hW _ _
  have hval : ∀ (j : Nat) t v, Try.f14.params[j]? = some t → args[j]? = some v → Value.okWide Try.prog W .any base t v := hval0
  have hW' := hW
  obtain ⟨p, q, hA0, hV, rfl, hfz, hnd⟩ := hW
  have hA : DataW.TrodAll enc Try.prog W 0 (fun _ => true) true Try.f14.params.toList args.toList ds p := hA0
  rw [Try.params14] at hA hval
  obtain ⟨v0, vs0, d0, ds0, p0, q0, hargs, rfl, rfl, h0, r0⟩ := trodAll_cons hA
  obtain ⟨v1, vs1, d1, ds1, p1, q1, rfl, rfl, rfl, h1, r1⟩ := trodAll_cons r0
  obtain ⟨rfl, rfl, rfl⟩ := trodAll_nil r1
  obtain rfl : args = #[v0, v1] := by cases args; simp_all
  obtain ⟨rfl, rfl⟩ := trodVars_none hV
  obtain ⟨a0, len0, cap0, rfl⟩ := okWide_slice Try.underlying77 (hval 0 77 v0 rfl rfl)
  have k0 := h0
  have lt0 : ∀ x ∈ p0, x.block < W.heap.size := by obtain ⟨m, hm⟩ := k0; exact DataW.trod_lt m _ _ _ hm
  obtain ⟨z0, w0, y0⟩ : ∃ es : List El, SlR W 12 a0 len0 cap0 (es.flatMap El.cells) ∧ ∀ e ∈ es, e.i.t.size ≤ maxLen ∧ e.a.t.size ≤ maxLen ∧ e.v.t.size ≤ maxLen := by
    obtain ⟨fuel, hf⟩ := h0
    obtain ⟨ao, n, c, l, hc, hs, hq⟩ := open_list (f := El.cells) (Q := fun e => e.i.t.size ≤ maxLen ∧ e.a.t.size ≤ maxLen ∧ e.v.t.size ≤ maxLen) Try.underlying77 (by kernel_rfl) (by omega) el_len (fun n cs' x' _ h => open_elem h) hf
    simp [Value.cells] at hc
    obtain ⟨rfl, rfl, rfl⟩ := hc
    exact ⟨l, hs, hq⟩
  obtain ⟨a1, rfl, rfl, rfl, w1⟩ := open_int Try.underlying3 (hval 1 3 v1 rfl rfl) h1
  clear hA0 hval0
  refine (showLines_walk a0 len0 cap0 z0 a1 W w0 y0).mono fun e W' ⟨he, bel⟩ => ?_
  subst he
  exact ⟨_, rfl, _, _, _, [], _, [], hW', trodAll_mk1 (shut_bool Try.underlying4 _), (trodAll_cons_mk (Below.trod showLines_laidOut (by kernel_rfl) (of_decide_eq_true (by kernel_rfl)) k0 bel lt0) (trodAll_cons_mk (shut_int Try.underlying3 w1) trodAll_mk0)), rfl, bel.frame _, fun h => by cases h⟩

/-- THE GIVEN STATEMENT. -/
theorem showLines_holds : Rows.ShowLinesSaid :=
  OpenClaim.holds_of_wide 14 Try.f14 rfl rfl rfl rfl rfl rfl rfl ⟨rfl, rfl, rfl, rfl, rfl⟩ rfl rfl rfl rfl rfl (by kernel_rfl) Try.func14 (by kernel_rfl)
    (of_decide_eq_true (by kernel_rfl)) (by unfold Func.isWrapper; first | (rw [if_pos (by decide +kernel)]; kernel_rfl) | (rw [if_neg (by decide +kernel)]; exact ⟨rfl, rfl⟩))
    (fun os started H enc _ => showLines_lifted os started H enc)
#print axioms showLines_holds
end Go.Proofs.Ytgeaccoobhigcaa
