/-
  Slices as they read in memory, appends onto a full slice, small facts on worlds. No condition of its own.
-/
import Derived.Test.YtgeaccoobhigcaaRows
import Derived.WalkKit
import Derived.WalkSpells
import Derived.WalkLawsBesides
import Derived.Deep.RegionHeld3
import Derived.Deep.AppendLies
import Derived.Lib.Hide
namespace Go.Proofs.Ytgeaccoobhigcaa
open Go.RowKit

/-- Cells from an address on. -/
def CellsAt (w : World) (a : Addr) (cs : List Value) : Prop := ∀ j u, cs[j]? = some u → w.cell? (a.add j) = some u

/-- '.slice ao n cap' is a slice of n elements of 'size' cells each; its cells read 'cs'. -/
def SlR (w : World) (size : Nat) (ao : Option Addr) (n cap : Nat) (cs : List Value) : Prop :=
  cs.length = n * size ∧ n ≤ cap ∧ cap ≤ maxLen ∧ (ao = none → cap = 0) ∧ ∀ a, ao = some a → CellsAt w a cs

theorem addr_add_zero (a : Addr) : a.add 0 = a := by simp [Addr.add]
theorem addr_add_lit (b o j : Nat) : (⟨b, o, none⟩ : Addr).add j = ⟨b, o + j, none⟩ := by
  unfold Addr.add; split <;> simp_all

theorem CellsAt.nil (w : World) (a : Addr) : CellsAt w a [] := by intro j u h; simp at h

theorem CellsAt.block_lt {w : World} {a : Addr} {cs : List Value} (h : CellsAt w a cs) (hne : cs ≠ []) : a.block < w.heap.size := by
  cases cs with
  | nil => exact absurd rfl hne
  | cons c cs =>
    have h0 := h 0 c (by simp)
    rw [addr_add_zero] at h0
    exact World.block_lt_of_cell? w a h0

theorem CellsAt.of_block {w : World} {g : Nat} {cur : Array Value} {e : TypeId} {fz : Nat × Nat} (hg : w.heap[g]? = some (.cells cur e fz)) (off : Nat) (cs : List Value)
    (h : ∀ j u, cs[j]? = some u → cur[off + j]? = some u) : CellsAt w ⟨g, off, none⟩ cs := by
  intro j u hj
  rw [addr_add_lit, cell_of_row w g (off + j) cur e fz hg]
  exact h j u hj

theorem SlR.nil (w : World) (size : Nat) : SlR w size none 0 0 [] := ⟨by simp, by simp, by simp, by simp, by simp⟩

/-- APPEND onto a slice whose capacity is its length: what is appended lies in new memory, or nothing is. -/
theorem run_append_full {P : Program} (w : World) (t ty e : TypeId) (i : TypeInfo) (z : Value) (size bytes : Nat) (ht : P.underlying t = some (.slice e)) (hi : P.info? e = some i) (hz : i.zero = some z)
    (hsize : i.size = size) (hby : i.bytes = bytes)
    (ao bo : Option Addr) (n m c : Nat) (xs ys : List Value) (hs : SlR w size ao n n xs) (hx : SlR w size bo m c ys)
    (h63 : n + m ≤ maxLen) (hbytes : (n + m) * bytes ≤ 140737488355328) :
    ∃ go c' w', (Builtin.append_ #[t, t] ty #[.slice ao n n, .slice bo m c]).run P w = .ok (.slice go (n + m) c') w' ∧ SlR w' size go (n + m) c' (xs ++ ys) ∧ w.grownBy w' none ∧ ((go = ao ∧ m = 0) ∨ go = some ⟨w.heap.size, 0, none⟩) := by
  subst hsize
  subst hby
  obtain ⟨hxl, hle, hmx, hxn, hc⟩ := hx
  obtain ⟨hsl, _, hmx', hsn, hc'⟩ := hs
  have hlen : (xs ++ ys).length = (n + m) * i.size := by rw [List.length_append, hsl, hxl, Nat.add_mul]
  have hh : n + m ≤ 9223372036854775807 := by simp only [maxLen] at h63; omega
  rcases Nat.eq_zero_or_pos m with rfl | hm
  · have hy : ys = [] := List.eq_nil_of_length_eq_zero (by simpa using hxl)
    subst hy
    refine ⟨ao, n, w, ?_, ⟨hlen, Nat.le_refl _, hmx', hsn, by simpa using hc'⟩, ⟨rfl, rfl, rfl, Nat.le_refl _, fun _ _ _ => rfl⟩, .inl ⟨rfl, rfl⟩⟩
    cases ao <;> cases bo <;>
    simp [Builtin.append_, run_underlying ht, sizeOf, typeInfo, hi, Builtin.lenOf, Builtin.firstCells, loadCells, loadCellsFrom, storeCells]
  · cases bo with
    | none => have := hxn rfl; omega
    | some b =>
      replace hc := hc b rfl
      have fin : ∀ (newcap : Nat), n + m ≤ newcap → newcap ≤ maxLen → SlR (w.drew.alloc (.cells (xs.toArray ++ ys.toArray ++ Builtin.zeroCells z.cells (newcap - (n + m))) e)) i.size (some ⟨w.heap.size, 0, none⟩) (n + m) newcap (xs ++ ys) ∧
          w.grownBy (w.drew.alloc (.cells (xs.toArray ++ ys.toArray ++ Builtin.zeroCells z.cells (newcap - (n + m))) e)) none := by
        intro newcap h1 h2
        refine ⟨⟨hlen, h1, h2, by simp, ?_⟩, ⟨rfl, rfl, rfl, by simp, fun k hk _ => Below.heap_alloc w.drew _ k hk⟩⟩
        intro a ha
        cases ha
        refine CellsAt.of_block (heap_alloc_new w.drew _) 0 _ ?_
        intro j u hj
        have hjl : j < (xs ++ ys).length := (List.getElem?_eq_some_iff.1 hj).1
        rw [Nat.zero_add, Array.getElem?_append_left (by simpa using hjl)]
        rw [show xs.toArray ++ ys.toArray = (xs ++ ys).toArray by simp]
        simpa using hj
      have hge := grownCap_ge w (n + m) n e
      have hcm := grownCap_le_maxLen w (n + m) n e h63
      cases ao with
      | none =>
        obtain rfl := hsn rfl
        have hx0 : xs = [] := List.eq_nil_of_length_eq_zero (by simpa using hsl)
        subst hx0
        have hr := run_append_nil (P := P) w t ty e i z ht hi hz b m c ys hxl hc hm (by omega) (by have hb := hbytes; simp only [Nat.zero_add] at hb; omega)
        have f := fin (grownCap w (0 + m) 0 e) hge hcm
        simp only [Nat.zero_add, List.nil_append, Array.empty_append] at f ⊢
        exact ⟨_, _, _, hr, f.1, f.2, .inr rfl⟩
      | some a =>
        have hr := run_append_grow (P := P) w t ty e i z ht hi hz a n n xs hsl (hc' a rfl) b m c ys hxl hc (by omega) (by omega) (growslice_fits (by omega) hbytes)
        exact ⟨_, _, _, hr, (fin _ hge hcm).1, (fin _ hge hcm).2, .inr rfl⟩

theorem wp_append_full {P : Program} {w : World} {o : Oper} {a : Act} {K : Act → World → Prop} {Q : Exit → Act → World → Prop} (s x : Operand) (t : TypeId)
    (ho : o.op = .call { callee := .builtin .append, args := #[s, x], argTypes := #[t, t] })
    (e : TypeId) (i : TypeInfo) (z : Value) (size bytes : Nat) (ht : P.underlying t = some (.slice e)) (hi : P.info? e = some i) (hz : i.zero = some z)
    (hsize : i.size = size) (hby : i.bytes = bytes)
    (ao bo : Option Addr) (n m c : Nat) (xs ys : List Value) (hes : a.eval s = .slice ao n n) (hex : a.eval x = .slice bo m c) (hs : SlR w size ao n n xs) (hx : SlR w size bo m c ys)
    (h63 : n + m ≤ maxLen) (hbytes : (n + m) * bytes ≤ 140737488355328)
    (h : ∀ go c' w', SlR w' size go (n + m) c' (xs ++ ys) → w.grownBy w' none → ((go = ao ∧ m = 0) ∨ go = some ⟨w.heap.size, 0, none⟩) → K (a.put o.dst (.slice go (n + m) c')) w') : o.wp P a w K Q := by
  obtain ⟨go, c', w', hr, h2, h3, h4⟩ := run_append_full (P := P) w t o.type e i z size bytes ht hi hz hsize hby ao bo n m c xs ys hs hx h63 hbytes
  unfold Oper.wp execOp
  simp only [ho, resolve, invoke, builtin, Sem.run_bind, Sem.run_pure, Result.andThen_ok, List.map_toArray, List.map_cons, List.map_nil, hes, hex, hr]
  exact h go c' w' h2 h3 h4

theorem wpList_append_full {P : Program} {w : World} {ops : Array Oper} {rest : List Oper} {o : Oper} {a : Act} {Q : Exit → Act → World → Prop} (hgd : o.guard = none) (s x : Operand) (t : TypeId)
    (ho : o.op = .call { callee := .builtin .append, args := #[s, x], argTypes := #[t, t] })
    (e : TypeId) (i : TypeInfo) (z : Value) (size bytes : Nat) (ht : P.underlying t = some (.slice e)) (hi : P.info? e = some i) (hz : i.zero = some z)
    (hsize : i.size = size) (hby : i.bytes = bytes)
    (ao bo : Option Addr) (n m c : Nat) (xs ys : List Value) (hes : a.eval s = .slice ao n n) (hex : a.eval x = .slice bo m c) (hs : SlR w size ao n n xs) (hx : SlR w size bo m c ys)
    (h63 : n + m ≤ maxLen) (hbytes : (n + m) * bytes ≤ 140737488355328)
    (h : ∀ go c' w', SlR w' size go (n + m) c' (xs ++ ys) → w.grownBy w' none → ((go = ao ∧ m = 0) ∨ go = some ⟨w.heap.size, 0, none⟩) → wpList P ops Q rest (a.put o.dst (.slice go (n + m) c')) w') : wpList P ops Q (o :: rest) a w :=
  wpList_plain hgd fun _ hK => wp_append_full s x t ho e i z size bytes ht hi hz hsize hby ao bo n m c xs ys hes hex hs hx h63 hbytes fun go c' w' h2 h3 h4 => hK _ _ (h go c' w' h2 h3 h4)

theorem step_append_full {P : Program} {w : World} {ops : Array Oper} {o : Oper} {a : Act} {K : Act → World → Prop} {Q : Exit → Act → World → Prop} {E : Prop} (hgd : o.guard = none) (s x : Operand) (t : TypeId)
    (ho : o.op = .call { callee := .builtin .append, args := #[s, x], argTypes := #[t, t] })
    (e : TypeId) (i : TypeInfo) (z : Value) (size bytes : Nat) (ht : P.underlying t = some (.slice e)) (hi : P.info? e = some i) (hz : i.zero = some z)
    (hsize : i.size = size) (hby : i.bytes = bytes)
    (ao bo : Option Addr) (n m c : Nat) (xs ys : List Value) (hes : a.eval s = .slice ao n n) (hex : a.eval x = .slice bo m c) (hs : SlR w size ao n n xs) (hx : SlR w size bo m c ys)
    (h63 : n + m ≤ maxLen) (hbytes : (n + m) * bytes ≤ 140737488355328)
    (h : ∀ go c' w', SlR w' size go (n + m) c' (xs ++ ys) → w.grownBy w' none → ((go = ao ∧ m = 0) ∨ go = some ⟨w.heap.size, 0, none⟩) → K (a.put o.dst (.slice go (n + m) c')) w') :
    if Region.wanted o (yielded ops a.tmps) = true then Oper.wp P o a w K Q else E := by
  have hw : Region.wanted o (yielded ops a.tmps) = true := by simp [Region.wanted, hgd]
  rw [if_pos hw]
  exact wp_append_full s x t ho e i z size bytes ht hi hz hsize hby ao bo n m c xs ys hes hex hs hx h63 hbytes h

theorem two_cells {w : World} {b : Nat} {x y : Value} {t : TypeId} (h : w.heap[b]? = some (.cells #[x, y] t (0, 0))) :
  w.cell? ⟨b, 0, none⟩ = some x ∧ w.cell? ⟨b, 1, none⟩ = some y ∧ w.frozen? ⟨b, 0, none⟩ = false ∧ w.frozen? ⟨b, 1, none⟩ = false := by
  simp [World.cell?, World.frozen?, h]

theorem CellsAt.drew {w : World} {a : Addr} {cs : List Value} (h : CellsAt w a cs) : CellsAt w.drew a cs := h
theorem SlR.drew {w : World} {size : Nat} {ao : Option Addr} {n cap : Nat} {cs : List Value} (h : SlR w size ao n cap cs) : SlR w.drew size ao n cap cs := h
theorem SlR.drewN {w : World} {size : Nat} {ao : Option Addr} {n cap : Nat} {cs : List Value} (h : SlR w size ao n cap cs) (k : Nat) : SlR (w.drewN k) size ao n cap cs := h

theorem SlR.full {w : World} {size : Nat} {ao : Option Addr} {n cap : Nat} {cs : List Value} (h : SlR w size ao n cap cs) : SlR w size ao n n cs :=
  ⟨h.1, Nat.le_refl _, Nat.le_trans h.2.1 h.2.2.1, fun e => by have := h.2.2.2.1 e; have := h.2.1; omega, h.2.2.2.2⟩

theorem two_setCell {w : World} {b : Nat} {x y u : Value} {t : TypeId} (h : w.heap[b]? = some (.cells #[x, y] t (0, 0))) : (w.setCell ⟨b, 1, none⟩ u).heap[b]? = some (.cells #[x, u] t (0, 0)) := by
  have hlt := lt_of_block h
  have h' : w.heap[b] = .cells #[x, y] t (0, 0) := by simpa [Array.getElem?_eq_getElem hlt] using h
  show (w.heap.modify b _)[b]? = _
  rw [Array.getElem?_eq_getElem (by simpa using hlt), Array.getElem_modify_self, h']
  rfl

/-- The data of a slice lie outside block b. -/
def OffB (b : Nat) (ao : Option Addr) (n : Nat) : Prop := ∀ a, ao = some a → 0 < n → a.block ≠ b
/-- The data of a slice lie in blocks of some kind. -/
def InB (K : Nat → Prop) (ao : Option Addr) (n : Nat) : Prop := ∀ a, ao = some a → 0 < n → K a.block

theorem CellsAt.grown {w w' : World} {row : Option Nat} {a : Addr} {cs : List Value} (h : CellsAt w a cs) (hg : w.grownBy w' row) (hne : cs ≠ [] → some a.block ≠ row) : CellsAt w' a cs := by
  intro j u hj
  have h1 := h j u hj
  have hb : (a.add j).block = a.block := by unfold Addr.add; split <;> rfl
  refine (World.cell?_of_block (hg.block _ (World.block_lt_of_cell? w _ h1) ?_)).trans h1
  rw [hb]
  exact hne (by rintro rfl; simp at hj)

theorem SlR.grown {w w' : World} {row : Option Nat} {size : Nat} {ao : Option Addr} {n cap : Nat} {cs : List Value} (h : SlR w size ao n cap cs) (hg : w.grownBy w' row)
    (hne : ∀ b, row = some b → OffB b ao n) : SlR w' size ao n cap cs :=
  ⟨h.1, h.2.1, h.2.2.1, h.2.2.2.1, fun a ha => (h.2.2.2.2 a ha).grown hg fun hcs e => by
    have hn : 0 < n := by
      rcases Nat.eq_zero_or_pos n with h0 | h0
      · exact absurd (List.eq_nil_of_length_eq_zero (by rw [h.1, h0]; simp)) hcs
      · exact h0
    exact hne _ e.symm a ha hn rfl⟩

theorem grownBy_refl (w : World) (row : Option Nat) : w.grownBy w row := ⟨rfl, rfl, rfl, Nat.le_refl _, fun _ _ _ => rfl⟩
theorem grownBy_drew {w w' : World} {row : Option Nat} (h : w.grownBy w' row) : w.grownBy w'.drew row := ⟨h.os, h.tape, h.output, h.size, h.block⟩
theorem grownBy_drewN {w w' : World} {row : Option Nat} (h : w.grownBy w' row) (k : Nat) : w.grownBy (w'.drewN k) row := ⟨h.os, h.tape, h.output, h.size, h.block⟩
theorem grownBy_of_drew {w w' : World} {row : Option Nat} (h : w.drew.grownBy w' row) : w.grownBy w' row := ⟨h.os, h.tape, h.output, h.size, h.block⟩
theorem grownBy_of_drewN {w w' : World} {row : Option Nat} {k : Nat} (h : (w.drewN k).grownBy w' row) : w.grownBy w' row := ⟨h.os, h.tape, h.output, h.size, h.block⟩
theorem grownBy_trans {a b c : World} {row : Option Nat} (h : a.grownBy b row) (k : b.grownBy c row) : a.grownBy c row :=
  ⟨k.os.trans h.os, k.tape.trans h.tape, k.output.trans h.output, Nat.le_trans h.size k.size, fun i hi hr => (k.block i (Nat.lt_of_lt_of_le hi h.size) hr).trans (h.block i hi hr)⟩
theorem grownBy_some {a b : World} (row : Option Nat) (h : a.grownBy b none) : a.grownBy b row := ⟨h.os, h.tape, h.output, h.size, fun i hi _ => h.block i hi (by simp)⟩
theorem grownBy_setCell (w : World) (a : Addr) (v : Value) : w.grownBy (w.setCell a v) (some a.block) :=
  ⟨rfl, rfl, rfl, by simp [World.setCell], fun k _ hr => Below.heap_setCell _ _ _ _ (fun e => hr (by rw [e]))⟩
/-- A block that was made since may be written besides. -/
theorem grownBy_new {a b c : World} {row : Option Nat} {k : Nat} (h : a.grownBy b row) (g : b.grownBy c (some k)) (hk : a.heap.size ≤ k ∨ row = some k) : a.grownBy c row :=
  ⟨g.os.trans h.os, g.tape.trans h.tape, g.output.trans h.output, Nat.le_trans h.size g.size, fun i hi hr => (g.block i (Nat.lt_of_lt_of_le hi h.size) (fun e => by
    cases e
    rcases hk with hk | hk
    · omega
    · exact hr hk.symm)).trans (h.block i hi hr)⟩

/-- A slice that is not empty: where it lies, its first cell, and the rest of it. -/
theorem SlR.head {w : World} {ao : Option Addr} {n cap : Nat} {c : Value} {cs : List Value} (h : SlR w 1 ao (n + 1) cap (c :: cs)) :
    ∃ g off, ao = some ⟨g, off, none⟩ ∧ w.cell? ⟨g, off, none⟩ = some c ∧ CellsAt w ⟨g, off + 1, none⟩ cs := by
  cases ao with
  | none => have := h.2.2.2.1 rfl; have := h.2.1; omega
  | some a =>
    have hc := h.2.2.2.2 a rfl
    have h0 := hc 0 c (by simp)
    rw [addr_add_zero] at h0
    obtain ⟨g, off, spot⟩ := a
    have hs : spot = none := World.cell?_spot h0
    subst hs
    refine ⟨g, off, rfl, h0, ?_⟩
    intro j u hj
    have := hc (j + 1) u (by simpa using hj)
    rw [addr_add_lit] at this ⊢
    rw [← this]
    congr 2
    omega

/-- The k-th element of a slice of one-cell elements. -/
theorem SlR.at {w : World} {ao : Option Addr} {n cap k : Nat} {c : Value} {cs : List Value} (h : SlR w 1 ao n cap cs) (hk : cs[k]? = some c) :
    ∃ g off, ao = some ⟨g, off, none⟩ ∧ w.cell? ⟨g, off + k, none⟩ = some c ∧ k < n ∧ n ≤ cap := by
  have hkl : k < cs.length := (List.getElem?_eq_some_iff.1 hk).1
  have hln : cs.length = n := by rw [h.1]; omega
  cases ao with
  | none => have := h.2.2.2.1 rfl; have := h.2.1; omega
  | some a =>
    have hc := h.2.2.2.2 a rfl
    obtain ⟨c0, h00⟩ : ∃ c0, cs[0]? = some c0 := ⟨cs[0], by simp⟩
    have h0 := hc 0 c0 h00
    rw [addr_add_zero] at h0
    obtain ⟨g, off, spot⟩ := a
    have hs : spot = none := World.cell?_spot h0
    subst hs
    have h1 := hc k c hk
    rw [addr_add_lit] at h1
    exact ⟨g, off, rfl, h1, by omega, h.2.1⟩

theorem ret_int {k : IntKind} {a b : Int} (h : a = b) : Ending.returned (.int k a) = .returned (.int k b) := by rw [h]
theorem ret_bool {a b : Bool} (h : a = b) : Ending.returned (.bool a) = .returned (.bool b) := by rw [h]
theorem drewN_add (w : World) (a b : Nat) : (w.drewN a).drewN b = w.drewN (a + b) := by simp [World.drewN, Nat.add_assoc]
theorem drew_drewN (w : World) (a : Nat) : (w.drewN a).drew = w.drewN (a + 1) := by simp [World.drewN, World.drew, Nat.add_assoc]

theorem Try.info3 : (Try.prog.info? 3).map (fun i => (i.zero, i.size, i.bytes)) = some (some (.int .i64 0), 1, 8) := by kernel_rfl
theorem Try.info9 : (Try.prog.info? 9).map (fun i => (i.zero, i.size, i.bytes)) = some (some (.string ⟨#[]⟩), 1, 16) := by kernel_rfl

theorem SlR.inB {w : World} {size : Nat} {ao : Option Addr} {n cap : Nat} {cs : List Value} (h : SlR w size ao n cap cs) (hs : 0 < size) : InB (fun k => k < w.heap.size) ao n := by
  intro a ha hn
  refine (h.2.2.2.2 a ha).block_lt ?_
  rintro rfl
  have h1 := h.1
  have h2 : 0 < n * size := Nat.mul_pos hn hs
  simp at h1
  omega

theorem SlR.below {w w' : World} {size : Nat} {ao : Option Addr} {n cap : Nat} {cs : List Value} {n₀ : Nat} (h : SlR w size ao n cap cs) (hb : Below n₀ w w') (hin : InB (fun k => k < n₀) ao n) : SlR w' size ao n cap cs := by
  refine ⟨h.1, h.2.1, h.2.2.1, h.2.2.2.1, fun a ha j u hj => ?_⟩
  have hn : 0 < n := by
    rcases Nat.eq_zero_or_pos n with h0 | h0
    · have : cs = [] := List.eq_nil_of_length_eq_zero (by rw [h.1, h0]; simp)
      subst this; simp at hj
    · exact h0
  have hbk : (a.add j).block = a.block := by unfold Addr.add; split <;> rfl
  exact (hb.cell (p := a.add j) (by rw [hbk]; exact hin a ha hn)).trans (h.2.2.2.2 a ha j u hj)

/-- The slice over a block that has just been laid. -/
theorem SlR.new (w : World) (vs : List Value) (t : TypeId) (h : vs.length ≤ maxLen) : SlR (w.alloc (.cells vs.toArray t)) 1 (some ⟨w.heap.size, 0, none⟩) vs.length vs.length vs := by
  refine ⟨by simp, Nat.le_refl _, h, by simp, fun a ha => ?_⟩
  cases ha
  exact CellsAt.of_block (heap_alloc_new w _) 0 _ (fun j u hj => by simpa using hj)

/-- The first ones of a slice. -/
theorem SlR.take {w : World} {ao : Option Addr} {n cap k : Nat} {α : Type} {f : α → Value} {xs : List α} (h : SlR w 1 ao n cap (xs.map f)) (hk : k ≤ n) : SlR w 1 ao k cap ((xs.take k).map f) := by
  have hl := h.1
  rw [List.length_map] at hl
  refine ⟨by simp; omega, Nat.le_trans hk h.2.1, h.2.2.1, h.2.2.2.1, fun a ha j u hj => h.2.2.2.2 a ha j u ?_⟩
  rw [List.map_take, List.getElem?_take] at hj
  split at hj
  · exact hj
  · cases hj

end Go.Proofs.Ytgeaccoobhigcaa
