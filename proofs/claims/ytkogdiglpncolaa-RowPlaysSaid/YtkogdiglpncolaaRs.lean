/-
  A slice that the call owns, cut at its head and appended to: how it reads, and what an append leaves as it was.
-/
import Derived.Test.YtkogdiglpncolaaDb
import Derived.ArgAppend
namespace Go.Proofs.Ytkogdiglpncolaa
open Go Go.RowKit

/-- A slice of the call's own: its cells read xs; behind them there is room that may be written. -/
def RS (w : World) (base : Nat) (ao : Option Addr) (n cap : Nat) (xs : List Int) : Prop :=
  IntSl w ao n cap xs ∧ ∀ a, ao = some a → 0 < cap → a.spot = none ∧ base ≤ a.block ∧ a.block < w.heap.size ∧
    ∀ j, n ≤ j → j < cap → (w.cell? ⟨a.block, a.off + j, none⟩).isSome = true ∧ w.frozen? ⟨a.block, a.off + j, none⟩ = false

theorem RS.nil (w : World) (base : Nat) : RS w base none 0 0 [] := ⟨SlR.nil _ _, fun a h => by cases h⟩

theorem grownBy_setCells (b : Nat) : ∀ (vs : List Value) (o : Nat) (w : World), w.grownBy (w.setCells b o vs) (some b)
  | [], _, w => grownBy_refl w _
  | v :: r, o, w => grownBy_trans (grownBy_setCell w ⟨b, o, none⟩ v) (grownBy_setCells b r (o + 1) (w.setCell ⟨b, o, none⟩ v))

theorem RS.kept {A B : World} {base n cap : Nat} {ao : Option Addr} {xs : List Int} {row : Option Nat} (h : RS A base ao n cap xs) (hg : A.grownBy B row) (hr : ∀ i, row = some i → ∀ a, ao = some a → 0 < cap → a.block ≠ i) : RS B base ao n cap xs := by
  have hc := h.1.2.1
  refine ⟨SlR.grown h.1 hg (fun i e a ha hn => hr i e a ha (by omega)), fun a ha hp => ?_⟩
  obtain ⟨h1, h2, h3, h4⟩ := h.2 a ha hp
  have hb : B.heap[a.block]? = A.heap[a.block]? := hg.block _ h3 (fun e => hr _ e.symm a ha hp rfl)
  refine ⟨h1, h2, Nat.lt_of_lt_of_le h3 hg.size, fun j hj hjc => ?_⟩
  obtain ⟨c1, c2⟩ := h4 j hj hjc
  exact ⟨by rw [World.cell?_of_block (a := ⟨a.block, a.off + j, none⟩) hb]; exact c1, (World.frozen?_of_block (a := ⟨a.block, a.off + j, none⟩) hb).trans c2⟩

/-- A row of the call's own is such a slice. -/
theorem RS.of_owns {w : World} {base n : Nat} {v : Value} {xs : List Int} (h : w.ownsRow base 3 1 v n (xs.map (Value.int .i64))) :
    ∃ ao cap, v = .slice ao n cap ∧ RS w base ao n cap xs ∧ ∀ a, ao = some a → base ≤ a.block := by
  rcases h.2 with ⟨rfl, rfl⟩ | ⟨g, cap, cur, rfl, hb, hg, hn, hc, hsz, htake⟩
  · have : xs = [] := by have := h.1; simpa using this
    subst this
    exact ⟨none, 0, rfl, RS.nil _ _, by simp⟩
  · refine ⟨some ⟨g, 0, none⟩, cap, rfl, ⟨⟨h.1, hn, hc, by simp, ?_⟩, ?_⟩, by intro a ha; cases ha; exact hb⟩
    · intro a ha
      cases ha
      refine CellsAt.of_block hg 0 _ ?_
      intro j u hj
      rw [← htake, List.getElem?_take] at hj
      split at hj
      · rw [Nat.zero_add]; simpa using hj
      · cases hj
    · intro a ha hp
      cases ha
      refine ⟨rfl, hb, lt_of_block hg, fun j _ hj => ?_⟩
      simp only [Nat.zero_add]
      rw [cell_of_row _ _ _ _ _ _ hg]
      refine ⟨by rw [Array.getElem?_eq_getElem (by omega)]; rfl, ?_⟩
      simp [World.frozen?, hg]

/-- APPEND onto such a slice. -/
theorem run_append_rs (w : World) (base : Nat) (hbase : base ≤ w.heap.size) (ao bo : Option Addr) (n cap m c : Nat) (xs ys : List Int) (h : RS w base ao n cap xs) (hy : IntSl w bo m c ys) (h63 : n + m ≤ 1000000) (ty : TypeId) :
    ∃ ao' cap' w' row, (Builtin.append_ #[22, 22] ty #[.slice ao n cap, .slice bo m c]).run Try.prog w = .ok (.slice ao' (n + m) cap') w' ∧ RS w' base ao' (n + m) cap' (xs ++ ys) ∧ w.grownBy w' row ∧
      (∀ i, row = some i → ∃ a, ao = some a ∧ 0 < cap ∧ a.block = i) ∧ (∀ a', ao' = some a' → 0 < cap' → (∃ a, ao = some a ∧ 0 < cap ∧ a'.block = a.block) ∨ w.heap.size ≤ a'.block) := by
  obtain ⟨i0, hi, hz0, hz1, hz2⟩ := info_parts Try.info3
  obtain ⟨hsl, hsp⟩ := h
  have hxl := hsl.1
  have hyl := hy.1
  rw [List.length_map, Nat.mul_one] at hxl hyl
  have hle := hsl.2.1
  rcases Nat.eq_zero_or_pos m with rfl | hm
  · obtain rfl : ys = [] := List.eq_nil_of_length_eq_zero hyl
    refine ⟨ao, cap, w, none, ?_, by simpa using ⟨hsl, hsp⟩, grownBy_refl _ _, by simp, fun a ha hp => .inl ⟨a, ha, hp, rfl⟩⟩
    cases ao <;> cases bo <;> simp [Builtin.append_, run_underlying Try.underlying22, sizeOf, typeInfo, hi, Builtin.lenOf, Builtin.firstCells, loadCells, loadCellsFrom, storeCells, hle]
  · cases bo with
    | none => have := hy.2.2.2.1 rfl; have := hy.2.1; omega
    | some bb =>
      have hyc := hy.2.2.2.2 bb rfl
      have H1 : ∀ u ∈ ys.map (Value.int .i64), u.oneCell' = true := by
        intro u hu
        obtain ⟨x, _, rfl⟩ := List.mem_map.1 hu
        rfl
      have hgrows : ∀ v' w', w'.ownsRow w.heap.size 3 1 v' (n + m) (xs.map (Value.int .i64) ++ ys.map (Value.int .i64)) → w.grownBy w' none →
          ∃ ao' cap', v' = .slice ao' (n + m) cap' ∧ RS w' base ao' (n + m) cap' (xs ++ ys) ∧ ∀ a', ao' = some a' → w.heap.size ≤ a'.block := by
        intro v' w' ho hg
        rw [← List.map_append] at ho
        obtain ⟨ao', cap', rfl, hrs, hb⟩ := RS.of_owns ho
        refine ⟨ao', cap', rfl, ⟨hrs.1, fun a ha hp => ?_⟩, hb⟩
        obtain ⟨h1, h2, h3, h4⟩ := hrs.2 a ha hp
        exact ⟨h1, by omega, h3, h4⟩
      by_cases hfit : n + m ≤ cap
      · cases ao with
        | none => have := hsl.2.2.2.1 rfl; omega
        | some a =>
          obtain ⟨s1, s2, s3, s4⟩ := hsp a rfl (by omega)
          obtain ⟨b, off, sp⟩ := a
          simp only at s1 s2 s3 s4
          subst s1
          have hr := run_append_room_cells (P := Try.prog) w 22 ty 3 i0 Try.underlying22 hi b off n cap bb m c (ys.map (Value.int .i64)) (by rw [List.length_map, hz1]; omega) hyc H1 hfit
            (fun j hj => by rw [List.length_map] at hj; rw [hz1, Nat.mul_one, Nat.add_assoc]; exact (s4 (n + j) (by omega) (by omega)).1)
            (fun j hj => by rw [List.length_map] at hj; rw [hz1, Nat.mul_one, Nat.add_assoc]; exact (s4 (n + j) (by omega) (by omega)).2)
          rw [hz1, Nat.mul_one] at hr
          have hin := World.cell?_setCells_in b (ys.map (Value.int .i64)) (off + n) w (fun j hj => by rw [List.length_map] at hj; rw [Nat.add_assoc]; exact (s4 (n + j) (by omega) (by omega)).1)
          have hout := World.cell?_setCells_out b (ys.map (Value.int .i64)) (off + n) w
          have hfz := World.frozen?_setCells b (ys.map (Value.int .i64)) (off + n) w
          have hgw := grownBy_setCells b (ys.map (Value.int .i64)) (off + n) w
          generalize w.setCells b (off + n) (ys.map (Value.int .i64)) = w2 at hr hin hout hfz hgw
          refine ⟨some ⟨b, off, none⟩, cap, w2, some b, hr, ⟨⟨by simp; omega, hfit, hsl.2.2.1, by simp, ?_⟩, ?_⟩, hgw, fun i e => by cases e; exact ⟨_, rfl, by omega, rfl⟩, fun a ha hp => .inl ⟨_, rfl, by omega, by cases ha; rfl⟩⟩
          · intro a ha
            cases ha
            intro j u hj
            rw [addr_add_lit]
            by_cases hjn : j < n
            · rw [hout ⟨b, off + j, none⟩ (fun _ _ => .inl (by show off + j < off + n; omega))]
              have := hsl.2.2.2.2 _ rfl j u (by
                rw [List.map_append, List.getElem?_append_left (by simp; omega)] at hj
                exact hj)
              rwa [addr_add_lit] at this
            · have hjl := (List.getElem?_eq_some_iff.1 hj).1
              rw [List.length_map, List.length_append] at hjl
              have := hin (j - n) (by rw [List.length_map]; omega)
              rw [show off + n + (j - n) = off + j by omega] at this
              rw [this]
              rw [List.map_append, List.getElem?_append_right (by simp; omega), List.length_map, hxl] at hj
              rw [← hj, List.getElem?_eq_getElem]
          · intro a ha hp
            cases ha
            refine ⟨rfl, s2, Nat.lt_of_lt_of_le s3 hgw.size, fun j hj hjc => ?_⟩
            rw [hout ⟨b, off + j, none⟩ (fun _ _ => .inr (by rw [List.length_map]; show off + n + ys.length ≤ off + j; omega)), hfz]
            exact s4 j (by omega) hjc
      · cases ao with
        | none =>
          have h0 := hsl.2.2.2.1 rfl
          subst h0
          obtain rfl : n = 0 := by omega
          obtain rfl : xs = [] := List.eq_nil_of_length_eq_zero hxl
          obtain ⟨v', w', hr, ho, hg, _⟩ := run_append_own (P := Try.prog) w w.heap.size 22 ty 3 i0 (.int .i64 0) 1 8 Try.underlying22 hi hz0 hz1 hz2 rfl (by decide) (.slice none 0 0) 0 [] (World.ownsRow_nil _ _ _ _) bb m c (ys.map (Value.int .i64)) (by rw [List.length_map]; omega) hyc H1 (by unfold maxLen; omega) (by omega) (Nat.le_refl _)
          obtain ⟨ao', cap', rfl, hrs, hb⟩ := hgrows v' w' ho hg
          exact ⟨ao', cap', w', none, hr, hrs, hg, by simp, fun a ha _ => .inr (hb a ha)⟩
        | some a =>
          obtain ⟨v', w', hr, ho, hg⟩ := run_append_arg_grows (P := Try.prog) w 22 ty 3 i0 (.int .i64 0) 1 8 Try.underlying22 hi hz0 hz1 hz2 rfl (by decide) a n cap (xs.map (Value.int .i64)) (by rw [List.length_map]; omega) (hsl.2.2.2.2 a rfl) bb m c (ys.map (Value.int .i64)) (by rw [List.length_map]; omega) hyc (by omega) (by unfold maxLen; omega) (by omega)
          obtain ⟨ao', cap', rfl, hrs, hb⟩ := hgrows v' w' ho hg
          exact ⟨ao', cap', w', none, hr, hrs, hg, by simp, fun a ha _ => .inr (hb a ha)⟩

/-- The same at the call, inside a walk. -/
theorem wpList_append_rs {w : World} {ops : Array Oper} {rest : List Oper} {o : Oper} {a : Act} {Q : Exit → Act → World → Prop} (hgd : o.guard = none) (s x : Operand)
    (ho : o.op = .call { callee := .builtin .append, args := #[s, x], argTypes := #[22, 22] })
    (base : Nat) (hbase : base ≤ w.heap.size) (ao bo : Option Addr) (n cap m c : Nat) (xs ys : List Int) (hes : a.eval s = .slice ao n cap) (hex : a.eval x = .slice bo m c) (h : RS w base ao n cap xs) (hy : IntSl w bo m c ys) (h63 : n + m ≤ 1000000)
    (hK : ∀ ao' cap' w' row, RS w' base ao' (n + m) cap' (xs ++ ys) → w.grownBy w' row → (∀ i, row = some i → ∃ a, ao = some a ∧ 0 < cap ∧ a.block = i) → (∀ a', ao' = some a' → 0 < cap' → (∃ a, ao = some a ∧ 0 < cap ∧ a'.block = a.block) ∨ w.heap.size ≤ a'.block) →
      wpList Try.prog ops Q rest (a.put o.dst (.slice ao' (n + m) cap')) w') : wpList Try.prog ops Q (o :: rest) a w :=
  wpList_plain hgd fun _ hK' => by
    obtain ⟨ao', cap', w', row, hr, h2, h3, h4, h5⟩ := run_append_rs w base hbase ao bo n cap m c xs ys h hy h63 o.type
    unfold Oper.wp execOp
    simp only [ho, resolve, invoke, builtin, Sem.run_bind, Sem.run_pure, Result.andThen_ok, List.map_toArray, List.map_cons, List.map_nil, hes, hex, hr]
    exact hK' _ _ (hK ao' cap' w' row h2 h3 h4 h5)

/-- What is left when the first one is cut off. -/
theorem RS.cut {w : World} {base : Nat} {ao : Option Addr} {n cap : Nat} {x : Int} {xs : List Int} (h : RS w base ao (n + 1) cap (x :: xs)) :
    ∃ go, sliced ao 1 (n + 1) cap 1 = .slice go n (cap - 1) ∧ (∀ a, go = some a → 0 < cap - 1 → ∃ a0, ao = some a0 ∧ 0 < cap ∧ a.block = a0.block) ∧ ∀ w', RS w' base ao (n + 1) cap (x :: xs) → RS w' base go n (cap - 1) xs := by
  have hle := h.1.2.1
  refine ⟨_, rfl, ?_, fun w' h' => ⟨?_, ?_⟩⟩
  · intro a ha hp
    rw [if_neg (by omega)] at ha
    cases ao with
    | none => simp at ha
    | some a0 =>
      simp only [Option.map_some, Option.some.injEq] at ha
      subst ha
      exact ⟨a0, rfl, by omega, by unfold Addr.add; split <;> rfl⟩
  · obtain ⟨go, e, hgo⟩ := SlR.cutl (k := 1) h'.1 (by omega)
    have := hgo w' h'.1
    unfold sliced at e
    injection e with e1 e2 e3
    rw [← e1] at this
    exact this
  · intro a ha hp
    rw [if_neg (by omega)] at ha
    cases ao with
    | none => simp at ha
    | some a0 =>
      simp only [Option.map_some, Option.some.injEq] at ha
      obtain ⟨h1, h2, h3, h4⟩ := h'.2 a0 rfl (by omega)
      obtain ⟨b, off, sp⟩ := a0
      simp only at h1 h2 h3 h4
      subst h1
      rw [Nat.mul_one, addr_add_lit] at ha
      subst ha
      refine ⟨rfl, h2, h3, fun j hj hjc => ?_⟩
      have := h4 (j + 1) (by omega) (by omega)
      rw [show off + 1 + j = off + (j + 1) by omega]
      exact this
end Go.Proofs.Ytkogdiglpncolaa
