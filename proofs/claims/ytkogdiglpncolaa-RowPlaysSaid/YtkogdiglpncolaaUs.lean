/-
  What List and First tell of All; Pop where nothing is asked of what it hands back. Their premises are their conditions.
-/
import Derived.Test.YtkogdiglpncolaaMk
namespace Go.Proofs.Ytkogdiglpncolaa
open Go Go.RowKit

/-- APPEND onto a row that the call owns, inside a fence; where the new row lies. -/
theorem wpListIn_append_at {F : Fence} {n : Nat} {P : Program} (w : World) {ops : Array Oper} {rest : List Oper} {o : Oper} {a : Act} {Q : Exit → Act → World → Prop}
    (hg : o.guard = none) (s x : Operand) (t : TypeId) (hop : o.op = Op.call { callee := Callee.builtin Builtin.append, args := #[s, x], argTypes := #[t, t] })
    (base : Nat) (e : TypeId) (i : TypeInfo) (z : Value) (size bytes : Nat) (h1 : P.underlying t = some (.slice e)) (h2 : P.info? e = some i) (h3 : i.zero = some z) (h4 : i.size = size) (h5 : i.bytes = bytes) (h6 : z.cells.size = size) (h7 : 0 < size)
    (v : Value) (k : Nat) (xs : List Value) (hs : a.eval s = v) (hown : w.ownsRow base e size v k xs) (ad : Addr) (m c : Nat) (news : List Value) (hx : a.eval x = .slice (some ad) m c) (hn : news.length = m * size)
    (hc : ∀ j u, news[j]? = some u → w.cell? (ad.add j) = some u) (h1c : ∀ u ∈ news, u.oneCell' = true) (b1 : k + m ≤ maxLen) (b2 : (k + m) * bytes ≤ 140737488355328) (b3 : base ≤ w.heap.size)
    (hK : ∀ v' w', w'.ownsRow base e size v' (k + m) (xs ++ news) → w.grownBy w' v.ownBlock → (v'.ownBlock = v.ownBlock ∨ v'.ownBlock = some w.heap.size) → wpListIn F n P ops Q rest (a.put o.dst v') w') :
    wpListIn F n P ops Q (o :: rest) a w := by
  refine wpListIn_plain hg fun K hK' => ?_
  obtain ⟨v', w', hrun, r1, r2, _, r3⟩ := run_append_own_at (P := P) w base t o.type e i z size bytes h1 h2 h3 h4 h5 h6 h7 v k xs hown ad m c news hn hc h1c b1 b2 b3
  unfold Oper.wpIn
  refine ⟨?_, ?_⟩
  · simp [Oper.about, hop, resolve, Target.leads, Sem.run_pure]
  · rw [Oper.semAt_plain F _ _ (by rw [hop]; intro c hc'; cases hc')]
    simp [execOp, hop, resolve, invoke, builtin, hs, hx, hrun, Result.andThen]
    exact hK' _ _ (hK v' w' r1 r2 r3)

/-- A slice reads as it did behind the turn of a block that holds no cells. -/
theorem SlR.putObj {A : World} {size : Nat} {ao : Option Addr} {n cap : Nat} {cs : List Value} {l : Nat} {o : Obj} (h : SlR A size ao n cap cs) (o' : Obj) (hl : A.heap[l]? = some o) (ho : o.isCells = false) : SlR (A.putObj l o') size ao n cap cs :=
  ⟨h.1, h.2.1, h.2.2.1, h.2.2.2.1, fun a ha j u hj => cell_kept (h.2.2.2.2 a ha j u hj) (grownBy_putObj' A l o') (fun r e => by cases e; exact ⟨o, hl, ho⟩)⟩

theorem below_of_row {A B : World} {n₀ b : Nat} (hg : A.grownBy B (some b)) (h : n₀ ≤ A.heap.size) (hb : n₀ ≤ b) : Below n₀ A B :=
  ⟨hg.os, hg.tape, hg.output, hg.size, fun k hk => hg.block k (by omega) (by simp; omega)⟩

/-- What 'List(q.All())' tells of a queue. -/
theorem all_list (Bq b : Nat) (room : Int) (n c : Nat) (ao : Option Addr) (xs : List Int) (w : World) (hq : Boxed w Bq 41 (.pointer (some ⟨b, 0, none⟩)))
    (hb : w.heap[b]? = some (.cells #[.int .i64 room, .slice ao n c] 62 (0, 0))) (hx : IntSl w ao n c xs) (hn : xs.length ≤ 65536) :
    Calls Try.prog 26 #[.func (.func 30) #[] #[.pointer (some ⟨Bq, 0, none⟩)]] w fun e w' => ∃ go c', e = .returned (.slice go xs.length c') ∧ IntSl w' go xs.length c' xs ∧ w.grownBy w' none := by
  have hin := SlR.inB hx (by omega)
  refine (list_any 30 _ xs _ none w (all_iter Bq b room n c ao xs) (fun _ _ => rfl) ⟨fun _ => ⟨hq.cell, hb⟩, hx⟩
    (fun k A B h hbl => ⟨fun hk => ⟨(hbl.cell (p := ⟨Bq, 0, none⟩) hq.lt).trans (h.1 hk).1, (hbl.block b (lt_of_block hb)).trans (h.1 hk).2⟩, SlR.below h.2 hbl hin⟩) (fun r h => by cases h) hn).mono ?_
  rintro e w' ⟨go, c', h1, h2, h3, _⟩
  exact ⟨go, c', h1, h2, h3⟩

/-- 'First(q.All(), k)'. -/
theorem all_first (Bq b : Nat) (room k : Int) (n c : Nat) (ao : Option Addr) (xs : List Int) (w : World) (hq : Boxed w Bq 41 (.pointer (some ⟨b, 0, none⟩)))
    (hb : w.heap[b]? = some (.cells #[.int .i64 room, .slice ao n c] 62 (0, 0))) (hx : IntSl w ao n c xs) (hn : xs.length ≤ 65536) :
    Calls Try.prog 19 #[.func (.func 30) #[] #[.pointer (some ⟨Bq, 0, none⟩)], .int .i64 k] w fun e w' => ∃ go c', e = .returned (.slice go (min k.toNat xs.length) c') ∧ IntSl w' go (min k.toNat xs.length) c' (xs.take k.toNat) ∧ w.grownBy w' none := by
  have hin := SlR.inB hx (by omega)
  refine (first_any 30 _ xs k _ none w (all_iter Bq b room n c ao xs) (fun _ _ => rfl) ⟨fun _ => ⟨hq.cell, hb⟩, hx⟩
    (fun k A B h hbl => ⟨fun hk => ⟨(hbl.cell (p := ⟨Bq, 0, none⟩) hq.lt).trans (h.1 hk).1, (hbl.block b (lt_of_block hb)).trans (h.1 hk).2⟩, SlR.below h.2 hbl hin⟩) (fun r h => by cases h) hn).mono ?_
  rintro e w' ⟨go, c', h1, h2, h3, _⟩
  exact ⟨go, c', h1, h2, h3⟩

/-- Pop, whatever lies in the queue, and nothing told of what it hands back. -/
theorem pop_quiet (b : Nat) (room : Int) (n c : Nat) (ao : Option Addr) (xs : List Int) (w : World) (hb : w.heap[b]? = some (.cells #[.int .i64 room, .slice ao n c] 62 (0, 0))) (hx : IntSl w ao n c xs) (hoff : OffB b ao n) (hn : n ≤ 65536) :
    Calls Try.prog 21 #[.pointer (some ⟨b, 0, none⟩)] w fun e w' => ∃ u ok, e = .returned (.tuple #[.int .i64 u, .bool ok]) ∧ w.grownBy w' (some b) := by
  cases n with
  | zero =>
    refine (pop_none_int b room c ao w hb).mono ?_
    rintro e w' ⟨rfl, rfl⟩
    exact ⟨0, false, rfl, grownBy_refl _ _⟩
  | succ n =>
    cases xs with
    | nil => have := hx.1; simp at this
    | cons x xs =>
      refine (pop_some_int b room n c ao w x (xs.map (Value.int .i64)) hb hx hoff (by omega)).mono ?_
      rintro e w' ⟨rfl, _, _, _, _, _, h⟩
      exact ⟨x, true, rfl, h⟩

end Go.Proofs.Ytkogdiglpncolaa
