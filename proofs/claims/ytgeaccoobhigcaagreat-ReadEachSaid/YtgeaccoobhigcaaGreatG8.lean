/-
  Stores into a block that is known whole: what is behind them has a name of its own. Data that lie in blocks of some kind, and stay as they are while other blocks are written; rows of such data that a call makes. ponderkeep.Copy of symbols, ponderkeep.CopyTests: the same in new memory. ponderkeep.Copy of actions, CopyCond, CopyConds: the same in new memory. ponderkeep.CopyProd: the same in new memory. Whether two symbols, atoms, terms, actions are the same. ponderkeep.Syms, Acts: whether two lists are the same. ponderkeep.Tests: whether two lists are the same. ponderkeep.Cond, Conds: whether the same. ponderkeep.Conds, Prod: whether the same.
-/
import Derived.Test.YtgeaccoobhigcaaGreatG1
import Derived.Laws.CopyRow
import Derived.Deep.MidRow
import Derived.Test.YtgeaccoobhigcaaGreatG4
import Derived.Maps.AppendAt
import Derived.Test.YtgeaccoobhigcaaGreatG3
import Derived.Test.YtgeaccoobhigcaaGreatG5
import Derived.WalkLawsBesides
import Derived.Test.YtgeaccoobhigcaaGreatG7
import Derived.Laws.StructEq
import Derived.Test.YtgeaccoobhigcaaGreatG2
import Derived.Deep.QuietTactic
import Derived.BigQuiet
import Derived.StillTailTactics
namespace Go.Proofs.YtgeaccoobhigcaaGreat
open Go Go.RowKit
theorem grownBy_setRow (w : World) (b : Nat) (cells : Array Value) : w.grownBy (w.setRow b cells) (some b) :=
  ⟨rfl, rfl, rfl, by simp [World.setRow], fun k _ hr => setRow_other w b k _ (fun e => hr (by rw [e]))⟩
theorem BoxC.setRow {w : World} {b : Nat} {t : TypeId} {cs : List Value} (h : BoxC w b t cs) (cs' : List Value) : BoxC (w.setRow b cs'.toArray) b t cs' := setRow_heap w b cs.toArray cs'.toArray t _ h
theorem BoxC.grown {w w' : World} {b : Nat} {t : TypeId} {cs : List Value} {row : Option Nat} (h : BoxC w b t cs) (hg : w.grownBy w' row) (hr : some b ≠ row) : BoxC w' b t cs := (hg.block b h.lt hr).trans h
theorem BoxC.alloc {w : World} {b : Nat} {t : TypeId} {cs : List Value} (h : BoxC w b t cs) (o : Obj) : BoxC (w.alloc o) b t cs := h.grown (World.grownBy_alloc w o none) (by simp)
theorem BoxC.range {w : World} {b : Nat} {t : TypeId} {cs : List Value} (h : BoxC w b t cs) (o : Nat) {vs : List Value} (hv : ∀ j v, vs[j]? = some v → cs[o + j]? = some v) : w.rangeAt b o vs := fun j v hj => h.at_ (hv j v hj)
section
variable {P : Program}
theorem run_storeVar_box (w : World) (b o : Nat) (t ty : TypeId) (cs vs : List Value) (v : Value) (hv : v.cells = vs.toArray) (hb : BoxC w b t cs) (hi : (P.info? ty).map (·.size) = some vs.length) (hl : o + vs.length ≤ cs.length) (h1 : ∀ u ∈ vs, u.oneCell' = true) :
    (storeVar ty ⟨b, o, none⟩ v).run P w = .ok () (w.setRow b (cs.take o ++ vs ++ cs.drop (o + vs.length)).toArray) := by
  have := run_storeCells_at P b o t vs 0 cs.toArray w hb (by simpa using hl) h1
  cases hq : P.info? ty with
  | none => simp [hq] at hi
  | some i =>
    have hs : vs.length = i.size := by simp [hq] at hi; omega
    simp only [Nat.add_zero] at this
    simp [storeVar, sizeOf, typeInfo, hq, hv, ← hs, this]
theorem wp_box {op : Oper} {a : Act} {w : World} {K : Act → World → Prop} {Q : Exit → Act → World → Prop} (ty : TypeId) (x y : Operand) (ho : op.op = .store ty x y)
    (b o : Nat) (v : Value) (vs : List Value) (hx : a.eval x = .pointer (some ⟨b, o, none⟩)) (hy : a.eval y = v) (hv : v.cells = vs.toArray) {t : TypeId} {cs : List Value} (hb : BoxC w b t cs)
    (hi : (P.info? ty).map (·.size) = some vs.length) (hl : o + vs.length ≤ cs.length) (h1 : ∀ u ∈ vs, u.oneCell' = true) (cs' : List Value) (hcs : cs.take o ++ vs ++ cs.drop (o + vs.length) = cs')
    (h : ∀ w', BoxC w' b t cs' → w.grownBy w' (some b) → K (a.put op.dst undef) w') : op.wp P a w K Q := by
  unfold Oper.wp execOp
  simp only [ho, hx, hy, Instr.storeAt, Instr.sureAddr, Sem.run_bind, Sem.run_pure, Result.andThen_ok, run_storeVar_box w b o t ty cs vs v hv hb hi hl h1]
  exact h _ (by rw [hcs]; exact hb.setRow cs') (grownBy_setRow w b _)
theorem wpList_box {ops : Array Oper} {rest : List Oper} {op : Oper} {a : Act} {w : World} {Q : Exit → Act → World → Prop} (hgd : op.guard = none) (ty : TypeId) (x y : Operand) (ho : op.op = .store ty x y)
    (b o : Nat) (v : Value) (vs : List Value) (hx : a.eval x = .pointer (some ⟨b, o, none⟩)) (hy : a.eval y = v) (hv : v.cells = vs.toArray) {t : TypeId} {cs : List Value} (hb : BoxC w b t cs)
    (hi : (P.info? ty).map (·.size) = some vs.length) (hl : o + vs.length ≤ cs.length) (h1 : ∀ u ∈ vs, u.oneCell' = true) (cs' : List Value) (hcs : cs.take o ++ vs ++ cs.drop (o + vs.length) = cs')
    (h : ∀ w', BoxC w' b t cs' → w.grownBy w' (some b) → wpList P ops Q rest (a.put op.dst undef) w') : wpList P ops Q (op :: rest) a w :=
  wpList_plain hgd fun _ hK => wp_box ty x y ho b o v vs hx hy hv hb hi hl h1 cs' hcs fun w' h1 h2 => hK _ _ (h w' h1 h2)
end
end Go.Proofs.YtgeaccoobhigcaaGreat
namespace Go.Proofs.YtgeaccoobhigcaaGreat
open Go Go.RowKit
/-- Blocks of some kind hold what they held. -/
def SameIn (K : Nat → Prop) (w w' : World) : Prop := ∀ b, K b → b < w.heap.size → w'.heap[b]? = w.heap[b]?
theorem SameIn.refl (K : Nat → Prop) (w : World) : SameIn K w w := fun _ _ _ => rfl
theorem SameIn.mono {K K' : Nat → Prop} {w w' : World} (h : SameIn K w w') (hk : ∀ b, K' b → K b) : SameIn K' w w' := fun b hb => h b (hk b hb)
theorem sameIn_of_below {w w' : World} (K : Nat → Prop) (h : Below w.heap.size w w') : SameIn K w w' := fun b _ hb => h.block b hb
theorem sameIn_of_grown {w w' : World} {row : Option Nat} {K : Nat → Prop} (h : w.grownBy w' row) (hk : ∀ b, K b → some b ≠ row) : SameIn K w w' := fun b hb hl => h.block b hl (hk b hb)
theorem SameIn.trans {K : Nat → Prop} {a b c : World} (h : SameIn K a b) (hs : a.heap.size ≤ b.heap.size) (g : SameIn K b c) : SameIn K a c := fun k hk hl => (g k hk (by omega)).trans (h k hk hl)
theorem InB.mono {K K' : Nat → Prop} {ao : Option Addr} {n : Nat} (h : InB K ao n) (hk : ∀ b, K b → K' b) : InB K' ao n := fun a ha hn => hk _ (h a ha hn)
theorem InB.zero {K : Nat → Prop} (ao : Option Addr) : InB K ao 0 := fun _ _ h => absurd h (by omega)
theorem InB.both {K K' : Nat → Prop} {ao : Option Addr} {n : Nat} (h : InB K ao n) (h' : InB K' ao n) : InB (fun b => K b ∧ K' b) ao n := fun a ha hn => ⟨h a ha hn, h' a ha hn⟩
theorem SlR.same {w w' : World} {size : Nat} {ao : Option Addr} {n cap : Nat} {cs : List Value} {K : Nat → Prop} (h : SlR w size ao n cap cs) (hin : InB K ao n) (hs : SameIn K w w') : SlR w' size ao n cap cs := by
  refine ⟨h.1, h.2.1, h.2.2.1, h.2.2.2.1, fun a ha j u hj => ?_⟩
  have hn : 0 < n := by
    rcases Nat.eq_zero_or_pos n with h0 | h0
    · have : cs = [] := List.eq_nil_of_length_eq_zero (by rw [h.1, h0]; simp)
      subst this; simp at hj
    · exact h0
  have hbk : (a.add j).block = a.block := by unfold Addr.add; split <;> rfl
  have h0 := h.2.2.2.2 a ha j u hj
  have hlt := World.block_lt_of_cell? w _ h0
  rw [hbk] at hlt
  exact (World.cell?_of_block (by rw [hbk]; exact hs _ (hin a ha hn) hlt)).trans h0
/-- A test's data lie in such blocks. -/
def TestR.In (K : Nat → Prop) (t : TestR) : Prop := InB K t.la t.ln
/-- A condition's data lie in such blocks. -/
inductive CondR.In (K : Nat → Prop) : CondR → Prop
  | mk {kind : Int} {goal : Bool} {id : ByteArray} {aa : Option Addr} {an ac : Nat} {attr : List TestR} {va : Option Addr} {vn vc : Nat} {value : List TestR} {acc : Bool} {ca : Option Addr} {cn cc : Nat} {conds : List CondR}
      (ha : InB K aa an) (hat : ∀ t ∈ attr, t.In K) (hv : InB K va vn) (hvt : ∀ t ∈ value, t.In K) (hs : InB K ca cn) (hc : ∀ c ∈ conds, CondR.In K c) :
      CondR.In K (.mk kind goal id aa an ac attr va vn vc value acc ca cn cc conds)
theorem TestR.In.mono {K K' : Nat → Prop} {t : TestR} (h : t.In K) (hk : ∀ b, K b → K' b) : t.In K' := InB.mono h hk
theorem CondR.In.mono {K K' : Nat → Prop} {c : CondR} (h : c.In K) (hk : ∀ b, K b → K' b) : c.In K' := by
  induction h with
  | mk ha hat hv hvt hs hc ih => exact .mk (ha.mono hk) (fun t ht => (hat t ht).mono hk) (hv.mono hk) (fun t ht => (hvt t ht).mono hk) (hs.mono hk) ih
theorem TestR.Mem.same {K : Nat → Prop} {w w' : World} {t : TestR} (h : t.Mem w) (hin : t.In K) (hs : SameIn K w w') : t.Mem w' := ⟨h.sl.same hin hs, h.v, h.s, h.list⟩
theorem TestsMem.same {K : Nat → Prop} {w w' : World} {ao : Option Addr} {n c : Nat} {l : List TestR} (h : TestsMem w ao n c l) (hin : InB K ao n) (hl : ∀ t ∈ l, t.In K) (hs : SameIn K w w') : TestsMem w' ao n c l :=
  ⟨h.sl.same hin hs, fun t ht => (h.ok t ht).same (hl t ht) hs⟩
theorem CondR.Mem.same {K : Nat → Prop} {w w' : World} (hs : SameIn K w w') : ∀ {c : CondR}, c.Mem w → c.In K → c.Mem w' := by
  intro c h
  induction h with
  | mk hi ha hv hsl hc ih =>
    intro hin
    cases hin with
    | mk ka kat kv kvt ks kc => exact .mk hi (ha.same ka kat hs) (hv.same kv kvt hs) (hsl.same ks hs) (fun c hc' => ih c hc' (kc c hc'))
theorem TestR.In.lt {K : Nat → Prop} {w : World} {t : TestR} (h : t.Mem w) (hin : t.In K) : t.In (fun b => K b ∧ b < w.heap.size) := InB.both hin (h.sl.inB (by omega))
theorem CondR.In.lt {K : Nat → Prop} {w : World} : ∀ {c : CondR}, c.Mem w → c.In K → c.In (fun b => K b ∧ b < w.heap.size) := by
  intro c h
  induction h with
  | mk hi ha hv hsl hc ih =>
    intro hin
    cases hin with
    | mk ka kat kv kvt ks kc => exact .mk (ka.both (ha.sl.inB (by omega))) (fun t ht => (kat t ht).lt (ha.ok t ht)) (kv.both (hv.sl.inB (by omega))) (fun t ht => (kvt t ht).lt (hv.ok t ht)) (ks.both (hsl.inB (by omega))) (fun c hc' => ih c hc' (kc c hc'))
/-- What holds of deep data of some make: it is kept where its blocks are. -/
structure Make (α : Type) where
  size : Nat
  pos : 0 < size
  cells : α → List Value
  len : ∀ a, (cells a).length = size
  ok : World → α → Prop
  inK : (Nat → Prop) → α → Prop
  one : ∀ a, ∀ c ∈ cells a, c.oneCell' = true
  mono : ∀ {K K' : Nat → Prop} {a : α}, inK K a → (∀ b, K b → K' b) → inK K' a
  same : ∀ {K : Nat → Prop} {w w' : World} {a : α}, ok w a → inK K a → SameIn K w w' → ok w' a
  lt : ∀ {K : Nat → Prop} {w : World} {a : α}, ok w a → inK K a → inK (fun b => K b ∧ b < w.heap.size) a
def mkSym : Make Sm := ⟨3, by omega, Sm.cells, fun _ => rfl, fun _ s => s.t.size ≤ 9223372036854775807, fun _ _ => True, fun a => by simp [Sm.cells, Value.oneCell'], fun _ _ => trivial, fun h _ _ => h, fun _ _ => trivial⟩
def mkAct : Make Ac := ⟨19, by omega, Ac.cells, fun _ => rfl, fun _ a => a.Big, fun _ _ => True, fun a => by simp [Ac.cells, Am.cells, Tm.cells, Sm.cells, Value.oneCell'], fun _ _ => trivial, fun h _ _ => h, fun _ _ => trivial⟩
def mkTest : Make TestR := ⟨6, by omega, TestR.cells, testR_len, fun w t => t.Mem w, fun K t => t.In K, fun a => by simp [TestR.cells, Value.oneCell'], fun h hk => h.mono hk, fun h hin hs => h.same hin hs, fun h hin => hin.lt h⟩
def mkCond : Make CondR := ⟨7, by omega, CondR.cells, condR_len, fun w t => t.Mem w, fun K t => t.In K, fun a => by cases a; simp [CondR.cells, Value.oneCell'], fun h hk => h.mono hk, fun h hin hs => h.same hs hin, fun h hin => hin.lt h⟩
/-- A slice of such data, which lie in such blocks. -/
structure Deep {α : Type} (M : Make α) (K : Nat → Prop) (w : World) (ao : Option Addr) (n c : Nat) (l : List α) : Prop where
  sl : SlR w M.size ao n c (l.flatMap M.cells)
  inb : InB K ao n
  ok : ∀ a ∈ l, M.ok w a
  ink : ∀ a ∈ l, M.inK K a
section
variable {α : Type} {M : Make α} {K K' : Nat → Prop} {w w' : World} {ao : Option Addr} {n c : Nat} {l : List α}
theorem Deep.mono (h : Deep M K w ao n c l) (hk : ∀ b, K b → K' b) : Deep M K' w ao n c l := ⟨h.sl, h.inb.mono hk, h.ok, fun a ha => M.mono (h.ink a ha) hk⟩
theorem Deep.same (h : Deep M K w ao n c l) (hs : SameIn K w w') : Deep M K w' ao n c l := ⟨h.sl.same h.inb hs, h.inb, fun a ha => M.same (h.ok a ha) (h.ink a ha) hs, h.ink⟩
theorem Deep.kept (h : Deep M K w ao n c l) (hb : Below w.heap.size w w') : Deep M K w' ao n c l := h.same (sameIn_of_below _ hb)
theorem Deep.nil (M : Make α) (K : Nat → Prop) (w : World) : Deep M K w none 0 0 [] := ⟨SlR.nil _ _, InB.zero _, by simp, by simp⟩
theorem Deep.len (h : Deep M K w ao n c l) : l.length = n := by
  have := h.sl.1
  rw [rows_length M.len] at this
  exact Nat.eq_of_mul_eq_mul_right M.pos this
end
/-- A row that a call makes: the data hang in blocks of the call's own, none in the row. -/
structure OwnD {α : Type} (M : Make α) (base : Nat) (e : TypeId) (w : World) (v : Value) (l : List α) : Prop where
  own : w.ownsRow base e M.size v l.length (l.flatMap M.cells)
  ok : ∀ a ∈ l, M.ok w a
  ink : ∀ a ∈ l, M.inK (fun b => base ≤ b ∧ b < w.heap.size ∧ some b ≠ v.ownBlock) a
section
variable {α : Type} {M : Make α} {base : Nat} {e : TypeId} {w w' : World} {v : Value} {l : List α}
theorem OwnD.nil (M : Make α) (base : Nat) (e : TypeId) (w : World) : OwnD M base e w (.slice none 0 0) [] := ⟨World.ownsRow_nil w base e M.size, by simp, by simp⟩
theorem OwnD.grown {row : Option Nat} (h : OwnD M base e w v l) (hg : w.grownBy w' row) (hr : ∀ b, row = some b → b < base ∨ w.heap.size ≤ b) : OwnD M base e w' v l := by
  refine ⟨h.own.kept hg ?_, fun a ha => M.same (h.ok a ha) (h.ink a ha) (sameIn_of_grown hg fun b hb => ?_), fun a ha => M.mono (h.ink a ha) fun b hb => ⟨hb.1, by have := hg.size; omega, hb.2.2⟩⟩
  · cases hv : v.ownBlock with
    | none => exact .inl rfl
    | some g =>
      refine .inr fun e => ?_
      have := h.own.lt _ hv
      have := hr g e.symm
      omega
  · intro e
    have := hr b e.symm
    omega
theorem OwnD.kept (h : OwnD M base e w v l) (hb : Below w.heap.size w w') : OwnD M base e w' v l :=
  h.grown (row := none) ⟨hb.os, hb.tape, hb.output, hb.size, fun k hk _ => hb.block k hk⟩ (fun _ e => by cases e)
theorem OwnD.push {tmp : Obj} {w1 : World} {v' : Value} {m : Nat} {x : α} {K : Nat → Prop} (h : OwnD M base e w v l) (hm : m = l.length + 1) (hown : w1.ownsRow base e M.size v' m (l.flatMap M.cells ++ M.cells x))
    (hg : (w.alloc tmp).grownBy w1 v.ownBlock) (hv : v'.ownBlock = v.ownBlock ∨ v'.ownBlock = some (w.alloc tmp).heap.size) (hx : M.ok w x) (hxk : M.inK K x) (hK : ∀ b, K b → base ≤ b ∧ b < w.heap.size ∧ some b ≠ v.ownBlock) :
    OwnD M base e w1 v' (l ++ [x]) := by
  have hsz := hg.size
  simp only [World.size_alloc] at hsz hv
  have hstep : ∀ a, M.inK (fun b => base ≤ b ∧ b < w.heap.size ∧ some b ≠ v.ownBlock) a → M.inK (fun b => base ≤ b ∧ b < w1.heap.size ∧ some b ≠ v'.ownBlock) a := fun a ha => M.mono ha fun b hb => ⟨hb.1, by omega, by
    rcases hv with hv | hv
    · rw [hv]; exact hb.2.2
    · rw [hv]; intro e; injection e with e; omega⟩
  have hs : SameIn (fun b => base ≤ b ∧ b < w.heap.size ∧ some b ≠ v.ownBlock) w w1 := fun b hb hl => (hg.block b (by simp; omega) hb.2.2).trans (Below.heap_alloc w tmp b hl)
  have hx' := M.mono hxk hK
  refine ⟨by simpa [hm] using hown, fun a ha => ?_, fun a ha => ?_⟩
  · rcases List.mem_append.1 ha with ha | ha
    · exact M.same (h.ok a ha) (h.ink a ha) hs
    · rw [List.mem_singleton.1 ha]; exact M.same hx hx' hs
  · rcases List.mem_append.1 ha with ha | ha
    · exact hstep a (h.ink a ha)
    · rw [List.mem_singleton.1 ha]; exact hstep x hx'
theorem OwnD.deep (h : OwnD M base e w v l) : ∃ ao c, v = .slice ao l.length c ∧ Deep M (fun b => base ≤ b) w ao l.length c l := by
  rcases h.own.2 with ⟨rfl, hx⟩ | ⟨g, cap, cur, rfl, hb, hg, hn, hc, hsz, htake⟩
  · have hl : l.length = 0 := by
      have := h.own.1
      rw [hx] at this
      rcases Nat.eq_zero_or_pos l.length with h0 | h0
      · exact h0
      · have := Nat.mul_pos h0 M.pos; simp at *; omega
    have : l = [] := List.eq_nil_of_length_eq_zero hl
    subst this
    exact ⟨none, 0, rfl, Deep.nil M _ w⟩
  · refine ⟨some ⟨g, 0, none⟩, cap, rfl, ⟨⟨h.own.1, hn, hc, by simp, ?_⟩, by intro a ha _; cases ha; exact hb, h.ok, fun a ha => M.mono (h.ink a ha) fun b hb => hb.1⟩⟩
    intro a ha
    cases ha
    refine CellsAt.of_block hg 0 _ ?_
    intro j u hj
    rw [← htake, List.getElem?_take] at hj
    split at hj
    · rw [Nat.zero_add]; simpa using hj
    · cases hj
theorem wp_push {P : Program} {o : Oper} {a : Act} {Z : Act → World → Prop} {Q : Exit → Act → World → Prop} (s x : Operand) (t : TypeId)
    (ho : o.op = .call { callee := .builtin .append, args := #[s, x], argTypes := #[t, t] })
    (M : Make α) (base : Nat) (e : TypeId) (i : TypeInfo) (z : Value) (bytes : Nat) (ht : P.underlying t = some (.slice e)) (hi : P.info? e = some i) (hz : i.zero = some z)
    (hsize : i.size = M.size) (hby : i.bytes = bytes) (hzs : z.cells.size = M.size) {w0 : World} {tmp : Array Value}
    (v : Value) (l : List α) (u : α) (hs : a.eval s = v) (hown : OwnD M base e w0 v l) (ad : Nat) (had : ad = w0.heap.size) (hx : a.eval x = .slice (some ⟨ad, 0, none⟩) 1 1) (htmp : tmp.toList = M.cells u)
    (h1 : ∀ c ∈ M.cells u, c.oneCell' = true) (hln : l.length ≤ 1000000) (hbytes : bytes ≤ 1000) (hbase : base ≤ w0.heap.size) (K : Nat → Prop) (hu : M.ok w0 u) (huK : M.inK K u)
    (hK : ∀ b, K b → b < w0.heap.size → base ≤ b ∧ some b ≠ v.ownBlock)
    (h : ∀ go c w', OwnD M base e w' (.slice (some go) (l.length + 1) c) (l ++ [u]) → w0.grownBy w' v.ownBlock → Z (a.put o.dst (.slice (some go) (l.length + 1) c)) w') : o.wp P a (w0.alloc (.cells tmp e)) Z Q := by
  subst had
  obtain ⟨v', w', hr, h2, h3, _, h5⟩ := run_append_own_at (P := P) (w0.alloc (.cells tmp e)) base t o.type e i z M.size bytes ht hi hz hsize hby hzs M.pos v l.length (l.flatMap M.cells) (hown.own.alloc _) ⟨w0.heap.size, 0, none⟩ 1 1 (M.cells u) (by rw [M.len, Nat.one_mul])
    (CellsAt.of_block (heap_alloc_new w0 _) 0 _ (fun j c hj => by rw [← htmp] at hj; simpa using hj)) h1 (by unfold maxLen; omega) (by have := Nat.mul_le_mul (show l.length + 1 ≤ 1000001 by omega) hbytes; omega) (by simp; omega)
  unfold Oper.wp execOp
  simp only [ho, resolve, invoke, builtin, Sem.run_bind, Sem.run_pure, Result.andThen_ok, List.map_toArray, List.map_cons, List.map_nil, hs, hx, hr]
  have hO := hown.push (tmp := .cells tmp e) rfl h2 h3 h5 hu (M.lt hu huK) (fun b hb => ⟨(hK b hb.1 hb.2).1, hb.2, (hK b hb.1 hb.2).2⟩)
  have hG : w0.grownBy w' v.ownBlock := grownBy_trans (World.grownBy_alloc w0 _ _) h3
  rcases h2.2 with ⟨_, hxs⟩ | ⟨g, cap, cur, rfl, _⟩
  · omega
  · exact h _ _ _ hO hG
theorem wpList_push {P : Program} {ops : Array Oper} {rest : List Oper} {o : Oper} {a : Act} {Q : Exit → Act → World → Prop} (hgd : o.guard = none) (s x : Operand) (t : TypeId)
    (ho : o.op = .call { callee := .builtin .append, args := #[s, x], argTypes := #[t, t] })
    (M : Make α) (base : Nat) (e : TypeId) (i : TypeInfo) (z : Value) (bytes : Nat) (ht : P.underlying t = some (.slice e)) (hi : P.info? e = some i) (hz : i.zero = some z)
    (hsize : i.size = M.size) (hby : i.bytes = bytes) (hzs : z.cells.size = M.size) {w0 : World} {tmp : Array Value}
    (v : Value) (l : List α) (u : α) (hs : a.eval s = v) (hown : OwnD M base e w0 v l) (ad : Nat) (had : ad = w0.heap.size) (hx : a.eval x = .slice (some ⟨ad, 0, none⟩) 1 1) (htmp : tmp.toList = M.cells u)
    (h1 : ∀ c ∈ M.cells u, c.oneCell' = true) (hln : l.length ≤ 1000000) (hbytes : bytes ≤ 1000) (hbase : base ≤ w0.heap.size) (K : Nat → Prop) (hu : M.ok w0 u) (huK : M.inK K u)
    (hK : ∀ b, K b → b < w0.heap.size → base ≤ b ∧ some b ≠ v.ownBlock)
    (h : ∀ go c w', OwnD M base e w' (.slice (some go) (l.length + 1) c) (l ++ [u]) → w0.grownBy w' v.ownBlock → wpList P ops Q rest (a.put o.dst (.slice (some go) (l.length + 1) c)) w') : wpList P ops Q (o :: rest) a (w0.alloc (.cells tmp e)) :=
  wpList_plain hgd fun _ hZ => wp_push s x t ho M base e i z bytes ht hi hz hsize hby hzs v l u hs hown ad had hx htmp h1 hln hbytes hbase K hu huK hK fun go c w' h2 h3 => hZ _ _ (h go c w' h2 h3)
theorem step_push {P : Program} {ops : Array Oper} {o : Oper} {a : Act} {Z : Act → World → Prop} {Q : Exit → Act → World → Prop} {E : Prop} (hgd : o.guard = none) (s x : Operand) (t : TypeId)
    (ho : o.op = .call { callee := .builtin .append, args := #[s, x], argTypes := #[t, t] })
    (M : Make α) (base : Nat) (e : TypeId) (i : TypeInfo) (z : Value) (bytes : Nat) (ht : P.underlying t = some (.slice e)) (hi : P.info? e = some i) (hz : i.zero = some z)
    (hsize : i.size = M.size) (hby : i.bytes = bytes) (hzs : z.cells.size = M.size) {w0 : World} {tmp : Array Value}
    (v : Value) (l : List α) (u : α) (hs : a.eval s = v) (hown : OwnD M base e w0 v l) (ad : Nat) (had : ad = w0.heap.size) (hx : a.eval x = .slice (some ⟨ad, 0, none⟩) 1 1) (htmp : tmp.toList = M.cells u)
    (h1 : ∀ c ∈ M.cells u, c.oneCell' = true) (hln : l.length ≤ 1000000) (hbytes : bytes ≤ 1000) (hbase : base ≤ w0.heap.size) (K : Nat → Prop) (hu : M.ok w0 u) (huK : M.inK K u)
    (hK : ∀ b, K b → b < w0.heap.size → base ≤ b ∧ some b ≠ v.ownBlock)
    (h : ∀ go c w', OwnD M base e w' (.slice (some go) (l.length + 1) c) (l ++ [u]) → w0.grownBy w' v.ownBlock → Z (a.put o.dst (.slice (some go) (l.length + 1) c)) w') :
    if Region.wanted o (yielded ops a.tmps) = true then Oper.wp P o a (w0.alloc (.cells tmp e)) Z Q else E := by
  have hw : Region.wanted o (yielded ops a.tmps) = true := by simp [Region.wanted, hgd]
  rw [if_pos hw]
  exact wp_push s x t ho M base e i z bytes ht hi hz hsize hby hzs v l u hs hown ad had hx htmp h1 hln hbytes hbase K hu huK hK h
end
end Go.Proofs.YtgeaccoobhigcaaGreat
namespace Go.Proofs.YtgeaccoobhigcaaGreat
open Go Go.RowKit
theorem Tryz.info45 : (Tryz.prog.info? 45).map (fun i => (i.zero, i.size, i.bytes)) = some (some (.agg #[.int .i64 0, .string ⟨#[]⟩, .int .i64 0]), 3, 32) := by kernel_rfl
theorem Tryz.info123 : (Tryz.prog.info? 123).map (fun i => (i.zero, i.size, i.bytes)) = some (some (.agg #[.int .i64 0, .string ⟨#[]⟩, .int .i64 0, .string ⟨#[]⟩, .int .i64 0, .slice none 0 0]), 6, 80) := by kernel_rfl
theorem ret_val {a b : Value} (h : a = b) : Ending.returned a = .returned b := by rw [h]
end Go.Proofs.YtgeaccoobhigcaaGreat
namespace Go.Proofs.YtgeaccoobhigcaaGreat
open Go Go.RowKit
theorem Tryz.sz41 : (Tryz.prog.info? 41).map (·.size) = some 1 := by kernel_rfl
theorem Tryz.sz23 : (Tryz.prog.info? 23).map (·.size) = some 1 := by kernel_rfl
theorem Tryz.sz43 : (Tryz.prog.info? 43).map (·.size) = some 7 := by kernel_rfl
theorem Tryz.sz26 : (Tryz.prog.info? 26).map (·.size) = some 3 := by kernel_rfl
theorem Tryz.info43 : (Tryz.prog.info? 43).map (fun i => (i.zero, i.size, i.bytes)) = some (some (.agg #[.int .i64 0, .bool false, .string ⟨#[]⟩, .slice none 0 0, .slice none 0 0, .bool false, .slice none 0 0]), 7, 112) := by kernel_rfl
theorem Tryz.info51 : (Tryz.prog.info? 51).map (fun i => (i.zero.isSome, i.size, i.bytes)) = some (true, 19, 224) := by kernel_rfl
theorem BoxC.new_at' {W : World} {cs : List Value} {t : TypeId} {b : Nat} (h : b = W.heap.size) : BoxC (W.alloc (.cells cs.toArray t)) b t cs := h ▸ BoxC.new W cs t
theorem acts_info : ∃ i0 z, Tryz.prog.info? 51 = some i0 ∧ i0.zero = some z ∧ i0.size = 19 ∧ i0.bytes = 224 := by
  obtain ⟨i, h1, h2⟩ := Option.map_eq_some_iff.1 Tryz.info51
  simp only [Prod.mk.injEq] at h2
  obtain ⟨z, hz⟩ := Option.isSome_iff_exists.1 h2.1
  exact ⟨i, z, h1, hz, h2.2.1, h2.2.2⟩
theorem seven_box {w : World} {g : Nat} {a0 a1 a2 a3 a4 a5 a6 : Value} {t : TypeId} (h : BoxC w g t [a0, a1, a2, a3, a4, a5, a6]) :
    w.cell? ⟨g, 0, none⟩ = some a0 ∧ w.cell? ⟨g, 1, none⟩ = some a1 ∧ w.cell? ⟨g, 2, none⟩ = some a2 ∧ w.cell? ⟨g, 3, none⟩ = some a3 ∧ w.cell? ⟨g, 4, none⟩ = some a4 ∧ w.cell? ⟨g, 5, none⟩ = some a5 ∧ w.cell? ⟨g, 6, none⟩ = some a6 :=
  ⟨h.at_ rfl, h.at_ rfl, h.at_ rfl, h.at_ rfl, h.at_ rfl, h.at_ rfl, h.at_ rfl⟩
end Go.Proofs.YtgeaccoobhigcaaGreat
namespace Go.Proofs.YtgeaccoobhigcaaGreat
open Go Go.RowKit
/-- A production comes back, in blocks from 'base' on. -/
def ProdIs (base : Nat) (w' : World) (p : Pd) (e : Ending) : Prop := ∃ p' : ProdR, e = .returned p'.val ∧ p'.abs = p ∧ p'.Mem w' ∧ Deep mkCond (fun b => base ≤ b) w' p'.ca p'.cn p'.cc p'.conds ∧ Deep mkAct (fun b => base ≤ b) w' p'.aa p'.an p'.ac p'.acts
theorem three_box {w : World} {g : Nat} {a0 a1 a2 : Value} {t : TypeId} (h : BoxC w g t [a0, a1, a2]) : w.cell? ⟨g, 0, none⟩ = some a0 ∧ w.cell? ⟨g, 1, none⟩ = some a1 ∧ w.cell? ⟨g, 2, none⟩ = some a2 := ⟨h.at_ rfl, h.at_ rfl, h.at_ rfl⟩
end Go.Proofs.YtgeaccoobhigcaaGreat
namespace Go.Proofs.YtgeaccoobhigcaaGreat
open Go Go.RowKit
theorem bytes_beq (a b : ByteArray) : (a.toList == b.toList) = true ↔ a = b := by
  rw [beq_iff_eq, ByteArray.toList_eq, ByteArray.toList_eq]
  obtain ⟨⟨x⟩⟩ := a
  obtain ⟨⟨y⟩⟩ := b
  simp
def smEq (a b : Sm) : Bool := a.k == b.k && (a.t.toList == b.t.toList && a.n == b.n)
def amEq (a b : Am) : Bool := a.v.toList == b.v.toList && smEq a.s b.s
def tmEq (a b : Tm) : Bool := a.op == b.op && (amEq a.a b.a && amEq a.b b.b)
def acEq (a b : Ac) : Bool := a.id.toList == b.id.toList && (amEq a.attr b.attr && (tmEq a.value b.value && (a.pref == b.pref && amEq a.other b.other)))
theorem smEq_iff {a b : Sm} : smEq a b = true ↔ a = b := by
  obtain ⟨k, t, n⟩ := a
  obtain ⟨k', t', n'⟩ := b
  unfold smEq
  rw [Bool.and_eq_true, Bool.and_eq_true, bytes_beq]
  simp
theorem amEq_iff {a b : Am} : amEq a b = true ↔ a = b := by
  obtain ⟨v, s⟩ := a
  obtain ⟨v', s'⟩ := b
  unfold amEq
  rw [Bool.and_eq_true, bytes_beq, smEq_iff]
  simp
theorem tmEq_iff {a b : Tm} : tmEq a b = true ↔ a = b := by
  obtain ⟨v, s, u⟩ := a
  obtain ⟨v', s', u'⟩ := b
  unfold tmEq
  rw [Bool.and_eq_true, Bool.and_eq_true, amEq_iff, amEq_iff]
  simp
theorem acEq_iff {a b : Ac} : acEq a b = true ↔ a = b := by
  obtain ⟨v, s, u, x, y⟩ := a
  obtain ⟨v', s', u', x', y'⟩ := b
  unfold acEq
  rw [Bool.and_eq_true, Bool.and_eq_true, Bool.and_eq_true, Bool.and_eq_true, amEq_iff, amEq_iff, tmEq_iff, bytes_beq]
  simp
theorem held63 : Tryz.prog.stoodInHeld 45 = false := by kernel_rfl
theorem held65 : Tryz.prog.stoodInHeld 47 = false := by kernel_rfl
theorem held67 : Tryz.prog.stoodInHeld 49 = false := by kernel_rfl
theorem held69 : Tryz.prog.stoodInHeld 51 = false := by kernel_rfl
theorem run_eq63 (d : Nat) (w : World) (k : Int) (t : ByteArray) (n : Int) (k' : Int) (t' : ByteArray) (n' : Int) : (Op.equalIn (d + 2) 45 (.agg #[.int .i64 k, .string t, .int .i64 n]) (.agg #[.int .i64 k', .string t', .int .i64 n'])).run Tryz.prog w = .ok (smEq ⟨k, t, n⟩ ⟨k', t', n'⟩) w := by
  rw [run_equalIn_struct w (d + 1) 45 _ _ und63 held63]
  simp [Program.fieldsOf, Tryz.underlying45, Op.eqFields, part, go_sem]
  unfold smEq
  simp only
  by_cases h1 : k = k' <;> by_cases h2 : t.toList = t'.toList <;> by_cases h3 : n = n' <;> simp [h1, h2, h3]
theorem run_eq65 (d : Nat) (w : World) (v : ByteArray) (k : Int) (t : ByteArray) (n : Int) (v' : ByteArray) (k' : Int) (t' : ByteArray) (n' : Int) : (Op.equalIn (d + 3) 47 (.agg #[.string v, .int .i64 k, .string t, .int .i64 n]) (.agg #[.string v', .int .i64 k', .string t', .int .i64 n'])).run Tryz.prog w = .ok (amEq ⟨v, k, t, n⟩ ⟨v', k', t', n'⟩) w := by
  rw [run_equalIn_struct w (d + 2) 47 _ _ und65 held65]
  simp [Program.fieldsOf, Tryz.underlying47, Op.eqFields, part, go_sem, run_eq63]
  unfold amEq
  simp only
  generalize smEq ⟨k, t, n⟩ ⟨k', t', n'⟩ = b
  by_cases h2 : v.toList = v'.toList <;> cases b <;> simp [h2]
theorem run_eq67 (d : Nat) (w : World) (a b : Tm) : (Op.equalIn (d + 4) 49 (.agg a.cells.toArray) (.agg b.cells.toArray)).run Tryz.prog w = .ok (tmEq a b) w := by
  obtain ⟨op, ⟨v, k, t, n⟩, ⟨v2, k2, t2, n2⟩⟩ := a
  obtain ⟨op', ⟨v', k', t', n'⟩, ⟨v2', k2', t2', n2'⟩⟩ := b
  rw [run_equalIn_struct w (d + 3) 49 _ _ und67 held67]
  simp [Program.fieldsOf, Tryz.underlying49, Op.eqFields, part, go_sem, run_eq65, Tm.cells, Am.cells, Sm.cells]
  unfold tmEq
  simp only
  generalize amEq ⟨v, k, t, n⟩ ⟨v', k', t', n'⟩ = b
  generalize amEq ⟨v2, k2, t2, n2⟩ ⟨v2', k2', t2', n2'⟩ = c
  by_cases h2 : op = op' <;> cases b <;> cases c <;> simp [h2]
theorem run_eq69 (d : Nat) (w : World) (a b : Ac) : (Op.equalIn (d + 5) 51 (.agg a.cells.toArray) (.agg b.cells.toArray)).run Tryz.prog w = .ok (acEq a b) w := by
  have hT := fun w => run_eq67 d w a.value b.value
  obtain ⟨id, ⟨v, k, t, n⟩, ⟨op, ⟨v1, k1, t1, n1⟩, ⟨v2, k2, t2, n2⟩⟩, pref, ⟨v3, k3, t3, n3⟩⟩ := a
  obtain ⟨id', ⟨v', k', t', n'⟩, ⟨op', ⟨v1', k1', t1', n1'⟩, ⟨v2', k2', t2', n2'⟩⟩, pref', ⟨v3', k3', t3', n3'⟩⟩ := b
  rw [run_equalIn_struct w (d + 4) 51 _ _ und69 held69]
  simp only [Tm.cells, Am.cells, Sm.cells, List.cons_append, List.nil_append] at hT
  simp [Program.fieldsOf, Tryz.underlying51, Op.eqFields, part, go_sem, run_eq65, hT, Ac.cells, Am.cells, Tm.cells, Sm.cells]
  unfold acEq
  simp only
  generalize amEq ⟨v, k, t, n⟩ ⟨v', k', t', n'⟩ = b
  generalize amEq ⟨v3, k3, t3, n3⟩ ⟨v3', k3', t3', n3'⟩ = c
  generalize tmEq _ _ = e
  by_cases h2 : id.toList = id'.toList <;> by_cases h3 : pref = pref' <;> cases b <;> cases c <;> cases e <;> simp [h2, h3]
end Go.Proofs.YtgeaccoobhigcaaGreat
namespace Go.Proofs.YtgeaccoobhigcaaGreat
open Go Go.RowKit
/-- Two lists hold the same, one by one. -/
def eqL {α : Type} (p : α → α → Bool) : List α → List α → Bool
  | [], [] => true
  | x :: r, y :: s => p x y && eqL p r s
  | _, _ => false
section
variable {α : Type} {p : α → α → Bool}
theorem eqL_iff (hp : ∀ x y, p x y = true ↔ x = y) : ∀ a b : List α, eqL p a b = true ↔ a = b
  | [], [] => by simp [eqL]
  | [], y :: s => by simp [eqL]
  | x :: r, [] => by simp [eqL]
  | x :: r, y :: s => by rw [eqL, Bool.and_eq_true, hp, eqL_iff hp r s]; simp
theorem eqL_len : ∀ {a b : List α}, eqL p a b = true → a.length = b.length
  | [], [], _ => rfl
  | [], y :: s, h => by simp [eqL] at h
  | x :: r, [], h => by simp [eqL] at h
  | x :: r, y :: s, h => by
    rw [eqL, Bool.and_eq_true] at h
    have := eqL_len h.2
    simp [this]
theorem eqL_lens {a b : List α} (h : a.length ≠ b.length) : eqL p a b = false := by
  cases e : eqL p a b with
  | false => rfl
  | true => exact absurd (eqL_len e) h
theorem eqL_next : ∀ {a b : List α} {i : Nat} {x y : α}, a[i]? = some x → b[i]? = some y → eqL p (a.take i) (b.take i) = true → p x y = true → eqL p (a.take (i + 1)) (b.take (i + 1)) = true
  | x :: r, y :: s, 0, _, _, h1, h2, _, h4 => by
    simp at h1 h2
    subst h1 h2
    simp [eqL, h4]
  | x :: r, y :: s, i + 1, _, _, h1, h2, h3, h4 => by
    simp only [List.getElem?_cons_succ] at h1 h2
    simp only [List.take_succ_cons, eqL, Bool.and_eq_true] at h3 ⊢
    exact ⟨h3.1, eqL_next h1 h2 h3.2 h4⟩
  | [], _, _, _, _, h1, _, _, _ => by simp at h1
  | _ :: _, [], _, _, _, _, h2, _, _ => by simp at h2
theorem eqL_off : ∀ {a b : List α} {i : Nat} {x y : α}, a[i]? = some x → b[i]? = some y → p x y = false → eqL p a b = false
  | x :: r, y :: s, 0, _, _, h1, h2, h4 => by
    simp at h1 h2
    subst h1 h2
    simp [eqL, h4]
  | x :: r, y :: s, i + 1, _, _, h1, h2, h4 => by
    simp only [List.getElem?_cons_succ] at h1 h2
    simp only [eqL]
    rw [eqL_off h1 h2 h4, Bool.and_false]
  | [], _, _, _, _, h1, _, _ => by simp at h1
  | _ :: _, [], _, _, _, _, h2, _ => by simp at h2
end
theorem wpQuiet_load {P : Program} {ops : Array Oper} {C : World → Prop} {Q : Act → Prop} {rest : List Oper} {o : Oper} {a : Act} (hg : o.guard = none) (ty : TypeId) (x : Operand) (ho : o.op = .load ty x) (ad : Addr) (hx : a.eval x = .pointer (some ad)) (v : Array Value)
    (hv : ∀ w, C w → (loadVar ty ad).run P w = .ok (.agg v) w) (h : wpQuiet P ops C Q rest (a.put o.dst (.agg v))) : wpQuiet P ops C Q (o :: rest) a := by
  refine wpQuiet_step fun K hK => ?_
  rw [if_pos (by simp [Region.wanted, hg])]
  refine ⟨.agg v, fun w hw => ?_, hK _ h⟩
  unfold Oper.quietAt execOp
  simp only [ho, hx, Instr.loadAt, Instr.sureAddr, Sem.run_bind, Sem.run_pure, Result.andThen_ok, hv w hw]
  exact ⟨rfl, rfl⟩
theorem range_drewN {w W : World} {j g o : Nat} {cs : List Value} (hW : ∃ n, W = (w.drewN j).drewN n) (h : ∀ i u, cs[i]? = some u → w.cell? ⟨g, o + i, none⟩ = some u) : W.rangeAt g o cs := by
  obtain ⟨n, rfl⟩ := hW
  exact fun i u hi => h i u hi
theorem run_neq63 (w : World) (k : Int) (t : ByteArray) (n : Int) (k' : Int) (t' : ByteArray) (n' : Int) : (binOp .neq 45 (.agg #[.int .i64 k, .string t, .int .i64 n]) (.agg #[.int .i64 k', .string t', .int .i64 n'])).run Tryz.prog w = .ok (.bool (!smEq ⟨k, t, n⟩ ⟨k', t', n'⟩)) w := by
  rw [run_neq_struct, run_eq63 9998]; rfl
theorem run_neq69 (w : World) (a b : Ac) : (binOp .neq 51 (.agg a.cells.toArray) (.agg b.cells.toArray)).run Tryz.prog w = .ok (.bool (!acEq a b)) w := by
  rw [run_neq_struct, run_eq69 9995]; rfl
set_option maxRecDepth 100000 in
set_option maxHeartbeats 4000000 in
theorem kSyms_any (ao bo : Option Addr) (n m c d : Nat) (l k : List Sm) (w : World) (h : SlR w 3 ao n c (symsC l)) (g : SlR w 3 bo m d (symsC k)) :
    Calls Tryz.prog 92 #[.slice ao n c, .slice bo m d] w fun e w' => e = .returned (.bool (eqL smEq l k)) ∧ ∃ j, w' = w.drewN j := by
  have hl := h.1
  have hl2 := g.1
  rw [symsC_length] at hl hl2
  have hcap := h.2.1
  have hmx := h.2.2.1
  have hcap2 := g.2.1
  have hmx2 := g.2.2.1
  unfold maxLen at hmx hmx2
  by_cases hnm : n = m
  · subst hnm
    have HL := Lib.hid hl
    have HL2 := Lib.hid hl2
    clear hl hl2
    have HG := Lib.hid g
    have HH := Lib.hid h
    clear g h
    go_enter Tryz.func92, Tryz.ntmps92
    go_wp2
    go_loopw [5] (fun ti wr => ∃ i : Nat, i ≤ n ∧ ti = .int .i64 i ∧ Hid (eqL smEq (l.take i) (k.take i) = true) ∧ ∃ j, wr = w.drewN j) (fun ti _ => n - (intOf ti).toNat)
    case atStart => exact ⟨0, by omega, rfl, Lib.hid (by simp [eqL]), 0, rfl⟩
    case round =>
      obtain ⟨i, hi, rfl, HT, j, rfl⟩ := hrel
      by_cases hlt : i < n
      · obtain ⟨x, hx⟩ : ∃ x, l[i]? = some x := ⟨_, List.getElem?_eq_getElem (by have := HL.out; omega)⟩
        obtain ⟨y, hy⟩ : ∃ y, k[i]? = some y := ⟨_, List.getElem?_eq_getElem (by have := HL2.out; omega)⟩
        obtain ⟨ga, oa, rfl, x0, x1, x2⟩ := HH.out.sym hx
        obtain ⟨gb, ob, rfl, y0, y1, y2⟩ := HG.out.sym hy
        have HN := Lib.hid (eqL_next (p := smEq) hx hy HT.out)
        have HO := Lib.hid (eqL_off (p := smEq) hx hy)
        have hq := fun w => run_neq63 w x.k x.t x.n y.k y.t y.n
        clear hx hy
        cases hE : smEq x y with
        | true =>
          have HN2 := Lib.hid (HN.out hE)
          rw [show smEq ⟨x.k, x.t, x.n⟩ ⟨y.k, y.t, y.n⟩ = true from hE] at hq
          clear hE HN HO
          go_wp2
          go_quiet (fail)
          go_wp2
          go_roundw
          case rel => exact ⟨i + 1, by omega, by go_num, HN2, _, rfl⟩
          case measure => simp [intOf]; omega
        | false =>
          have HO2 := Lib.hid (HO.out hE)
          rw [show smEq ⟨x.k, x.t, x.n⟩ ⟨y.k, y.t, y.n⟩ = false from hE] at hq
          clear hE HN HO
          go_wp2
          go_quiet (fail)
          go_wp2
          go_ret
          exact ⟨by rw [HO2.out]; rfl, _, drewN_add _ _ _⟩
      · obtain rfl : i = n := by omega
        have HTA : Hid (eqL smEq l k = true) := Lib.hid (by have := HT.out; rwa [List.take_of_length_le (by have := HL.out; omega), List.take_of_length_le (by have := HL2.out; omega)] at this)
        go_wp2
        go_ret
        exact ⟨by rw [HTA.out]; rfl, _, rfl⟩
  · have HR : Hid (eqL smEq l k = false) := Lib.hid (eqL_lens (by omega))
    have e1 : ((n : Int) != (m : Int)) = true := by simp; omega
    clear hl hl2 h g hnm
    go_enter Tryz.func92, Tryz.ntmps92
    go_wp2
    go_ret
    exact ⟨by rw [HR.out]; rfl, 0, rfl⟩
set_option maxRecDepth 100000 in
set_option maxHeartbeats 4000000 in
theorem kActs_any (ao bo : Option Addr) (n m c d : Nat) (l k : List Ac) (w : World) (h : SlR w 19 ao n c (l.flatMap Ac.cells)) (g : SlR w 19 bo m d (k.flatMap Ac.cells)) :
    Calls Tryz.prog 24 #[.slice ao n c, .slice bo m d] w fun e w' => e = .returned (.bool (eqL acEq l k)) ∧ ∃ j, w' = w.drewN j := by
  have hl := h.1
  have hl2 := g.1
  rw [rows_length ac_len] at hl hl2
  have hcap := h.2.1
  have hmx := h.2.2.1
  have hcap2 := g.2.1
  have hmx2 := g.2.2.1
  unfold maxLen at hmx hmx2
  by_cases hnm : n = m
  · subst hnm
    have HL := Lib.hid hl
    have HL2 := Lib.hid hl2
    clear hl hl2
    have HG := Lib.hid g
    have HH := Lib.hid h
    clear g h
    go_enter Tryz.func24, Tryz.ntmps24
    go_wp2
    go_loopw [5] (fun ti wr => ∃ i : Nat, i ≤ n ∧ ti = .int .i64 i ∧ Hid (eqL acEq (l.take i) (k.take i) = true) ∧ ∃ j, wr = w.drewN j) (fun ti _ => n - (intOf ti).toNat)
    case atStart => exact ⟨0, by omega, rfl, Lib.hid (by simp [eqL]), 0, rfl⟩
    case round =>
      obtain ⟨i, hi, rfl, HT, j, rfl⟩ := hrel
      by_cases hlt : i < n
      · obtain ⟨x, hx⟩ : ∃ x, l[i]? = some x := ⟨_, List.getElem?_eq_getElem (by have := HL.out; omega)⟩
        obtain ⟨y, hy⟩ : ∃ y, k[i]? = some y := ⟨_, List.getElem?_eq_getElem (by have := HL2.out; omega)⟩
        obtain ⟨ga, oa, rfl, hx0⟩ := HH.out.row_at ac_len (by omega) hx
        obtain ⟨gb, ob, rfl, hy0⟩ := HG.out.row_at ac_len (by omega) hy
        have hqx := fun W (hW : ∃ n, W = (w.drewN j).drewN n) => run_loadVar_mid (P := Tryz.prog) W ga (oa + i * 19) 51 x.cells _ (range_drewN hW hx0) und69 rfl (by rw [agg69.1]; rfl)
        have hqy := fun W (hW : ∃ n, W = (w.drewN j).drewN n) => run_loadVar_mid (P := Tryz.prog) W gb (ob + i * 19) 51 y.cells _ (range_drewN hW hy0) und69 rfl (by rw [agg69.1]; rfl)
        have HN := Lib.hid (eqL_next (p := acEq) hx hy HT.out)
        have HO := Lib.hid (eqL_off (p := acEq) hx hy)
        have hq := fun w => run_neq69 w x y
        generalize x.cells.toArray = X at hqx hq
        generalize y.cells.toArray = Y at hqy hq
        clear hx hy hx0 hy0
        cases hE : acEq x y with
        | true =>
          have HN2 := Lib.hid (HN.out hE)
          rw [hE] at hq
          clear hE HN HO
          go_wp2
          refine wp_region_quiet_lit (by kernel_rfl) (by kernel_rfl) ?_
          repeat (quiet_step (fail))
          refine wpQuiet_load rfl 51 (.tmp 19) rfl ⟨ga, oa + i * 19, none⟩ rfl X hqx ?_
          repeat (quiet_step (fail))
          refine wpQuiet_load rfl 51 (.tmp 23) rfl ⟨gb, ob + i * 19, none⟩ rfl Y hqy ?_
          repeat (quiet_step (fail))
          refine wpQuiet_nil ?_
          intro _ hw'
          obtain ⟨nq, hw''⟩ := hw'
          subst hw''
          go_wp2
          go_roundw
          case rel => exact ⟨i + 1, by omega, by go_num, HN2, _, rfl⟩
          case measure => simp [intOf]; omega
        | false =>
          have HO2 := Lib.hid (HO.out hE)
          rw [hE] at hq
          clear hE HN HO
          go_wp2
          refine wp_region_quiet_lit (by kernel_rfl) (by kernel_rfl) ?_
          repeat (quiet_step (fail))
          refine wpQuiet_load rfl 51 (.tmp 19) rfl ⟨ga, oa + i * 19, none⟩ rfl X hqx ?_
          repeat (quiet_step (fail))
          refine wpQuiet_load rfl 51 (.tmp 23) rfl ⟨gb, ob + i * 19, none⟩ rfl Y hqy ?_
          repeat (quiet_step (fail))
          refine wpQuiet_nil ?_
          intro _ hw'
          obtain ⟨nq, hw''⟩ := hw'
          subst hw''
          go_wp2
          go_ret
          exact ⟨by rw [HO2.out]; rfl, _, drewN_add _ _ _⟩
      · obtain rfl : i = n := by omega
        have HTA : Hid (eqL acEq l k = true) := Lib.hid (by have := HT.out; rwa [List.take_of_length_le (by have := HL.out; omega), List.take_of_length_le (by have := HL2.out; omega)] at this)
        go_wp2
        go_ret
        exact ⟨by rw [HTA.out]; rfl, _, rfl⟩
  · have HR : Hid (eqL acEq l k = false) := Lib.hid (eqL_lens (by omega))
    have e1 : ((n : Int) != (m : Int)) = true := by simp; omega
    clear hl hl2 h g hnm
    go_enter Tryz.func24, Tryz.ntmps24
    go_wp2
    go_ret
    exact ⟨by rw [HR.out]; rfl, 0, rfl⟩
end Go.Proofs.YtgeaccoobhigcaaGreat
namespace Go.Proofs.YtgeaccoobhigcaaGreat
open Go Go.RowKit
def tsEq (a b : Ts) : Bool := a.rel == b.rel && (a.v.toList == b.v.toList && (smEq a.s b.s && eqL smEq a.list b.list))
theorem tsEq_iff {a b : Ts} : tsEq a b = true ↔ a = b := by
  obtain ⟨r, v, s, l⟩ := a
  obtain ⟨r', v', s', l'⟩ := b
  unfold tsEq
  rw [Bool.and_eq_true, Bool.and_eq_true, Bool.and_eq_true, bytes_beq, smEq_iff, eqL_iff (fun x y => smEq_iff)]
  simp
theorem below_drewN (w : World) (j : Nat) : Below w.heap.size w (w.drewN j) := ⟨rfl, rfl, rfl, Nat.le_refl _, fun _ _ => rfl⟩
theorem eqL_map {α β : Type} {p : β → β → Bool} {f : α → β} : ∀ a b : List α, eqL p (a.map f) (b.map f) = eqL (fun x y => p (f x) (f y)) a b
  | [], [] => rfl
  | [], y :: s => rfl
  | x :: r, [] => rfl
  | x :: r, y :: s => by simp only [List.map_cons, eqL]; rw [eqL_map r s]
set_option maxRecDepth 100000 in
set_option maxHeartbeats 4000000 in
theorem kTests_any (ao bo : Option Addr) (n m c d : Nat) (l k : List TestR) (w : World) (h : TestsMem w ao n c l) (g : TestsMem w bo m d k) :
    Calls Tryz.prog 71 #[.slice ao n c, .slice bo m d] w fun e w' => e = .returned (.bool (eqL tsEq (l.map TestR.abs) (k.map TestR.abs))) ∧ ∃ j, w' = w.drewN j := by
  rw [eqL_map]
  have hl := h.len
  have hl2 := g.len
  have hcap := h.sl.2.1
  have hmx := h.sl.2.2.1
  have hcap2 := g.sl.2.1
  have hmx2 := g.sl.2.2.1
  unfold maxLen at hmx hmx2
  by_cases hnm : n = m
  · subst hnm
    have HL := Lib.hid hl
    have HL2 := Lib.hid hl2
    clear hl hl2
    have HG := Lib.hid g
    have HH := Lib.hid h
    clear g h
    go_enter Tryz.func71, Tryz.ntmps71
    go_wp2
    go_loopw [5] (fun ti wr => ∃ i : Nat, i ≤ n ∧ ti = .int .i64 i ∧ Hid (eqL (fun x y => tsEq x.abs y.abs) (l.take i) (k.take i) = true) ∧ Hid (∃ j, wr = w.drewN j)) (fun ti _ => n - (intOf ti).toNat)
    case atStart => exact ⟨0, by omega, rfl, Lib.hid (by simp [eqL]), Lib.hid ⟨0, rfl⟩⟩
    case round =>
      obtain ⟨i, hi, rfl, HT, HJ⟩ := hrel
      by_cases hlt : i < n
      · obtain ⟨x, hx⟩ : ∃ x, l[i]? = some x := ⟨_, List.getElem?_eq_getElem (by have := HL.out; omega)⟩
        obtain ⟨y, hy⟩ : ∃ y, k[i]? = some y := ⟨_, List.getElem?_eq_getElem (by have := HL2.out; omega)⟩
        have hbw : Below w.heap.size w wr := by obtain ⟨j, rfl⟩ := HJ.out; exact below_drewN w j
        have hxm := (HH.out.ok x (List.mem_of_getElem? hx)).kept hbw
        have hym := (HG.out.ok y (List.mem_of_getElem? hy)).kept hbw
        obtain ⟨ga, oa, rfl, hxc⟩ := (HH.out.sl.kept hbw).row_at testR_len (by omega) hx
        obtain ⟨gb, ob, rfl, hyc⟩ := (HG.out.sl.kept hbw).row_at testR_len (by omega) hy
        obtain ⟨x0, x1, x2, x3, x4, x5⟩ := six_cellsT hxc
        obtain ⟨y0, y1, y2, y3, y4, y5⟩ := six_cellsT hyc
        have HN := Lib.hid (eqL_next (p := fun x y => tsEq x.abs y.abs) hx hy HT.out)
        have HO := Lib.hid (eqL_off (p := fun x y => tsEq x.abs y.abs) hx hy)
        have hq := fun w => run_neq63 w x.s.k x.s.t x.s.n y.s.k y.s.t y.s.n
        have hS := fun W (hW : Below wr.heap.size wr W) => kSyms_any x.la y.la x.ln y.ln x.lc y.lc x.list y.list W (hxm.sl.kept hW) (hym.sl.kept hW)
        have HS := Lib.hid hS
        have hE : tsEq x.abs y.abs = (x.rel == y.rel && (x.v.toList == y.v.toList && (smEq ⟨x.s.k, x.s.t, x.s.n⟩ ⟨y.s.k, y.s.t, y.s.n⟩ && eqL smEq x.list y.list))) := rfl
        have HE := Lib.hid hE
        clear hx hy hxm hym hxc hyc hbw hS hE
        generalize smEq ⟨x.s.k, x.s.t, x.s.n⟩ ⟨y.s.k, y.s.t, y.s.n⟩ = S at hq HE
        cases e1 : x.rel == y.rel with
        | false =>
          have HO2 := Lib.hid (HO.out (by rw [HE.out, e1]; rfl))
          have e1' : (x.rel != y.rel) = true := by simp [bne, e1]
          go_wp2
          go_quiet (fail)
          go_wp2
          go_ret
          exact ⟨by rw [HO2.out]; rfl, by obtain ⟨j, rfl⟩ := HJ.out; exact ⟨_, drewN_add _ _ _⟩⟩
        | true =>
          have e1' : (x.rel != y.rel) = false := by simp [bne, e1]
          cases e2 : x.v.toList == y.v.toList with
          | false =>
            have e2' : (x.v.toList != y.v.toList) = true := by simp [bne, e2]
            have HO2 := Lib.hid (HO.out (by rw [HE.out, e1, e2]; rfl))
            go_wp2
            go_quiet (fail)
            go_wp2
            go_ret
            exact ⟨by rw [HO2.out]; rfl, by obtain ⟨j, rfl⟩ := HJ.out; exact ⟨_, drewN_add _ _ _⟩⟩
          | true =>
            have e2' : (x.v.toList != y.v.toList) = false := by simp [bne, e2]
            cases S with
            | false =>
              have HO2 := Lib.hid (HO.out (by rw [HE.out, e1, e2]; rfl))
              go_wp2
              go_quiet (fail)
              go_wp2
              go_ret
              exact ⟨by rw [HO2.out]; rfl, by obtain ⟨j, rfl⟩ := HJ.out; exact ⟨_, drewN_add _ _ _⟩⟩
            | true =>
              generalize eqL smEq x.list y.list = L at HS HE
              cases L with
              | false =>
                have HO2 := Lib.hid (HO.out (by rw [HE.out, e1, e2]; rfl))
                go_wp2
                go_quiet ((go_at_call 92; exact Calls.quiet_of (HS.out _ (below_drewN _ _))))
                go_wp2
                go_ret
                exact ⟨by rw [HO2.out]; rfl, by obtain ⟨j, rfl⟩ := HJ.out; exact ⟨_, drewN_add _ _ _⟩⟩
              | true =>
                have HN2 := Lib.hid (HN.out (by rw [HE.out, e1, e2]; rfl))
                go_wp2
                go_quiet ((go_at_call 92; exact Calls.quiet_of (HS.out _ (below_drewN _ _))))
                go_wp2
                go_roundw
                case rel => exact ⟨i + 1, by omega, by go_num, HN2, Lib.hid (by obtain ⟨j, rfl⟩ := HJ.out; exact ⟨_, drewN_add _ _ _⟩)⟩
                case measure => simp [intOf]; omega
      · obtain rfl : i = n := by omega
        have HTA : Hid (eqL (fun x y => tsEq x.abs y.abs) l k = true) := Lib.hid (by have := HT.out; rwa [List.take_of_length_le (by have := HL.out; omega), List.take_of_length_le (by have := HL2.out; omega)] at this)
        go_wp2
        go_ret
        exact ⟨by rw [HTA.out]; rfl, by obtain ⟨j, rfl⟩ := HJ.out; exact ⟨_, rfl⟩⟩
  · have HR : Hid (eqL (fun x y => tsEq x.abs y.abs) l k = false) := Lib.hid (eqL_lens (by omega))
    have e1 : ((n : Int) != (m : Int)) = true := by simp; omega
    clear hl hl2 h g hnm
    go_enter Tryz.func71, Tryz.ntmps71
    go_wp2
    go_ret
    exact ⟨by rw [HR.out]; rfl, 0, rfl⟩
end Go.Proofs.YtgeaccoobhigcaaGreat
namespace Go.Proofs.YtgeaccoobhigcaaGreat
open Go Go.RowKit
mutual
def cdEq : Cd → Cd → Bool
  | .mk k g i a v c cs, .mk k' g' i' a' v' c' cs' => k == k' && (g == g' && (i.toList == i'.toList && (c == c' && (eqL tsEq a a' && (eqL tsEq v v' && cdsEq cs cs')))))
def cdsEq : List Cd → List Cd → Bool
  | [], [] => true
  | x :: r, y :: s => cdEq x y && cdsEq r s
  | [], _ :: _ => false
  | _ :: _, [] => false
end
theorem cdsEq_eqL : ∀ a b : List Cd, cdsEq a b = eqL cdEq a b
  | [], [] => by simp only [cdsEq, eqL]
  | [], y :: s => by simp only [cdsEq, eqL]
  | x :: r, [] => by simp only [cdsEq, eqL]
  | x :: r, y :: s => by simp only [cdsEq, eqL]; rw [cdsEq_eqL r s]
mutual
theorem cdEq_iff : ∀ a b : Cd, cdEq a b = true ↔ a = b
  | .mk k g i a v c cs, .mk k' g' i' a' v' c' cs' => by
    rw [cdEq, Bool.and_eq_true, Bool.and_eq_true, Bool.and_eq_true, Bool.and_eq_true, Bool.and_eq_true, Bool.and_eq_true, bytes_beq, cdsEq_iff cs cs', eqL_iff (fun x y => tsEq_iff), eqL_iff (fun x y => tsEq_iff)]
    simp only [beq_iff_eq, Cd.mk.injEq]
    constructor
    · rintro ⟨h1, h2, h3, h4, h5, h6, h7⟩; exact ⟨h1, h2, h3, h5, h6, h4, h7⟩
    · rintro ⟨h1, h2, h3, h5, h6, h4, h7⟩; exact ⟨h1, h2, h3, h4, h5, h6, h7⟩
theorem cdsEq_iff : ∀ a b : List Cd, cdsEq a b = true ↔ a = b
  | [], [] => by simp only [cdsEq]
  | [], y :: s => by simp [cdsEq]
  | x :: r, [] => by simp [cdsEq]
  | x :: r, y :: s => by rw [cdsEq, Bool.and_eq_true, cdEq_iff x y, cdsEq_iff r s]; simp
end
theorem absL_eq (a b : List CondR) : cdsEq (absL a) (absL b) = eqL (fun x y => cdEq x.abs y.abs) a b := by rw [cdsEq_eqL, absL_map, absL_map, eqL_map]
set_option maxRecDepth 100000 in
set_option maxHeartbeats 8000000 in
theorem kCond_step {xk : Int} {xg : Bool} {xi : ByteArray} {xaa : Option Addr} {xan xac : Nat} {xat : List TestR} {xva : Option Addr} {xvn xvc : Nat} {xvl : List TestR} {xacc : Bool} {xca : Option Addr} {xcn xcc : Nat} {xcs : List CondR}
    {yk : Int} {yg : Bool} {yi : ByteArray} {yaa : Option Addr} {yan yac : Nat} {yat : List TestR} {yva : Option Addr} {yvn yvc : Nat} {yvl : List TestR} {yacc : Bool} {yca : Option Addr} {ycn ycc : Nat} {ycs : List CondR} (w : World)
    (ha : TestsMem w xaa xan xac xat) (ha' : TestsMem w yaa yan yac yat) (hv : TestsMem w xva xvn xvc xvl) (hv' : TestsMem w yva yvn yvc yvl)
    (hK : ∀ W, Below w.heap.size w W → Calls Tryz.prog 23 #[.slice xca xcn xcc, .slice yca ycn ycc] W fun e w' => e = .returned (.bool (cdsEq (absL xcs) (absL ycs))) ∧ Below W.heap.size W w') :
    Calls Tryz.prog 46 #[CondR.val (.mk xk xg xi xaa xan xac xat xva xvn xvc xvl xacc xca xcn xcc xcs), CondR.val (.mk yk yg yi yaa yan yac yat yva yvn yvc yvl yacc yca ycn ycc ycs)] w
      fun e w' => e = .returned (.bool (cdEq (CondR.abs (.mk xk xg xi xaa xan xac xat xva xvn xvc xvl xacc xca xcn xcc xcs)) (CondR.abs (.mk yk yg yi yaa yan yac yat yva yvn yvc yvl yacc yca ycn ycc ycs)))) ∧ Below w.heap.size w w' := by
  unfold CondR.val
  simp only [CondR.abs, cdEq]
  have hA := fun W (hW : Below w.heap.size w W) => kTests_any xaa yaa xan yan xac yac xat yat W (ha.kept hW) (ha'.kept hW)
  have hV := fun W (hW : Below w.heap.size w W) => kTests_any xva yva xvn yvn xvc yvc xvl yvl W (hv.kept hW) (hv'.kept hW)
  generalize eqL tsEq (xat.map TestR.abs) (yat.map TestR.abs) = A at hA ⊢
  generalize eqL tsEq (xvl.map TestR.abs) (yvl.map TestR.abs) = V at hV ⊢
  generalize cdsEq (absL xcs) (absL ycs) = C at hK ⊢
  have HA := Lib.hid hA
  have HV := Lib.hid hV
  have HK := Lib.hid hK
  have hbb : Below w.heap.size w ((w.alloc (.cells #[.int .i64 xk, .bool xg, .string xi, .slice xaa xan xac, .slice xva xvn xvc, .bool xacc, .slice xca xcn xcc] 43)).alloc (.cells #[.int .i64 yk, .bool yg, .string yi, .slice yaa yan yac, .slice yva yvn yvc, .bool yacc, .slice yca ycn ycc] 43)) := below_trans (below_new _ _) (below_new _ _)
  have HBB := Lib.hid hbb
  clear hA hV hK ha ha' hv hv' hbb
  cases e1 : xk == yk with
  | false =>
    go_enter Tryz.func46, Tryz.ntmps46
    go_wp2
    go_ret
    exact ⟨rfl, HBB.out⟩
  | true =>
    cases e2 : xg == yg with
    | false =>
      go_enter Tryz.func46, Tryz.ntmps46
      go_wp2
      go_ret
      exact ⟨rfl, HBB.out⟩
    | true =>
      cases e3 : xi.toList == yi.toList with
      | false =>
        go_enter Tryz.func46, Tryz.ntmps46
        go_wp2
        go_ret
        exact ⟨rfl, HBB.out⟩
      | true =>
        cases e4 : xacc == yacc with
        | false =>
          go_enter Tryz.func46, Tryz.ntmps46
          go_wp2
          go_ret
          exact ⟨rfl, HBB.out⟩
        | true =>
          cases A with
          | false =>
            go_enter Tryz.func46, Tryz.ntmps46
            go_wp2_with (go_at_call 71; refine (HA.out _ HBB.out).mono ?_; rintro e w2 ⟨rfl, j2, rfl⟩)
            go_ret
            exact ⟨rfl, below_drew HBB.out _⟩
          | true =>
            cases V with
            | false =>
              go_enter Tryz.func46, Tryz.ntmps46
              go_wp2_with fail
              refine (HA.out _ HBB.out).mono ?_
              rintro e w2 ⟨rfl, j2, rfl⟩
              go_wp2_with fail
              refine (HV.out _ (below_drew HBB.out _)).mono ?_
              rintro e w3 ⟨rfl, j3, rfl⟩
              go_wp2
              go_ret
              exact ⟨rfl, below_drew HBB.out _⟩
            | true =>
              go_enter Tryz.func46, Tryz.ntmps46
              go_wp2_with fail
              refine (HA.out _ HBB.out).mono ?_
              rintro e w2 ⟨rfl, j2, rfl⟩
              go_wp2_with fail
              refine (HV.out _ (below_drew HBB.out _)).mono ?_
              rintro e w3 ⟨rfl, j3, rfl⟩
              go_wp2_with fail
              refine (HK.out _ (below_drew HBB.out _)).mono ?_
              rintro e w4 ⟨rfl, b4⟩
              go_wp2_with fail
              go_ret
              exact ⟨rfl, below_trans (below_drew HBB.out _) b4⟩
end Go.Proofs.YtgeaccoobhigcaaGreat
namespace Go.Proofs.YtgeaccoobhigcaaGreat
open Go Go.RowKit
set_option maxRecDepth 100000 in
set_option maxHeartbeats 8000000 in
theorem kConds_any : ∀ (N : Nat) (l : List CondR), condsN l < N → ∀ (k : List CondR) (ao bo : Option Addr) (n m c d : Nat) (w : World), SlR w 7 ao n c (l.flatMap CondR.cells) → (∀ c ∈ l, c.Mem w) → SlR w 7 bo m d (k.flatMap CondR.cells) → (∀ c ∈ k, c.Mem w) →
    Calls Tryz.prog 23 #[.slice ao n c, .slice bo m d] w fun e w' => e = .returned (.bool (cdsEq (absL l) (absL k))) ∧ Below w.heap.size w w' := by
  intro N
  induction N with
  | zero => intro conds h; omega
  | succ N IH =>
    intro l hN k ao bo n m c d w h hl g hk
    rw [absL_eq]
    have hln := condsMem_len h
    have hkn := condsMem_len g
    have hcap := h.2.1
    have hmx := h.2.2.1
    have hcap2 := g.2.1
    have hmx2 := g.2.2.1
    unfold maxLen at hmx hmx2
    by_cases hnm : n = m
    · subst hnm
      have HL := Lib.hid hln
      have HL2 := Lib.hid hkn
      have HG := Lib.hid g
      have HH := Lib.hid h
      have HLM := Lib.hid hl
      have HKM := Lib.hid hk
      have HIH := Lib.hid IH
      clear hln hkn g h hl hk IH
      go_enter Tryz.func23, Tryz.ntmps23
      go_wp2
      go_loopw [5] (fun ti wr => ∃ i : Nat, i ≤ n ∧ ti = .int .i64 i ∧ Hid (eqL (fun x y => cdEq x.abs y.abs) (l.take i) (k.take i) = true) ∧ Below w.heap.size w wr) (fun ti _ => n - (intOf ti).toNat)
      case atStart => exact ⟨0, by omega, rfl, Lib.hid (by simp [eqL]), Below.refl _ _⟩
      case round =>
        obtain ⟨i, hi, rfl, HT, hb⟩ := hrel
        by_cases hlt : i < n
        · obtain ⟨x, hx⟩ : ∃ x, l[i]? = some x := ⟨_, List.getElem?_eq_getElem (by have := HL.out; omega)⟩
          obtain ⟨y, hy⟩ : ∃ y, k[i]? = some y := ⟨_, List.getElem?_eq_getElem (by have := HL2.out; omega)⟩
          have hza := condsN_stop hx
          have hkz := condN_kids x
          have hxm := (HLM.out x (List.mem_of_getElem? hx)).kept hb
          have hym := (HKM.out y (List.mem_of_getElem? hy)).kept hb
          obtain ⟨ga, oa, rfl, hxc⟩ := (HH.out.kept hb).row_at condR_len (by omega) hx
          obtain ⟨gb, ob, rfl, hyc⟩ := (HG.out.kept hb).row_at condR_len (by omega) hy
          have HN := Lib.hid (eqL_next (p := fun x y => cdEq x.abs y.abs) hx hy HT.out)
          have HO := Lib.hid (eqL_off (p := fun x y => cdEq x.abs y.abs) hx hy)
          obtain ⟨xca, xcn, xcc, hx6, hxs, hxk⟩ := hxm.kids
          obtain ⟨yca, ycn, ycc, hy6, hys, hyk⟩ := hym.kids
          have hI := fun W (hW : Below wr.drew.heap.size wr.drew W) => HIH.out x.kids (by omega) y.kids xca yca xcn ycn xcc ycc W (hxs.kept (undrew hW)) (fun c h => (hxk c h).kept (undrew hW)) (hys.kept (undrew hW)) (fun c h => (hyk c h).kept (undrew hW))
          have hdr : Below wr.heap.size wr wr.drew := below_drewN wr 1
          cases hxm with
          | @mk xk xg xi xaa xan xac xat xva xvn xvc xvl xacc xca' xcn' xcc' xcs zi za zv zs zc =>
          cases hym with
          | @mk yk yg yi yaa yan yac yat yva yvn yvc yvl yacc yca' ycn' ycc' ycs ui ua uv us uc =>
          obtain ⟨x0, x1, x2, x3, x4, x5, x6⟩ := seven_cells hxc
          obtain ⟨y0, y1, y2, y3, y4, y5, y6⟩ := seven_cells hyc
          simp only [CondR.cells, List.getElem?_cons_succ, List.getElem?_cons_zero, Option.some.injEq, Value.slice.injEq] at hx6 hy6
          obtain ⟨rfl, rfl, rfl⟩ := hx6
          obtain ⟨rfl, rfl, rfl⟩ := hy6
          have hC := kCond_step (xk := xk) (xg := xg) (xi := xi) (xacc := xacc) (yk := yk) (yg := yg) (yi := yi) (yacc := yacc) (xcs := xcs) (ycs := ycs) wr.drew (za.kept hdr) (ua.kept hdr) (zv.kept hdr) (uv.kept hdr) hI
          obtain ⟨E, hE⟩ : ∃ E, E = cdEq (CondR.mk xk xg xi xaa xan xac xat xva xvn xvc xvl xacc xca' xcn' xcc' xcs).abs (CondR.mk yk yg yi yaa yan yac yat yva yvn yvc yvl yacc yca' ycn' ycc' ycs).abs := ⟨_, rfl⟩
          rw [← hE] at hC
          have HE := Lib.hid hE
          clear hE
          have HC := Lib.hid hC
          have HB := Lib.hid hb
          clear hx hy hxc hyc hza hkz hxs hxk hys hyk hI hdr za zv zs zc ua uv us uc zi ui hC hb
          unfold CondR.val at HC
          simp only at HC
          cases E with
          | false =>
            have HO2 := Lib.hid (HO.out HE.out.symm)
            go_wp2
            go_still_tail 8, (by kernel_rfl)
            change wpList _ _ _ _ _ wr.drew
            go_wp2_with fail
            refine HC.out.mono ?_
            rintro e w2 ⟨rfl, b2⟩
            have bb := below_trans HB.out (undrew b2)
            go_wp2
            go_ret
            exact ⟨by rw [HO2.out]; rfl, bb⟩
          | true =>
            have HN2 := Lib.hid (HN.out HE.out.symm)
            go_wp2
            go_still_tail 8, (by kernel_rfl)
            change wpList _ _ _ _ _ wr.drew
            go_wp2_with fail
            refine HC.out.mono ?_
            rintro e w2 ⟨rfl, b2⟩
            have bb := below_trans HB.out (undrew b2)
            go_wp2
            go_roundw
            case rel => exact ⟨i + 1, by omega, by go_num, HN2, bb⟩
            case measure => simp [intOf]; omega
        · obtain rfl : i = n := by omega
          have HTA : Hid (eqL (fun x y => cdEq x.abs y.abs) l k = true) := Lib.hid (by have := HT.out; rwa [List.take_of_length_le (by have := HL.out; omega), List.take_of_length_le (by have := HL2.out; omega)] at this)
          go_wp2
          go_ret
          exact ⟨by rw [HTA.out]; rfl, hb⟩
    · have HR : Hid (eqL (fun x y => cdEq x.abs y.abs) l k = false) := Lib.hid (eqL_lens (by omega))
      have e1 : ((n : Int) != (m : Int)) = true := by simp; omega
      clear hln hkn h g hnm hl hk IH
      go_enter Tryz.func23, Tryz.ntmps23
      go_wp2
      go_ret
      exact ⟨by rw [HR.out]; rfl, Below.refl _ _⟩
def pdEq (p q : Pd) : Bool := p.name.toList == q.name.toList && (cdsEq p.conds q.conds && eqL acEq p.acts q.acts)
theorem pdEq_iff {p q : Pd} : pdEq p q = true ↔ p = q := by
  obtain ⟨n, c, a⟩ := p
  obtain ⟨n', c', a'⟩ := q
  unfold pdEq
  rw [Bool.and_eq_true, Bool.and_eq_true, bytes_beq, cdsEq_iff, eqL_iff (fun x y => acEq_iff)]
  simp
set_option maxRecDepth 100000 in
set_option maxHeartbeats 8000000 in
theorem kProd_any (p q : ProdR) (w : World) (hp : p.Mem w) (hq : q.Mem w) : Calls Tryz.prog 9 #[p.val, q.val] w fun e w' => e = .returned (.bool (pdEq p.abs q.abs)) ∧ Below w.heap.size w w' := by
  obtain ⟨_, psc, pco, psa, _⟩ := hp
  obtain ⟨_, qsc, qco, qsa, _⟩ := hq
  have hC := fun W (hW : Below w.heap.size w W) => kConds_any (condsN p.conds + 1) p.conds (by omega) q.conds p.ca q.ca p.cn q.cn p.cc q.cc W (psc.kept hW) (fun c h => (pco c h).kept hW) (qsc.kept hW) (fun c h => (qco c h).kept hW)
  have hA := fun W (hW : Below w.heap.size w W) => kActs_any p.aa q.aa p.an q.an p.ac q.ac p.acts q.acts W (psa.kept hW) (qsa.kept hW)
  obtain ⟨pn, pca, pcn, pcc, pcs, paa, pan, pac, pas⟩ := p
  obtain ⟨qn, qca, qcn, qcc, qcs, qaa, qan, qac, qas⟩ := q
  unfold ProdR.val ProdR.abs pdEq
  simp only at hC hA ⊢
  generalize cdsEq (absL pcs) (absL qcs) = C at hC ⊢
  generalize eqL acEq pas qas = A at hA ⊢
  have HC := Lib.hid hC
  have HA := Lib.hid hA
  have hbb : Below w.heap.size w ((w.alloc (.cells #[.string pn, .slice pca pcn pcc, .slice paa pan pac] 26)).alloc (.cells #[.string qn, .slice qca qcn qcc, .slice qaa qan qac] 26)) := below_trans (below_new _ _) (below_new _ _)
  have hx0 : BoxC ((w.alloc (.cells #[.string pn, .slice pca pcn pcc, .slice paa pan pac] 26)).alloc (.cells #[.string qn, .slice qca qcn qcc, .slice qaa qan qac] 26)) w.heap.size 26 [.string pn, .slice pca pcn pcc, .slice paa pan pac] := (BoxC.new w _ 26).alloc _
  have hy0 : BoxC ((w.alloc (.cells #[.string pn, .slice pca pcn pcc, .slice paa pan pac] 26)).alloc (.cells #[.string qn, .slice qca qcn qcc, .slice qaa qan qac] 26)) (w.heap.size + 1) 26 [.string qn, .slice qca qcn qcc, .slice qaa qan qac] := BoxC.new_at' (by simp)
  have HBB := Lib.hid hbb
  have HX := Lib.hid hx0
  have HY := Lib.hid hy0
  clear hC hA psc pco psa qsc qco qsa hbb hx0 hy0
  cases e1 : pn.toList == qn.toList with
  | false =>
    go_enter Tryz.func9, Tryz.ntmps9
    go_wp2
    go_ret
    exact ⟨rfl, HBB.out⟩
  | true =>
    cases C with
    | false =>
      go_enter Tryz.func9, Tryz.ntmps9
      go_wp2_with (go_at_call 23; refine (HC.out _ HBB.out).mono ?_; rintro e w2 ⟨rfl, b2⟩)
      go_ret
      exact ⟨rfl, below_trans HBB.out b2⟩
    | true =>
      go_enter Tryz.func9, Tryz.ntmps9
      go_wp2_with fail
      refine (HC.out _ HBB.out).mono ?_
      rintro e w2 ⟨rfl, b2⟩
      obtain ⟨x0, x1, x2⟩ := three_box (HX.out.below b2)
      obtain ⟨y0, y1, y2⟩ := three_box (HY.out.below b2)
      have HB2 := Lib.hid (below_trans HBB.out b2)
      clear b2
      go_wp2_with (go_at_call 24; refine (HA.out _ HB2.out).mono ?_; rintro e w3 ⟨rfl, j3, rfl⟩)
      go_ret
      exact ⟨rfl, below_drew HB2.out _⟩
end Go.Proofs.YtgeaccoobhigcaaGreat
