/-
  Whole elements, of any number of cells: loaded, and stored into what is new.
-/
import Derived.Test.YtgeaccoobhigcaaS0
import Derived.Laws.Rows
import Derived.Laws.Tables
namespace Go.Proofs.Ytgeaccoobhigcaa
open Go Go.RowKit

section
variable {P : Program}
theorem run_loadVar_at (w : World) (ad : Addr) (ty : TypeId) (cs : List Value) (d : TypeDesc) (hc : ∀ j u, cs[j]? = some u → w.cell? (ad.add j) = some u)
    (hu : P.underlying ty = some d) (hd : (match d with | .struct _ | .array _ _ => true | _ => false) = true) (hi : (P.info? ty).map (·.size) = some cs.length) :
    (loadVar ty ad).run P w = .ok (.agg cs.toArray) w := by
  have hl := run_loadCells_list (P := P) (w := w) ad cs hc
  cases hq : P.info? ty with
  | none => simp [hq] at hi
  | some i =>
    have hs : i.size = cs.length := by simpa [hq] using hi
    have hagg : (isAgg ty).run P w = .ok true w := by
      unfold isAgg
      rw [Sem.run_bind, run_underlying hu w]
      cases d <;> simp_all
    simp [loadVar, Sem.run_bind, hagg, sizeOf, typeInfo, hq, hs, hl]
theorem wpList_load_at {ops : Array Oper} {rest : List Oper} {o : Oper} {a : Act} {w : World} {Q : Exit → Act → World → Prop} (hgd : o.guard = none) (ty : TypeId) (x : Operand) (ho : o.op = .load ty x)
    (ad : Addr) (hx : a.eval x = .pointer (some ad)) (cs : List Value) (d : TypeDesc) (hc : ∀ j u, cs[j]? = some u → w.cell? (ad.add j) = some u)
    (hu : P.underlying ty = some d) (hd : (match d with | .struct _ | .array _ _ => true | _ => false) = true) (hi : (P.info? ty).map (·.size) = some cs.length)
    (h : wpList P ops Q rest (a.put o.dst (.agg cs.toArray)) w) : wpList P ops Q (o :: rest) a w :=
  wpList_plain hgd fun K hK => by
    unfold Oper.wp execOp
    simp only [ho, hx, Instr.loadAt, Instr.sureAddr, Sem.run_bind, Sem.run_pure, Result.andThen_ok, run_loadVar_at w ad ty cs d hc hu hd hi]
    exact hK _ _ h
theorem setRow_alloc (w : World) (old cells : Array Value) (t : TypeId) : (w.alloc (.cells old t)).setRow w.heap.size cells = w.alloc (.cells cells t) := by
  unfold World.setRow World.alloc
  simp only [World.mk.injEq, and_true]
  apply Array.ext
  · simp
  · intro k h1 h2
    simp only [Array.getElem_modify, Array.getElem_push]
    simp at h2
    split
    · rename_i hk; subst hk; simp
    · rename_i hk
      have : k < w.heap.size := by simp at h1; omega
      rw [dif_pos this, dif_pos this]
theorem wpList_store_new {ops : Array Oper} {rest : List Oper} {o : Oper} {a : Act} {w : World} {Q : Exit → Act → World → Prop} (hgd : o.guard = none) (ty : TypeId) (x y : Operand) (ho : o.op = .store ty x y)
    (cells : Array Value) (t : TypeId) (old : Array Value) (hx : a.eval x = .pointer (some ⟨w.heap.size, 0, none⟩)) (hy : a.eval y = .agg cells)
    (hi : (P.info? ty).map (·.size) = some cells.size) (hold : old.size = cells.size) (h1 : cells.all (·.oneCell') = true)
    (h : wpList P ops Q rest (a.put o.dst undef) (w.alloc (.cells cells t))) : wpList P ops Q (o :: rest) a (w.alloc (.cells old t)) :=
  wpList_store_row hgd ty x y ho w.heap.size cells hx hy t old (heap_alloc_new _ _) hi hold h1 (by rw [setRow_alloc]; exact h)
end
theorem new_cells (w : World) (cs : List Value) (t : TypeId) : ∀ j u, cs[j]? = some u → (w.alloc (.cells cs.toArray t)).cell? ((⟨w.heap.size, 0, none⟩ : Addr).add j) = some u := by
  intro j u h
  rw [addr_add_lit, cell_of_row _ _ _ _ _ _ (heap_alloc_new w _)]
  simpa using h
/-- A type of so many cells, loaded and stored as one. -/
def AggT (ty : TypeId) (n : Nat) : Prop := (Try.prog.info? ty).map (·.size) = some n ∧ ∃ fs, Try.prog.underlying ty = some (.struct fs)
theorem us69 : ∃ fs, Try.prog.underlying 69 = some (.struct fs) := ⟨Try.prog.fieldsOf 69, by kernel_rfl⟩
theorem agg69 : AggT 69 19 := ⟨by kernel_rfl, us69⟩
theorem us60 : ∃ fs, Try.prog.underlying 60 = some (.struct fs) := ⟨Try.prog.fieldsOf 60, by kernel_rfl⟩
theorem agg60 : AggT 60 7 := ⟨by kernel_rfl, us60⟩
theorem us138 : ∃ fs, Try.prog.underlying 138 = some (.struct fs) := ⟨Try.prog.fieldsOf 138, by kernel_rfl⟩
theorem agg138 : AggT 138 6 := ⟨by kernel_rfl, us138⟩
theorem us63 : ∃ fs, Try.prog.underlying 63 = some (.struct fs) := ⟨Try.prog.fieldsOf 63, by kernel_rfl⟩
theorem agg63 : AggT 63 3 := ⟨by kernel_rfl, us63⟩
theorem us48 : ∃ fs, Try.prog.underlying 48 = some (.struct fs) := ⟨Try.prog.fieldsOf 48, by kernel_rfl⟩
theorem agg48 : AggT 48 3 := ⟨by kernel_rfl, us48⟩
theorem us74 : ∃ fs, Try.prog.underlying 74 = some (.struct fs) := ⟨Try.prog.fieldsOf 74, by kernel_rfl⟩
theorem agg74 : AggT 74 12 := ⟨by kernel_rfl, us74⟩
theorem us30 : ∃ fs, Try.prog.underlying 30 = some (.struct fs) := ⟨Try.prog.fieldsOf 30, by kernel_rfl⟩
theorem agg30 : AggT 30 3 := ⟨by kernel_rfl, us30⟩
theorem wpList_load_agg {ops : Array Oper} {rest : List Oper} {o : Oper} {a : Act} {w : World} {Q : Exit → Act → World → Prop} {ty n : Nat} (hT : AggT ty n) (hgd : o.guard = none) (x : Operand) (ho : o.op = .load ty x)
    (ad : Addr) (hx : a.eval x = .pointer (some ad)) (cs : List Value) (hc : ∀ j u, cs[j]? = some u → w.cell? (ad.add j) = some u) (hn : cs.length = n)
    (h : wpList Try.prog ops Q rest (a.put o.dst (.agg cs.toArray)) w) : wpList Try.prog ops Q (o :: rest) a w := by
  obtain ⟨hi, fs, hu⟩ := hT
  exact wpList_load_at hgd ty x ho ad hx cs _ hc hu rfl (by rw [hi, hn]) h
theorem wpList_store_agg {ops : Array Oper} {rest : List Oper} {o : Oper} {a : Act} {w : World} {Q : Exit → Act → World → Prop} {ty n : Nat} (hT : AggT ty n) (hgd : o.guard = none) (x y : Operand) (ho : o.op = .store ty x y)
    (cells : Array Value) (t : TypeId) (old : Array Value) (hx : a.eval x = .pointer (some ⟨w.heap.size, 0, none⟩)) (hy : a.eval y = .agg cells)
    (hn : cells.size = n) (hold : old.size = n) (h1 : cells.all (·.oneCell') = true)
    (h : wpList Try.prog ops Q rest (a.put o.dst undef) (w.alloc (.cells cells t))) : wpList Try.prog ops Q (o :: rest) a (w.alloc (.cells old t)) :=
  wpList_store_new hgd ty x y ho cells t old hx hy (by rw [hT.1, hn]) (by rw [hold, hn]) h1 h
end Go.Proofs.Ytgeaccoobhigcaa
