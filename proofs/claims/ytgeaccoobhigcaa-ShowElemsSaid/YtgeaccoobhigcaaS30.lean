/-
  shape.Shape.
-/
import Derived.Test.YtgeaccoobhigcaaS29
import Derived.Test.YtgeaccoobhigcaaS22
namespace Go.Proofs.Ytgeaccoobhigcaa
open Go Go.RowKit

/-- A production, with where its parts lie. -/
structure ProdR where
  name : ByteArray
  ca : Option Addr
  cn : Nat
  cc : Nat
  conds : List CondR
  aa : Option Addr
  an : Nat
  ac : Nat
  acts : List Ac
def ProdR.val (p : ProdR) : Value := .agg #[.string p.name, .slice p.ca p.cn p.cc, .slice p.aa p.an p.ac]
def ProdR.cells (p : ProdR) : List Value := [.string p.name, .slice p.ca p.cn p.cc, .slice p.aa p.an p.ac]
theorem ac_len (a : Ac) : a.cells.length = 19 := rfl
structure ProdR.Mem (w : World) (p : ProdR) : Prop where
  name : p.name.size ≤ 9223372036854775807
  sc : SlR w 7 p.ca p.cn p.cc (p.conds.flatMap CondR.cells)
  conds : ∀ c ∈ p.conds, c.Mem w
  sa : SlR w 19 p.aa p.an p.ac (p.acts.flatMap Ac.cells)
  acts : ∀ a ∈ p.acts, a.Big
theorem ProdR.Mem.kept {w w' : World} {p : ProdR} (h : p.Mem w) (hb : Below w.heap.size w w') : p.Mem w' := ⟨h.name, h.sc.kept hb, fun c hc => (h.conds c hc).kept hb, h.sa.kept hb, h.acts⟩
theorem actsMem_len {w : World} {aa : Option Addr} {an ac : Nat} {acts : List Ac} (h : SlR w 19 aa an ac (acts.flatMap Ac.cells)) : acts.length = an := by
  have := h.1
  rw [rows_length ac_len] at this
  omega
/-- A production. -/
structure Pd where
  name : ByteArray
  conds : List Cd
  acts : List Ac
def ProdR.abs (p : ProdR) : Pd := ⟨p.name, absL p.conds, p.acts⟩
def shapeEq (W : Bool) (cn an : Nat) (E : Int) (A : Bool) : Int := if W = false then 2 else if cn < 1 ∨ 16 < cn ∨ an < 1 ∨ 16 < an then 7 else if E ≠ 0 then E else if A = false then 9 else 0
def shapeE (p : Pd) : Int := shapeEq (wordB p.name.data.toList) (cdsN p.conds) p.acts.length (firstEs p.conds 0) (p.acts.all actB)
/-- A place, and that error. -/
def ErrIs (E : Int) (e : Ending) : Prop := ∃ k : Int, e = .returned (.tuple #[.int .i64 k, .int .i64 E])

theorem walkN {w0 : World} {ca : Option Addr} {cn cc : Nat} {conds : List CondR} (hs : SlR w0 7 ca cn cc (conds.flatMap CondR.cells)) (hc : ∀ c ∈ conds, c.Mem w0) (hn : condsN conds ≤ 1000000) (b : Nat) (w : World) (h : StN w0 b 0 w) :
    ∃ N : Int, (N < 1 ↔ condsN conds < 1) ∧ (16 < N ↔ 16 < condsN conds) ∧ ∃ (r : Int) (q : Bool), Calls Try.prog 101 #[.slice ca cn cc, .int .i64 0, .int .i64 0, .func (.func 102) #[] #[.pointer (some ⟨b, 0, none⟩)]] w fun e w' => e = .returned (.tuple #[.int .i64 r, .bool q]) ∧ StN w0 b N w' := by
  have hg := runL_goN conds 0 0 0 rfl
  have ht := runL_at goN conds 0 0 0
  have hne : conds ≠ [] → 1 ≤ condsN conds := by
    intro h
    rcases conds with _ | ⟨c, r⟩
    · exact absurd rfl h
    · have := condN_kids c; simp only [condsN]; omega
  refine ⟨(runL goN conds 0 0 0).1, ?_, ?_, _, _, walk_any goN (fun n W => StN w0 b n W) (· = b) w0 102 _ callFunc102 (fun s W hS => ⟨hS.below, fun j hj => by rw [hj]; exact hS.box.lt⟩) (fun s W o hS => ⟨hS.below.alloc hS.below.size _, hS.box.alloc _, hS.new⟩)
    (fun s a d c W hm ha ha2 _ _ hS => count_any w0 b s a d c W ha ha2 hS) (condsN conds + 1) conds (by omega) ca cn cc 0 0 0 w hs hc (by omega) (by omega) (by omega) (by omega) h⟩
  · rcases hb : (runL goN conds 0 0 0).2.2 with _ | _
    · have := hg.2.2 hb; have h1 := hg.1; rw [hb] at h1; simp only [Bool.false_eq_true, if_false] at h1; omega
    · have := hg.2.1 hb; have h1 := hg.1; rw [hb] at h1; simp only [if_true] at h1; omega
  · rcases hb : (runL goN conds 0 0 0).2.2 with _ | _
    · have := hg.2.2 hb; have h1 := hg.1; rw [hb] at h1; simp only [Bool.false_eq_true, if_false] at h1; omega
    · have := hg.2.1 hb; have h1 := hg.1; rw [hb] at h1; simp only [if_true] at h1
      by_cases hc : conds = []
      · subst hc; simp only [condsN] at this ⊢; omega
      · have := this.2 hc; omega
theorem walkE {w0 : World} {ca : Option Addr} {cn cc : Nat} {conds : List CondR} (hs : SlR w0 7 ca cn cc (conds.flatMap CondR.cells)) (hc : ∀ c ∈ conds, c.Mem w0) (hn : condsN conds ≤ 1000000) (be bp : Nat) (w : World) (h : StE w0 be bp (0, -1) w) :
    ∃ (r k : Int) (q : Bool), Calls Try.prog 101 #[.slice ca cn cc, .int .i64 0, .int .i64 0, .func (.func 103) #[] #[.pointer (some ⟨be, 0, none⟩), .pointer (some ⟨bp, 0, none⟩)]] w fun e w' => e = .returned (.tuple #[.int .i64 r, .bool q]) ∧ StE w0 be bp (firstEs (absL conds) 0, k) w' := by
  have hg := runL_goE conds (0, -1) 0 0 rfl
  refine ⟨_, (runL goE conds (0, -1) 0 0).1.2, _, (walk_any goE (fun n W => StE w0 be bp n W) (fun b => b = be ∨ b = bp) w0 103 _ callFunc103 (fun s W hS => ⟨hS.below, fun j hj => by rcases hj with rfl | rfl; exact hS.e.lt; exact hS.p.lt⟩) (fun s W o hS => ⟨hS.below.alloc hS.below.size _, hS.e.alloc _, hS.p.alloc _, hS.ne, hS.newe, hS.newp⟩)
    (fun s a d c W hm _ _ _ _ hS => err_any w0 be bp s a d c W hm hS) (condsN conds + 1) conds (by omega) ca cn cc (0, -1) 0 0 w hs hc (by omega) (by omega) (by omega) (by omega) h).mono fun e w' hp => ⟨hp.1, ?_⟩⟩
  have h2 := hp.2
  rw [show (runL goE conds (0, -1) 0 0).1 = (firstEs (absL conds) 0, (runL goE conds (0, -1) 0 0).1.2) from Prod.ext hg.1 rfl] at h2
  exact h2
end Go.Proofs.Ytgeaccoobhigcaa
