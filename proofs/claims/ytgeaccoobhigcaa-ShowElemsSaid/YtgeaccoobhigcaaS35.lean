/-
  The texts by what is said, not by where it lies; a production's text.
-/
import Derived.Test.YtgeaccoobhigcaaS34
import Derived.Test.YtgeaccoobhigcaaS9
namespace Go.Proofs.Ytgeaccoobhigcaa
open Go Go.RowKit

def testT (t : Ts) : ByteArray := if t.rel = 8 then listS t.list t.list.length ++ ⟨#[32, 62, 62]⟩ else if relL t.rel = #[] then atomS ⟨t.v, t.s⟩ else ⟨relL t.rel⟩ ++ ⟨#[32]⟩ ++ atomS ⟨t.v, t.s⟩
def nilTs : Ts := ⟨0, ⟨#[]⟩, ⟨0, ⟨#[]⟩, 0⟩, []⟩
def bracesT (l : List Ts) : Nat → ByteArray
  | 0 => ⟨#[123]⟩
  | n + 1 => bracesT l n ++ ⟨#[32]⟩ ++ testT (l.getD n nilTs)
def fieldT (l : List Ts) : ByteArray := if l.length = 1 then testT (l.getD 0 nilTs) else bracesT l l.length ++ ⟨#[32, 125]⟩
mutual
def condT : Cd → ByteArray
  | .mk kind goal id attr value acc conds =>
    if kind = 3 then condsT conds true ⟨#[45, 123]⟩ ++ ⟨#[125]⟩
    else
      let s0 : ByteArray := if kind = 2 then ⟨#[45, 40]⟩ else ⟨#[40]⟩
      let s1 := if goal then s0 ++ ⟨#[115, 116, 97, 116, 101, 32]⟩ else s0
      let s2 := s1 ++ ⟨#[60]⟩ ++ id ++ ⟨#[62, 32, 94]⟩ ++ (if attr.length = 0 then ⟨#[]⟩ else fieldT attr)
      let s3 := if 0 < value.length then s2 ++ ⟨#[32]⟩ ++ fieldT value else s2
      let s4 := if acc then s3 ++ ⟨#[32, 43]⟩ else s3
      s4 ++ ⟨#[41]⟩
def condsT : List Cd → Bool → ByteArray → ByteArray
  | [], _, s => s
  | c :: r, first, s => condsT r false ((if first then s else s ++ ⟨#[32]⟩) ++ condT c)
end
theorem testS_abs {t : TestR} (h : t.list.length = t.ln) : testS t = testT t.abs := by
  unfold testS testT TestR.abs
  simp only
  rw [h]
theorem getD_abs {l : List TestR} {n : Nat} (h : n < l.length) : (l.map TestR.abs).getD n nilTs = (l.getD n nilT).abs := by
  rw [List.getD_eq_getElem?_getD, List.getD_eq_getElem?_getD, List.getElem?_map, List.getElem?_eq_getElem h]
  rfl
theorem bracesS_abs {l : List TestR} (hl : ∀ t ∈ l, t.list.length = t.ln) : ∀ n, n ≤ l.length → bracesS l n = bracesT (l.map TestR.abs) n
  | 0, _ => rfl
  | n + 1, h => by
    unfold bracesS bracesT
    rw [bracesS_abs hl n (by omega), getD_abs (by omega), testS_abs]
    rw [List.getD_eq_getElem?_getD, List.getElem?_eq_getElem (by omega)]
    exact hl _ (List.getElem_mem _)
theorem fieldS_abs {l : List TestR} (hl : ∀ t ∈ l, t.list.length = t.ln) : fieldS l = fieldT (l.map TestR.abs) := by
  unfold fieldS fieldT
  rw [List.length_map]
  split
  · rename_i h1
    rw [getD_abs (by omega), testS_abs]
    rw [List.getD_eq_getElem?_getD, List.getElem?_eq_getElem (by omega)]
    exact hl _ (List.getElem_mem _)
  · rw [bracesS_abs hl _ (Nat.le_refl _)]
theorem ok_len {w : World} {t : TestR} (h : t.Ok w) : t.list.length = t.ln := by
  have := h.sl.1
  rw [symsC_length] at this
  omega
theorem condsS_abs : ∀ {l : List CondR}, (∀ c ∈ l, condS c = condT c.abs) → ∀ (first : Bool) (s : ByteArray), condsS l first s = condsT (absL l) first s
  | [], _, first, s => by simp only [condsS, absL, condsT]
  | c :: r, h, first, s => by
    simp only [condsS, absL, condsT]
    rw [h c (by simp)]
    exact condsS_abs (fun x hx => h x (by simp [hx])) _ _
theorem condS_abs {w : World} {c : CondR} (h : c.Ok w) : condS c = condT c.abs := by
  induction h with
  | @mk kind goal id aa an ac attr va vn vc value acc ca cn cc conds ha hv hs hc ih =>
    simp only [condS, CondR.abs, condT]
    rw [condsS_abs ih, fieldS_abs (fun t ht => ok_len (ha.ok t ht)), fieldS_abs (fun t ht => ok_len (hv.ok t ht)), List.length_map, List.length_map]

def linesC : List Cd → ByteArray → ByteArray
  | [], s => s
  | c :: r, s => linesC r (s ++ ⟨#[32, 32]⟩ ++ condT c ++ ⟨#[10]⟩)
def linesA : List Ac → ByteArray → ByteArray
  | [], s => s
  | a :: r, s => linesA r (s ++ ⟨#[32, 32]⟩ ++ actS a ++ ⟨#[10]⟩)
theorem linesC_snoc (c : Cd) : ∀ (l : List Cd) (s : ByteArray), linesC (l ++ [c]) s = linesC l s ++ ⟨#[32, 32]⟩ ++ condT c ++ ⟨#[10]⟩
  | [], s => rfl
  | x :: r, s => by simp only [List.cons_append, linesC]; exact linesC_snoc c r _
theorem linesA_snoc (c : Ac) : ∀ (l : List Ac) (s : ByteArray), linesA (l ++ [c]) s = linesA l s ++ ⟨#[32, 32]⟩ ++ actS c ++ ⟨#[10]⟩
  | [], s => rfl
  | x :: r, s => by simp only [List.cons_append, linesA]; exact linesA_snoc c r _
def prodT (p : Pd) : ByteArray := linesA p.acts (linesC p.conds ((⟨#[115, 112, 32, 123]⟩ : ByteArray) ++ p.name ++ ⟨#[10]⟩) ++ ⟨#[45, 45, 62, 10]⟩) ++ ⟨#[125, 10]⟩
def prodTx (p : Pd) : ByteArray := if shapeE p = 0 then prodT p else ⟨#[]⟩
theorem actS_size {a : Ac} (h : a.Small) : (actS a).size ≤ 10000000 := by
  have zi := h.id
  have zc := atomS_size a.attr h.attr.v
  have zv := termS_size a.value h.va h.vb
  have zo := atomS_size a.other h.other.v
  have zg := signL_size a.pref
  unfold actS actHead
  split
  · simp only [cat2_size]
    show 2 + _ + 3 + _ + 1 + _ + 1 + _ + 1 + _ + 1 ≤ _
    omega
  · simp only [cat2_size]
    show 2 + _ + 3 + _ + 1 + _ + 1 + _ + 1 ≤ _
    omega
theorem linesC_size {w : World} : ∀ {l : List CondR}, (∀ c ∈ l, c.Ok w ∧ c.Fit ∧ c.Has) → ∀ s : ByteArray, (linesC (absL l) s).size ≤ s.size + 4000000000 * condsN l
  | [], _, s => by simp [absL, linesC, condsN]
  | c :: r, h, s => by
    have ih := linesC_size (l := r) (fun x hx => h x (by simp [hx])) (s ++ ⟨#[32, 32]⟩ ++ condT c.abs ++ ⟨#[10]⟩)
    have hz := condS_size (h c (by simp)).1 (h c (by simp)).2.1
    rw [condS_abs (h c (by simp)).1] at hz
    have hn := condN_kids c
    simp only [absL, linesC, condsN]
    simp only [cat2_size] at ih
    have e1 : (⟨#[32, 32]⟩ : ByteArray).size = 2 := rfl
    have e2 : (⟨#[10]⟩ : ByteArray).size = 1 := rfl
    rw [Nat.mul_add]
    omega
theorem linesA_size : ∀ {l : List Ac}, (∀ a ∈ l, a.Small) → ∀ s : ByteArray, (linesA l s).size ≤ s.size + 20000000 * l.length
  | [], _, s => by simp [linesA]
  | c :: r, h, s => by
    have ih := linesA_size (l := r) (fun x hx => h x (by simp [hx])) (s ++ ⟨#[32, 32]⟩ ++ actS c ++ ⟨#[10]⟩)
    have hz := actS_size (h c (by simp))
    simp only [linesA, List.length_cons]
    simp only [cat2_size] at ih
    have e1 : (⟨#[32, 32]⟩ : ByteArray).size = 2 := rfl
    have e2 : (⟨#[10]⟩ : ByteArray).size = 1 := rfl
    rw [Nat.mul_add]
    omega
theorem absL_take (l : List CondR) (i : Nat) : absL (l.take i) = (absL l).take i := by rw [absL_map, absL_map, List.map_take]
end Go.Proofs.Ytgeaccoobhigcaa
