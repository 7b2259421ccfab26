/-
  Data as they come in: symbols, atoms, terms, elements, actions. ponderkeep.heavyTests: false says that lists are short. ponderkeep.Size: up to 40 it counts. ponderkeep.HeavyConds, Heavy: false says that lists are short. Slices of wide elements as they come in. Tests, conditions, productions as they come in.
-/
import Derived.Test.YtgeaccoobhigcaaG1
import Derived.Deep.Slices
import Derived.Deep.Fields
import Derived.ChangeSame
import Derived.ProofKit
import Derived.OpenShut
import Derived.Test.YtgeaccoobhigcaaG3
import Derived.Test.YtgeaccoobhigcaaG5
import Derived.WalkLawsBesides
import Derived.Test.YtgeaccoobhigcaaG4
import Derived.Test.YtgeaccoobhigcaaG2
namespace Go.Proofs.Ytgeaccoobhigcaa
open Go.RowKit Go.ChangeShapes Go.WideShapes Go.Deep

section
variable {H : Type} {enc : TypeId × Value → H} {W : World} {fuel : Nat} {cs : List Value} {x : DataW H × List MemPlace}
/-- A field: its type, where it begins. -/
def FieldAt (t k : Nat) (ty off : Nat) : Prop := ((Try.prog.fieldsOf t)[k]?).map (fun f => (f.type, f.offset)) = some (ty, off)
theorem open_field {t k ty off size : Nat} (he : Try.prog.underlying t = some (.struct (Try.prog.fieldsOf t))) (hf : FieldAt t k ty off) (hs : Try.prog.cellsOf ty = size)
    (h : DataW.trod enc Try.prog W 0 (fun _ => true) true fuel t cs = some x) : ∃ n y, n < fuel ∧ DataW.trod enc Try.prog W 0 (fun _ => true) true n ty ((cs.drop off).take size) = some y := by
  obtain ⟨ys, n, rfl, _, _, hyl, hfs⟩ := DataW.trod_struct he h
  obtain ⟨f, hf1, hf2⟩ := Option.map_eq_some_iff.1 hf
  simp only [Prod.mk.injEq] at hf2
  have hk : k < (Try.prog.fieldsOf t).size := (Array.getElem?_eq_some_iff.1 hf1).1
  have := hfs k f hf1
  rw [hf2.1, hf2.2, hs, List.getElem?_eq_getElem (by omega)] at this
  exact ⟨n, _, Nat.lt_succ_self n, this⟩
theorem struct_len {t : Nat} (he : Try.prog.underlying t = some (.struct (Try.prog.fieldsOf t))) {size : Nat} (hs : Try.prog.cellsOf t = size) (h : DataW.trod enc Try.prog W 0 (fun _ => true) true fuel t cs = some x) : cs.length = size := by
  obtain ⟨ys, n, _, _, hl, _, _⟩ := DataW.trod_struct he h
  rw [hl, hs]
theorem und63 : Try.prog.underlying 63 = some (.struct (Try.prog.fieldsOf 63)) := by kernel_rfl
theorem open_sym (h : DataW.trod enc Try.prog W 0 (fun _ => true) true fuel 63 cs = some x) : ∃ s : Sm, cs = s.cells ∧ s.t.size ≤ maxLen := by
  have hl := struct_len und63 (size := 3) (by kernel_rfl) h
  obtain ⟨n0, y0, _, h0⟩ := open_field und63 (k := 0) (ty := 3) (off := 0) (size := 1) (by unfold FieldAt; kernel_rfl) (by kernel_rfl) h
  obtain ⟨n1, y1, _, h1⟩ := open_field und63 (k := 1) (ty := 9) (off := 1) (size := 1) (by unfold FieldAt; kernel_rfl) (by kernel_rfl) h
  obtain ⟨n2, y2, _, h2⟩ := open_field und63 (k := 2) (ty := 3) (off := 2) (size := 1) (by unfold FieldAt; kernel_rfl) (by kernel_rfl) h
  obtain ⟨a, e0, _⟩ := DataW.trod_int Try.underlying3 h0
  obtain ⟨b, e1, _, hb⟩ := DataW.trod_string Try.underlying9 h1
  obtain ⟨c, e2, _⟩ := DataW.trod_int Try.underlying3 h2
  match cs, hl with
  | [u0, u1, u2], _ =>
    simp only [List.drop_zero, List.take_succ_cons, List.take_zero, List.drop_succ_cons, List.cons.injEq, and_true] at e0 e1 e2
    subst e0 e1 e2
    exact ⟨⟨a, b, c⟩, rfl, hb⟩
theorem segs {n : Nat} (a : Nat) (h : a + n = cs.length) : cs = cs.take a ++ (cs.drop a).take n := by
  conv => lhs; rw [← List.take_append_drop a cs]
  rw [List.take_of_length_le (l := cs.drop a) (by rw [List.length_drop]; omega)]
theorem und65 : Try.prog.underlying 65 = some (.struct (Try.prog.fieldsOf 65)) := by kernel_rfl
theorem open_atom (h : DataW.trod enc Try.prog W 0 (fun _ => true) true fuel 65 cs = some x) : ∃ a : Am, cs = a.cells ∧ a.v.size ≤ maxLen ∧ a.s.t.size ≤ maxLen := by
  have hl := struct_len und65 (size := 4) (by kernel_rfl) h
  obtain ⟨n0, y0, _, h0⟩ := open_field und65 (k := 0) (ty := 9) (off := 0) (size := 1) (by unfold FieldAt; kernel_rfl) (by kernel_rfl) h
  obtain ⟨n1, y1, _, h1⟩ := open_field und65 (k := 1) (ty := 63) (off := 1) (size := 3) (by unfold FieldAt; kernel_rfl) (by kernel_rfl) h
  obtain ⟨v, e0, _, hv⟩ := DataW.trod_string Try.underlying9 h0
  obtain ⟨s, e1, hs⟩ := open_sym h1
  have e := segs (cs := cs) (n := 3) 1 (by omega)
  rw [List.drop_zero] at e0
  rw [e0, e1] at e
  exact ⟨⟨v, s⟩, e, hv, hs⟩
theorem seg (a b : Nat) : cs.drop a = (cs.drop a).take b ++ cs.drop (a + b) := by
  rw [← List.drop_drop]
  exact (List.take_append_drop _ _).symm
theorem und67 : Try.prog.underlying 67 = some (.struct (Try.prog.fieldsOf 67)) := by kernel_rfl
theorem open_term (h : DataW.trod enc Try.prog W 0 (fun _ => true) true fuel 67 cs = some x) : ∃ t : Tm, cs = t.cells ∧ (t.a.v.size ≤ maxLen ∧ t.a.s.t.size ≤ maxLen) ∧ t.b.v.size ≤ maxLen ∧ t.b.s.t.size ≤ maxLen := by
  have hl := struct_len und67 (size := 9) (by kernel_rfl) h
  obtain ⟨n0, y0, _, h0⟩ := open_field und67 (k := 0) (ty := 3) (off := 0) (size := 1) (by unfold FieldAt; kernel_rfl) (by kernel_rfl) h
  obtain ⟨n1, y1, _, h1⟩ := open_field und67 (k := 1) (ty := 65) (off := 1) (size := 4) (by unfold FieldAt; kernel_rfl) (by kernel_rfl) h
  obtain ⟨n2, y2, _, h2⟩ := open_field und67 (k := 2) (ty := 65) (off := 5) (size := 4) (by unfold FieldAt; kernel_rfl) (by kernel_rfl) h
  obtain ⟨op, e0, _⟩ := DataW.trod_int Try.underlying3 h0
  obtain ⟨a, e1, z1⟩ := open_atom h1
  obtain ⟨b, e2, z2⟩ := open_atom h2
  have s0 := seg (cs := cs) 0 1
  rw [e0] at s0
  have s1 := seg (cs := cs) 1 4
  rw [e1] at s1
  have s2 := seg (cs := cs) 5 4
  rw [e2] at s2
  have sl : cs.drop 9 = [] := List.drop_eq_nil_of_le (by omega)
  rw [List.drop_zero] at s0
  simp only [Nat.reduceAdd] at s0 s1 s2
  rw [s1, s2, sl] at s0
  exact ⟨⟨op, a, b⟩, by rw [s0]; simp [Tm.cells], z1, z2⟩
theorem und69 : Try.prog.underlying 69 = some (.struct (Try.prog.fieldsOf 69)) := by kernel_rfl
theorem open_act (h : DataW.trod enc Try.prog W 0 (fun _ => true) true fuel 69 cs = some x) : ∃ a : Ac, cs = a.cells ∧ a.id.size ≤ maxLen ∧ (a.attr.v.size ≤ maxLen ∧ a.attr.s.t.size ≤ maxLen) ∧ ((a.value.a.v.size ≤ maxLen ∧ a.value.a.s.t.size ≤ maxLen) ∧ a.value.b.v.size ≤ maxLen ∧ a.value.b.s.t.size ≤ maxLen) ∧ a.other.v.size ≤ maxLen ∧ a.other.s.t.size ≤ maxLen := by
  have hl := struct_len und69 (size := 19) (by kernel_rfl) h
  obtain ⟨n0, y0, _, h0⟩ := open_field und69 (k := 0) (ty := 9) (off := 0) (size := 1) (by unfold FieldAt; kernel_rfl) (by kernel_rfl) h
  obtain ⟨n1, y1, _, h1⟩ := open_field und69 (k := 1) (ty := 65) (off := 1) (size := 4) (by unfold FieldAt; kernel_rfl) (by kernel_rfl) h
  obtain ⟨n2, y2, _, h2⟩ := open_field und69 (k := 2) (ty := 67) (off := 5) (size := 9) (by unfold FieldAt; kernel_rfl) (by kernel_rfl) h
  obtain ⟨n3, y3, _, h3⟩ := open_field und69 (k := 3) (ty := 3) (off := 14) (size := 1) (by unfold FieldAt; kernel_rfl) (by kernel_rfl) h
  obtain ⟨n4, y4, _, h4⟩ := open_field und69 (k := 4) (ty := 65) (off := 15) (size := 4) (by unfold FieldAt; kernel_rfl) (by kernel_rfl) h
  obtain ⟨id, e0, _, z0⟩ := DataW.trod_string Try.underlying9 h0
  obtain ⟨a, e1, z1⟩ := open_atom h1
  obtain ⟨v, e2, z2⟩ := open_term h2
  obtain ⟨pref, e3, _⟩ := DataW.trod_int Try.underlying3 h3
  obtain ⟨o, e4, z4⟩ := open_atom h4
  have s0 := seg (cs := cs) 0 1
  rw [e0] at s0
  have s1 := seg (cs := cs) 1 4
  rw [e1] at s1
  have s2 := seg (cs := cs) 5 9
  rw [e2] at s2
  have s3 := seg (cs := cs) 14 1
  rw [e3] at s3
  have s4 := seg (cs := cs) 15 4
  rw [e4] at s4
  have sl : cs.drop 19 = [] := List.drop_eq_nil_of_le (by omega)
  rw [List.drop_zero] at s0
  simp only [Nat.reduceAdd] at s0 s1 s2 s3 s4
  rw [s1, s2, s3, s4, sl] at s0
  exact ⟨⟨id, a, v, pref, o⟩, by rw [s0]; simp [Ac.cells], z0, z1, z2, z4⟩
theorem und74 : Try.prog.underlying 74 = some (.struct (Try.prog.fieldsOf 74)) := by kernel_rfl
theorem open_elem (h : DataW.trod enc Try.prog W 0 (fun _ => true) true fuel 74 cs = some x) : ∃ e : El, cs = e.cells ∧ e.i.t.size ≤ maxLen ∧ e.a.t.size ≤ maxLen ∧ e.v.t.size ≤ maxLen := by
  have hl := struct_len und74 (size := 12) (by kernel_rfl) h
  obtain ⟨n0, y0, _, h0⟩ := open_field und74 (k := 0) (ty := 63) (off := 0) (size := 3) (by unfold FieldAt; kernel_rfl) (by kernel_rfl) h
  obtain ⟨n1, y1, _, h1⟩ := open_field und74 (k := 1) (ty := 63) (off := 3) (size := 3) (by unfold FieldAt; kernel_rfl) (by kernel_rfl) h
  obtain ⟨n2, y2, _, h2⟩ := open_field und74 (k := 2) (ty := 63) (off := 6) (size := 3) (by unfold FieldAt; kernel_rfl) (by kernel_rfl) h
  obtain ⟨n3, y3, _, h3⟩ := open_field und74 (k := 3) (ty := 4) (off := 9) (size := 1) (by unfold FieldAt; kernel_rfl) (by kernel_rfl) h
  obtain ⟨n4, y4, _, h4⟩ := open_field und74 (k := 4) (ty := 4) (off := 10) (size := 1) (by unfold FieldAt; kernel_rfl) (by kernel_rfl) h
  obtain ⟨n5, y5, _, h5⟩ := open_field und74 (k := 5) (ty := 3) (off := 11) (size := 1) (by unfold FieldAt; kernel_rfl) (by kernel_rfl) h
  obtain ⟨i, e0, z0⟩ := open_sym h0
  obtain ⟨a, e1, z1⟩ := open_sym h1
  obtain ⟨v, e2, z2⟩ := open_sym h2
  obtain ⟨acc, e3, _⟩ := DataW.trod_bool Try.underlying4 h3
  obtain ⟨goal, e4, _⟩ := DataW.trod_bool Try.underlying4 h4
  obtain ⟨tag, e5, _⟩ := DataW.trod_int Try.underlying3 h5
  have s0 := seg (cs := cs) 0 3
  rw [e0] at s0
  have s1 := seg (cs := cs) 3 3
  rw [e1] at s1
  have s2 := seg (cs := cs) 6 3
  rw [e2] at s2
  have s3 := seg (cs := cs) 9 1
  rw [e3] at s3
  have s4 := seg (cs := cs) 10 1
  rw [e4] at s4
  have s5 := seg (cs := cs) 11 1
  rw [e5] at s5
  have sl : cs.drop 12 = [] := List.drop_eq_nil_of_le (by omega)
  rw [List.drop_zero] at s0
  simp only [Nat.reduceAdd] at s0 s1 s2 s3 s4 s5
  rw [s1, s2, s3, s4, s5, sl] at s0
  exact ⟨⟨i, a, v, acc, goal, tag⟩, by rw [s0]; simp [El.cells], z0, z1, z2⟩
end
end Go.Proofs.Ytgeaccoobhigcaa
namespace Go.Proofs.Ytgeaccoobhigcaa
open Go Go.RowKit

/-- A bool, and what it says where it is false. -/
def NoIs (Q : Prop) (e : Ending) : Prop := ∃ b : Bool, e = .returned (.bool b) ∧ (b = false → Q)
theorem six_cells3 {W : World} {g o : Nat} {a0 a1 a2 a3 a4 a5 : Value} (h : ∀ j u, [a0, a1, a2, a3, a4, a5][j]? = some u → W.cell? ⟨g, o + j, none⟩ = some u) :
    W.cell? ⟨g, o + 1, none⟩ = some a1 ∧ W.cell? ⟨g, o + 2 + 1, none⟩ = some a3 ∧ W.cell? ⟨g, o + 5, none⟩ = some a5 := ⟨h 1 _ rfl, h 3 _ rfl, h 5 _ rfl⟩

set_option maxRecDepth 100000 in
set_option maxHeartbeats 2000000 in
theorem heavyTests_any (ao : Option Addr) (n c : Nat) (l : List TestR) (w : World) (h : TestsMem w ao n c l) : Calls Try.prog 96 #[.slice ao n c] w fun e w' => NoIs (∀ t ∈ l, t.list.length ≤ 20) e ∧ w = w' := by
  have hl := h.len
  have hcap := h.sl.2.1
  have hmx := h.sl.2.2.1
  unfold maxLen at hmx
  have HL := Lib.hid hl
  clear hl
  go_enter Try.func96, Try.ntmps96
  go_wp2
  go_loop [3] (fun ti => ∃ i : Nat, i ≤ n ∧ ti = .int .i64 i ∧ Hid (∀ t ∈ l.take i, t.list.length ≤ 20)) (fun ti => n - (intOf ti).toNat)
  case atStart => exact ⟨0, by omega, rfl, Lib.hid (by simp)⟩
  case round =>
    obtain ⟨i, hi, rfl, HT⟩ := hrel
    by_cases hlt : i < n
    · obtain ⟨t, ht⟩ : ∃ t, l[i]? = some t := ⟨_, List.getElem?_eq_getElem (by rw [HL.out]; exact hlt)⟩
      have htl := (h.ok t (List.mem_of_getElem? ht)).len
      obtain ⟨g, o, rfl, hc⟩ := h.sl.row_at testR_len (by omega) ht
      obtain ⟨c1, c3, c5⟩ := six_cells3 hc
      have HX := Lib.hid ht
      have HTL := Lib.hid htl
      clear hc ht htl
      by_cases h1 : (20 : Int) < (t.ln : Int)
      · go_wp2
        go_ret
        exact ⟨⟨true, rfl, by simp⟩, rfl⟩
      · have HN : Hid (∀ u ∈ l.take (i + 1), u.list.length ≤ 20) := Lib.hid (by
          rw [take_snoc2 HX.out]
          intro u hu
          rcases List.mem_append.1 hu with hu | hu
          · exact HT.out u hu
          · rw [List.mem_singleton.1 hu, HTL.out]; omega)
        by_cases h2 : (100 : Int) < (t.v.size : Int)
        · go_wp2
          go_ret
          exact ⟨⟨true, rfl, by simp⟩, rfl⟩
        · by_cases h3 : (100 : Int) < (t.s.t.size : Int)
          · go_wp2
            go_ret
            exact ⟨⟨true, rfl, by simp⟩, rfl⟩
          · go_wp2
            go_round
            case rel => exact ⟨i + 1, by omega, by go_num, HN⟩
            case measure => simp [intOf]; omega
    · obtain rfl : i = n := by omega
      have HTA : Hid (∀ t ∈ l, t.list.length ≤ 20) := Lib.hid (by have := HT.out; rwa [List.take_of_length_le (by rw [HL.out]; omega)] at this)
      go_wp2
      go_ret
      exact ⟨⟨false, rfl, fun _ => HTA.out⟩, rfl⟩
end Go.Proofs.Ytgeaccoobhigcaa
namespace Go.Proofs.Ytgeaccoobhigcaa
open Go Go.RowKit

/-- A number up to 41; what it says up to 40. -/
def SizeIs (M : Nat) (e : Ending) : Prop := ∃ v : Int, e = .returned (.int .i64 v) ∧ 0 ≤ v ∧ v ≤ 41 ∧ (v ≤ 40 → v = M)

set_option maxRecDepth 100000 in
set_option maxHeartbeats 4000000 in
theorem kSize_any : ∀ (n : Nat) (conds : List CondR), condsN conds < n → ∀ (ca : Option Addr) (cn cc : Nat) (d : Int) (w : World), SlR w 7 ca cn cc (conds.flatMap CondR.cells) → (∀ c ∈ conds, c.Mem w) → 0 ≤ d → d ≤ 21 →
    Calls Try.prog 59 #[.slice ca cn cc, .int .i64 40, .int .i64 d] w fun e w' => SizeIs (condsN conds) e ∧ w = w' := by
  intro n
  induction n with
  | zero => intro conds h; omega
  | succ n IH =>
    intro conds hn ca cn cc d w hs hc hd0 hd
    by_cases hd20 : 20 < d
    · clear IH hn hs hc
      go_enter Try.func59, Try.ntmps59
      go_wp2
      go_ret
      exact ⟨⟨41, rfl, by omega, by omega, by omega⟩, rfl⟩
    have hcl := condsMem_len hs
    have hcap := hs.2.1
    have hmx := hs.2.2.1
    unfold maxLen at hmx
    have HCL := Lib.hid hcl
    have HIH := Lib.hid IH
    have HC := Lib.hid hc
    have HS := Lib.hid hs
    clear hcl IH hc hs
    go_enter Try.func59, Try.ntmps59
    go_wp2
    go_loop [7, 8] (fun tn ti => ∃ (i : Nat) (m : Int), i ≤ cn ∧ tn = .int .i64 m ∧ ti = .int .i64 i ∧ 0 ≤ m ∧ m ≤ 82 ∧ Hid (m ≤ 40 → m = condsN (conds.take i))) (fun _ ti => cn - (intOf ti).toNat)
    case atStart => exact ⟨0, 0, by omega, rfl, rfl, by omega, by omega, Lib.hid (by simp [condsN])⟩
    case round =>
      obtain ⟨i, m, hi, rfl, rfl, hm0, hm82, HM⟩ := hrel
      by_cases hlt : i < cn
      · by_cases h40 : m ≤ 40
        · obtain ⟨x, hx⟩ : ∃ x, conds[i]? = some x := ⟨_, List.getElem?_eq_getElem (by rw [HCL.out]; exact hlt)⟩
          have hm := List.mem_of_getElem? hx
          have hza := condsN_stop hx
          have hkn := condN_kids x
          obtain ⟨g, o, rfl, hcell⟩ := HS.out.row_at condR_len (by omega) hx
          obtain ⟨xca, xcn, xcc, hx6, hxs, hxc⟩ := (HC.out x hm).kids
          have c6 := hcell 6 _ hx6
          have hI := HIH.out x.kids (by omega) xca xcn xcc (d + 1) w hxs hxc (by omega) (by omega)
          have HSN := Lib.hid (condsN_snoc hx)
          have HKN := Lib.hid hkn
          have HXX := Lib.hid hx
          generalize condsN x.kids = K at hI hkn HKN
          have HI := Lib.hid hI
          clear hx hm hcell hx6 hxs hxc hI hkn hza
          go_wp2_with (go_at_call 59; refine HI.out.mono ?_; rintro e w2 ⟨⟨v, rfl, v0, v41, hv⟩, rfl⟩; have HV := Lib.hid hv; clear hv)
          go_round
          case rel => exact ⟨i + 1, m + (1 + v), by omega, rfl, by go_num, by omega, by omega, Lib.hid (by intro h; have := HM.out h40; have := HV.out (by omega); have := HSN.out; have := HKN.out; omega)⟩
          case measure => simp [intOf]; omega
        · have hmin : min m 41 = 41 := by omega
          go_wp2
          all_goals
            go_ret
            first
              | exact ⟨⟨41, rfl, by omega, by omega, by omega⟩, rfl⟩
              | exact ⟨⟨m, rfl, by omega, by omega, by omega⟩, rfl⟩
      · obtain rfl : i = cn := by omega
        have htk : Hid (conds.take i = conds) := Lib.hid (List.take_of_length_le (by rw [HCL.out]; omega))
        by_cases h40 : m ≤ 40
        · have HR : Hid (m = condsN conds) := Lib.hid (by have := HM.out h40; rwa [htk.out] at this)
          go_wp2
          all_goals
            go_ret
            exact ⟨⟨m, by first | rfl | (rw [Int.min_eq_left (by omega)]; rfl), by omega, by omega, fun _ => HR.out⟩, rfl⟩
        · have hmin : min m 41 = 41 := by omega
          go_wp2
          all_goals
            go_ret
            first
              | exact ⟨⟨41, rfl, by omega, by omega, by omega⟩, rfl⟩
              | exact ⟨⟨m, rfl, by omega, by omega, by omega⟩, rfl⟩
end Go.Proofs.Ytgeaccoobhigcaa
namespace Go.Proofs.Ytgeaccoobhigcaa
open Go Go.RowKit

/-- The lists of the tree are short. -/
inductive CondR.Light : CondR → Prop
  | mk {kind : Int} {goal : Bool} {id : ByteArray} {aa : Option Addr} {an ac : Nat} {attr : List TestR} {va : Option Addr} {vn vc : Nat} {value : List TestR} {acc : Bool} {ca : Option Addr} {cn cc : Nat} {conds : List CondR}
      (ha : an ≤ 10) (hv : vn ≤ 10) (hat : ∀ t ∈ attr, t.list.length ≤ 20) (hvt : ∀ t ∈ value, t.list.length ≤ 20) (hc : ∀ c ∈ conds, CondR.Light c) :
      CondR.Light (.mk kind goal id aa an ac attr va vn vc value acc ca cn cc conds)

set_option maxRecDepth 100000 in
set_option maxHeartbeats 8000000 in
theorem heavyConds_any : ∀ (N : Nat) (conds : List CondR), condsN conds < N → ∀ (ca : Option Addr) (cn cc : Nat) (w : World), SlR w 7 ca cn cc (conds.flatMap CondR.cells) → (∀ c ∈ conds, c.Mem w) →
    Calls Try.prog 60 #[.slice ca cn cc] w fun e w' => NoIs (∀ c ∈ conds, c.Light) e ∧ Below w.heap.size w w' := by
  intro N
  induction N with
  | zero => intro conds h; omega
  | succ N IH =>
    intro conds hn ca cn cc w hs hc
    have hcl := condsMem_len hs
    have hcap := hs.2.1
    have hmx := hs.2.2.1
    unfold maxLen at hmx
    have HCL := Lib.hid hcl
    have HIH := Lib.hid IH
    have HC := Lib.hid hc
    have HS := Lib.hid hs
    clear hcl IH hc hs
    go_enter Try.func60, Try.ntmps60
    go_wp2
    go_loopw [3] (fun ti wr => ∃ i : Nat, i ≤ cn ∧ ti = .int .i64 i ∧ Hid (∀ c ∈ conds.take i, c.Light) ∧ Below w.heap.size w wr) (fun ti _ => cn - (intOf ti).toNat)
    case atStart => exact ⟨0, by omega, rfl, Lib.hid (by simp), Below.refl _ _⟩
    case round =>
      obtain ⟨i, hi, rfl, HT, hb⟩ := hrel
      by_cases hlt : i < cn
      · obtain ⟨x, hx⟩ : ∃ x, conds[i]? = some x := ⟨_, List.getElem?_eq_getElem (by rw [HCL.out]; exact hlt)⟩
        have hm := List.mem_of_getElem? hx
        have hza := condsN_stop hx
        have hkn := condN_kids x
        obtain ⟨g, o, rfl, hcell⟩ := (HS.out.kept hb).row_at condR_len (by omega) hx
        have hxm := (HC.out x hm).kept hb
        obtain ⟨xca, xcn, xcc, hx6, hxs, hxc⟩ := hxm.kids
        have hI := fun W (hW : Below wr.heap.size wr W) => HIH.out x.kids (by omega) xca xcn xcc W (hxs.kept hW) (fun c h => (hxc c h).kept hW)
        have HNX : x.Light → Hid (∀ c ∈ conds.take (i + 1), c.Light) := fun hxl => Lib.hid (by
          rw [take_snoc2 hx]
          intro u hu
          rcases List.mem_append.1 hu with hu | hu
          · exact HT.out u hu
          · rw [List.mem_singleton.1 hu]; exact hxl)
        have HNX := Lib.hid HNX
        cases hxm with
        | @mk xk xg xi xaa xan xac xat xva xvn xvc xvl xacc xca' xcn' xcc' xcs zi za zv zs zc =>
        have hA := fun W (hW : Below wr.heap.size wr W) => heavyTests_any xaa xan xac xat W (za.kept hW)
        have hV := fun W (hW : Below wr.heap.size wr W) => heavyTests_any xva xvn xvc xvl W (zv.kept hW)
        obtain ⟨c0, c1, c2, c3, c4, c5, c6⟩ := seven_cells hcell
        simp only [CondR.cells, List.getElem?_cons_succ, List.getElem?_cons_zero, Option.some.injEq, Value.slice.injEq] at hx6
        obtain ⟨rfl, rfl, rfl⟩ := hx6
        have hnew := below_new wr (.cells #[.int .i64 xk, .bool xg, .string xi, .slice xaa xan xac, .slice xva xvn xvc, .bool xacc, .slice xca' xcn' xcc'] 60)
        have HI := Lib.hid (hI _ hnew)
        have HA := Lib.hid (hA _ hnew)
        have HV := Lib.hid (hV _ hnew)
        have HB := Lib.hid (hb.trans (hnew.mono hb.size))
        have HB0 := Lib.hid hb
        clear hx hm hcell hxs hxc hI hkn hza hA hV zi za zv zs zc hnew hb
        by_cases h1 : (100 : Int) < (xi.size : Int)
        · go_wp2_with fail
          go_ret
          exact ⟨⟨true, rfl, by simp⟩, HB.out⟩
        by_cases h2 : (10 : Int) < (xan : Int)
        · go_wp2_with fail
          go_ret
          exact ⟨⟨true, rfl, by simp⟩, HB.out⟩
        by_cases h3 : (10 : Int) < (xvn : Int)
        · go_wp2_with fail
          go_ret
          exact ⟨⟨true, rfl, by simp⟩, HB.out⟩
        go_wp2_with fail
        refine HA.out.mono ?_
        rintro e w2 ⟨⟨b1, rfl, q1⟩, rfl⟩
        have Q1 := Lib.hid q1
        clear q1
        rcases b1 with _ | _
        rotate_left
        · go_wp2_with fail
          go_ret
          exact ⟨⟨true, rfl, by simp⟩, HB.out⟩
        go_wp2_with fail
        refine HV.out.mono ?_
        rintro e w2 ⟨⟨b2, rfl, q2⟩, rfl⟩
        have Q2 := Lib.hid q2
        clear q2
        rcases b2 with _ | _
        rotate_left
        · go_wp2_with fail
          go_ret
          exact ⟨⟨true, rfl, by simp⟩, HB.out⟩
        go_wp2_with fail
        refine HI.out.mono ?_
        rintro e w2 ⟨⟨b3, rfl, q3⟩, bb⟩
        have Q3 := Lib.hid q3
        have HB2 := Lib.hid (HB.out.trans (bb.mono HB.out.size))
        clear q3 bb
        rcases b3 with _ | _
        rotate_left
        · go_wp2_with fail
          go_ret
          exact ⟨⟨true, rfl, by simp⟩, HB2.out⟩
        have HNN := HNX.out (.mk (by omega) (by omega) (Q1.out (by trivial)) (Q2.out (by trivial)) (Q3.out (by trivial)))
        go_wp2_with fail
        go_roundw
        case rel => exact ⟨i + 1, by omega, by go_num, HNN, HB2.out⟩
        case measure => simp [intOf]; omega
      · obtain rfl : i = cn := by omega
        have htk : Hid (∀ c ∈ conds, c.Light) := Lib.hid (by have := HT.out; rwa [List.take_of_length_le (by rw [HCL.out]; omega)] at this)
        go_wp2
        go_ret
        exact ⟨⟨false, rfl, fun _ => htk.out⟩, hb⟩
/-- What a production that is not heavy is. -/
structure ProdR.Light (p : ProdR) : Prop where
  n : condsN p.conds ≤ 40
  an : p.an ≤ 40
  name : p.name.size ≤ 100
  c : ∀ c ∈ p.conds, c.Light

set_option maxRecDepth 100000 in
set_option maxHeartbeats 4000000 in
theorem heavy_any (p : ProdR) (w : World) (h : p.Mem w) : Calls Try.prog 31 #[p.val] w fun e w' => NoIs p.Light e ∧ Below w.heap.size w w' := by
  have hP : condsN p.conds ≤ 40 → p.an ≤ 40 → p.name.size ≤ 100 → (∀ c ∈ p.conds, c.Light) → p.Light := fun a b c d => ⟨a, b, c, d⟩
  generalize p.Light = L at hP ⊢
  obtain ⟨hname, hsc, hco, hsa, hac⟩ := h
  obtain ⟨name, ca, cn, cc, conds, aa, an, ac, acts⟩ := p
  unfold ProdR.val
  simp only at hname hsc hco hsa hac hP ⊢
  have hb0 := below_new w (.cells #[.string name, .slice ca cn cc, .slice aa an ac] 48)
  have hS := kSize_any (condsN conds + 1) conds (by omega) ca cn cc 0 _ (hsc.kept hb0) (fun c hc => (hco c hc).kept hb0) (by omega) (by omega)
  have hH := heavyConds_any (condsN conds + 1) conds (by omega) ca cn cc _ (hsc.kept hb0) (fun c hc => (hco c hc).kept hb0)
  have HP := Lib.hid hP
  have HS := Lib.hid hS
  have HH := Lib.hid hH
  have HB := Lib.hid hb0
  clear hP hS hH hb0 hsc hco hsa hac
  by_cases h2 : (40 : Int) < (an : Int)
  · go_enter Try.func31, Try.ntmps31
    go_wp2_with (go_at_call 59; refine HS.out.mono ?_; rintro e w2 ⟨⟨v, rfl, v0, v41, hv⟩, rfl⟩; have HV := Lib.hid hv; clear hv)
    all_goals
      go_ret
      exact ⟨⟨true, rfl, by simp⟩, HB.out⟩
  by_cases h3 : (100 : Int) < (name.size : Int)
  · go_enter Try.func31, Try.ntmps31
    go_wp2_with (go_at_call 59; refine HS.out.mono ?_; rintro e w2 ⟨⟨v, rfl, v0, v41, hv⟩, rfl⟩; have HV := Lib.hid hv; clear hv)
    all_goals
      go_ret
      exact ⟨⟨true, rfl, by simp⟩, HB.out⟩
  go_enter Try.func31, Try.ntmps31
  go_wp2_with fail
  refine HS.out.mono ?_
  rintro e w2 ⟨⟨v, rfl, v0, v41, hv⟩, rfl⟩
  have HV := Lib.hid hv
  clear hv
  by_cases h1 : 40 < v
  · go_wp2_with fail
    go_ret
    exact ⟨⟨true, rfl, by simp⟩, HB.out⟩
  · have hM : Hid (v ≤ 40) := Lib.hid (by omega)
    go_wp2_with fail
    refine HH.out.mono ?_
    rintro e w2 ⟨⟨b3, rfl, q3⟩, bb⟩
    have Q3 := Lib.hid q3
    have HB2 := Lib.hid (HB.out.trans (bb.mono HB.out.size))
    clear q3 bb
    go_wp2_with fail
    go_ret
    refine ⟨⟨b3, rfl, fun hb => HP.out ?_ (by omega) (by omega) (Q3.out hb)⟩, HB2.out⟩
    have := HV.out hM.out
    have := hM.out
    omega
end Go.Proofs.Ytgeaccoobhigcaa
namespace Go.Proofs.Ytgeaccoobhigcaa
open Go.RowKit Go.ChangeShapes Go.WideShapes Go.Deep

theorem list_of_each {α : Type} {P : Nat → α → Prop} : ∀ n : Nat, (∀ i, i < n → ∃ a, P i a) → ∃ l : List α, l.length = n ∧ ∀ i a, l[i]? = some a → P i a
  | 0, _ => ⟨[], rfl, fun i a h => by simp at h⟩
  | n + 1, h => by
    obtain ⟨l, hl, hp⟩ := list_of_each n (fun i hi => h i (by omega))
    obtain ⟨a, ha⟩ := h n (by omega)
    refine ⟨l ++ [a], by simp [hl], fun i b hb => ?_⟩
    by_cases hi : i < n
    · rw [List.getElem?_append_left (by omega)] at hb
      exact hp i b hb
    · have hi' := (List.getElem?_eq_some_iff.1 hb).1
      simp only [List.length_append, List.length_cons, List.length_nil] at hi'
      obtain rfl : i = n := by omega
      rw [List.getElem?_append_right (by omega), hl, Nat.sub_self] at hb
      simp at hb
      subst hb
      exact ha

section
variable {H : Type} {enc : TypeId × Value → H} {W : World} {fuel : Nat} {cs : List Value} {x : DataW H × List MemPlace}
theorem open_list {t e size : Nat} {α : Type} {f : α → List Value} {Q : α → Prop} (ht : Try.prog.underlying t = some (.slice e)) (hC : Try.prog.cellsOf e = size) (hs : 0 < size) (hf : ∀ a, (f a).length = size)
    (hopen : ∀ n cs' x', n < fuel → DataW.trod enc Try.prog W 0 (fun _ => true) true n e cs' = some x' → ∃ a, cs' = f a ∧ Q a)
    (h : DataW.trod enc Try.prog W 0 (fun _ => true) true fuel t cs = some x) : ∃ (ao : Option Addr) (n c : Nat) (l : List α), cs = [.slice ao n c] ∧ SlR W size ao n c (l.flatMap f) ∧ ∀ a ∈ l, Q a := by
  rcases DataW.trod_slice ht h with ⟨hcs, _⟩ | ⟨a, len, cap, elems, rest, n, hfu, hcs, _, hb, hl, hm, hel, hi, _⟩
  · exact ⟨none, 0, 0, [], hcs, SlR.nil _ _, by simp⟩
  · obtain ⟨l, hll, hlp⟩ := list_of_each (P := fun i (u : α) => (∀ j v, (f u)[j]? = some v → W.cell? (a.add (i * size + j)) = some v) ∧ Q u) len (fun i hil => by
      have h1 := hi i hil
      rw [List.getElem?_eq_getElem (by omega)] at h1
      obtain ⟨cs', hc, ht'⟩ := Option.bind_eq_some_iff.1 h1
      rw [hC] at hc
      obtain ⟨_, hcl, hat⟩ := World.cells?_some hc
      obtain ⟨u, hu, hq⟩ := hopen n cs' _ (by omega) ht'
      refine ⟨u, fun j v hj => ?_, hq⟩
      rw [← hu] at hj
      rw [← Go.Deep.add_add, hat j (by have := (List.getElem?_eq_some_iff.1 hj).1; omega)]
      exact hj)
    refine ⟨some a, len, cap, l, hcs, ⟨by rw [rows_length hf, hll], hl, hm, by simp, fun a' ha' j v hj => ?_⟩, fun u hu => ?_⟩
    · cases ha'
      have hjl := (List.getElem?_eq_some_iff.1 hj).1
      rw [rows_length hf] at hjl
      have hil : j / size < l.length := Nat.div_lt_of_lt_mul (by rw [Nat.mul_comm]; exact hjl)
      obtain ⟨p0, _⟩ := hlp (j / size) l[j / size] (List.getElem?_eq_getElem hil)
      have hmod : j % size < size := Nat.mod_lt _ hs
      have hfj : (f l[j / size])[j % size]? = some ((f l[j / size])[j % size]'(by rw [hf]; exact hmod)) := List.getElem?_eq_getElem _
      have := rows_at hf (List.getElem?_eq_getElem hil) hfj
      have ej : j / size * size + j % size = j := by rw [Nat.mul_comm]; exact Nat.div_add_mod j size
      rw [ej, hj] at this
      have hp := p0 _ _ hfj
      rw [ej] at hp
      rw [hp, this]
    · obtain ⟨i, hil, rfl⟩ := List.getElem_of_mem hu
      exact (hlp i _ (List.getElem?_eq_getElem hil)).2
end
end Go.Proofs.Ytgeaccoobhigcaa
namespace Go.Proofs.Ytgeaccoobhigcaa
open Go.RowKit Go.ChangeShapes Go.WideShapes Go.Deep

section
variable {H : Type} {enc : TypeId × Value → H} {W : World}
theorem open_syms {fuel : Nat} {cs : List Value} {x : DataW H × List MemPlace} (h : DataW.trod enc Try.prog W 0 (fun _ => true) true fuel 136 cs = some x) :
    ∃ (ao : Option Addr) (n c : Nat) (l : List Sm), cs = [.slice ao n c] ∧ SlR W 3 ao n c (symsC l) ∧ ∀ s ∈ l, s.t.size ≤ maxLen :=
  open_list (f := Sm.cells) (Q := fun s => s.t.size ≤ maxLen) Try.underlying136 (by kernel_rfl) (by omega) (fun _ => rfl) (fun n cs' x' _ h => open_sym h) h
theorem und138 : Try.prog.underlying 138 = some (.struct (Try.prog.fieldsOf 138)) := by kernel_rfl
theorem open_test {fuel : Nat} {cs : List Value} {x : DataW H × List MemPlace} (h : DataW.trod enc Try.prog W 0 (fun _ => true) true fuel 138 cs = some x) : ∃ t : TestR, cs = t.cells ∧ t.Mem W := by
  have hl := struct_len und138 (size := 6) (by kernel_rfl) h
  obtain ⟨n0, y0, l0, h0⟩ := open_field und138 (k := 0) (ty := 3) (off := 0) (size := 1) (by unfold FieldAt; kernel_rfl) (by kernel_rfl) h
  obtain ⟨n1, y1, l1, h1⟩ := open_field und138 (k := 1) (ty := 9) (off := 1) (size := 1) (by unfold FieldAt; kernel_rfl) (by kernel_rfl) h
  obtain ⟨n2, y2, l2, h2⟩ := open_field und138 (k := 2) (ty := 63) (off := 2) (size := 3) (by unfold FieldAt; kernel_rfl) (by kernel_rfl) h
  obtain ⟨n3, y3, l3, h3⟩ := open_field und138 (k := 3) (ty := 136) (off := 5) (size := 1) (by unfold FieldAt; kernel_rfl) (by kernel_rfl) h
  obtain ⟨rel, e0, _⟩ := DataW.trod_int Try.underlying3 h0
  obtain ⟨v, e1, _, z1⟩ := DataW.trod_string Try.underlying9 h1
  obtain ⟨s, e2, z2⟩ := open_sym h2
  obtain ⟨la, ln, lc, l, e3, z3, q3⟩ := open_syms h3
  have s0 := seg (cs := cs) 0 1
  rw [e0] at s0
  have s1 := seg (cs := cs) 1 1
  rw [e1] at s1
  have s2 := seg (cs := cs) 2 3
  rw [e2] at s2
  have s3 := seg (cs := cs) 5 1
  rw [e3] at s3
  have sl : cs.drop 6 = [] := List.drop_eq_nil_of_le (by omega)
  rw [List.drop_zero] at s0
  simp only [Nat.reduceAdd] at s0 s1 s2 s3
  rw [s1, s2, s3, sl] at s0
  exact ⟨⟨rel, v, s, la, ln, lc, l⟩, by rw [s0]; rfl, ⟨z3, z1, z2, q3⟩⟩
theorem open_tests {fuel : Nat} {cs : List Value} {x : DataW H × List MemPlace} (h : DataW.trod enc Try.prog W 0 (fun _ => true) true fuel 58 cs = some x) :
    ∃ (ao : Option Addr) (n c : Nat) (l : List TestR), cs = [.slice ao n c] ∧ SlR W 6 ao n c (l.flatMap TestR.cells) ∧ ∀ t ∈ l, t.Mem W :=
  open_list (f := TestR.cells) (Q := fun t => t.Mem W) Try.underlying58 (by kernel_rfl) (by omega) testR_len (fun n cs' x' _ h => open_test h) h
theorem open_acts {fuel : Nat} {cs : List Value} {x : DataW H × List MemPlace} (h : DataW.trod enc Try.prog W 0 (fun _ => true) true fuel 46 cs = some x) :
    ∃ (ao : Option Addr) (n c : Nat) (l : List Ac), cs = [.slice ao n c] ∧ SlR W 19 ao n c (l.flatMap Ac.cells) ∧ ∀ a ∈ l, a.Big :=
  open_list (f := Ac.cells) (Q := fun a => a.Big) Try.underlying46 (by kernel_rfl) (by omega) ac_len (fun n cs' x' _ h => by
    obtain ⟨a, e, z0, z1, ⟨z2, z3⟩, z4⟩ := open_act h
    exact ⟨a, e, ⟨z0, ⟨z1.1, z1.2⟩, ⟨z2.1, z2.2⟩, ⟨z3.1, z3.2⟩, ⟨z4.1, z4.2⟩⟩⟩) h
theorem und60 : Try.prog.underlying 60 = some (.struct (Try.prog.fieldsOf 60)) := by kernel_rfl
theorem open_cond_step {fuel : Nat} (IH : ∀ n cs' (x' : DataW H × List MemPlace), n < fuel → DataW.trod enc Try.prog W 0 (fun _ => true) true n 60 cs' = some x' → ∃ c : CondR, cs' = c.cells ∧ c.Mem W) {cs : List Value} {x : DataW H × List MemPlace} (h : DataW.trod enc Try.prog W 0 (fun _ => true) true fuel 60 cs = some x) : ∃ c : CondR, cs = c.cells ∧ c.Mem W := by
  have hl := struct_len und60 (size := 7) (by kernel_rfl) h
  obtain ⟨n0, y0, l0, h0⟩ := open_field und60 (k := 0) (ty := 3) (off := 0) (size := 1) (by unfold FieldAt; kernel_rfl) (by kernel_rfl) h
  obtain ⟨n1, y1, l1, h1⟩ := open_field und60 (k := 1) (ty := 4) (off := 1) (size := 1) (by unfold FieldAt; kernel_rfl) (by kernel_rfl) h
  obtain ⟨n2, y2, l2, h2⟩ := open_field und60 (k := 2) (ty := 9) (off := 2) (size := 1) (by unfold FieldAt; kernel_rfl) (by kernel_rfl) h
  obtain ⟨n3, y3, l3, h3⟩ := open_field und60 (k := 3) (ty := 58) (off := 3) (size := 1) (by unfold FieldAt; kernel_rfl) (by kernel_rfl) h
  obtain ⟨n4, y4, l4, h4⟩ := open_field und60 (k := 4) (ty := 58) (off := 4) (size := 1) (by unfold FieldAt; kernel_rfl) (by kernel_rfl) h
  obtain ⟨n5, y5, l5, h5⟩ := open_field und60 (k := 5) (ty := 4) (off := 5) (size := 1) (by unfold FieldAt; kernel_rfl) (by kernel_rfl) h
  obtain ⟨n6, y6, l6, h6⟩ := open_field und60 (k := 6) (ty := 45) (off := 6) (size := 1) (by unfold FieldAt; kernel_rfl) (by kernel_rfl) h
  obtain ⟨kind, e0, _⟩ := DataW.trod_int Try.underlying3 h0
  obtain ⟨goal, e1, _⟩ := DataW.trod_bool Try.underlying4 h1
  obtain ⟨id, e2, _, z2⟩ := DataW.trod_string Try.underlying9 h2
  obtain ⟨aa, an, ac, a, e3, z3, q3⟩ := open_tests h3
  obtain ⟨va, vn, vc, v, e4, z4, q4⟩ := open_tests h4
  obtain ⟨acc, e5, _⟩ := DataW.trod_bool Try.underlying4 h5
  obtain ⟨ca, cn, cc, c, e6, z6, q6⟩ := (open_list (f := CondR.cells) (Q := fun c => c.Mem W) Try.underlying45 (by kernel_rfl) (by omega) condR_len (fun n cs' x' hn h => IH n cs' x' (by omega) h)) h6
  have s0 := seg (cs := cs) 0 1
  rw [e0] at s0
  have s1 := seg (cs := cs) 1 1
  rw [e1] at s1
  have s2 := seg (cs := cs) 2 1
  rw [e2] at s2
  have s3 := seg (cs := cs) 3 1
  rw [e3] at s3
  have s4 := seg (cs := cs) 4 1
  rw [e4] at s4
  have s5 := seg (cs := cs) 5 1
  rw [e5] at s5
  have s6 := seg (cs := cs) 6 1
  rw [e6] at s6
  have sl : cs.drop 7 = [] := List.drop_eq_nil_of_le (by omega)
  rw [List.drop_zero] at s0
  simp only [Nat.reduceAdd] at s0 s1 s2 s3 s4 s5 s6
  rw [s1, s2, s3, s4, s5, s6, sl] at s0
  exact ⟨.mk kind goal id aa an ac a va vn vc v acc ca cn cc c, by rw [s0]; rfl, .mk z2 ⟨z3, q3⟩ ⟨z4, q4⟩ z6 q6⟩
theorem open_cond : ∀ (fuel : Nat) (cs : List Value) (x : DataW H × List MemPlace), DataW.trod enc Try.prog W 0 (fun _ => true) true fuel 60 cs = some x → ∃ c : CondR, cs = c.cells ∧ c.Mem W := by
  intro fuel
  induction fuel using Nat.strongRecOn with
  | _ fuel IH => exact fun cs x h => open_cond_step (fun n cs' x' hn h' => IH n hn cs' x' h') h
theorem open_conds {fuel : Nat} {cs : List Value} {x : DataW H × List MemPlace} (h : DataW.trod enc Try.prog W 0 (fun _ => true) true fuel 45 cs = some x) :
    ∃ (ao : Option Addr) (n c : Nat) (l : List CondR), cs = [.slice ao n c] ∧ SlR W 7 ao n c (l.flatMap CondR.cells) ∧ ∀ t ∈ l, t.Mem W :=
  open_list (f := CondR.cells) (Q := fun c => c.Mem W) Try.underlying45 (by kernel_rfl) (by omega) condR_len (fun n cs' x' _ h => open_cond n cs' x' h) h
theorem und48 : Try.prog.underlying 48 = some (.struct (Try.prog.fieldsOf 48)) := by kernel_rfl
theorem open_prod {fuel : Nat} {cs : List Value} {x : DataW H × List MemPlace} (h : DataW.trod enc Try.prog W 0 (fun _ => true) true fuel 48 cs = some x) : ∃ p : ProdR, cs = p.cells ∧ p.Mem W := by
  have hl := struct_len und48 (size := 3) (by kernel_rfl) h
  obtain ⟨n0, y0, l0, h0⟩ := open_field und48 (k := 0) (ty := 9) (off := 0) (size := 1) (by unfold FieldAt; kernel_rfl) (by kernel_rfl) h
  obtain ⟨n1, y1, l1, h1⟩ := open_field und48 (k := 1) (ty := 45) (off := 1) (size := 1) (by unfold FieldAt; kernel_rfl) (by kernel_rfl) h
  obtain ⟨n2, y2, l2, h2⟩ := open_field und48 (k := 2) (ty := 46) (off := 2) (size := 1) (by unfold FieldAt; kernel_rfl) (by kernel_rfl) h
  obtain ⟨name, e0, _, z0⟩ := DataW.trod_string Try.underlying9 h0
  obtain ⟨ca, cn, cc, c, e1, z1, q1⟩ := open_conds h1
  obtain ⟨aa, an, ac, a, e2, z2, q2⟩ := open_acts h2
  have s0 := seg (cs := cs) 0 1
  rw [e0] at s0
  have s1 := seg (cs := cs) 1 1
  rw [e1] at s1
  have s2 := seg (cs := cs) 2 1
  rw [e2] at s2
  have sl : cs.drop 3 = [] := List.drop_eq_nil_of_le (by omega)
  rw [List.drop_zero] at s0
  simp only [Nat.reduceAdd] at s0 s1 s2
  rw [s1, s2, sl] at s0
  exact ⟨⟨name, ca, cn, cc, c, aa, an, ac, a⟩, by rw [s0]; rfl, ⟨z0, z1, q1, z2, q2⟩⟩
end
end Go.Proofs.Ytgeaccoobhigcaa
