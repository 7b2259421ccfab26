/-
  shape.walk, whatever is done at each condition.
-/
import Derived.Test.YtgeaccoobhigcaaS27
import Derived.Test.YtgeaccoobhigcaaS16
namespace Go.Proofs.Ytgeaccoobhigcaa
open Go Go.RowKit

section
variable {σ : Type} (go : σ → Int → Int → CondR → σ × Bool)
mutual
def runC : CondR → σ → Int → Int → σ × Int × Bool
  | .mk kind goal id aa an ac attr va vn vc value acc ca cn cc conds, s, at_, deep =>
    if (go s at_ deep (.mk kind goal id aa an ac attr va vn vc value acc ca cn cc conds)).2 = true
    then runL conds (go s at_ deep (.mk kind goal id aa an ac attr va vn vc value acc ca cn cc conds)).1 (at_ + 1) (deep + 1)
    else ((go s at_ deep (.mk kind goal id aa an ac attr va vn vc value acc ca cn cc conds)).1, at_, false)
def runL : List CondR → σ → Int → Int → σ × Int × Bool
  | [], s, at_, _ => (s, at_, true)
  | c :: r, s, at_, deep =>
    if (runC c s at_ deep).2.2 = true then runL r (runC c s at_ deep).1 (runC c s at_ deep).2.1 deep
    else ((runC c s at_ deep).1, (runC c s at_ deep).2.1, false)
end
def CondR.kids : CondR → List CondR
  | .mk _ _ _ _ _ _ _ _ _ _ _ _ _ _ _ conds => conds
theorem runC_yes {c : CondR} {s : σ} {a d : Int} (h : (go s a d c).2 = true) : runC go c s a d = runL go c.kids (go s a d c).1 (a + 1) (d + 1) := by
  cases c; simp only [runC, CondR.kids]; rw [if_pos h]
theorem runC_no {c : CondR} {s : σ} {a d : Int} (h : (go s a d c).2 = false) : runC go c s a d = ((go s a d c).1, a, false) := by
  cases c; simp only [runC]; rw [if_neg (by simp [h])]
theorem runL_snoc {x : CondR} {d : Int} : ∀ (l : List CondR) {s s1 : σ} {a a1 : Int}, runL go l s a d = (s1, a1, true) → (runC go x s1 a1 d).2.2 = true → runL go (l ++ [x]) s a d = runC go x s1 a1 d
  | [], s, s1, a, a1, h, hx => by
    simp only [runL, Prod.mk.injEq] at h
    obtain ⟨rfl, rfl, _⟩ := h
    simp only [List.nil_append, runL]
    rw [if_pos hx]
    exact Prod.ext rfl (Prod.ext rfl hx.symm)
  | c :: r, s, s1, a, a1, h, hx => by
    simp only [runL, List.cons_append] at h ⊢
    split at h
    · rename_i hc
      rw [if_pos hc]
      exact runL_snoc r h hx
    · simp at h
theorem runL_stop {x : CondR} {d : Int} {r' : List CondR} : ∀ (l : List CondR) {s s1 s2 : σ} {a a1 a2 : Int}, runL go l s a d = (s1, a1, true) → runC go x s1 a1 d = (s2, a2, false) → runL go (l ++ x :: r') s a d = (s2, a2, false)
  | [], s, s1, s2, a, a1, a2, h, hx => by
    simp only [runL, Prod.mk.injEq] at h
    obtain ⟨rfl, rfl, _⟩ := h
    simp only [List.nil_append, runL]
    rw [hx, if_neg (by simp)]
  | c :: r, s, s1, s2, a, a1, a2, h, hx => by
    simp only [runL, List.cons_append] at h ⊢
    split at h
    · rename_i hc
      rw [if_pos hc]
      exact runL_stop r h hx
    · simp at h
theorem take_stop {l : List CondR} {i : Nat} {x : CondR} (h : l[i]? = some x) : l = l.take i ++ x :: l.drop (i + 1) := by
  obtain ⟨h3, h4⟩ := List.getElem?_eq_some_iff.1 h
  rw [← h4, ← List.drop_eq_getElem_cons h3, List.take_append_drop]
theorem condN_kids (c : CondR) : condN c = 1 + condsN c.kids := by cases c; simp only [condN, CondR.kids]
mutual
theorem runC_at : ∀ (c : CondR) (s : σ) (a d : Int), a ≤ (runC go c s a d).2.1 ∧ (runC go c s a d).2.1 ≤ a + condN c
  | .mk kind goal id aa an ac attr va vn vc value acc ca cn cc conds, s, a, d => by
    simp only [runC, condN]
    split
    · have := runL_at conds (go s a d (.mk kind goal id aa an ac attr va vn vc value acc ca cn cc conds)).1 (a + 1) (d + 1)
      omega
    · exact ⟨Int.le_refl _, by simp only; omega⟩
theorem runL_at : ∀ (l : List CondR) (s : σ) (a d : Int), a ≤ (runL go l s a d).2.1 ∧ (runL go l s a d).2.1 ≤ a + condsN l
  | [], s, a, d => by simp only [runL, condsN]; omega
  | c :: r, s, a, d => by
    have hc := runC_at c s a d
    simp only [runL, condsN]
    split
    · have := runL_at r (runC go c s a d).1 (runC go c s a d).2.1 d
      omega
    · simp only; omega
end
end

theorem ret_ib {a b : Int} {x y : Bool} (h : a = b) (k : x = y) : Ending.returned (.tuple #[.int .i64 a, .bool x]) = .returned (.tuple #[.int .i64 b, .bool y]) := by rw [h, k]
theorem CondR.Mem.kids {w : World} {c : CondR} (h : c.Mem w) : ∃ ca cn cc, c.cells[6]? = some (.slice ca cn cc) ∧ SlR w 7 ca cn cc (c.kids.flatMap CondR.cells) ∧ ∀ x ∈ c.kids, x.Mem w := by
  cases h with
  | @mk kind goal id aa an ac attr va vn vc value acc ca cn cc conds hi ha hv hs hc => exact ⟨ca, cn, cc, rfl, hs, hc⟩

theorem condsN_stop {l : List CondR} {i : Nat} {x : CondR} (h : l[i]? = some x) : condsN (l.take i) + condN x ≤ condsN l := by
  have e := take_stop h
  have ap : ∀ (a b : List CondR), condsN (a ++ b) = condsN a + condsN b := by
    intro a b
    induction a with
    | nil => simp [condsN]
    | cons c r ih => simp only [List.cons_append, condsN, ih]; omega
  conv => rhs; rw [e]
  rw [ap]
  simp only [condsN]
  omega
/-- All blocks that were there are as they were, but those of B. -/
structure KeptBut (B : Nat → Prop) (w w' : World) : Prop where
  size : w.heap.size ≤ w'.heap.size
  block : ∀ b, b < w.heap.size → ¬ B b → w'.heap[b]? = w.heap[b]?
theorem KeptBut.box {B : Nat → Prop} {w w' : World} {cs : List Value} {t : TypeId} (h : KeptBut B (w.alloc (.cells cs.toArray t)) w') (hB : ¬ B w.heap.size) {j : Nat} {u : Value} (hj : cs[j]? = some u) : w'.cell? ⟨w.heap.size, j, none⟩ = some u := by
  have := BoxC.new w cs t
  exact BoxC.at_ (W := w') (t := t) (cs := cs) ((h.block w.heap.size (by simp) hB).trans this) hj

set_option maxRecDepth 100000 in
set_option maxHeartbeats 8000000 in
theorem walk_any {σ : Type} (go : σ → Int → Int → CondR → σ × Bool) (St : σ → World → Prop) (B : Nat → Prop) (w0 : World) (k : Nat) (cap : Array Value) (hcf : ∀ (vs : Array Value) (w : World), Sem.run Try.prog (callFunc k vs) w = .ok (.enter k vs) w)
    (hSb : ∀ s w, St s w → Below w0.heap.size w0 w ∧ ∀ b, B b → b < w.heap.size) (hSa : ∀ s w o, St s w → St s (w.alloc o))
    (hgo : ∀ s a d c w, CondR.Mem w0 c → 0 ≤ a → a ≤ 1000000 → 0 ≤ d → d ≤ 1000000 → St s w → Calls Try.prog k (#[.int .i64 a, .int .i64 d, c.val] ++ cap) w fun e w' => e = .returned (.bool (go s a d c).2) ∧ St (go s a d c).1 w' ∧ KeptBut B w w') :
    ∀ (n : Nat) (conds : List CondR), condsN conds < n → ∀ (ca : Option Addr) (cn cc : Nat) (s : σ) (a d : Int) (w : World), SlR w0 7 ca cn cc (conds.flatMap CondR.cells) → (∀ c ∈ conds, c.Mem w0) → 0 ≤ a → a + condsN conds ≤ 1000000 → 0 ≤ d → d + condsN conds ≤ 1000000 → St s w →
      Calls Try.prog 101 #[.slice ca cn cc, .int .i64 a, .int .i64 d, .func (.func k) #[] cap] w fun e w' => e = .returned (.tuple #[.int .i64 (runL go conds s a d).2.1, .bool (runL go conds s a d).2.2]) ∧ St (runL go conds s a d).1 w' := by
  intro n
  induction n with
  | zero => intro conds h; omega
  | succ n IH =>
    intro conds hn ca cn cc s a d w hs hc ha0 ha hd0 hd hst
    have hcl := condsMem_len hs
    have hcap := hs.2.1
    have hmx := hs.2.2.1
    unfold maxLen at hmx
    have HCL := Lib.hid hcl
    have HIH := Lib.hid IH
    have HC := Lib.hid hc
    have HGO := Lib.hid hgo
    have HSB := Lib.hid hSb
    have HSA := Lib.hid hSa
    have HS := Lib.hid hs
    have HST := Lib.hid hst
    clear hcl IH hc hgo hSb hSa hs hst
    go_enter Try.func101, Try.ntmps101
    go_wp2
    go_loopw [1, 15] (fun ta ti wr => ∃ (i : Nat) (s1 : σ) (a1 : Int), i ≤ cn ∧ ta = .int .i64 a1 ∧ ti = .int .i64 i ∧ Hid (runL go (conds.take i) s a d = (s1, a1, true)) ∧ Hid (St s1 wr)) (fun _ ti _ => cn - (intOf ti).toNat)
    case atStart => exact ⟨0, s, a, by omega, rfl, rfl, Lib.hid (by simp [runL]), HST⟩
    case round =>
      obtain ⟨i, s1, a1, hi, rfl, rfl, HR, HST1⟩ := hrel
      have hat := runL_at go (conds.take i) s a d
      rw [HR.out] at hat
      have hz := condsN_take conds i
      simp only at hat
      have ha1 : 0 ≤ a1 := by omega
      by_cases hlt : i < cn
      · obtain ⟨x, hx⟩ : ∃ x, conds[i]? = some x := ⟨_, List.getElem?_eq_getElem (by rw [HCL.out]; exact hlt)⟩
        have hm := List.mem_of_getElem? hx
        have hxm := HC.out x hm
        have hza := condsN_stop hx
        have hkn := condN_kids x
        have ha2 : a1 + 1 + condsN x.kids ≤ 1000000 := by omega
        have hd2 : d + 1 + condsN x.kids ≤ 1000000 := by omega
        have hkn2 : condsN x.kids < n := by omega
        obtain ⟨g, o, rfl, hcell⟩ := (HS.out.kept (HSB.out _ _ HST1.out).1).row_at condR_len (by omega) hx
        have HXX := Lib.hid hx
        have HGX := fun w => HGO.out s1 a1 d x w hxm (by omega) (by omega) hd0 (by omega)
        have HTK := Lib.hid (take_snoc2 hx)
        have HDS := Lib.hid (take_stop hx)
        have HSN := Lib.hid (runL_snoc go (x := x) (conds.take i) HR.out)
        have HSP := fun r' s2 a2 => runL_stop go (x := x) (r' := r') (s2 := s2) (a2 := a2) (conds.take i) HR.out
        have HSP := Lib.hid HSP
        obtain ⟨xca, xcn, xcc, hx6, hxs, hxc⟩ := hxm.kids
        have hIH := fun s2 w2 => HIH.out x.kids hkn2 xca xcn xcc s2 (a1 + 1) (d + 1) w2 hxs hxc (by omega) ha2 (by omega) hd2
        have HI := Lib.hid hIH
        clear hx hxm hxs hxc hIH hz hza hkn hkn2 hm
        rcases hg : go s1 a1 d x with ⟨s2, b⟩
        rw [hg] at HGX
        simp only at HGX
        have hwb : ¬ B wr.heap.size := fun h => by have := (HSB.out _ _ HST1.out).2 _ h; omega
        have HWB := Lib.hid hwb
        clear hwb
        rcases b with _ | _
        · have HC1 : Hid (runC go x s1 a1 d = (s2, a1, false)) := Lib.hid (by rw [runC_no go (by rw [hg]), hg])
          have HRR : Hid (runL go conds s a d = (s2, a1, false)) := Lib.hid (by rw [HDS.out]; exact HSP.out _ _ _ HC1.out)
          obtain ⟨xk, xg, xi, xaa, xan, xac, xat, xva, xvn, xvc, xvl, xacc, xca', xcn', xcc', xcs⟩ := x
          obtain ⟨c0, c1, c2, c3, c4, c5, c6⟩ := seven_cells hcell
          unfold CondR.val at HGX
          simp only at HGX
          have HG2 := Lib.hid (HGX _ (HSA.out _ _ (.cells #[.int .i64 xk, .bool xg, .string xi, .slice xaa xan xac, .slice xva xvn xvc, .bool xacc, .slice xca' xcn' xcc'] 60) HST1.out))
          clear HGX hg hcell hat
          go_wp2_with ((with_reducible refine HG2.out.mono ?_); rintro e w3 ⟨rfl, hst3, -⟩; have HST3 := Lib.hid hst3; clear hst3)
          go_ret2
          exact ⟨ret_ib (by rw [HRR.out]) (by rw [HRR.out]), by rw [HRR.out]; exact HST3.out⟩
        · have HC1 : Hid (runC go x s1 a1 d = runL go x.kids s2 (a1 + 1) (d + 1)) := Lib.hid (by rw [runC_yes go (by rw [hg]), hg])
          rcases hk : runL go x.kids s2 (a1 + 1) (d + 1) with ⟨s3, a3, b3⟩
          have hI2 := HI.out s2
          rw [hk] at hI2
          have HI2 := Lib.hid hI2
          have HK := Lib.hid hk
          clear hI2 hk HI
          rcases b3 with _ | _
          · have HRR : Hid (runL go conds s a d = (s3, a3, false)) := Lib.hid (by rw [HDS.out]; exact HSP.out _ _ _ (by rw [HC1.out, HK.out]))
            obtain ⟨xk, xg, xi, xaa, xan, xac, xat, xva, xvn, xvc, xvl, xacc, xca', xcn', xcc', xcs⟩ := x
            obtain ⟨c0, c1, c2, c3, c4, c5, c6⟩ := seven_cells hcell
            simp only [CondR.cells, List.getElem?_cons_succ, List.getElem?_cons_zero, Option.some.injEq, Value.slice.injEq] at hx6
            obtain ⟨rfl, rfl, rfl⟩ := hx6
            unfold CondR.val at HGX
            simp only at HGX
            have HG2 := Lib.hid (HGX _ (HSA.out _ _ (.cells #[.int .i64 xk, .bool xg, .string xi, .slice xaa xan xac, .slice xva xvn xvc, .bool xacc, .slice xca' xcn' xcc'] 60) HST1.out))
            clear HGX hg hcell hat
            go_wp2_with (first | (go_at_call 101; refine (HI2.out _ HST3.out).mono ?_; rintro e w4 ⟨rfl, hst4⟩; have HST4 := Lib.hid hst4; clear hst4) | ((with_reducible refine HG2.out.mono ?_); rintro e w3 ⟨rfl, hst3, hkb⟩; have HST3 := Lib.hid hst3; have x6 := KeptBut.box (cs := [.int .i64 xk, .bool xg, .string xi, .slice xaa xan xac, .slice xva xvn xvc, .bool xacc, .slice xca' xcn' xcc']) hkb HWB.out (j := 6) rfl; clear hst3 hkb))
            go_ret2
            exact ⟨ret_ib (by rw [HRR.out]) (by rw [HRR.out]), by rw [HRR.out]; exact HST4.out⟩
          · have HRR : Hid (runL go (conds.take (i + 1)) s a d = (s3, a3, true)) := Lib.hid (by rw [HTK.out, HSN.out (by rw [HC1.out, HK.out]), HC1.out, HK.out])
            obtain ⟨xk, xg, xi, xaa, xan, xac, xat, xva, xvn, xvc, xvl, xacc, xca', xcn', xcc', xcs⟩ := x
            obtain ⟨c0, c1, c2, c3, c4, c5, c6⟩ := seven_cells hcell
            simp only [CondR.cells, List.getElem?_cons_succ, List.getElem?_cons_zero, Option.some.injEq, Value.slice.injEq] at hx6
            obtain ⟨rfl, rfl, rfl⟩ := hx6
            unfold CondR.val at HGX
            simp only at HGX
            have HG2 := Lib.hid (HGX _ (HSA.out _ _ (.cells #[.int .i64 xk, .bool xg, .string xi, .slice xaa xan xac, .slice xva xvn xvc, .bool xacc, .slice xca' xcn' xcc'] 60) HST1.out))
            clear HGX hg hcell hat
            go_wp2_with (first | (go_at_call 101; refine (HI2.out _ HST3.out).mono ?_; rintro e w4 ⟨rfl, hst4⟩; have HST4 := Lib.hid hst4; clear hst4) | ((with_reducible refine HG2.out.mono ?_); rintro e w3 ⟨rfl, hst3, hkb⟩; have HST3 := Lib.hid hst3; have x6 := KeptBut.box (cs := [.int .i64 xk, .bool xg, .string xi, .slice xaa xan xac, .slice xva xvn xvc, .bool xacc, .slice xca' xcn' xcc']) hkb HWB.out (j := 6) rfl; clear hst3 hkb))
            go_roundw
            case rel => exact ⟨i + 1, s3, a3, by omega, rfl, by go_num, HRR, HST4⟩
            case measure => simp [intOf]; omega
      · obtain rfl : i = cn := by omega
        have htk : Hid (runL go conds s a d = (s1, a1, true)) := Lib.hid (by have := HR.out; rwa [List.take_of_length_le (by rw [HCL.out]; omega)] at this)
        clear hat
        go_wp2
        go_ret2
        exact ⟨ret_ib (by rw [htk.out]) (by rw [htk.out]), by rw [htk.out]; exact HST1.out⟩
end Go.Proofs.Ytgeaccoobhigcaa
