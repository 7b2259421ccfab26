/-
  What shape.Shape does at each condition: counting, and the first error.
-/
import Derived.Test.YtgeaccoobhigcaaS28
import Derived.RangeFuncNested
namespace Go.Proofs.Ytgeaccoobhigcaa
open Go Go.RowKit

mutual
def cdN : Cd → Nat
  | .mk _ _ _ _ _ _ conds => 1 + cdsN conds
def cdsN : List Cd → Nat
  | [] => 0
  | c :: r => cdN c + cdsN r
end
mutual
/-- The first error of a condition with all that is within it. -/
def firstE : Cd → Int → Int
  | .mk kind goal id attr value acc conds, deep =>
    if condE (.mk kind goal id attr value acc conds) deep = 0 then firstEs conds (deep + 1) else condE (.mk kind goal id attr value acc conds) deep
def firstEs : List Cd → Int → Int
  | [], _ => 0
  | c :: r, deep => if firstE c deep = 0 then firstEs r deep else firstE c deep
end
mutual
theorem condN_abs : ∀ c : CondR, condN c = cdN c.abs
  | .mk kind goal id aa an ac attr va vn vc value acc ca cn cc conds => by simp only [condN, CondR.abs, cdN]; rw [condsN_abs conds]
theorem condsN_abs : ∀ l : List CondR, condsN l = cdsN (absL l)
  | [] => rfl
  | c :: r => by simp only [condsN, absL, cdsN]; rw [condN_abs c, condsN_abs r]
end

/-- Counting. -/
def goN (_ : Int) (a _ : Int) (_ : CondR) : Int × Bool := (a + 1, decide (a + 1 ≤ 16))
mutual
theorem runC_goN : ∀ (c : CondR) (s a d : Int), (runC goN c s a d).1 = (runC goN c s a d).2.1 + (if (runC goN c s a d).2.2 = true then 0 else 1) ∧ ((runC goN c s a d).2.2 = true → (runC goN c s a d).2.1 = a + condN c ∧ (runC goN c s a d).2.1 ≤ 16) ∧ ((runC goN c s a d).2.2 = false → 16 ≤ (runC goN c s a d).2.1 ∧ 16 < a + condN c)
  | .mk kind goal id aa an ac attr va vn vc value acc ca cn cc conds, s, a, d => by
    simp only [condN]
    by_cases h : a + 1 ≤ 16
    · have e : runC goN (.mk kind goal id aa an ac attr va vn vc value acc ca cn cc conds) s a d = runL goN conds (a + 1) (a + 1) (d + 1) := by
        rw [runC_yes goN (by simp [goN, h])]; simp [goN, CondR.kids]
      rw [e]
      have := runL_goN conds (a + 1) (a + 1) (d + 1) rfl
      refine ⟨this.1, fun hb => ?_, fun hb => ?_⟩
      · have h1 := this.2.1 hb
        refine ⟨by omega, ?_⟩
        rcases conds with _ | ⟨x, r⟩
        · simp only [condsN] at h1; omega
        · exact h1.2 (by simp)
      · have := this.2.2 hb; omega
    · have e : runC goN (.mk kind goal id aa an ac attr va vn vc value acc ca cn cc conds) s a d = (a + 1, a, false) := by
        rw [runC_no goN (by simp [goN]; omega)]; simp [goN]
      rw [e]
      refine ⟨by simp, fun h => by simp at h, fun _ => ?_⟩
      simp only
      omega
theorem runL_goN : ∀ (l : List CondR) (s a d : Int), s = a → (runL goN l s a d).1 = (runL goN l s a d).2.1 + (if (runL goN l s a d).2.2 = true then 0 else 1) ∧ ((runL goN l s a d).2.2 = true → (runL goN l s a d).2.1 = a + condsN l ∧ (l ≠ [] → (runL goN l s a d).2.1 ≤ 16)) ∧ ((runL goN l s a d).2.2 = false → 16 ≤ (runL goN l s a d).2.1 ∧ 16 < a + condsN l)
  | [], s, a, d, h => by simp [runL, condsN, h]
  | c :: r, s, a, d, h => by
    have hc := runC_goN c s a d
    simp only [runL, condsN]
    split
    · rename_i hb
      rw [if_pos hb] at hc
      have ih := runL_goN r (runC goN c s a d).1 (runC goN c s a d).2.1 d (by omega)
      have h2 := hc.2.1 hb
      refine ⟨ih.1, fun hb => ?_, fun hb => ?_⟩
      · have h3 := ih.2.1 hb
        refine ⟨by omega, fun _ => ?_⟩
        rcases r with _ | ⟨x, r⟩
        · simp only [condsN] at h3; omega
        · exact h3.2 (by simp)
      · have := ih.2.2 hb; omega
    · rename_i hb
      have hb' : (runC goN c s a d).2.2 = false := by simpa using hb
      rw [if_neg hb] at hc
      have h2 := hc.2.2 hb'
      simp only [Bool.false_eq_true, if_false]
      refine ⟨hc.1, fun h => by simp at h, fun _ => by omega⟩
end
/-- The first error, and its place. -/
def goE (s : Int × Int) (a d : Int) (c : CondR) : (Int × Int) × Bool := if condE c.abs d = 0 then ((0, s.2), true) else ((condE c.abs d, a), false)
mutual
theorem runC_goE : ∀ (c : CondR) (s : Int × Int) (a d : Int), (runC goE c s a d).1.1 = firstE c.abs d ∧ ((runC goE c s a d).2.2 = true ↔ firstE c.abs d = 0)
  | .mk kind goal id aa an ac attr va vn vc value acc ca cn cc conds, s, a, d => by
    simp only [CondR.abs, firstE]
    by_cases h : condE (.mk kind goal id (attr.map TestR.abs) (value.map TestR.abs) acc (absL conds)) d = 0
    · have e : runC goE (.mk kind goal id aa an ac attr va vn vc value acc ca cn cc conds) s a d = runL goE conds (0, s.2) (a + 1) (d + 1) := by
        rw [runC_yes goE (by unfold goE CondR.abs; rw [if_pos h])]; unfold goE CondR.abs; rw [if_pos h]; rfl
      rw [e, if_pos h]
      exact runL_goE conds (0, s.2) (a + 1) (d + 1) rfl
    · have e : runC goE (.mk kind goal id aa an ac attr va vn vc value acc ca cn cc conds) s a d = ((condE (.mk kind goal id (attr.map TestR.abs) (value.map TestR.abs) acc (absL conds)) d, a), a, false) := by
        rw [runC_no goE (by unfold goE CondR.abs; rw [if_neg h])]; unfold goE CondR.abs; rw [if_neg h]
      rw [e, if_neg h]
      exact ⟨rfl, by simp [h]⟩
theorem runL_goE : ∀ (l : List CondR) (s : Int × Int) (a d : Int), s.1 = 0 → (runL goE l s a d).1.1 = firstEs (absL l) d ∧ ((runL goE l s a d).2.2 = true ↔ firstEs (absL l) d = 0)
  | [], s, a, d, h => by simp [runL, absL, firstEs, h]
  | c :: r, s, a, d, h => by
    have hc := runC_goE c s a d
    simp only [runL, absL, firstEs]
    by_cases hz : firstE c.abs d = 0
    · rw [if_pos hz, if_pos (hc.2.2 hz)]
      exact runL_goE r (runC goE c s a d).1 (runC goE c s a d).2.1 d (by rw [hc.1, hz])
    · rw [if_neg hz, if_neg (fun hh => hz (hc.2.1 hh))]
      exact ⟨hc.1, by simp [hz]⟩
end

theorem callFunc102 (vs : Array Value) (w : World) : Sem.run Try.prog (callFunc 102 vs) w = .ok (.enter 102 vs) w := by
  simp [callFunc, go_sem, Try.func102, Try.f102]
theorem callFunc103 (vs : Array Value) (w : World) : Sem.run Try.prog (callFunc 103 vs) w = .ok (.enter 103 vs) w := by
  simp [callFunc, go_sem, Try.func103, Try.f103]

/-- A cell of its own, of a variable that a closure holds. -/
structure StN (w0 : World) (b : Nat) (n : Int) (w : World) : Prop where
  below : Below w0.heap.size w0 w
  box : Boxed w b 3 (.int .i64 n)
  new : w0.heap.size ≤ b
theorem below_set {w0 w : World} {b : Nat} {v : Value} (h : Below w0.heap.size w0 w) (hb : w0.heap.size ≤ b) : Below w0.heap.size w0 (w.setCell ⟨b, 0, none⟩ v) :=
  h.setCell hb v

set_option maxRecDepth 100000 in
set_option maxHeartbeats 1000000 in
theorem count_any (w0 : World) (b : Nat) (s a d : Int) (c : CondR) (w : World) (ha : 0 ≤ a) (ha2 : a ≤ 1000000) (h : StN w0 b s w) :
    Calls Try.prog 102 (#[.int .i64 a, .int .i64 d, c.val] ++ #[.pointer (some ⟨b, 0, none⟩)]) w fun e w' => e = .returned (.bool (goN s a d c).2) ∧ StN w0 b (goN s a d c).1 w' ∧ KeptBut (· = b) w w' := by
  obtain ⟨hb, hx, hn⟩ := h
  unfold goN
  obtain ⟨kind, goal, id, aa, an, ac, attr, va, vn, vc, value, acc, ca, cn, cc, conds⟩ := c
  unfold CondR.val
  simp only
  have hx1 := hx.alloc (.cells #[.int .i64 kind, .bool goal, .string id, .slice aa an ac, .slice va vn vc, .bool acc, .slice ca cn cc] 60)
  have hc := hx1.cell
  have hf := hx1.frozen
  have HX := Lib.hid hx1
  have HX0 := Lib.hid hx
  have HB := Lib.hid hb
  clear hx hx1 hb
  have fin : StN w0 b (a + 1) ((w.alloc (.cells #[.int .i64 kind, .bool goal, .string id, .slice aa an ac, .slice va vn vc, .bool acc, .slice ca cn cc] 60)).setCell ⟨b, 0, none⟩ (.int .i64 (a + 1))) ∧ KeptBut (· = b) w ((w.alloc (.cells #[.int .i64 kind, .bool goal, .string id, .slice aa an ac, .slice va vn vc, .bool acc, .slice ca cn cc] 60)).setCell ⟨b, 0, none⟩ (.int .i64 (a + 1))) := by
    refine ⟨⟨below_set (HB.out.alloc HB.out.size _) hn, HX.out.set _, hn⟩, ⟨by simp [World.setCell], fun j hj hne => ?_⟩⟩
    rw [Below.heap_setCell _ _ _ _ (fun e => hne e), Below.heap_alloc w _ j hj]
  have FIN := Lib.hid fin
  clear fin
  by_cases h16 : a + 1 ≤ 16
  · have HR : Hid (decide (a + 1 ≤ 16) = true) := Lib.hid (decide_eq_true h16)
    rw [HR.out]
    go_enter Try.func102, Try.ntmps102
    go_wp2
    go_ret
    exact ⟨rfl, FIN.out⟩
  · have HR : Hid (decide (a + 1 ≤ 16) = false) := Lib.hid (decide_eq_false h16)
    rw [HR.out]
    go_enter Try.func102, Try.ntmps102
    go_wp2
    go_ret
    exact ⟨rfl, FIN.out⟩

structure StE (w0 : World) (be bp : Nat) (s : Int × Int) (w : World) : Prop where
  below : Below w0.heap.size w0 w
  e : Boxed w be 51 (.int .i64 s.1)
  p : Boxed w bp 3 (.int .i64 s.2)
  ne : be ≠ bp
  newe : w0.heap.size ≤ be
  newp : w0.heap.size ≤ bp
theorem boxed_below {w w' : World} {b : Nat} {t : TypeId} {v : Value} (h : Boxed w b t v) (hb : Below w.heap.size w w') : Boxed w' b t v := (hb.block b h.lt).trans h

set_option maxRecDepth 100000 in
set_option maxHeartbeats 1000000 in
theorem err_any (w0 : World) (be bp : Nat) (s : Int × Int) (a d : Int) (c : CondR) (w : World) (hm : c.Mem w0) (h : StE w0 be bp s w) :
    Calls Try.prog 103 (#[.int .i64 a, .int .i64 d, c.val] ++ #[.pointer (some ⟨be, 0, none⟩), .pointer (some ⟨bp, 0, none⟩)]) w fun e w' => e = .returned (.bool (goE s a d c).2) ∧ StE w0 be bp (goE s a d c).1 w' ∧ KeptBut (fun b => b = be ∨ b = bp) w w' := by
  obtain ⟨hb, hxe, hxp, hne, hne1, hnp1⟩ := h
  obtain ⟨s1, s2⟩ := s
  have hC := fun W (hW : Below w0.heap.size w0 W) => shCond_any c d W (hm.kept hW)
  unfold goE
  generalize condE c.abs d = E at hC ⊢
  obtain ⟨kind, goal, id, aa, an, ac, attr, va, vn, vc, value, acc, ca, cn, cc, conds⟩ := c
  unfold CondR.val at hC ⊢
  simp only at hC ⊢
  have hw1 : Below w0.heap.size w0 (w.alloc (.cells #[.int .i64 kind, .bool goal, .string id, .slice aa an ac, .slice va vn vc, .bool acc, .slice ca cn cc] 60)) := hb.alloc hb.size _
  have HCC := Lib.hid (hC _ hw1)
  have hb1 := below_new w (.cells #[.int .i64 kind, .bool goal, .string id, .slice aa an ac, .slice va vn vc, .bool acc, .slice ca cn cc] 60)
  have HB1 := Lib.hid hb1
  have HXE := Lib.hid (boxed_below hxe hb1)
  have HXP := Lib.hid (boxed_below hxp hb1)
  have HB := Lib.hid hb
  have HNE := Lib.hid hne
  have HN1 := Lib.hid hne1
  have HN2 := Lib.hid hnp1
  clear hm hC hb hxe hxp hne hne1 hnp1 hw1 hb1
  by_cases h0 : E = 0
  · subst h0
    rw [if_pos rfl]
    go_enter Try.func103, Try.ntmps103
    go_wp2_with (go_at_call 104; refine HCC.out.mono ?_; rintro e w2 ⟨rfl, b2⟩; have HE2 := Lib.hid (boxed_below HXE.out b2); have HP2 := Lib.hid (boxed_below HXP.out b2); have ce := HE2.out.cell; have fe := HE2.out.frozen; have HB2 := Lib.hid (below_trans HB1.out b2))
    go_ret
    refine ⟨rfl, ⟨below_set (HB.out.trans (HB2.out.mono HB.out.size)) HN1.out, HE2.out.set _, HP2.out.other (fun e => HNE.out e.symm) _, HNE.out, HN1.out, HN2.out⟩, ⟨?_, fun j hj hne => ?_⟩⟩
    · simpa [World.setCell] using HB2.out.size
    · rw [Below.heap_setCell _ _ _ _ (fun e => hne (.inl e))]
      exact HB2.out.block j hj
  · rw [if_neg h0]
    have e0 : (E == 0) = false := by simp [h0]
    have e1 : (E != 0) = true := by simp [h0]
    clear h0
    go_enter Try.func103, Try.ntmps103
    go_wp2_with (go_at_call 104; refine HCC.out.mono ?_; rintro e w2 ⟨rfl, b2⟩; have HE2 := Lib.hid (boxed_below HXE.out b2); have HP2 := Lib.hid (boxed_below HXP.out b2); have ce := HE2.out.cell; have fe := HE2.out.frozen; have cp := (HP2.out.other (fun e => HNE.out e.symm) (.int .i64 E)).cell; have fp := (HP2.out.other (fun e => HNE.out e.symm) (.int .i64 E)).frozen; have HB2 := Lib.hid (below_trans HB1.out b2); have ce2 := ((HE2.out.set (.int .i64 E)).other HNE.out (.int .i64 a)).cell)
    go_ret
    refine ⟨rfl, ⟨below_set (below_set (HB.out.trans (HB2.out.mono HB.out.size)) HN1.out) HN2.out, (HE2.out.set _).other HNE.out _, (HP2.out.other (fun e => HNE.out e.symm) _).set _, HNE.out, HN1.out, HN2.out⟩, ⟨?_, fun j hj hne => ?_⟩⟩
    · simpa [World.setCell] using HB2.out.size
    · rw [Below.heap_setCell _ _ _ _ (fun e => hne (.inr e)), Below.heap_setCell _ _ _ _ (fun e => hne (.inl e))]
      exact HB2.out.block j hj
end Go.Proofs.Ytgeaccoobhigcaa
