/-
  shape.Shape: its error.
-/
import Derived.Test.YtgeaccoobhigcaaS30
import Derived.Deep.QuietTactic
import Derived.BigQuiet
import Derived.Test.YtgeaccoobhigcaaLw
namespace Go.Proofs.Ytgeaccoobhigcaa
open Go Go.RowKit

theorem nineteen_cells {W : World} {g o : Nat} {a : Ac} (h : ∀ j u, a.cells[j]? = some u → W.cell? ⟨g, o + j, none⟩ = some u) :
    W.cell? ⟨g, o, none⟩ = some (.string a.id) ∧ W.cell? ⟨g, o + 1, none⟩ = some (.string a.attr.v) ∧ W.cell? ⟨g, o + 2, none⟩ = some (.int .i64 a.attr.s.k) ∧ W.cell? ⟨g, o + 3, none⟩ = some (.string a.attr.s.t) ∧ W.cell? ⟨g, o + 4, none⟩ = some (.int .i64 a.attr.s.n) ∧ W.cell? ⟨g, o + 5, none⟩ = some (.int .i64 a.value.op) ∧
    W.cell? ⟨g, o + 6, none⟩ = some (.string a.value.a.v) ∧ W.cell? ⟨g, o + 7, none⟩ = some (.int .i64 a.value.a.s.k) ∧ W.cell? ⟨g, o + 8, none⟩ = some (.string a.value.a.s.t) ∧ W.cell? ⟨g, o + 9, none⟩ = some (.int .i64 a.value.a.s.n) ∧ W.cell? ⟨g, o + 10, none⟩ = some (.string a.value.b.v) ∧ W.cell? ⟨g, o + 11, none⟩ = some (.int .i64 a.value.b.s.k) ∧ W.cell? ⟨g, o + 12, none⟩ = some (.string a.value.b.s.t) ∧ W.cell? ⟨g, o + 13, none⟩ = some (.int .i64 a.value.b.s.n) ∧
    W.cell? ⟨g, o + 14, none⟩ = some (.int .i64 a.pref) ∧ W.cell? ⟨g, o + 15, none⟩ = some (.string a.other.v) ∧ W.cell? ⟨g, o + 16, none⟩ = some (.int .i64 a.other.s.k) ∧ W.cell? ⟨g, o + 17, none⟩ = some (.string a.other.s.t) ∧ W.cell? ⟨g, o + 18, none⟩ = some (.int .i64 a.other.s.n) :=
  ⟨h 0 _ rfl, h 1 _ rfl, h 2 _ rfl, h 3 _ rfl, h 4 _ rfl, h 5 _ rfl, h 6 _ rfl, h 7 _ rfl, h 8 _ rfl, h 9 _ rfl, h 10 _ rfl, h 11 _ rfl, h 12 _ rfl, h 13 _ rfl, h 14 _ rfl, h 15 _ rfl, h 16 _ rfl, h 17 _ rfl, h 18 _ rfl⟩

theorem past2 (w : World) (o1 o2 : Obj) {b : Nat} (h : b < w.heap.size) (j : Nat) : ((w.alloc o1).alloc o2).cell? ⟨b, j, none⟩ = w.cell? ⟨b, j, none⟩ :=
  (below_trans (below_new w o1) (below_new _ o2)).cell (p := ⟨b, j, none⟩) h
theorem stE_new (w3 : World) : StE w3 (w3.heap.size + 1) w3.heap.size (0, -1) ((w3.alloc (.cells #[.int .i64 (-1)] 3)).alloc (.cells #[.int .i64 0] 51)) := by
  have h1 := Boxed.new w3 3 (.int .i64 (-1))
  have h2 := Boxed.new (w3.alloc (.cells #[.int .i64 (-1)] 3)) 51 (.int .i64 0)
  rw [World.size_alloc] at h2
  exact ⟨below_trans (below_new _ _) (below_new _ _), h2, h1.alloc _, by omega, by omega, Nat.le_refl _⟩

set_option maxRecDepth 100000 in
set_option maxHeartbeats 8000000 in
theorem shShape_bad (p : ProdR) (w : World) (h : p.Mem w) (hn : condsN p.conds ≤ 1000000) (hyp : ¬ (1 ≤ condsN p.conds ∧ condsN p.conds ≤ 16 ∧ 1 ≤ p.an ∧ p.an ≤ 16)) : Calls Try.prog 64 #[p.val] w fun e w' => ErrIs (shapeE p.abs) e ∧ Below w.heap.size w w' := by
  obtain ⟨hname, hsc, hco, hsa, hac⟩ := h
  obtain ⟨name, ca, cn, cc, conds, aa, an, ac, acts⟩ := p
  unfold ProdR.val shapeE ProdR.abs
  simp only at hname hsc hco hsa hac hn hyp ⊢
  have hal := actsMem_len hsa
  rw [hal, ← condsN_abs]
  have hW := fun w => word_any name hname w
  generalize wordB name.data.toList = W at hW ⊢
  obtain ⟨E, hE⟩ : ∃ E, E = shapeEq W (condsN conds) an (firstEs (absL conds) 0) (acts.all actB) := ⟨_, rfl⟩
  rw [← hE]
  have hmf : ∀ (fn : Fn) (first cap : Array Value) (w : World), (Instr.makeFunc fn first cap).run Try.prog w = .ok (.func fn first cap) w := fun _ _ _ _ => rfl
  have HE := Lib.hid hE
  have HW := Lib.hid hW
  have HAL := Lib.hid hal
  have hb0 := below_new w (.cells #[.string name, .slice ca cn cc, .slice aa an ac] 48)
  have HB0 := Lib.hid hb0
  clear hE hW hal
  rcases W with _ | _
  · obtain rfl : E = 2 := by rw [HE.out]; simp [shapeEq]
    clear HE
    go_enter Try.func64, Try.ntmps64
    go_wp2_with (go_at_call 100; refine (HW.out _).mono ?_; rintro e w2 ⟨rfl, rfl⟩)
    go_ret2
    exact ⟨⟨_, rfl⟩, HB0.out⟩
  · have hstn : StN (w.alloc (.cells #[.string name, .slice ca cn cc, .slice aa an ac] 48)) (w.heap.size + 1) 0 ((w.alloc (.cells #[.string name, .slice ca cn cc, .slice aa an ac] 48)).alloc (.cells #[.int .i64 0] 3)) := by
      refine ⟨below_new _ _, ?_, by simp⟩
      have := Boxed.new (w.alloc (.cells #[.string name, .slice ca cn cc, .slice aa an ac] 48)) 3 (.int .i64 0)
      rwa [World.size_alloc] at this
    obtain ⟨N, hN1, hN2, r, q, hwk⟩ := walkN (hsc.kept hb0) (fun c hc => (hco c hc).kept hb0) hn (w.heap.size + 1) _ hstn
    have HWK := Lib.hid hwk
    have HN1 := Lib.hid hN1
    have HN2 := Lib.hid hN2
    clear hwk hN1 hN2 hstn hb0
    rcases (show (N < 1) ∨ (¬ N < 1 ∧ 16 < N) ∨ (¬ N < 1 ∧ ¬ 16 < N) by omega) with g1 | ⟨g1, g2⟩ | ⟨g1, g2⟩
    · obtain rfl : E = 7 := by rw [HE.out]; simp [shapeEq, HN1.out.1 g1]
      clear HE
      go_enter Try.func64, Try.ntmps64
      go_wp2_with (first | (go_at_call 100; refine (HW.out _).mono ?_; rintro e w2 ⟨rfl, rfl⟩) | (go_at_call 101; refine HWK.out.mono ?_; rintro e w3 ⟨rfl, hst3⟩; have x3 := hst3.box.cell; have HST3 := Lib.hid hst3; clear hst3))
      go_ret2
      exact ⟨⟨_, rfl⟩, HB0.out.trans (HST3.out.below.mono HB0.out.size)⟩
    · obtain rfl : E = 7 := by rw [HE.out]; simp [shapeEq, HN2.out.1 g2]
      clear HE
      go_enter Try.func64, Try.ntmps64
      go_wp2_with (first | (go_at_call 100; refine (HW.out _).mono ?_; rintro e w2 ⟨rfl, rfl⟩) | (go_at_call 101; refine HWK.out.mono ?_; rintro e w3 ⟨rfl, hst3⟩; have x3 := hst3.box.cell; have HST3 := Lib.hid hst3; clear hst3))
      go_ret2
      exact ⟨⟨_, rfl⟩, HB0.out.trans (HST3.out.below.mono HB0.out.size)⟩
    · have hc1 : ¬ condsN conds < 1 := fun h => g1 (HN1.out.2 h)
      have hc2 : ¬ 16 < condsN conds := fun h => g2 (HN2.out.2 h)
      rcases (show ((an : Int) < 1) ∨ (¬ (an : Int) < 1 ∧ 16 < (an : Int)) ∨ (¬ (an : Int) < 1 ∧ ¬ 16 < (an : Int)) by omega) with g3 | ⟨g3, g4⟩ | ⟨g3, g4⟩
      · obtain rfl : E = 7 := by rw [HE.out]; simp [shapeEq]; omega
        clear HE hc1 hc2
        go_enter Try.func64, Try.ntmps64
        go_wp2_with (first | (go_at_call 100; refine (HW.out _).mono ?_; rintro e w2 ⟨rfl, rfl⟩) | (go_at_call 101; refine HWK.out.mono ?_; rintro e w3 ⟨rfl, hst3⟩; have x3 := hst3.box.cell; have x2 := (BoxC.below (BoxC.new w [.string name, .slice ca cn cc, .slice aa an ac] 48) hst3.below).at_ (j := 2) rfl; have HST3 := Lib.hid hst3; clear hst3))
        go_ret2
        exact ⟨⟨_, rfl⟩, HB0.out.trans (HST3.out.below.mono HB0.out.size)⟩
      · obtain rfl : E = 7 := by rw [HE.out]; simp [shapeEq]; omega
        clear HE hc1 hc2
        go_enter Try.func64, Try.ntmps64
        go_wp2_with (first | (go_at_call 100; refine (HW.out _).mono ?_; rintro e w2 ⟨rfl, rfl⟩) | (go_at_call 101; refine HWK.out.mono ?_; rintro e w3 ⟨rfl, hst3⟩; have x3 := hst3.box.cell; have x2 := (BoxC.below (BoxC.new w [.string name, .slice ca cn cc, .slice aa an ac] 48) hst3.below).at_ (j := 2) rfl; have HST3 := Lib.hid hst3; clear hst3))
        go_ret2
        exact ⟨⟨_, rfl⟩, HB0.out.trans (HST3.out.below.mono HB0.out.size)⟩
      · exfalso; omega

set_option maxRecDepth 100000 in
set_option maxHeartbeats 8000000 in
theorem shShape_err (p : ProdR) (w : World) (h : p.Mem w) (hn : condsN p.conds ≤ 1000000) (hyp : (1 ≤ condsN p.conds ∧ condsN p.conds ≤ 16 ∧ 1 ≤ p.an ∧ p.an ≤ 16)) (hf : firstEs (absL p.conds) 0 ≠ 0) : Calls Try.prog 64 #[p.val] w fun e w' => ErrIs (shapeE p.abs) e ∧ Below w.heap.size w w' := by
  obtain ⟨hname, hsc, hco, hsa, hac⟩ := h
  obtain ⟨name, ca, cn, cc, conds, aa, an, ac, acts⟩ := p
  unfold ProdR.val shapeE ProdR.abs
  simp only at hname hsc hco hsa hac hn hyp hf ⊢
  have hal := actsMem_len hsa
  rw [hal, ← condsN_abs]
  have hW := fun w => word_any name hname w
  generalize wordB name.data.toList = W at hW ⊢
  obtain ⟨E, hE⟩ : ∃ E, E = shapeEq W (condsN conds) an (firstEs (absL conds) 0) (acts.all actB) := ⟨_, rfl⟩
  rw [← hE]
  have hmf : ∀ (fn : Fn) (first cap : Array Value) (w : World), (Instr.makeFunc fn first cap).run Try.prog w = .ok (.func fn first cap) w := fun _ _ _ _ => rfl
  have HE := Lib.hid hE
  have HW := Lib.hid hW
  have HAL := Lib.hid hal
  have hb0 := below_new w (.cells #[.string name, .slice ca cn cc, .slice aa an ac] 48)
  have HB0 := Lib.hid hb0
  clear hE hW hal
  rcases W with _ | _
  · obtain rfl : E = 2 := by rw [HE.out]; simp [shapeEq]
    clear HE
    go_enter Try.func64, Try.ntmps64
    go_wp2_with (go_at_call 100; refine (HW.out _).mono ?_; rintro e w2 ⟨rfl, rfl⟩)
    go_ret2
    exact ⟨⟨_, rfl⟩, HB0.out⟩
  · have hstn : StN (w.alloc (.cells #[.string name, .slice ca cn cc, .slice aa an ac] 48)) (w.heap.size + 1) 0 ((w.alloc (.cells #[.string name, .slice ca cn cc, .slice aa an ac] 48)).alloc (.cells #[.int .i64 0] 3)) := by
      refine ⟨below_new _ _, ?_, by simp⟩
      have := Boxed.new (w.alloc (.cells #[.string name, .slice ca cn cc, .slice aa an ac] 48)) 3 (.int .i64 0)
      rwa [World.size_alloc] at this
    obtain ⟨N, hN1, hN2, r, q, hwk⟩ := walkN (hsc.kept hb0) (fun c hc => (hco c hc).kept hb0) hn (w.heap.size + 1) _ hstn
    have HWK := Lib.hid hwk
    have HN1 := Lib.hid hN1
    have HN2 := Lib.hid hN2
    clear hwk hN1 hN2 hstn hb0
    rcases (show (N < 1) ∨ (¬ N < 1 ∧ 16 < N) ∨ (¬ N < 1 ∧ ¬ 16 < N) by omega) with g1 | ⟨g1, g2⟩ | ⟨g1, g2⟩
    · exact absurd (HN1.out.1 g1) (by omega)
    · exact absurd (HN2.out.1 g2) (by omega)
    · have hc1 : ¬ condsN conds < 1 := fun h => g1 (HN1.out.2 h)
      have hc2 : ¬ 16 < condsN conds := fun h => g2 (HN2.out.2 h)
      have g3 : ¬ (an : Int) < 1 := by omega
      have g4 : ¬ 16 < (an : Int) := by omega
      clear hyp
      have HE2 : Hid (E = if firstEs (absL conds) 0 ≠ 0 then firstEs (absL conds) 0 else if acts.all actB = false then 9 else 0) := Lib.hid (by rw [HE.out]; unfold shapeEq; rw [if_neg (by simp), if_neg (by omega)])
      have HSC := Lib.hid hsc
      have HCO := Lib.hid hco
      have HSA := Lib.hid hsa
      have HAC := Lib.hid hac
      obtain ⟨F, hF⟩ : ∃ F, firstEs (absL conds) 0 = F := ⟨_, rfl⟩
      have hcap := hsa.2.1
      have hmx := hsa.2.2.1
      unfold maxLen at hmx
      rw [hF] at HE2
      clear HE hc1 hc2 hsc hco hsa hac
      have tok : True := trivial
      have hF0 : F ≠ 0 := by rw [← hF]; exact hf
      clear hf
      obtain rfl : E = F := by rw [HE2.out, if_pos hF0]
      have e1 : (E != 0) = true := by simp [hF0]
      have e0 : (E == 0) = false := by simp [hF0]
      clear HE2 hF0
      have HF := Lib.hid hF
      clear hF
      go_enter Try.func64, Try.ntmps64
      go_wp2_with (first | (go_at_call 100; refine (HW.out _).mono ?_; rintro e w2 ⟨rfl, rfl⟩) | (go_at_call 101; have _t := tok; refine HWK.out.mono ?_; rintro e w3 ⟨rfl, hst3⟩; have x3 := hst3.box.cell; have hz3 : w.heap.size + 1 < w3.heap.size := hst3.box.lt; have hz4 : w.heap.size < w3.heap.size := Nat.lt_trans (Nat.lt_succ_self _) hz3; have u1 := past2 w3 (.cells #[.int .i64 (-1)] 3) (.cells #[.int .i64 0] 51) hz4; have B3 := BoxC.below (BoxC.new w [.string name, .slice ca cn cc, .slice aa an ac] 48) hst3.below; have x1 := B3.at_ (j := 1) rfl; have x2 := B3.at_ (j := 2) rfl; have HB3 := Lib.hid B3; have HBB := Lib.hid (HB0.out.trans (hst3.below.mono HB0.out.size)); obtain ⟨r2, k, q2, hwe⟩ := walkE (HSC.out.kept HBB.out) (fun c hc => (HCO.out c hc).kept HBB.out) hn (w3.heap.size + 1) w3.heap.size _ (stE_new w3); have HWE := Lib.hid hwe; have HST3 := Lib.hid hst3; clear hst3 hwe B3 tok) | (go_at_call 101; refine HWE.out.mono ?_; rintro e w4 ⟨rfl, hst4⟩; rw [HF.out] at hst4; have y1 := hst4.e.cell; have y2 := hst4.p.cell; have z2 := (BoxC.below HB3.out hst4.below).at_ (j := 2) rfl; have z3 := (boxed_below HST3.out.box hst4.below).cell; have HX4 := Lib.hid (boxed_below HST3.out.box hst4.below); have HBB4 := Lib.hid (HBB.out.trans (hst4.below.mono HBB.out.size)); clear hst4))
      go_quiet (fail)
      go_wp2
      go_ret2
      exact ⟨⟨_, rfl⟩, below_drew HBB4.out _⟩

set_option maxRecDepth 100000 in
set_option maxHeartbeats 8000000 in
theorem shShape_fine (p : ProdR) (w : World) (h : p.Mem w) (hn : condsN p.conds ≤ 1000000) (hyp : (1 ≤ condsN p.conds ∧ condsN p.conds ≤ 16 ∧ 1 ≤ p.an ∧ p.an ≤ 16)) (hf : firstEs (absL p.conds) 0 = 0) : Calls Try.prog 64 #[p.val] w fun e w' => ErrIs (shapeE p.abs) e ∧ Below w.heap.size w w' := by
  obtain ⟨hname, hsc, hco, hsa, hac⟩ := h
  obtain ⟨name, ca, cn, cc, conds, aa, an, ac, acts⟩ := p
  unfold ProdR.val shapeE ProdR.abs
  simp only at hname hsc hco hsa hac hn hyp hf ⊢
  have hal := actsMem_len hsa
  rw [hal, ← condsN_abs]
  have hW := fun w => word_any name hname w
  generalize wordB name.data.toList = W at hW ⊢
  obtain ⟨E, hE⟩ : ∃ E, E = shapeEq W (condsN conds) an (firstEs (absL conds) 0) (acts.all actB) := ⟨_, rfl⟩
  rw [← hE]
  have hmf : ∀ (fn : Fn) (first cap : Array Value) (w : World), (Instr.makeFunc fn first cap).run Try.prog w = .ok (.func fn first cap) w := fun _ _ _ _ => rfl
  have HE := Lib.hid hE
  have HW := Lib.hid hW
  have HAL := Lib.hid hal
  have hb0 := below_new w (.cells #[.string name, .slice ca cn cc, .slice aa an ac] 48)
  have HB0 := Lib.hid hb0
  clear hE hW hal
  rcases W with _ | _
  · obtain rfl : E = 2 := by rw [HE.out]; simp [shapeEq]
    clear HE
    go_enter Try.func64, Try.ntmps64
    go_wp2_with (go_at_call 100; refine (HW.out _).mono ?_; rintro e w2 ⟨rfl, rfl⟩)
    go_ret2
    exact ⟨⟨_, rfl⟩, HB0.out⟩
  · have hstn : StN (w.alloc (.cells #[.string name, .slice ca cn cc, .slice aa an ac] 48)) (w.heap.size + 1) 0 ((w.alloc (.cells #[.string name, .slice ca cn cc, .slice aa an ac] 48)).alloc (.cells #[.int .i64 0] 3)) := by
      refine ⟨below_new _ _, ?_, by simp⟩
      have := Boxed.new (w.alloc (.cells #[.string name, .slice ca cn cc, .slice aa an ac] 48)) 3 (.int .i64 0)
      rwa [World.size_alloc] at this
    obtain ⟨N, hN1, hN2, r, q, hwk⟩ := walkN (hsc.kept hb0) (fun c hc => (hco c hc).kept hb0) hn (w.heap.size + 1) _ hstn
    have HWK := Lib.hid hwk
    have HN1 := Lib.hid hN1
    have HN2 := Lib.hid hN2
    clear hwk hN1 hN2 hstn hb0
    rcases (show (N < 1) ∨ (¬ N < 1 ∧ 16 < N) ∨ (¬ N < 1 ∧ ¬ 16 < N) by omega) with g1 | ⟨g1, g2⟩ | ⟨g1, g2⟩
    · exact absurd (HN1.out.1 g1) (by omega)
    · exact absurd (HN2.out.1 g2) (by omega)
    · have hc1 : ¬ condsN conds < 1 := fun h => g1 (HN1.out.2 h)
      have hc2 : ¬ 16 < condsN conds := fun h => g2 (HN2.out.2 h)
      have g3 : ¬ (an : Int) < 1 := by omega
      have g4 : ¬ 16 < (an : Int) := by omega
      clear hyp
      have HE2 : Hid (E = if firstEs (absL conds) 0 ≠ 0 then firstEs (absL conds) 0 else if acts.all actB = false then 9 else 0) := Lib.hid (by rw [HE.out]; unfold shapeEq; rw [if_neg (by simp), if_neg (by omega)])
      have HSC := Lib.hid hsc
      have HCO := Lib.hid hco
      have HSA := Lib.hid hsa
      have HAC := Lib.hid hac
      obtain ⟨F, hF⟩ : ∃ F, firstEs (absL conds) 0 = F := ⟨_, rfl⟩
      have hcap := hsa.2.1
      have hmx := hsa.2.2.1
      unfold maxLen at hmx
      rw [hF] at HE2
      clear HE hc1 hc2 hsc hco hsa hac
      have tok : True := trivial
      obtain rfl : F = 0 := by rw [← hF]; exact hf
      clear hf
      have HE3 : Hid (E = if acts.all actB = false then 9 else 0) := Lib.hid (by rw [HE2.out, if_neg (by simp)])
      clear HE2
      have HF := Lib.hid hF
      clear hF
      go_enter Try.func64, Try.ntmps64
      go_wp2_with (first | (go_at_call 100; refine (HW.out _).mono ?_; rintro e w2 ⟨rfl, rfl⟩) | (go_at_call 101; have _t := tok; refine HWK.out.mono ?_; rintro e w3 ⟨rfl, hst3⟩; have x3 := hst3.box.cell; have hz3 : w.heap.size + 1 < w3.heap.size := hst3.box.lt; have hz4 : w.heap.size < w3.heap.size := Nat.lt_trans (Nat.lt_succ_self _) hz3; have u1 := past2 w3 (.cells #[.int .i64 (-1)] 3) (.cells #[.int .i64 0] 51) hz4; have B3 := BoxC.below (BoxC.new w [.string name, .slice ca cn cc, .slice aa an ac] 48) hst3.below; have x1 := B3.at_ (j := 1) rfl; have x2 := B3.at_ (j := 2) rfl; have HB3 := Lib.hid B3; have HBB := Lib.hid (HB0.out.trans (hst3.below.mono HB0.out.size)); obtain ⟨r2, k, q2, hwe⟩ := walkE (HSC.out.kept HBB.out) (fun c hc => (HCO.out c hc).kept HBB.out) hn (w3.heap.size + 1) w3.heap.size _ (stE_new w3); have HWE := Lib.hid hwe; have HST3 := Lib.hid hst3; clear hst3 hwe B3 tok) | (go_at_call 101; refine HWE.out.mono ?_; rintro e w4 ⟨rfl, hst4⟩; rw [HF.out] at hst4; have y1 := hst4.e.cell; have y2 := hst4.p.cell; have z2 := (BoxC.below HB3.out hst4.below).at_ (j := 2) rfl; have z3 := (boxed_below HST3.out.box hst4.below).cell; have HX4 := Lib.hid (boxed_below HST3.out.box hst4.below); have HBB4 := Lib.hid (HBB.out.trans (hst4.below.mono HBB.out.size)); clear hst4))
      go_loopw [46] (fun ti wr => ∃ i : Nat, i ≤ an ∧ ti = .int .i64 i ∧ Hid ((acts.take i).all actB = true) ∧ Below w.heap.size w wr ∧ Boxed wr (w.heap.size + 1) 3 (.int .i64 N)) (fun ti _ => an - (intOf ti).toNat)
      case atStart => exact ⟨0, by omega, rfl, Lib.hid (by simp), HBB4.out, HX4.out⟩
      case round => as_aux_lemma =>
        obtain ⟨i, hi, rfl, HT, hb, hx⟩ := hrel
        have xn := hx.cell
        have HX := Lib.hid hx
        clear hx
        by_cases hlt : i < an
        · obtain ⟨a, ha⟩ : ∃ a, acts[i]? = some a := ⟨_, List.getElem?_eq_getElem (by rw [HAL.out]; exact hlt)⟩
          have hm := List.mem_of_getElem? ha
          obtain ⟨g, o, rfl, hcell⟩ := (HSA.out.kept hb).row_at ac_len (by omega) ha
          have HAT := Lib.hid (all_take (p := actB) ha)
          have HAF := Lib.hid (all_false (p := actB) ha)
          have hA := fun w => shAct_any a (HAC.out a hm) w
          have hcl : a.cells.length = 19 := rfl
          have hc1 : a.cells.toArray.all (·.oneCell') = true := by simp [Ac.cells, Am.cells, Sm.cells, Tm.cells, Value.oneCell']
          have hcc : ∀ j u, a.cells[j]? = some u → wr.cell? ((⟨g, o + i * 19, none⟩ : Addr).add j) = some u := fun j u h => by rw [addr_add_lit]; exact hcell j u h
          rw [show a.val = .agg a.cells.toArray from rfl] at hA
          generalize a.cells = C at hcl hc1 hcc hA
          have HA := Lib.hid hA
          have HCL := Lib.hid hcl
          have HC1 := Lib.hid hc1
          have HCC := Lib.hid hcc
          have HAA := Lib.hid ha
          have hzr : w.heap.size + 1 < wr.heap.size := HX.out.lt
          clear ha hA hcell hm hcl hc1 hcc
          rcases hB : actB a with _ | _
          · obtain rfl : E = 9 := by rw [HE3.out, HAF.out hB]; rfl
            rw [hB] at HA
            clear hB HE3
            go_wp2_with (first | (refine wpList_load_agg (o := ⟨some 50, _, _, _, _, _⟩) agg69 rfl _ rfl ⟨g, o + i * 19, none⟩ rfl C HCC.out HCL.out ?_) | (refine wpList_load_agg (o := ⟨some 51, _, _, _, _, _⟩) agg69 rfl _ rfl ⟨wr.heap.size, 0, none⟩ rfl C (new_cells wr C 69) HCL.out ?_) | (refine wpList_store_agg (o := ⟨none, .store 69 _ _, _, _, _, _⟩) agg69 rfl _ _ rfl C.toArray 69 _ rfl rfl (by simp [HCL.out]) rfl HC1.out ?_) | (go_at_call 105; refine (HA.out _).mono ?_; rintro e w5 ⟨rfl, b5⟩; have bb : Below wr.heap.size wr w5 := (below_new wr _).trans (b5.mono (by simp)); have xn5 := (boxed_below HX.out bb).cell))
            go_ret2
            exact ⟨⟨_, rfl⟩, hb.trans (bb.mono hb.size)⟩
          · have HAT2 : Hid ((acts.take (i + 1)).all actB = true) := Lib.hid (by rw [HAT.out, HT.out, hB]; rfl)
            rw [hB] at HA
            clear hB
            go_wp2_with (first | (refine wpList_load_agg (o := ⟨some 50, _, _, _, _, _⟩) agg69 rfl _ rfl ⟨g, o + i * 19, none⟩ rfl C HCC.out HCL.out ?_) | (refine wpList_load_agg (o := ⟨some 51, _, _, _, _, _⟩) agg69 rfl _ rfl ⟨wr.heap.size, 0, none⟩ rfl C (new_cells wr C 69) HCL.out ?_) | (refine wpList_store_agg (o := ⟨none, .store 69 _ _, _, _, _, _⟩) agg69 rfl _ _ rfl C.toArray 69 _ rfl rfl (by simp [HCL.out]) rfl HC1.out ?_) | (go_at_call 105; refine (HA.out _).mono ?_; rintro e w5 ⟨rfl, b5⟩; have bb : Below wr.heap.size wr w5 := (below_new wr _).trans (b5.mono (by simp)); have HX5 := Lib.hid (boxed_below HX.out bb)))
            go_roundw
            case rel => exact ⟨i + 1, by omega, by go_num, HAT2, hb.trans (bb.mono hb.size), HX5.out⟩
            case measure => simp [intOf]; omega
        · obtain rfl : i = an := by omega
          obtain rfl : E = 0 := by rw [HE3.out]; have := HT.out; rw [List.take_of_length_le (by rw [HAL.out]; omega)] at this; rw [this]; rfl
          clear HE3
          go_wp2
          go_ret2
          exact ⟨⟨_, rfl⟩, hb⟩

theorem shShape_any (p : ProdR) (w : World) (h : p.Mem w) (hn : condsN p.conds ≤ 1000000) : Calls Try.prog 64 #[p.val] w fun e w' => ErrIs (shapeE p.abs) e ∧ Below w.heap.size w w' := by
  by_cases hyp : 1 ≤ condsN p.conds ∧ condsN p.conds ≤ 16 ∧ 1 ≤ p.an ∧ p.an ≤ 16
  · by_cases hf : firstEs (absL p.conds) 0 = 0
    · exact shShape_fine p w h hn hyp hf
    · exact shShape_err p w h hn hyp hf
  · exact shShape_bad p w h hn hyp
end Go.Proofs.Ytgeaccoobhigcaa
