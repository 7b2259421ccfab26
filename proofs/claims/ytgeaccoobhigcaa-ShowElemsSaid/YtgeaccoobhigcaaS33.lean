/-
  ponderref06.Shape: its error.
-/
import Derived.Test.YtgeaccoobhigcaaS32
import Derived.Test.YtgeaccoobhigcaaS23
import Derived.Test.YtgeaccoobhigcaaLw
namespace Go.Proofs.Ytgeaccoobhigcaa
open Go Go.RowKit

theorem ac_one (a : Ac) : a.cells.toArray.all (·.oneCell') = true := by simp [Ac.cells, Am.cells, Sm.cells, Tm.cells, Value.oneCell']

set_option maxRecDepth 100000 in
set_option maxHeartbeats 8000000 in
theorem rShape_any (p : ProdR) (w : World) (h : p.Mem w) (hn : condsN p.conds ≤ 1000000) : Calls Try.prog 37 #[p.val] w fun e w' => ErrIs (shapeE p.abs) e ∧ Below w.heap.size w w' := by
  obtain ⟨hname, hsc, hco, hsa, hac⟩ := h
  obtain ⟨name, ca, cn, cc, conds, aa, an, ac, acts⟩ := p
  unfold ProdR.val shapeE ProdR.abs
  simp only at hname hsc hco hsa hac hn ⊢
  have hal := actsMem_len hsa
  rw [hal, ← condsN_abs]
  have hW := fun w => rword_any name hname w
  generalize wordB name.data.toList = W at hW ⊢
  obtain ⟨E, hE⟩ : ∃ E, E = shapeEq W (condsN conds) an (firstEs (absL conds) 0) (acts.all actB) := ⟨_, rfl⟩
  rw [← hE]
  have hb0 := below_new w (.cells #[.string name, .slice ca cn cc, .slice aa an ac] 48)
  have hZ := rSize_any (condsN conds + 1) conds (by omega) hn ca cn cc _ (hsc.kept hb0) (fun c h => (hco c h).kept hb0)
  have hI := rConds_any (condsN conds + 1) conds (by omega) ca cn cc 0 0 _ (hsc.kept hb0) (fun c h => (hco c h).kept hb0) (by omega) (by omega) (by omega) (by omega)
  have hbx := BoxC.new w [.string name, .slice ca cn cc, .slice aa an ac] 48
  have hcap := hsa.2.1
  have hmx := hsa.2.2.1
  unfold maxLen at hmx
  generalize firstEs (absL conds) 0 = F at hI hE
  have HE := Lib.hid hE
  have HW := Lib.hid hW
  have HAL := Lib.hid hal
  have HZ := Lib.hid hZ
  have HI := Lib.hid hI
  have HSA := Lib.hid hsa
  have HAC := Lib.hid hac
  have HB0 := Lib.hid hb0
  have HBX : Hid (BoxC (w.alloc (.cells #[.string name, .slice ca cn cc, .slice aa an ac] 48)) w.heap.size 48 [.string name, .slice ca cn cc, .slice aa an ac]) := Lib.hid hbx
  have hlz : w.heap.size < (w.alloc (.cells #[.string name, .slice ca cn cc, .slice aa an ac] 48)).heap.size := by simp
  clear hE hW hal hZ hI hsc hco hsa hac hb0 hbx
  generalize condsN conds = M at HZ HE hn
  rcases W with _ | _
  · obtain rfl : E = 2 := by rw [HE.out]; simp [shapeEq]
    clear HE
    go_enter Try.func37, Try.ntmps37
    go_wp2_with (go_at_call 67; refine (HW.out _).mono ?_; rintro e w2 ⟨rfl, rfl⟩)
    go_ret2
    exact ⟨⟨_, rfl⟩, HB0.out⟩
  · by_cases hbad : ((M : Int) < 1) ∨ (¬ (M : Int) < 1 ∧ 16 < (M : Int)) ∨ (¬ (M : Int) < 1 ∧ ¬ 16 < (M : Int) ∧ (an : Int) < 1) ∨ (¬ (M : Int) < 1 ∧ ¬ 16 < (M : Int) ∧ ¬ (an : Int) < 1 ∧ 16 < (an : Int))
    · obtain rfl : E = 7 := by rw [HE.out]; unfold shapeEq; rw [if_neg (by simp), if_pos (by omega)]
      clear HE
      rcases hbad with g1 | ⟨g1, g2⟩ | ⟨g1, g2, g3⟩ | ⟨g1, g2, g3, g4⟩
      all_goals
        go_enter Try.func37, Try.ntmps37
        go_wp2_with (first | (go_at_call 67; refine (HW.out _).mono ?_; rintro e w2 ⟨rfl, rfl⟩) | (go_at_call 68; refine HZ.out.mono ?_; rintro e w3 ⟨rfl, rfl⟩))
        go_ret2
        exact ⟨⟨_, rfl⟩, HB0.out⟩
    · have g1 : ¬ (M : Int) < 1 := by omega
      have g2 : ¬ 16 < (M : Int) := by omega
      have g3 : ¬ (an : Int) < 1 := by omega
      have g4 : ¬ 16 < (an : Int) := by omega
      have HE2 : Hid (E = if F ≠ 0 then F else if acts.all actB = false then 9 else 0) := Lib.hid (by rw [HE.out]; unfold shapeEq; rw [if_neg (by simp), if_neg (by omega)])
      clear HE hbad
      by_cases hF0 : F = 0
      · subst hF0
        have HE3 : Hid (E = if acts.all actB = false then 9 else 0) := Lib.hid (by rw [HE2.out, if_neg (by simp)])
        clear HE2
        go_enter Try.func37, Try.ntmps37
        go_wp2_with (first | (go_at_call 67; refine (HW.out _).mono ?_; rintro e w2 ⟨rfl, rfl⟩) | (go_at_call 68; refine HZ.out.mono ?_; rintro e w3 ⟨rfl, rfl⟩) | (go_at_call 69; refine HI.out.mono ?_; rintro e w4 ⟨⟨k4, rfl⟩, b4⟩; have HB4 := Lib.hid (below_trans HB0.out b4); have HX4 := Lib.hid (HBX.out.below b4); clear b4))
        go_loopw [7] (fun ti wr => ∃ i : Nat, i ≤ an ∧ ti = .int .i64 i ∧ Hid ((acts.take i).all actB = true) ∧ Below w.heap.size w wr ∧ Hid (BoxC wr w.heap.size 48 [.string name, .slice ca cn cc, .slice aa an ac])) (fun ti _ => an - (intOf ti).toNat)
        case atStart => exact ⟨0, by omega, rfl, Lib.hid (by simp), HB4.out, HX4⟩
        case round => as_aux_lemma =>
          obtain ⟨i, hi, rfl, HT, hb, HX⟩ := hrel
          have x2 := HX.out.at_ (j := 2) rfl
          by_cases hlt : i < an
          · obtain ⟨a, ha⟩ : ∃ a, acts[i]? = some a := ⟨_, List.getElem?_eq_getElem (by rw [HAL.out]; exact hlt)⟩
            have hm := List.mem_of_getElem? ha
            obtain ⟨g, o, rfl, hcell⟩ := (HSA.out.kept hb).row_at ac_len (by omega) ha
            have HAT := Lib.hid (all_take (p := actB) ha)
            have HAF := Lib.hid (all_false (p := actB) ha)
            have hA := fun w => rAct_any a (HAC.out a hm) w
            have hcl : a.cells.length = 19 := rfl
            have hc1 := ac_one a
            have hcc : ∀ j u, a.cells[j]? = some u → wr.cell? ((⟨g, o + i * 19, none⟩ : Addr).add j) = some u := fun j u h => by rw [addr_add_lit]; exact hcell j u h
            rw [show a.val = .agg a.cells.toArray from rfl] at hA
            generalize a.cells = C at hcl hc1 hcc hA
            have HA := Lib.hid hA
            have HCL := Lib.hid hcl
            have HC1 := Lib.hid hc1
            have HCC := Lib.hid hcc
            have HAA := Lib.hid ha
            clear ha hA hcell hm hcl hc1 hcc
            rcases hB : actB a with _ | _
            · obtain rfl : E = 9 := by rw [HE3.out, HAF.out hB]; rfl
              rw [hB] at HA
              clear hB HE3
              go_wp2_with (first | (refine wpList_load_agg (o := ⟨some 54, _, _, _, _, _⟩) agg69 rfl _ rfl ⟨g, o + i * 19, none⟩ rfl C HCC.out HCL.out ?_) | (go_at_call 70; refine (HA.out _).mono ?_; rintro e w5 ⟨rfl, b5⟩))
              go_ret2
              exact ⟨⟨_, rfl⟩, hb.trans (b5.mono hb.size)⟩
            · have HAT2 : Hid ((acts.take (i + 1)).all actB = true) := Lib.hid (by rw [HAT.out, HT.out, hB]; rfl)
              rw [hB] at HA
              clear hB
              go_wp2_with (first | (refine wpList_load_agg (o := ⟨some 54, _, _, _, _, _⟩) agg69 rfl _ rfl ⟨g, o + i * 19, none⟩ rfl C HCC.out HCL.out ?_) | (go_at_call 70; refine (HA.out _).mono ?_; rintro e w5 ⟨rfl, b5⟩))
              go_roundw
              case rel => exact ⟨i + 1, by omega, by go_num, HAT2, hb.trans (b5.mono hb.size), Lib.hid (HX.out.below b5)⟩
              case measure => simp [intOf]; omega
          · obtain rfl : i = an := by omega
            obtain rfl : E = 0 := by rw [HE3.out]; have := HT.out; rw [List.take_of_length_le (by rw [HAL.out]; omega)] at this; rw [this]; rfl
            clear HE3
            go_wp2
            go_ret2
            exact ⟨⟨_, rfl⟩, hb⟩
      · obtain rfl : E = F := by rw [HE2.out, if_pos hF0]
        have e1 : (E != 0) = true := by simp [hF0]
        have e0 : (E == 0) = false := by simp [hF0]
        clear HE2 hF0
        go_enter Try.func37, Try.ntmps37
        go_wp2_with (first | (go_at_call 67; refine (HW.out _).mono ?_; rintro e w2 ⟨rfl, rfl⟩) | (go_at_call 68; refine HZ.out.mono ?_; rintro e w3 ⟨rfl, rfl⟩) | (go_at_call 69; refine HI.out.mono ?_; rintro e w4 ⟨⟨k4, rfl⟩, b4⟩; have HB4 := Lib.hid (below_trans HB0.out b4); clear b4))
        go_ret2
        exact ⟨⟨_, rfl⟩, HB4.out⟩
end Go.Proofs.Ytgeaccoobhigcaa
