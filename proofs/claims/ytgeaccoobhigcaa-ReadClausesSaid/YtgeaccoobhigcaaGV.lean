/-
  The walk of the law ReadBack.
-/
import Derived.Test.YtgeaccoobhigcaaGE
import Derived.Test.YtgeaccoobhigcaaGF
import Derived.Test.YtgeaccoobhigcaaG6
import Derived.Test.YtgeaccoobhigcaaG8
import Derived.Test.YtgeaccoobhigcaaG7
namespace Go.Proofs.Ytgeaccoobhigcaa
open Go Go.RowKit

theorem one_of {p : Pd} {ts ts' : List Tk} (h : shapeE p = 0) (hp : pProd ts = .ok p ts') (hk : ts'.map Tk.kt = [(5, [])]) : oneR ts = (some p, -1, 0) := by
  unfold oneR
  rw [hp]
  simp only
  rw [if_pos h, if_pos]
  exact congrArg Prod.fst (hd_of (R := []) hk).1
theorem one_back {p : Pd} (h : shapeE p = 0) : oneR (toks (prodT p).data.toList) = (some p, -1, 0) := by
  obtain ⟨ts', h1, h2⟩ := prod_back h []
  rw [List.append_nil] at h1
  exact one_of h h1 h2
set_option maxRecDepth 100000 in
set_option maxHeartbeats 4000000 in
theorem readBack_walk (p : ProdR) (w : World) (h : p.Mem w) : Calls Try.prog 17 #[p.val] w fun x w' => x = .returned (.bool true) ∧ Below w.heap.size w w' := by
  have hH := fun W (hW : Below w.heap.size w W) => heavy_any p W (h.kept hW)
  have hS := fun hn W (hW : Below w.heap.size w W) => showProd_any p W (h.kept hW) hn
  have HM := Lib.hid h
  have hlt : p.Light → condsN p.conds ≤ 1000000 := fun hl => by have := hl.n; omega
  obtain ⟨name, ca, cn, cc, conds, aa, an, ac, acts⟩ := p
  have hv : ProdR.val ⟨name, ca, cn, cc, conds, aa, an, ac, acts⟩ = .agg #[.string name, .slice ca cn cc, .slice aa an ac] := rfl
  rw [hv] at hH hS ⊢
  have hbb := below_new w (.cells #[.string name, .slice ca cn cc, .slice aa an ac] 48)
  have hx0 : BoxC (w.alloc (.cells #[.string name, .slice ca cn cc, .slice aa an ac] 48)) w.heap.size 48 [.string name, .slice ca cn cc, .slice aa an ac] := BoxC.new w _ 48
  have HH := Lib.hid hH
  have HS := Lib.hid hS
  have HL := Lib.hid hlt
  have HBB := Lib.hid hbb
  have HX := Lib.hid hx0
  clear hH hS hlt hbb hx0 h hv
  go_enter Try.func17, Try.ntmps17
  go_wp2_with fail
  refine (HH.out _ HBB.out).mono ?_
  rintro e w2 ⟨⟨b, rfl, hb⟩, b2⟩
  have HB := Lib.hid hb
  have HBB2 := Lib.hid (below_trans HBB.out b2)
  have HX2 := Lib.hid (HX.out.below b2)
  clear hb b2
  cases b with
  | true =>
    go_wp2_with (go_at_call 49; refine (wakes8_any _).mono ?_; rintro e w3 ⟨rfl, b3⟩)
    go_ret
    exact ⟨rfl, below_trans HBB2.out b3⟩
  | false =>
    have hn := HL.out (HB.out rfl)
    have HS2 := Lib.hid (HS.out hn)
    obtain ⟨x0, x1, x2⟩ := three_box HX2.out
    clear HS HH HB HX hn
    go_wp2_with fail
    refine (HS2.out _ HBB2.out).mono ?_
    rintro e w3 ⟨rfl, b3⟩
    have HX3 := Lib.hid (HX2.out.below b3)
    have HB3 := Lib.hid (below_trans HBB2.out b3)
    clear b3 x0 x1 x2
    obtain ⟨P, hP⟩ : ∃ P, ProdR.abs ⟨name, ca, cn, cc, conds, aa, an, ac, acts⟩ = P := ⟨_, rfl⟩
    rw [hP]
    by_cases hE : shapeE P = 0
    · rw [hE, show prodTx P = prodT P from if_pos hE]
      have hone := one_back hE
      have HP := Lib.hid hP
      generalize prodT P = T at hone ⊢
      by_cases hz : T.size ≤ 32768
      · have hz' : ¬ (32768 : Int) < (T.size : Int) := by omega
        have HO := Lib.hid (fun w => rone_any T hz w)
        have HN := Lib.hid hone
        obtain ⟨x0, x1, x2⟩ := three_box HX3.out
        clear hone hz hE
        go_wp2_with fail
        refine (HO.out _).mono ?_
        rintro e w4 ⟨h1, b4⟩
        rw [HN.out] at h1
        obtain ⟨v, rfl, q, hv, habs, hmem, _, _⟩ := h1
        injection hv with hv
        subst hv
        have hK := fun W (hW : Below w4.heap.size w4 W) => kProd_any ⟨name, ca, cn, cc, conds, aa, an, ac, acts⟩ q W (HM.out.kept ((below_trans HB3.out b4).trans (hW.mono (below_trans HB3.out b4).size))) (hmem.kept hW)
        rw [habs, HP.out, show pdEq P P = true from pdEq_iff.2 rfl] at hK
        obtain ⟨qn, qca, qcn, qcc, qcs, qaa, qan, qac, qas⟩ := q
        have hv2 : ProdR.val ⟨qn, qca, qcn, qcc, qcs, qaa, qan, qac, qas⟩ = .agg #[.string qn, .slice qca qcn qcc, .slice qaa qan qac] := rfl
        have hv : ProdR.val ⟨name, ca, cn, cc, conds, aa, an, ac, acts⟩ = .agg #[.string name, .slice ca cn cc, .slice aa an ac] := rfl
        rw [hv2] at hK ⊢
        rw [hv] at hK
        have HK := Lib.hid hK
        have HB4 := Lib.hid (below_trans HB3.out b4)
        have HX4 := Lib.hid ((HX3.out.below b4).alloc (.cells #[.string qn, .slice qca qcn qcc, .slice qaa qan qac] 48))
        have HY4 := Lib.hid (BoxC.new w4 [.string qn, .slice qca qcn qcc, .slice qaa qan qac] 48)
        have HN4 := Lib.hid (below_new w4 (.cells #[.string qn, .slice qca qcn qcc, .slice qaa qan qac] 48))
        clear hK hv hv2 habs hmem b4 x0 x1 x2 HP HN
        obtain ⟨x0, x1, x2⟩ := three_box HX4.out
        obtain ⟨y0, y1, y2⟩ := three_box HY4.out
        go_wp2_with fail
        refine (HK.out _ HN4.out).mono ?_
        rintro e w5 ⟨rfl, b5⟩
        have HB5 := Lib.hid (below_trans (below_trans HB4.out HN4.out) b5)
        clear b5
        go_wp2_with (go_at_call 49; refine (wakes8_any _).mono ?_; rintro e w6 ⟨rfl, b6⟩)
        go_ret
        exact ⟨rfl, below_trans HB5.out b6⟩
      · have hz' : (32768 : Int) < (T.size : Int) := by omega
        clear hone hz hE
        go_wp2_with (go_at_call 49; refine (wakes8_any _).mono ?_; rintro e w4 ⟨rfl, b4⟩)
        go_ret
        exact ⟨rfl, below_trans HB3.out b4⟩
    · have e1 : (shapeE P != 0) = true := by simp [hE]
      generalize shapeE P = S at *
      generalize prodTx P = T at *
      go_wp2_with (go_at_call 49; refine (wakes8_any _).mono ?_; rintro e w4 ⟨rfl, b4⟩)
      go_ret
      exact ⟨rfl, below_trans HB3.out b4⟩
end Go.Proofs.Ytgeaccoobhigcaa
