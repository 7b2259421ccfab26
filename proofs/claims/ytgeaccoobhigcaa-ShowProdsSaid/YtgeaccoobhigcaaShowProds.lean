/-
  The law ShowProds holds for every input: the given statement Rows.ShowProdsSaid, without any condition of its own.
-/
import Derived.Test.YtgeaccoobhigcaaG6
import Derived.Test.YtgeaccoobhigcaaG8
import Derived.Test.YtgeaccoobhigcaaG7
import Derived.ProofKit
import Derived.OpenShut
import Derived.ShutString
import Derived.ChangeOld
import Derived.Below
namespace Go.Proofs.Ytgeaccoobhigcaa
open Go Go.RowKit

set_option maxRecDepth 100000 in
set_option maxHeartbeats 4000000 in
theorem showProds_walk (p : ProdR) (w : World) (h : p.Mem w) : Calls Try.prog 9 #[p.val] w fun x w' => x = .returned (.bool true) ∧ Below w.heap.size w w' := by
  have hH := fun W (hW : Below w.heap.size w W) => heavy_any p W (h.kept hW)
  have hC := fun hl W (hW : Below w.heap.size w W) => copyProd_any p W (h.kept hW) hl
  have hR := fun hn W (hW : Below w.heap.size w W) => refProd_any p W (h.kept hW) hn
  have HM := Lib.hid h
  have hlt : p.Light → condsN p.conds ≤ 1000000 := fun hl => by have := hl.n; omega
  obtain ⟨name, ca, cn, cc, conds, aa, an, ac, acts⟩ := p
  have hv : ProdR.val ⟨name, ca, cn, cc, conds, aa, an, ac, acts⟩ = .agg #[.string name, .slice ca cn cc, .slice aa an ac] := rfl
  rw [hv] at hH hC hR ⊢
  have hbb := below_new w (.cells #[.string name, .slice ca cn cc, .slice aa an ac] 48)
  have hx0 : BoxC (w.alloc (.cells #[.string name, .slice ca cn cc, .slice aa an ac] 48)) w.heap.size 48 [.string name, .slice ca cn cc, .slice aa an ac] := BoxC.new w _ 48
  have HH := Lib.hid hH
  have HC := Lib.hid hC
  have HR := Lib.hid hR
  have HL := Lib.hid hlt
  have HBB := Lib.hid hbb
  have HX := Lib.hid hx0
  clear hH hC hR hlt hbb hx0 h hv
  go_enter Try.func9, Try.ntmps9
  go_wp2_with fail
  refine (HH.out _ HBB.out).mono ?_
  rintro e w2 ⟨⟨b, rfl, hb⟩, b2⟩
  have HB := Lib.hid hb
  have HBB2 := Lib.hid (below_trans HBB.out b2)
  have HX2 := Lib.hid (HX.out.below b2)
  clear hb b2
  cases b with
  | true =>
    go_wp2_with (go_at_call 32; refine (wakes7_any _).mono ?_; rintro e w3 ⟨rfl, b3⟩)
    go_ret
    exact ⟨rfl, below_trans HBB2.out b3⟩
  | false =>
    have hl := HB.out rfl
    have hn := HL.out hl
    have HC2 := Lib.hid (HC.out hl)
    have HR2 := Lib.hid (HR.out hn)
    obtain ⟨x0, x1, x2⟩ := three_box HX2.out
    clear HC HR HH HB hl HX
    go_wp2_with fail
    refine (HC2.out _ HBB2.out).mono ?_
    rintro e w3 ⟨⟨q, rfl, hqa, hqm, hqc, hqk⟩, b3⟩
    have HX3 := Lib.hid (HX2.out.below b3)
    have HB3 := Lib.hid (below_trans HBB2.out b3)
    have HQ := Lib.hid hqa
    have hS := fun W (hW : Below w3.heap.size w3 W) => showProd_any q W (hqm.kept hW) (by
      have e : condsN q.conds = condsN conds := by
        rw [condsN_abs, condsN_abs]; exact congrArg (fun z : Pd => cdsN z.conds) hqa
      rw [e]; exact hn)
    have hP := fun W (hW : Below w3.heap.size w3 W) => kProd_any _ q W (HM.out.kept (HB3.out.trans (hW.mono HB3.out.size))) (hqm.kept hW)
    rw [hqa] at hS hP
    rw [show pdEq _ _ = true from pdEq_iff.2 rfl] at hP
    obtain ⟨qn, qca, qcn, qcc, qcs, qaa, qan, qac, qas⟩ := q
    have hv2 : ProdR.val ⟨qn, qca, qcn, qcc, qcs, qaa, qan, qac, qas⟩ = .agg #[.string qn, .slice qca qcn qcc, .slice qaa qan qac] := rfl
    have hv : ProdR.val ⟨name, ca, cn, cc, conds, aa, an, ac, acts⟩ = .agg #[.string name, .slice ca cn cc, .slice aa an ac] := rfl
    rw [hv2] at hS hP ⊢
    rw [hv] at hP
    have hS4 := hS _ (below_new w3 (.cells #[.string qn, .slice qca qcn qcc, .slice qaa qan qac] 48))
    have HB4 := Lib.hid (below_trans HB3.out (below_new w3 (.cells #[.string qn, .slice qca qcn qcc, .slice qaa qan qac] 48)))
    have HN4 := Lib.hid (below_new w3 (.cells #[.string qn, .slice qca qcn qcc, .slice qaa qan qac] 48))
    have HX4 := Lib.hid (HX3.out.below (below_new w3 (.cells #[.string qn, .slice qca qcn qcc, .slice qaa qan qac] 48)))
    have HY4 : Hid (BoxC (w3.alloc (.cells #[.string qn, .slice qca qcn qcc, .slice qaa qan qac] 48)) w3.heap.size 48 [.string qn, .slice qca qcn qcc, .slice qaa qan qac]) := Lib.hid (BoxC.new w3 _ 48)
    generalize prodTx _ = T at hS4 HR2
    generalize shapeE _ = E at hS4 HR2
    have HS4 := Lib.hid hS4
    have HP := Lib.hid hP
    clear hS4 hP hS hqa hqm hqc hqk b3 x0 x1 x2 hv hv2 HQ HM
    go_wp2_with fail
    refine HS4.out.mono ?_
    rintro e w5 ⟨rfl, b5⟩
    have HX5 := Lib.hid (HX4.out.below b5)
    have HY5 := Lib.hid (HY4.out.below b5)
    have HB5 := Lib.hid (below_trans HB4.out b5)
    have HN5 := Lib.hid (below_trans HN4.out b5)
    obtain ⟨x0, x1, x2⟩ := three_box HX5.out
    clear b5 HX4 HY4 HX3 HX2
    go_wp2_with fail
    refine (HR2.out _ HB5.out).mono ?_
    rintro e w6 ⟨rfl, b6⟩
    have HB6 := Lib.hid (below_trans HB5.out b6)
    have HN6 := Lib.hid (below_trans HN5.out b6)
    obtain ⟨x0, x1, x2⟩ := three_box (HX5.out.below b6)
    obtain ⟨y0, y1, y2⟩ := three_box (HY5.out.below b6)
    clear b6
    go_wp2_with fail
    refine (HP.out _ HN6.out).mono ?_
    rintro e w7 ⟨rfl, b7⟩
    have HB7 := Lib.hid (below_trans HB6.out b7)
    clear b7
    go_wp2_with (go_at_call 32; refine (wakes7_any _).mono ?_; rintro e w8 ⟨rfl, b8⟩)
    go_ret
    exact ⟨rfl, below_trans HB7.out b8⟩
end Go.Proofs.Ytgeaccoobhigcaa
namespace Go.Proofs.Ytgeaccoobhigcaa
open Go.ChangeShapes Go.WideShapes Go.ChangeAt Go.RowKit
open Go.ChangeMaps (open_string shut_string)

theorem showProds_own : ownKnob Try.prog.godebug = none := by kernel_rfl
theorem showProds_laidOut : laidOutB Try.prog = true := by kernel_rfl

set_option maxRecDepth 100000 in
theorem showProds_lifted (os : Os) (started : os.Started) (H : Type) (enc : TypeId × Value → H) :
    ReturnsInHanded {} Try.checked os 9 .any (Rows.showProdsSpec.pre6 enc Try.prog Try.f9 Rows.showProdsRow.domain false) (Rows.showProdsSpec.post enc Try.prog Try.f9 false true false false) := by
  refine returnsInHanded_of_change (C := Try.checked) showProds_own started (by kernel_rfl) Try.func9
    (ChangeSpec.witness6 (enc := enc) (C := Try.checked) false ⟨#[], #[.agg #[.string ⟨#[]⟩, .slice none 0 0, .slice none 0 0]], []⟩ 8 (by kernel_rfl) (by kernel_rfl) (by kernel_rfl) (by kernel_rfl)) ?_
  intro W base args ds gs before hval0 hW _ _
  have hval : ∀ (j : Nat) t v, Try.f9.params[j]? = some t → args[j]? = some v → Value.okWide Try.prog W .any base t v := hval0
  have hW' := hW
  obtain ⟨p, q, hA0, hV, rfl, hfz, hnd⟩ := hW
  have hA : DataW.TrodAll enc Try.prog W 0 (fun _ => true) true Try.f9.params.toList args.toList ds p := hA0
  rw [Try.params9] at hA hval
  obtain ⟨v0, vs0, d0, ds0, p0, q0, hargs, rfl, rfl, h0, r0⟩ := trodAll_cons hA
  obtain ⟨rfl, rfl, rfl⟩ := trodAll_nil r0
  obtain rfl : args = #[v0] := by cases args; simp_all
  obtain ⟨rfl, rfl⟩ := trodVars_none hV
  have k0 := h0
  have lt0 : ∀ x ∈ p0, x.block < W.heap.size := by obtain ⟨m, hm⟩ := k0; exact DataW.trod_lt m _ _ _ hm
  obtain ⟨cs0, rfl, _⟩ := okWide_struct und48 (hval 0 48 v0 rfl rfl)
  obtain ⟨a0, ev0, w0⟩ : ∃ p : ProdR, cs0.toList = p.cells ∧ p.Mem W := by
    obtain ⟨fuel, hf⟩ := h0
    exact open_prod hf
  obtain rfl : cs0 = a0.cells.toArray := by rw [← ev0]
  clear hA0 hval0
  refine (showProds_walk a0 W w0).mono fun e W' ⟨he, bel⟩ => ?_
  subst he
  exact ⟨_, rfl, _, _, _, [], _, [], hW', trodAll_mk1 (shut_bool Try.underlying4 _), (trodAll_cons_mk (Below.trod showProds_laidOut (by kernel_rfl) (of_decide_eq_true (by kernel_rfl)) k0 bel lt0) trodAll_mk0), rfl, bel.frame _, fun h => by cases h⟩

/-- THE GIVEN STATEMENT. -/
theorem showProds_holds : Rows.ShowProdsSaid :=
  OpenClaim.holds_of_wide 9 Try.f9 rfl rfl rfl rfl rfl rfl rfl ⟨rfl, rfl, rfl, rfl, rfl⟩ rfl rfl rfl rfl rfl (by kernel_rfl) Try.func9 (by kernel_rfl)
    (of_decide_eq_true (by kernel_rfl)) (by unfold Func.isWrapper; first | (rw [if_pos (by decide +kernel)]; kernel_rfl) | (rw [if_neg (by decide +kernel)]; exact ⟨rfl, rfl⟩))
    (fun os started H enc _ => showProds_lifted os started H enc)
#print axioms showProds_holds
end Go.Proofs.Ytgeaccoobhigcaa
