/-
  The law ShowUnlike holds for every input: the given statement Rows.ShowUnlikeSaid, without any condition of its own.
-/
import Derived.Test.YtgeaccoobhigcaaGF
import Derived.Test.YtgeaccoobhigcaaG6
import Derived.Test.YtgeaccoobhigcaaG8
import Derived.Test.YtgeaccoobhigcaaG7
import Derived.ProofKit
import Derived.OpenShut
import Derived.ShutString
import Derived.ChangeOld
import Derived.Below
namespace Go.Proofs.Ytgeaccoobhigcaa
open Go Go.RowKit

theorem same_texts {P Q : Pd} (hp : shapeE P = 0) (hq : shapeE Q = 0) : ((prodT P).toList == (prodT Q).toList) = pdEq P Q := by
  rw [Bool.eq_iff_iff, beq_iff_eq, pdEq_iff]
  constructor
  · intro h
    rw [ByteArray.toList_eq, ByteArray.toList_eq] at h
    exact prodT_inj hp hq (str_ext h)
  · rintro rfl; rfl
theorem prodTx_bad {P : Pd} (h : shapeE P ≠ 0) : prodTx P = ⟨#[]⟩ := if_neg h
set_option maxRecDepth 100000 in
set_option maxHeartbeats 4000000 in
theorem showUnlike_walk (p q : ProdR) (w : World) (hp : p.Mem w) (hq : q.Mem w) : Calls Try.prog 11 #[p.val, q.val] w fun x w' => x = .returned (.bool true) ∧ Below w.heap.size w w' := by
  have hH := fun W (hW : Below w.heap.size w W) => heavy_any p W (hp.kept hW)
  have hH2 := fun W (hW : Below w.heap.size w W) => heavy_any q W (hq.kept hW)
  have hS := fun hn W (hW : Below w.heap.size w W) => showProd_any p W (hp.kept hW) hn
  have hS2 := fun hn W (hW : Below w.heap.size w W) => showProd_any q W (hq.kept hW) hn
  have hK := fun W (hW : Below w.heap.size w W) => kProd_any p q W (hp.kept hW) (hq.kept hW)
  have hlt : p.Light → condsN p.conds ≤ 1000000 := fun hl => by have := hl.n; omega
  have hlt2 : q.Light → condsN q.conds ≤ 1000000 := fun hl => by have := hl.n; omega
  obtain ⟨name, ca, cn, cc, conds, aa, an, ac, acts⟩ := p
  obtain ⟨qn, qca, qcn, qcc, qcs, qaa, qan, qac, qas⟩ := q
  have hv : ProdR.val ⟨name, ca, cn, cc, conds, aa, an, ac, acts⟩ = .agg #[.string name, .slice ca cn cc, .slice aa an ac] := rfl
  have hv2 : ProdR.val ⟨qn, qca, qcn, qcc, qcs, qaa, qan, qac, qas⟩ = .agg #[.string qn, .slice qca qcn qcc, .slice qaa qan qac] := rfl
  rw [hv] at hH hS hK ⊢
  rw [hv2] at hH2 hS2 hK ⊢
  generalize ProdR.abs ⟨name, ca, cn, cc, conds, aa, an, ac, acts⟩ = P at hS hK
  generalize ProdR.abs ⟨qn, qca, qcn, qcc, qcs, qaa, qan, qac, qas⟩ = Q at hS2 hK
  have hbb := below_trans (below_new w (.cells #[.string name, .slice ca cn cc, .slice aa an ac] 48)) (below_new _ (.cells #[.string qn, .slice qca qcn qcc, .slice qaa qan qac] 48))
  have hx0 : BoxC ((w.alloc (.cells #[.string name, .slice ca cn cc, .slice aa an ac] 48)).alloc (.cells #[.string qn, .slice qca qcn qcc, .slice qaa qan qac] 48)) w.heap.size 48 [.string name, .slice ca cn cc, .slice aa an ac] := (BoxC.new w _ 48).alloc _
  have hy0 : BoxC ((w.alloc (.cells #[.string name, .slice ca cn cc, .slice aa an ac] 48)).alloc (.cells #[.string qn, .slice qca qcn qcc, .slice qaa qan qac] 48)) (w.heap.size + 1) 48 [.string qn, .slice qca qcn qcc, .slice qaa qan qac] := BoxC.new_at' (by simp)
  have HH := Lib.hid hH
  have HH2 := Lib.hid hH2
  have HS := Lib.hid hS
  have HS2 := Lib.hid hS2
  have HK := Lib.hid hK
  have HL := Lib.hid hlt
  have HL2 := Lib.hid hlt2
  have HBB := Lib.hid hbb
  have HX := Lib.hid hx0
  have HY := Lib.hid hy0
  clear hH hS hlt hbb hx0 hp hv hH2 hS2 hK hlt2 hy0 hq hv2
  go_enter Try.func11, Try.ntmps11
  go_wp2_with fail
  refine (HH.out _ HBB.out).mono ?_
  rintro e w2 ⟨⟨b, rfl, hb⟩, b2⟩
  have HB := Lib.hid hb
  have HBB2 := Lib.hid (below_trans HBB.out b2)
  have HX2 := Lib.hid (HX.out.below b2)
  have HY2 := Lib.hid (HY.out.below b2)
  clear hb b2 HX HY
  cases b with
  | true =>
    go_wp2_with (go_at_call 32; refine (wakes7_any _).mono ?_; rintro e w3 ⟨rfl, b3⟩)
    go_ret
    exact ⟨rfl, below_trans HBB2.out b3⟩
  | false =>
    have HN := Lib.hid (HL.out (HB.out rfl))
    obtain ⟨x0, x1, x2⟩ := three_box HX2.out
    obtain ⟨y0, y1, y2⟩ := three_box HY2.out
    clear HH HB HL
    go_wp2_with fail
    refine (HH2.out _ HBB2.out).mono ?_
    rintro e w3 ⟨⟨b, rfl, hb⟩, b3⟩
    have HB := Lib.hid hb
    have HB3 := Lib.hid (below_trans HBB2.out b3)
    have HX3 := Lib.hid (HX2.out.below b3)
    have HY3 := Lib.hid (HY2.out.below b3)
    clear hb b3 HX2 HY2 x0 x1 x2 y0 y1 y2
    cases b with
    | true =>
      go_wp2_with (go_at_call 32; refine (wakes7_any _).mono ?_; rintro e w3 ⟨rfl, b3⟩)
      go_ret
      exact ⟨rfl, below_trans HB3.out b3⟩
    | false =>
      have HN2 := Lib.hid (HL2.out (HB.out rfl))
      obtain ⟨x0, x1, x2⟩ := three_box HX3.out
      obtain ⟨y0, y1, y2⟩ := three_box HY3.out
      clear HH2 HB HL2
      go_wp2_with fail
      refine (HS.out HN.out _ HB3.out).mono ?_
      rintro e w4 ⟨rfl, b4⟩
      have HB4 := Lib.hid (below_trans HB3.out b4)
      have HX4 := Lib.hid (HX3.out.below b4)
      have HY4 := Lib.hid (HY3.out.below b4)
      clear b4 HX3 HY3 x0 x1 x2 y0 y1 y2 HS
      obtain ⟨x0, x1, x2⟩ := three_box HX4.out
      obtain ⟨y0, y1, y2⟩ := three_box HY4.out
      go_wp2_with fail
      refine (HS2.out HN2.out _ HB4.out).mono ?_
      rintro e w5 ⟨rfl, b5⟩
      have HB5 := Lib.hid (below_trans HB4.out b5)
      have HX5 := Lib.hid (HX4.out.below b5)
      have HY5 := Lib.hid (HY4.out.below b5)
      clear b5 HX4 HY4 x0 x1 x2 y0 y1 y2 HS2
      obtain ⟨x0, x1, x2⟩ := three_box HX5.out
      obtain ⟨y0, y1, y2⟩ := three_box HY5.out
      have hnil : ((⟨#[]⟩ : ByteArray).toList == []) = true := by rw [ByteArray.toList_eq]; rfl
      by_cases hE : shapeE P = 0
      · by_cases hF : shapeE Q = 0
        · have hs := same_texts hE hF
          rw [hE, hF, show prodTx P = prodT P from if_pos hE, show prodTx Q = prodT Q from if_pos hF]
          generalize prodT P = S at hs ⊢
          generalize prodT Q = T at hs ⊢
          have hK := HK.out _ HB5.out
          generalize pdEq P Q = b at hs hK
          have HKK := Lib.hid hK
          clear hK hE hF HK
          cases b with
          | true =>
            go_wp2_with fail
            refine HKK.out.mono ?_
            rintro e w6 ⟨rfl, b6⟩
            have HB6 := Lib.hid (below_trans HB5.out b6)
            clear b6
            go_wp2_with (go_at_call 32; refine (wakes7_any _).mono ?_; rintro e w7 ⟨rfl, b7⟩)
            go_ret
            exact ⟨rfl, below_trans HB6.out b7⟩
          | false =>
            go_wp2_with fail
            refine HKK.out.mono ?_
            rintro e w6 ⟨rfl, b6⟩
            have HB6 := Lib.hid (below_trans HB5.out b6)
            clear b6
            go_wp2_with (go_at_call 32; refine (wakes7_any _).mono ?_; rintro e w7 ⟨rfl, b7⟩)
            go_ret
            exact ⟨rfl, below_trans HB6.out b7⟩
        · rw [hE, prodTx_bad hF]
          have e1 : (shapeE Q != 0) = true := by simp [hF]
          generalize shapeE Q = F at *
          generalize prodTx P = S at *
          clear hE hF HK
          cases hs : (S.toList == []) with
          | true =>
            go_wp2_with (go_at_call 32; refine (wakes7_any _).mono ?_; rintro e w7 ⟨rfl, b7⟩)
            go_ret
            exact ⟨rfl, below_trans HB5.out b7⟩
          | false =>
            go_wp2_with (go_at_call 32; refine (wakes7_any _).mono ?_; rintro e w7 ⟨rfl, b7⟩)
            go_ret
            exact ⟨rfl, below_trans HB5.out b7⟩
      · rw [prodTx_bad hE]
        have e1 : (shapeE P != 0) = true := by simp [hE]
        generalize shapeE P = F at *
        by_cases hF : shapeE Q = 0
        · rw [hF]
          generalize prodTx Q = S at *
          clear hE hF HK
          cases hs : (S.toList == []) with
          | true =>
            go_wp2_with (go_at_call 32; refine (wakes7_any _).mono ?_; rintro e w7 ⟨rfl, b7⟩)
            go_ret
            exact ⟨rfl, below_trans HB5.out b7⟩
          | false =>
            go_wp2_with (go_at_call 32; refine (wakes7_any _).mono ?_; rintro e w7 ⟨rfl, b7⟩)
            go_ret
            exact ⟨rfl, below_trans HB5.out b7⟩
        · rw [prodTx_bad hF]
          generalize shapeE Q = G at *
          clear hE hF HK
          go_wp2_with (go_at_call 32; refine (wakes7_any _).mono ?_; rintro e w7 ⟨rfl, b7⟩)
          go_ret
          exact ⟨rfl, below_trans HB5.out b7⟩
end Go.Proofs.Ytgeaccoobhigcaa
namespace Go.Proofs.Ytgeaccoobhigcaa
open Go.ChangeShapes Go.WideShapes Go.ChangeAt Go.RowKit
open Go.ChangeMaps (open_string shut_string)

theorem showUnlike_own : ownKnob Try.prog.godebug = none := by kernel_rfl
theorem showUnlike_laidOut : laidOutB Try.prog = true := by kernel_rfl

set_option maxRecDepth 100000 in
theorem showUnlike_lifted (os : Os) (started : os.Started) (H : Type) (enc : TypeId × Value → H) :
    ReturnsInHanded {} Try.checked os 11 .any (Rows.showUnlikeSpec.pre6 enc Try.prog Try.f11 Rows.showUnlikeRow.domain false) (Rows.showUnlikeSpec.post enc Try.prog Try.f11 false true false false) := by
  refine returnsInHanded_of_change (C := Try.checked) showUnlike_own started (by kernel_rfl) Try.func11
    (ChangeSpec.witness6 (enc := enc) (C := Try.checked) false ⟨#[], #[.agg #[.string ⟨#[]⟩, .slice none 0 0, .slice none 0 0], .agg #[.string ⟨#[]⟩, .slice none 0 0, .slice none 0 0]], []⟩ 8 (by kernel_rfl) (by kernel_rfl) (by kernel_rfl) (by kernel_rfl)) ?_
  intro W base args ds gs before hval0 hW _ _
  have hval : ∀ (j : Nat) t v, Try.f11.params[j]? = some t → args[j]? = some v → Value.okWide Try.prog W .any base t v := hval0
  have hW' := hW
  obtain ⟨p, q, hA0, hV, rfl, hfz, hnd⟩ := hW
  have hA : DataW.TrodAll enc Try.prog W 0 (fun _ => true) true Try.f11.params.toList args.toList ds p := hA0
  rw [Try.params11] at hA hval
  obtain ⟨v0, vs0, d0, ds0, p0, q0, hargs, rfl, rfl, h0, r0⟩ := trodAll_cons hA
  obtain ⟨v1, vs1, d1, ds1, p1, q1, rfl, rfl, rfl, h1, r1⟩ := trodAll_cons r0
  obtain ⟨rfl, rfl, rfl⟩ := trodAll_nil r1
  obtain rfl : args = #[v0, v1] := by cases args; simp_all
  obtain ⟨rfl, rfl⟩ := trodVars_none hV
  have k0 := h0
  have lt0 : ∀ x ∈ p0, x.block < W.heap.size := by obtain ⟨m, hm⟩ := k0; exact DataW.trod_lt m _ _ _ hm
  obtain ⟨cs0, rfl, _⟩ := okWide_struct und48 (hval 0 48 v0 rfl rfl)
  obtain ⟨a0, ev0, w0⟩ : ∃ p : ProdR, cs0.toList = p.cells ∧ p.Mem W := by
    obtain ⟨fuel, hf⟩ := h0
    exact open_prod hf
  obtain rfl : cs0 = a0.cells.toArray := by rw [← ev0]
  have k1 := h1
  have lt1 : ∀ x ∈ p1, x.block < W.heap.size := by obtain ⟨m, hm⟩ := k1; exact DataW.trod_lt m _ _ _ hm
  obtain ⟨cs1, rfl, _⟩ := okWide_struct und48 (hval 1 48 v1 rfl rfl)
  obtain ⟨a1, ev1, w1⟩ : ∃ p : ProdR, cs1.toList = p.cells ∧ p.Mem W := by
    obtain ⟨fuel, hf⟩ := h1
    exact open_prod hf
  obtain rfl : cs1 = a1.cells.toArray := by rw [← ev1]
  clear hA0 hval0
  refine (showUnlike_walk a0 a1 W w0 w1).mono fun e W' ⟨he, bel⟩ => ?_
  subst he
  exact ⟨_, rfl, _, _, _, [], _, [], hW', trodAll_mk1 (shut_bool Try.underlying4 _), (trodAll_cons_mk (Below.trod showUnlike_laidOut (by kernel_rfl) (of_decide_eq_true (by kernel_rfl)) k0 bel lt0) (trodAll_cons_mk (Below.trod showUnlike_laidOut (by kernel_rfl) (of_decide_eq_true (by kernel_rfl)) k1 bel lt1) trodAll_mk0)), rfl, bel.frame _, fun h => by cases h⟩

/-- THE GIVEN STATEMENT. -/
theorem showUnlike_holds : Rows.ShowUnlikeSaid :=
  OpenClaim.holds_of_wide 11 Try.f11 rfl rfl rfl rfl rfl rfl rfl ⟨rfl, rfl, rfl, rfl, rfl⟩ rfl rfl rfl rfl rfl (by kernel_rfl) Try.func11 (by kernel_rfl)
    (of_decide_eq_true (by kernel_rfl)) (by unfold Func.isWrapper; first | (rw [if_pos (by decide +kernel)]; kernel_rfl) | (rw [if_neg (by decide +kernel)]; exact ⟨rfl, rfl⟩))
    (fun os started H enc _ => showUnlike_lifted os started H enc)
#print axioms showUnlike_holds
end Go.Proofs.Ytgeaccoobhigcaa
