/-
  The law ReadCuts holds for every input: the given statement Rows.ReadCutsSaid, without any condition of its own.
-/
import Derived.Test.YtgeaccoobhigcaaGV
import Derived.Test.YtgeaccoobhigcaaGF
import Derived.Test.YtgeaccoobhigcaaG9
import Derived.Test.YtgeaccoobhigcaaG7
import Derived.ProofKit
import Derived.OpenShut
import Derived.ShutString
import Derived.ChangeOld
import Derived.Below
namespace Go.Proofs.Ytgeaccoobhigcaa
open Go Go.RowKit

theorem one_cut {p : Pd} (h : shapeE p = 0) (k : Nat) (hk : k + 3 ≤ (prodT p).data.toList.length) : ∃ q : Nat, oneR (toks ((prodT p).data.toList.take k)) = (none, (q : Int), 5) ∧ q ≤ ((prodT p).data.toList.take k).length := by
  obtain ⟨q, h1, h2⟩ := prod_cut h k hk
  exact ⟨q, by unfold oneR; rw [h1], h2⟩
def zeroR : ProdR := ⟨⟨#[]⟩, none, 0, 0, [], none, 0, 0, []⟩
theorem zeroR_mem (w : World) : zeroR.Mem w := ⟨Nat.zero_le _, SlR.nil _ _, by simp [zeroR], SlR.nil _ _, by simp [zeroR]⟩
set_option maxRecDepth 100000 in
set_option maxHeartbeats 4000000 in
theorem readCuts_walk (p : ProdR) (at_ : Int) (w : World) (h : p.Mem w) : Calls Try.prog 19 #[p.val, .int .i64 at_] w fun x w' => x = .returned (.bool true) ∧ Below w.heap.size w w' := by
  have hH := fun W (hW : Below w.heap.size w W) => heavy_any p W (h.kept hW)
  have hS := fun hn W (hW : Below w.heap.size w W) => showProd_any p W (h.kept hW) hn
  have hlt : p.Light → condsN p.conds ≤ 1000000 := fun hl => by have := hl.n; omega
  obtain ⟨name, ca, cn, cc, conds, aa, an, ac, acts⟩ := p
  have hv : ProdR.val ⟨name, ca, cn, cc, conds, aa, an, ac, acts⟩ = .agg #[.string name, .slice ca cn cc, .slice aa an ac] := rfl
  rw [hv] at hH hS ⊢
  have hbb := below_new w (.cells #[.string name, .slice ca cn cc, .slice aa an ac] 48)
  have hx0 : BoxC (w.alloc (.cells #[.string name, .slice ca cn cc, .slice aa an ac] 48)) w.heap.size 48 [.string name, .slice ca cn cc, .slice aa an ac] := BoxC.new w _ 48
  have HH := Lib.hid hH
  have HS := Lib.hid hS
  have HL := Lib.hid hlt
  have HBB := Lib.hid hbb
  have HX := Lib.hid hx0
  clear hH hS hlt hbb hx0 h hv
  go_enter Try.func19, Try.ntmps19
  go_wp2_with fail
  refine (HH.out _ HBB.out).mono ?_
  rintro e w2 ⟨⟨b, rfl, hb⟩, b2⟩
  have HB := Lib.hid hb
  have HBB2 := Lib.hid (below_trans HBB.out b2)
  have HX2 := Lib.hid (HX.out.below b2)
  clear hb b2
  cases b with
  | true =>
    go_wp2_with (go_at_call 49; refine (wakes8_any _).mono ?_; rintro e w3 ⟨rfl, b3⟩)
    go_ret
    exact ⟨rfl, below_trans HBB2.out b3⟩
  | false =>
    have hn := HL.out (HB.out rfl)
    have HS2 := Lib.hid (HS.out hn)
    obtain ⟨x0, x1, x2⟩ := three_box HX2.out
    clear HS HH HB HX hn
    go_wp2_with fail
    refine (HS2.out _ HBB2.out).mono ?_
    rintro e w3 ⟨rfl, b3⟩
    have HB3 := Lib.hid (below_trans HBB2.out b3)
    clear b3 x0 x1 x2 HX2
    generalize ProdR.abs ⟨name, ca, cn, cc, conds, aa, an, ac, acts⟩ = P
    by_cases hE : shapeE P = 0
    · rw [hE, show prodTx P = prodT P from if_pos hE]
      have hcut := one_cut hE
      generalize prodT P = T at hcut ⊢
      by_cases hz3 : T.size < 3
      · have hz' : (T.size : Int) < 3 := by omega
        clear hcut hz3 hE
        go_wp2_with (go_at_call 49; refine (wakes8_any _).mono ?_; rintro e w4 ⟨rfl, b4⟩)
        go_ret
        exact ⟨rfl, below_trans HB3.out b4⟩
      · have hz3' : ¬ (T.size : Int) < 3 := by omega
        by_cases hz : T.size ≤ 32768
        · have hz' : ¬ (32768 : Int) < (T.size : Int) := by omega
          have hm0 := Int.emod_nonneg at_ (show (T.size : Int) - 2 ≠ 0 by omega)
          have hm1 := Int.emod_lt_of_pos at_ (show 0 < (T.size : Int) - 2 by omega)
          have hW := fun w => within_any at_ ((T.size : Int) - 2) w (by omega) (by omega)
          obtain ⟨k, hk⟩ : ∃ k : Nat, (k : Int) = at_ % ((T.size : Int) - 2) := ⟨(at_ % ((T.size : Int) - 2)).toNat, by omega⟩
          rw [← hk] at hW hm0 hm1
          obtain ⟨q, hq1, hq2⟩ := hcut k (by rw [size_toList]; omega)
          have hx : (T.extract 0 k).data.toList = T.data.toList.take k := by
            have := ext_toList T 0 k
            rw [ByteArray.toList_eq] at this
            rw [this]
            simp [from_]
          rw [← hx] at hq1 hq2
          rw [size_toList] at hq2
          have hO := rone_any (T.extract 0 k) (by simp; omega)
          rw [hq1] at hO
          have hkT : k ≤ T.size := by omega
          have HW := Lib.hid hW
          have HO := Lib.hid hO
          have HQ : Hid (q ≤ (T.extract 0 k).size) := Lib.hid hq2
          have hUz : (T.extract 0 k).size = k := by simp; omega
          have hq3 : (q : Int) ≤ (k : Int) := by omega
          have hK := fun W => kProd_any zeroR zeroR W (zeroR_mem W) (zeroR_mem W)
          rw [show pdEq zeroR.abs zeroR.abs = true from pdEq_iff.2 rfl] at hK
          unfold zeroR ProdR.val at hK
          simp only at hK
          have HK := Lib.hid hK
          clear hcut hW hO hq1 hq2 hx hE hK hk hz3 hz hm0 hm1
          go_wp2_with (go_at_call 27; refine (HW.out _).mono ?_; rintro e w5 ⟨rfl, rfl⟩)
          refine (HO.out _).mono ?_
          rintro e w4 ⟨h1, b4⟩
          obtain ⟨v, rfl, rfl⟩ := h1
          unfold zeroProd
          dsimp only
          have HB4 := Lib.hid (below_trans HB3.out b4)
          clear b4
          go_wp2_with fail
          refine (HK.out _).mono ?_
          rintro e w5 ⟨rfl, b5⟩
          have HB5 := Lib.hid (below_trans (below_trans HB4.out (below_new w4 _)) b5)
          clear b5
          go_wp2_with (go_at_call 49; refine (wakes8_any _).mono ?_; rintro e w6 ⟨rfl, b6⟩)
          go_ret
          exact ⟨rfl, below_trans HB5.out b6⟩
        · have hz' : (32768 : Int) < (T.size : Int) := by omega
          clear hcut hz hE
          go_wp2_with (go_at_call 49; refine (wakes8_any _).mono ?_; rintro e w4 ⟨rfl, b4⟩)
          go_ret
          exact ⟨rfl, below_trans HB3.out b4⟩
    · have e1 : (shapeE P != 0) = true := by simp [hE]
      generalize shapeE P = S at *
      generalize prodTx P = T at *
      go_wp2_with (go_at_call 49; refine (wakes8_any _).mono ?_; rintro e w4 ⟨rfl, b4⟩)
      go_ret
      exact ⟨rfl, below_trans HB3.out b4⟩
end Go.Proofs.Ytgeaccoobhigcaa
namespace Go.Proofs.Ytgeaccoobhigcaa
open Go.ChangeShapes Go.WideShapes Go.ChangeAt Go.RowKit
open Go.ChangeMaps (open_string shut_string)

theorem readCuts_own : ownKnob Try.prog.godebug = none := by kernel_rfl
theorem readCuts_laidOut : laidOutB Try.prog = true := by kernel_rfl

set_option maxRecDepth 100000 in
theorem readCuts_lifted (os : Os) (started : os.Started) (H : Type) (enc : TypeId × Value → H) :
    ReturnsInHanded {} Try.checked os 19 .any (Rows.readCutsSpec.pre6 enc Try.prog Try.f19 Rows.readCutsRow.domain false) (Rows.readCutsSpec.post enc Try.prog Try.f19 false true false false) := by
  refine returnsInHanded_of_change (C := Try.checked) readCuts_own started (by kernel_rfl) Try.func19
    (ChangeSpec.witness6 (enc := enc) (C := Try.checked) false ⟨#[], #[.agg #[.string ⟨#[]⟩, .slice none 0 0, .slice none 0 0], .int .i64 0], []⟩ 8 (by kernel_rfl) (by kernel_rfl) (by kernel_rfl) (by kernel_rfl)) ?_
  intro W base args ds gs before hval0 hW _ _
  have hval : ∀ (j : Nat) t v, Try.f19.params[j]? = some t → args[j]? = some v → Value.okWide Try.prog W .any base t v := hval0
  have hW' := hW
  obtain ⟨p, q, hA0, hV, rfl, hfz, hnd⟩ := hW
  have hA : DataW.TrodAll enc Try.prog W 0 (fun _ => true) true Try.f19.params.toList args.toList ds p := hA0
  rw [Try.params19] at hA hval
  obtain ⟨v0, vs0, d0, ds0, p0, q0, hargs, rfl, rfl, h0, r0⟩ := trodAll_cons hA
  obtain ⟨v1, vs1, d1, ds1, p1, q1, rfl, rfl, rfl, h1, r1⟩ := trodAll_cons r0
  obtain ⟨rfl, rfl, rfl⟩ := trodAll_nil r1
  obtain rfl : args = #[v0, v1] := by cases args; simp_all
  obtain ⟨rfl, rfl⟩ := trodVars_none hV
  have k0 := h0
  have lt0 : ∀ x ∈ p0, x.block < W.heap.size := by obtain ⟨m, hm⟩ := k0; exact DataW.trod_lt m _ _ _ hm
  obtain ⟨cs0, rfl, _⟩ := okWide_struct und48 (hval 0 48 v0 rfl rfl)
  obtain ⟨a0, ev0, w0⟩ : ∃ p : ProdR, cs0.toList = p.cells ∧ p.Mem W := by
    obtain ⟨fuel, hf⟩ := h0
    exact open_prod hf
  obtain rfl : cs0 = a0.cells.toArray := by rw [← ev0]
  obtain ⟨a1, rfl, rfl, rfl, w1⟩ := open_int Try.underlying3 (hval 1 3 v1 rfl rfl) h1
  clear hA0 hval0
  refine (readCuts_walk a0 a1 W w0).mono fun e W' ⟨he, bel⟩ => ?_
  subst he
  exact ⟨_, rfl, _, _, _, [], _, [], hW', trodAll_mk1 (shut_bool Try.underlying4 _), (trodAll_cons_mk (Below.trod readCuts_laidOut (by kernel_rfl) (of_decide_eq_true (by kernel_rfl)) k0 bel lt0) (trodAll_cons_mk (shut_int Try.underlying3 w1) trodAll_mk0)), rfl, bel.frame _, fun h => by cases h⟩

/-- THE GIVEN STATEMENT. -/
theorem readCuts_holds : Rows.ReadCutsSaid :=
  OpenClaim.holds_of_wide 19 Try.f19 rfl rfl rfl rfl rfl rfl rfl ⟨rfl, rfl, rfl, rfl, rfl⟩ rfl rfl rfl rfl rfl (by kernel_rfl) Try.func19 (by kernel_rfl)
    (of_decide_eq_true (by kernel_rfl)) (by unfold Func.isWrapper; first | (rw [if_pos (by decide +kernel)]; kernel_rfl) | (rw [if_neg (by decide +kernel)]; exact ⟨rfl, rfl⟩))
    (fun os started H enc _ => readCuts_lifted os started H enc)
#print axioms readCuts_holds
end Go.Proofs.Ytgeaccoobhigcaa
