/-
  The law ReadOnes holds for every input: the given statement Rows.ReadOnesSaid, without any condition of its own.
-/
import Derived.Test.YtgeaccoobhigcaaGreatXC
import Derived.Test.YtgeaccoobhigcaaGreatGE
import Derived.Test.YtgeaccoobhigcaaGreatG8
import Derived.ProofKit
import Derived.OpenShut
import Derived.ShutString
import Derived.ChangeOld
import Derived.Below
namespace Go.Proofs.YtgeaccoobhigcaaGreat
open Go Go.RowKit

theorem one_val {base : Nat} {w : World} {r : Option Pd × Int × Int} {x : Ending} (h : OneOut base w r x) : ∃ p : ProdR, x = .returned (.tuple #[p.val, .int .i64 r.2.1, .int .i64 r.2.2]) ∧ p.Mem w ∧ p.abs = r.1.getD ⟨⟨#[]⟩, [], []⟩ := by
  obtain ⟨o, a, b⟩ := r
  obtain ⟨v, rfl, h⟩ := h
  cases o with
  | none =>
    simp only at h
    subst h
    exact ⟨⟨⟨#[]⟩, none, 0, 0, [], none, 0, 0, []⟩, rfl, ⟨by decide, SlR.nil _ _, by simp, SlR.nil _ _, by simp⟩, by unfold ProdR.abs; simp [absL]⟩
  | some p =>
    simp only at h
    obtain ⟨p', h1, h2, h3, _, _⟩ := h
    injection h1 with h1
    subst h1
    exact ⟨p', rfl, h3, h2⟩
set_option maxRecDepth 100000 in
set_option maxHeartbeats 4000000 in
theorem readOnes_walk (s : ByteArray) (w : World) : Calls Tryz.prog 3 #[.string s] w fun x w' => x = .returned (.bool true) ∧ Below w.heap.size w w' := by
  by_cases hz : s.size ≤ 3000
  · have HO := Lib.hid (fun w => rone_any s (by omega) w)
    have HO8 := Lib.hid (fun w => one8 s (by omega) w)
    have hz' : (s.size : Int) ≤ 3000 := by omega
    generalize oneR (toks s.data.toList) = r at HO HO8
    clear hz
    go_enter Tryz.func3, Tryz.ntmps3
    go_wp2_with fail
    refine (HO.out _).mono ?_
    rintro x w1 ⟨ho, b1⟩
    obtain ⟨⟨pn, pa, pb, pc, pcs, qa, qb, qc, qas⟩, rfl, hm1, ha1⟩ := one_val ho
    have HM1 := Lib.hid (hm1.kept (below_new w1 (.cells #[.string pn, .slice pa pb pc, .slice qa qb qc] 26)))
    have HX1 := Lib.hid (BoxC.new w1 [.string pn, .slice pa pb pc, .slice qa qb qc] 26)
    have HB1 := Lib.hid (b1.alloc b1.size (.cells #[.string pn, .slice pa pb pc, .slice qa qb qc] 26))
    unfold ProdR.val
    simp only
    clear ho b1 hm1 HO
    go_wp2_with fail
    refine (HO8.out _).mono ?_
    rintro x w2 ⟨ho, b2⟩
    obtain ⟨⟨un, ua, ub, uc, ucs, va, vb, vc, vas⟩, rfl, hm2, ha2⟩ := one_val ho
    have HM12 := (HM1.out.kept b2).kept (below_new w2 (.cells #[.string un, .slice ua ub uc, .slice va vb vc] 26))
    have HM2 := hm2.kept (below_new w2 (.cells #[.string un, .slice ua ub uc, .slice va vb vc] 26))
    have HX2 := (HX1.out.below b2).alloc (.cells #[.string un, .slice ua ub uc, .slice va vb vc] 26)
    have HY2 := BoxC.new w2 [.string un, .slice ua ub uc, .slice va vb vc] 26
    have hb2 := HB1.out.trans (b2.mono HB1.out.size)
    have HB2 := Lib.hid (hb2.alloc hb2.size (.cells #[.string un, .slice ua ub uc, .slice va vb vc] 26))
    have hk := kProd_any _ _ _ HM12 HM2
    rw [pdEq_iff.2 (ha1.trans ha2.symm)] at hk
    unfold ProdR.val at hk ⊢
    dsimp only at hk
    simp only
    have HK := Lib.hid hk
    obtain ⟨x0, x1, x2⟩ := three_box HX2
    obtain ⟨y0, y1, y2⟩ := three_box HY2
    clear ho b2 hm2 hk HM12 HM2 HX2 HY2 hb2 HX1 HB1 HM1 HO8 ha1 ha2
    go_wp2_with (first | (go_at_call 9; refine HK.out.mono ?_; rintro e w3 ⟨rfl, b3⟩) | (go_at_call 6; refine (wakes8_any _).mono ?_; rintro e w4 ⟨rfl, b4⟩))
    go_ret
    exact ⟨rfl, (HB2.out.trans (b3.mono HB2.out.size)).trans (b4.mono (HB2.out.trans (b3.mono HB2.out.size)).size)⟩
  · have hz' : (3000 : Int) < (s.size : Int) := by omega
    go_enter Tryz.func3, Tryz.ntmps3
    go_wp2_with (go_at_call 6; refine (wakes8_any _).mono ?_; rintro e w3 ⟨rfl, b3⟩)
    go_ret
    exact ⟨rfl, b3⟩
end Go.Proofs.YtgeaccoobhigcaaGreat
namespace Go.Proofs.YtgeaccoobhigcaaGreat
open Go.ChangeShapes Go.WideShapes Go.ChangeAt Go.RowKit
open Go.ChangeMaps (open_string shut_string)

theorem readOnes_own : ownKnob Tryz.prog.godebug = none := by kernel_rfl
theorem readOnes_laidOut : laidOutB Tryz.prog = true := by kernel_rfl

set_option maxRecDepth 100000 in
theorem readOnes_lifted (os : Os) (started : os.Started) (H : Type) (enc : TypeId × Value → H) :
    ReturnsInHanded {} Tryz.checked os 3 .any (Rows.readOnesSpec.pre6 enc Tryz.prog Tryz.f3 Rows.readOnesRow.domain false) (Rows.readOnesSpec.post enc Tryz.prog Tryz.f3 false true false false) := by
  refine returnsInHanded_of_change (C := Tryz.checked) readOnes_own started (by kernel_rfl) Tryz.func3
    (ChangeSpec.witness6 (enc := enc) (C := Tryz.checked) false ⟨#[], #[.string ⟨#[]⟩], []⟩ 8 (by kernel_rfl) (by kernel_rfl) (by kernel_rfl) (by kernel_rfl)) ?_
  intro W base args ds gs before hval0 hW _ _
  have hval : ∀ (j : Nat) t v, Tryz.f3.params[j]? = some t → args[j]? = some v → Value.okWide Tryz.prog W .any base t v := hval0
  have hW' := hW
  obtain ⟨p, q, hA0, hV, rfl, hfz, hnd⟩ := hW
  have hA : DataW.TrodAll enc Tryz.prog W 0 (fun _ => true) true Tryz.f3.params.toList args.toList ds p := hA0
  rw [Tryz.params3] at hA hval
  obtain ⟨v0, vs0, d0, ds0, p0, q0, hargs, rfl, rfl, h0, r0⟩ := trodAll_cons hA
  obtain ⟨rfl, rfl, rfl⟩ := trodAll_nil r0
  obtain rfl : args = #[v0] := by cases args; simp_all
  obtain ⟨rfl, rfl⟩ := trodVars_none hV
  obtain ⟨a0, rfl, rfl, rfl, w0⟩ := open_string Tryz.underlying9 (hval 0 9 v0 rfl rfl) h0
  clear hA0 hval0
  refine (readOnes_walk a0 W).mono fun e W' ⟨he, bel⟩ => ?_
  subst he
  exact ⟨_, rfl, _, _, _, [], _, [], hW', trodAll_mk1 (shut_bool Tryz.underlying4 _), (trodAll_cons_mk (shut_string Tryz.underlying9 w0) trodAll_mk0), rfl, bel.frame _, fun h => by cases h⟩

/-- THE GIVEN STATEMENT. -/
theorem readOnes_holds : Rows.ReadOnesSaid :=
  OpenClaim.holds_of_wide 3 Tryz.f3 rfl rfl rfl rfl rfl rfl rfl ⟨rfl, rfl, rfl, rfl, rfl⟩ rfl rfl rfl rfl rfl (by kernel_rfl) Tryz.func3 (by kernel_rfl)
    (of_decide_eq_true (by kernel_rfl)) (by unfold Func.isWrapper; first | (rw [if_pos (by decide +kernel)]; kernel_rfl) | (rw [if_neg (by decide +kernel)]; exact ⟨rfl, rfl⟩))
    (fun os started H enc _ => readOnes_lifted os started H enc)
#print axioms readOnes_holds
end Go.Proofs.YtgeaccoobhigcaaGreat
