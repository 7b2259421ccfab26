/-
  The law ShowParts holds for every input: the given statement Rows.ShowPartsSaid, without any condition of its own.
-/
import Derived.Test.YtgeaccoobhigcaaG6
import Derived.Test.YtgeaccoobhigcaaG8
import Derived.Test.YtgeaccoobhigcaaG7
import Derived.ProofKit
import Derived.OpenShut
import Derived.ShutString
import Derived.ChangeOld
import Derived.Below
namespace Go.Proofs.Ytgeaccoobhigcaa
open Go Go.RowKit

theorem linesC_snoc2 {conds : List CondR} {i : Nat} {x : CondR} {w : World} (hx : conds[i]? = some x) (ho : x.Ok w) (s : ByteArray) : linesC (absL (conds.take (i + 1))) s = linesC (absL (conds.take i)) s ++ (⟨#[32, 32]⟩ ++ condS x ++ ⟨#[10]⟩) := by
  rw [take_snoc2 hx, absL_map, List.map_append, ← absL_map, List.map_cons, List.map_nil, linesC_snoc, condS_abs ho]
  simp only [ByteArray.append_assoc]
theorem linesA_snoc2 {acts : List Ac} {i : Nat} {x : Ac} (hx : acts[i]? = some x) (s : ByteArray) : linesA (acts.take (i + 1)) s = linesA (acts.take i) s ++ (⟨#[32, 32]⟩ ++ actS x ++ ⟨#[10]⟩) := by
  rw [take_snoc2 hx, linesA_snoc]
  simp only [ByteArray.append_assoc]

set_option maxRecDepth 100000 in
set_option maxHeartbeats 8000000 in
theorem showParts_walk (p : ProdR) (w : World) (h : p.Mem w) : Calls Try.prog 10 #[p.val] w fun x w' => x = .returned (.bool true) ∧ Below w.heap.size w w' := by
  have hH := fun W (hW : Below w.heap.size w W) => heavy_any p W (h.kept hW)
  have hR := fun hn W (hW : Below w.heap.size w W) => rShape_any p W (h.kept hW) hn
  have hP := fun hn W (hW : Below w.heap.size w W) => showProd_any p W (h.kept hW) hn
  have hlt : p.Light → condsN p.conds ≤ 1000000 := fun hl => by have := hl.n; omega
  have hzz := fun he : shapeE p.abs = 0 => shapeE_zero he
  have hpt : shapeE p.abs = 0 → prodTx p.abs = prodT p.abs := fun he => by unfold prodTx; rw [if_pos he]
  obtain ⟨hname, hsc, hco, hsa, hac⟩ := h
  obtain ⟨name, ca, cn, cc, conds, aa, an, ac, acts⟩ := p
  have hv : ProdR.val ⟨name, ca, cn, cc, conds, aa, an, ac, acts⟩ = .agg #[.string name, .slice ca cn cc, .slice aa an ac] := rfl
  rw [hv] at hH hR hP ⊢
  have hbb := below_new w (.cells #[.string name, .slice ca cn cc, .slice aa an ac] 48)
  have hx0 : BoxC (w.alloc (.cells #[.string name, .slice ca cn cc, .slice aa an ac] 48)) w.heap.size 48 [.string name, .slice ca cn cc, .slice aa an ac] := BoxC.new w _ 48
  have HH := Lib.hid hH
  have HR := Lib.hid hR
  have HP := Lib.hid hP
  have HL := Lib.hid hlt
  have HZZ := Lib.hid hzz
  have HPT := Lib.hid hpt
  have HBB := Lib.hid hbb
  have HX := Lib.hid hx0
  have HSC := Lib.hid hsc
  have HCO := Lib.hid hco
  have HSA := Lib.hid hsa
  have HAC := Lib.hid hac
  clear hH hR hP hlt hzz hpt hbb hx0 hv hsc hco hsa hac
  go_enter Try.func10, Try.ntmps10
  go_wp2_with fail
  refine (HH.out _ HBB.out).mono ?_
  rintro e w2 ⟨⟨b, rfl, hb⟩, b2⟩
  have HB := Lib.hid hb
  have HBB2 := Lib.hid (below_trans HBB.out b2)
  have HX2 := Lib.hid (HX.out.below b2)
  clear hb b2
  cases b with
  | true =>
    go_wp2_with (go_at_call 32; refine (wakes7_any _).mono ?_; rintro e w3 ⟨rfl, b3⟩)
    go_ret
    exact ⟨rfl, below_trans HBB2.out b3⟩
  | false =>
    have hl := HB.out rfl
    have hn := HL.out hl
    have HR2 := Lib.hid (HR.out hn)
    have HP2 := Lib.hid (HP.out hn)
    have HLI := Lib.hid hl
    obtain ⟨x0, x1, x2⟩ := three_box HX2.out
    clear HR HH HB hl HX HL HP
    go_wp2_with fail
    refine (HR2.out _ HBB2.out).mono ?_
    rintro e w3 ⟨⟨k, rfl⟩, b3⟩
    have HX3 := Lib.hid (HX2.out.below b3)
    have HB3 := Lib.hid (below_trans HBB2.out b3)
    clear b3 x0 x1 x2 HX2 HBB2 HBB HR2
    obtain ⟨E, hE⟩ : ∃ E, shapeE (ProdR.abs ⟨name, ca, cn, cc, conds, aa, an, ac, acts⟩) = E := ⟨_, rfl⟩
    rw [hE]
    by_cases h0 : E = 0
    · subst h0
      obtain ⟨z1, z2, z3, z4, z5, z6, z7⟩ := HZZ.out hE
      have hPT := HPT.out hE
      unfold ProdR.abs at z1 z2 z3 z4 z5 z6 z7
      unfold ProdR.abs prodT at hPT
      simp only at z1 z2 z3 z4 z5 z6 z7 hPT
      have HPE : Hid (∀ W, Below w.heap.size w W → Calls Try.prog 34 #[.agg #[.string name, .slice ca cn cc, .slice aa an ac]] W fun e w' => e = .returned (.tuple #[.string (linesA acts (linesC (absL conds) ((⟨#[115, 112, 32, 123]⟩ : ByteArray) ++ name ++ ⟨#[10]⟩) ++ ⟨#[45, 45, 62, 10]⟩) ++ ⟨#[125, 10]⟩), .int .i64 0]) ∧ Below W.heap.size W w') := Lib.hid (by
        have := HP2.out
        unfold ProdR.abs at this hE
        rw [hE] at this
        rw [hPT] at this
        exact this)
      have hcl := condsMem_len HSC.out
      have hal := actsMem_len HSA.out
      have hok := firstEs_ok HCO.out z6
      have hsm := fun a ha => actB_small (HAC.out a ha) (List.all_eq_true.1 z7 a ha)
      have hnz := (wordB_size z1).2
      rw [← condsN_abs] at z2 z3
      have hzc := fun i s => linesC_size (l := conds.take i) (fun c hc => hok c (List.mem_of_mem_take hc)) s
      have hza := fun i s => linesA_size (l := acts.take i) (fun c hc => (hsm c (List.mem_of_mem_take hc)).1) s
      have hc1 := HSC.out.2.1
      have hc2 := HSC.out.2.2.1
      have hc3 := HSA.out.2.1
      have hc4 := HSA.out.2.2.1
      unfold maxLen at hc2 hc4
      have HCL := Lib.hid hcl
      have HAL := Lib.hid hal
      have HOK := Lib.hid hok
      have HSM := Lib.hid hsm
      have HZC := Lib.hid hzc
      have HZA := Lib.hid hza
      have p1 := fun w => run_string_add_sum (P := Try.prog) w (⟨#[115, 112, 32, 123]⟩ : ByteArray) name (by show 4 + _ ≤ _; omega)
      have p2 := fun w => run_string_add_sum (P := Try.prog) w ((⟨#[115, 112, 32, 123]⟩ : ByteArray) ++ name) ⟨#[10]⟩ (by rw [cat2_size]; show 4 + _ + 1 ≤ _; omega)
      have hS0 : ((⟨#[115, 112, 32, 123]⟩ : ByteArray) ++ name ++ ⟨#[10]⟩).size ≤ 40 := by rw [cat2_size, cat2_size]; show 4 + _ + 1 ≤ _; omega
      generalize hS0e : (⟨#[115, 112, 32, 123]⟩ : ByteArray) ++ name ++ ⟨#[10]⟩ = S0 at hS0 p2 HPE
      obtain ⟨x0, x1, x2⟩ := three_box HX3.out
      clear hcl hal hok hsm hzc hza z1 z6 z7 hS0e hE hPT HPT HZZ HP2
      go_wp2
      go_loopw [5, 6] (fun ts ti wr => ∃ i : Nat, i ≤ cn ∧ ts = .string (linesC (absL (conds.take i)) S0) ∧ ti = .int .i64 i ∧ Below w.heap.size w wr ∧ Hid (BoxC wr w.heap.size 48 [.string name, .slice ca cn cc, .slice aa an ac])) (fun _ ti _ => cn - (intOf ti).toNat)
      case atStart => exact ⟨0, by omega, by simp [absL, linesC], rfl, HB3.out, HX3⟩
      case round => as_aux_lemma =>
        clear x0 x1 x2 p1 p2
        obtain ⟨i, hi, rfl, rfl, hb, HX⟩ := hrel
        have hz := HZC.out i S0
        have hzn := condsN_take conds i
        have hz2 : (linesC (absL (conds.take i)) S0).size ≤ 40 + 4000000000 * 16 := Nat.le_trans hz (Nat.add_le_add hS0 (Nat.mul_le_mul_left _ (by omega)))
        clear hz hzn
        by_cases hlt : i < cn
        · obtain ⟨x, hx⟩ : ∃ x, conds[i]? = some x := ⟨_, List.getElem?_eq_getElem (by rw [HCL.out]; exact hlt)⟩
          have hm := List.mem_of_getElem? hx
          have hxn := condsN_mem hm
          obtain ⟨ho, hf, hh⟩ := HOK.out x hm
          have hxz := condS_size ho hf
          have hxz2 : (condS x).size ≤ 3000000000 * 16 := by
            have : 3000000000 * condN x ≤ 3000000000 * 16 := Nat.mul_le_mul_left _ (by omega)
            omega
          have hX := fun W (hW : Below w.heap.size w W) => showCond_any ho hf (by omega) W hW
          have hY := fun W (hW : Below w.heap.size w W) => refCond_any ho hf hh (by omega) W hW
          obtain ⟨g, o, rfl, hcell⟩ := (HSC.out.kept hb).row_at condR_len (by omega) hx
          have HSN := Lib.hid (linesC_snoc2 hx ho S0)
          have hcl := condR_len x
          have hcc : ∀ j u, x.cells[j]? = some u → wr.cell? ((⟨g, o + i * 7, none⟩ : Addr).add j) = some u := fun j u h => by rw [addr_add_lit]; exact hcell j u h
          rw [condR_val x] at hX hY
          generalize x.cells = C at hcl hcc hX hY
          generalize condS x = X at hX hY HSN hxz2
          generalize hT : linesC (absL (conds.take i)) S0 = T at HSN hz2 ⊢
          have HX1 := Lib.hid (hX _ hb)
          have HY := Lib.hid hY
          have HCLL := Lib.hid hcl
          have HCC := Lib.hid hcc
          obtain ⟨x0, x1, x2⟩ := three_box HX.out
          have HBR := Lib.hid hb
          clear hx hX hY hcell hm hcl hcc ho hf hh hxz hxn hT
          have p1 := fun w => run_string_add_sum (P := Try.prog) w (⟨#[32, 32]⟩ : ByteArray) X (by show 2 + _ ≤ _; omega)
          have p2 := fun w => run_string_add_sum (P := Try.prog) w ((⟨#[32, 32]⟩ : ByteArray) ++ X) ⟨#[10]⟩ (by rw [cat2_size]; show 2 + _ + 1 ≤ _; omega)
          have p3 := fun w => run_string_add_sum (P := Try.prog) w T ((⟨#[32, 32]⟩ : ByteArray) ++ X ++ ⟨#[10]⟩) (by simp only [cat2_size]; show _ + (2 + _ + 1) ≤ _; omega)
          go_wp2_with (refine wpList_load_agg (o := ⟨some 38, _, _, _, _, _⟩) agg60 rfl _ rfl ⟨g, o + i * 7, none⟩ rfl C HCC.out HCLL.out ?_)
          refine HX1.out.mono ?_
          rintro e w5 ⟨rfl, b5⟩
          have HBR5 := Lib.hid (below_trans HBR.out b5)
          have HXR5 := Lib.hid (HX.out.below b5)
          have HCC5 : Hid (∀ j u, C[j]? = some u → w5.cell? ((⟨g, o + i * 7, none⟩ : Addr).add j) = some u) := Lib.hid (fun j u hj => by
            have h1 := HCC.out j u hj
            rw [addr_add_lit] at h1 ⊢
            exact (b5.cell (p := ⟨g, o + i * 7 + j, none⟩) (World.block_lt_of_cell? wr _ h1)).trans h1)
          obtain ⟨x0, x1, x2⟩ := three_box HXR5.out
          clear b5
          go_wp2_with (refine wpList_load_agg (o := ⟨some 45, _, _, _, _, _⟩) agg60 rfl _ rfl ⟨g, o + i * 7, none⟩ rfl C HCC5.out HCLL.out ?_)
          refine (HY.out _ HBR5.out).mono ?_
          rintro e w6 ⟨rfl, b6⟩
          have HBR6 := Lib.hid (below_trans HBR5.out b6)
          have HXR6 := Lib.hid (HXR5.out.below b6)
          clear b6 x0 x1 x2
          go_wp2
          go_roundw
          case rel => exact ⟨i + 1, by omega, by rw [HSN.out], by go_num, HBR6.out, HXR6⟩
          case measure => simp [intOf]; omega
        · obtain rfl : i = cn := by omega
          have htk : Hid (conds.take i = conds) := Lib.hid (List.take_of_length_le (by rw [HCL.out]; omega))
          rw [htk.out] at hz2 ⊢
          obtain ⟨x0, x1, x2⟩ := three_box HX.out
          have q1 := fun w => run_string_add_sum (P := Try.prog) w (linesC (absL conds) S0) ⟨#[45, 45, 62, 10]⟩ (by show _ + 4 ≤ _; omega)
          have hU : (linesC (absL conds) S0 ++ ⟨#[45, 45, 62, 10]⟩).size ≤ 64000000044 := by rw [cat2_size]; show _ + 4 ≤ _; omega
          generalize hUU : linesC (absL conds) S0 ++ ⟨#[45, 45, 62, 10]⟩ = U at q1 hU HPE
          have HBR := Lib.hid hb
          clear hUU hb
          obtain ⟨wo, rfl⟩ : ∃ wo : World, wo = wr := ⟨_, rfl⟩
          go_wp2
          go_loopw [5, 8] (fun ts ti wr => ∃ j : Nat, j ≤ an ∧ ts = .string (linesA (acts.take j) U) ∧ ti = .int .i64 j ∧ Below w.heap.size w wr ∧ Hid (BoxC wr w.heap.size 48 [.string name, .slice ca i cc, .slice aa an ac])) (fun _ ti _ => an - (intOf ti).toNat)
          case atStart => exact ⟨0, by omega, by simp [linesA], rfl, HBR.out, HX⟩
          case round => as_aux_lemma =>
            clear x0 x1 x2 q1 HBR HX
            obtain ⟨j, hj, rfl, rfl, hb, HX⟩ := hrel
            have hz := HZA.out j U
            have hz3 : (linesA (acts.take j) U).size ≤ 64000000044 + 20000000 * 16 := Nat.le_trans hz (Nat.add_le_add hU (Nat.mul_le_mul_left _ (by rw [List.length_take]; omega)))
            clear hz
            by_cases hlt : j < an
            · obtain ⟨x, hx⟩ : ∃ x, acts[j]? = some x := ⟨_, List.getElem?_eq_getElem (by rw [HAL.out]; exact hlt)⟩
              have hm := List.mem_of_getElem? hx
              obtain ⟨hsm, o1, o2, o3, o4⟩ := HSM.out x hm
              have hxz2 := actS_size hsm
              have hX := fun W => showAct_any x hsm W
              have hY := fun W => refAct_any x hsm o3 o4 o1 o2 W
              obtain ⟨g, o, rfl, hcell⟩ := (HSA.out.kept hb).row_at ac_len (by omega) hx
              have HSN := Lib.hid (linesA_snoc2 hx U)
              have hcl := ac_len x
              have hcc : ∀ k u, x.cells[k]? = some u → wr.cell? ((⟨g, o + j * 19, none⟩ : Addr).add k) = some u := fun k u h => by rw [addr_add_lit]; exact hcell k u h
              rw [show x.val = .agg x.cells.toArray from rfl] at hX hY
              generalize x.cells = C at hcl hcc hX hY
              generalize actS x = X at hX hY HSN hxz2
              generalize hT : linesA (acts.take j) U = T at HSN hz3 ⊢
              have HX1 := Lib.hid hX
              have HY := Lib.hid hY
              have HCLL := Lib.hid hcl
              have HCC := Lib.hid hcc
              obtain ⟨x0, x1, x2⟩ := three_box HX.out
              have HBR := Lib.hid hb
              clear hx hX hY hcell hm hcl hcc hsm hT o1 o2 o3 o4 hb
              have p1 := fun w => run_string_add_sum (P := Try.prog) w (⟨#[32, 32]⟩ : ByteArray) X (by show 2 + _ ≤ _; omega)
              have p2 := fun w => run_string_add_sum (P := Try.prog) w ((⟨#[32, 32]⟩ : ByteArray) ++ X) ⟨#[10]⟩ (by rw [cat2_size]; show 2 + _ + 1 ≤ _; omega)
              have p3 := fun w => run_string_add_sum (P := Try.prog) w T ((⟨#[32, 32]⟩ : ByteArray) ++ X ++ ⟨#[10]⟩) (by simp only [cat2_size]; show _ + (2 + _ + 1) ≤ _; omega)
              go_wp2_with (refine wpList_load_agg (o := ⟨some 66, _, _, _, _, _⟩) agg69 rfl _ rfl ⟨g, o + j * 19, none⟩ rfl C HCC.out HCLL.out ?_)
              refine (HX1.out _).mono ?_
              rintro e w5 ⟨rfl, b5⟩
              have HBR5 := Lib.hid (below_trans HBR.out b5)
              have HXR5 := Lib.hid (HX.out.below b5)
              have HCC5 : Hid (∀ j' u, C[j']? = some u → w5.cell? ((⟨g, o + j * 19, none⟩ : Addr).add j') = some u) := Lib.hid (fun j' u hj => by
                have h1 := HCC.out j' u hj
                rw [addr_add_lit] at h1 ⊢
                exact (b5.cell (p := ⟨g, o + j * 19 + j', none⟩) (World.block_lt_of_cell? wr _ h1)).trans h1)
              obtain ⟨x0, x1, x2⟩ := three_box HXR5.out
              clear b5
              go_wp2_with (refine wpList_load_agg (o := ⟨some 73, _, _, _, _, _⟩) agg69 rfl _ rfl ⟨g, o + j * 19, none⟩ rfl C HCC5.out HCLL.out ?_)
              refine (HY.out _).mono ?_
              rintro e w6 ⟨rfl, b6⟩
              have HBR6 := Lib.hid (below_trans HBR5.out b6)
              have HXR6 := Lib.hid (HXR5.out.below b6)
              clear b6 x0 x1 x2
              go_wp2
              go_roundw
              case rel => exact ⟨j + 1, by omega, by rw [HSN.out], by go_num, HBR6.out, HXR6⟩
              case measure => simp [intOf]; omega
            · obtain rfl : j = an := by omega
              have htk2 : Hid (acts.take j = acts) := Lib.hid (List.take_of_length_le (by rw [HAL.out]; omega))
              rw [htk2.out] at hz3 ⊢
              have q2 := fun w => run_string_add_sum (P := Try.prog) w (linesA acts U) ⟨#[125, 10]⟩ (by show _ + 2 ≤ _; omega)
              obtain ⟨x0, x1, x2⟩ := three_box HX.out
              have HBR := Lib.hid hb
              generalize linesA acts U = Z at q2 HPE ⊢
              clear hb
              go_wp2_with fail
              refine (HPE.out _ HBR.out).mono ?_
              rintro e w5 ⟨rfl, b5⟩
              have HBR5 := Lib.hid (below_trans HBR.out b5)
              clear b5 x0 x1 x2
              go_wp2_with (go_at_call 32; refine (wakes7_any _).mono ?_; rintro e w6 ⟨rfl, b6⟩)
              go_ret
              exact ⟨rfl, below_trans HBR5.out b6⟩
    · have e1 : (E != 0) = true := by simp [h0]
      clear hE
      go_wp2_with (go_at_call 32; refine (wakes7_any _).mono ?_; rintro e w4 ⟨rfl, b4⟩)
      go_ret
      exact ⟨rfl, below_trans HB3.out b4⟩
end Go.Proofs.Ytgeaccoobhigcaa
namespace Go.Proofs.Ytgeaccoobhigcaa
open Go.ChangeShapes Go.WideShapes Go.ChangeAt Go.RowKit
open Go.ChangeMaps (open_string shut_string)

theorem showParts_own : ownKnob Try.prog.godebug = none := by kernel_rfl
theorem showParts_laidOut : laidOutB Try.prog = true := by kernel_rfl

set_option maxRecDepth 100000 in
theorem showParts_lifted (os : Os) (started : os.Started) (H : Type) (enc : TypeId × Value → H) :
    ReturnsInHanded {} Try.checked os 10 .any (Rows.showPartsSpec.pre6 enc Try.prog Try.f10 Rows.showPartsRow.domain false) (Rows.showPartsSpec.post enc Try.prog Try.f10 false true false false) := by
  refine returnsInHanded_of_change (C := Try.checked) showParts_own started (by kernel_rfl) Try.func10
    (ChangeSpec.witness6 (enc := enc) (C := Try.checked) false ⟨#[], #[.agg #[.string ⟨#[]⟩, .slice none 0 0, .slice none 0 0]], []⟩ 8 (by kernel_rfl) (by kernel_rfl) (by kernel_rfl) (by kernel_rfl)) ?_
  intro W base args ds gs before hval0 hW _ _
  have hval : ∀ (j : Nat) t v, Try.f10.params[j]? = some t → args[j]? = some v → Value.okWide Try.prog W .any base t v := hval0
  have hW' := hW
  obtain ⟨p, q, hA0, hV, rfl, hfz, hnd⟩ := hW
  have hA : DataW.TrodAll enc Try.prog W 0 (fun _ => true) true Try.f10.params.toList args.toList ds p := hA0
  rw [Try.params10] at hA hval
  obtain ⟨v0, vs0, d0, ds0, p0, q0, hargs, rfl, rfl, h0, r0⟩ := trodAll_cons hA
  obtain ⟨rfl, rfl, rfl⟩ := trodAll_nil r0
  obtain rfl : args = #[v0] := by cases args; simp_all
  obtain ⟨rfl, rfl⟩ := trodVars_none hV
  have k0 := h0
  have lt0 : ∀ x ∈ p0, x.block < W.heap.size := by obtain ⟨m, hm⟩ := k0; exact DataW.trod_lt m _ _ _ hm
  obtain ⟨cs0, rfl, _⟩ := okWide_struct und48 (hval 0 48 v0 rfl rfl)
  obtain ⟨a0, ev0, w0⟩ : ∃ p : ProdR, cs0.toList = p.cells ∧ p.Mem W := by
    obtain ⟨fuel, hf⟩ := h0
    exact open_prod hf
  obtain rfl : cs0 = a0.cells.toArray := by rw [← ev0]
  clear hA0 hval0
  refine (showParts_walk a0 W w0).mono fun e W' ⟨he, bel⟩ => ?_
  subst he
  exact ⟨_, rfl, _, _, _, [], _, [], hW', trodAll_mk1 (shut_bool Try.underlying4 _), (trodAll_cons_mk (Below.trod showParts_laidOut (by kernel_rfl) (of_decide_eq_true (by kernel_rfl)) k0 bel lt0) trodAll_mk0), rfl, bel.frame _, fun h => by cases h⟩

/-- THE GIVEN STATEMENT. -/
theorem showParts_holds : Rows.ShowPartsSaid :=
  OpenClaim.holds_of_wide 10 Try.f10 rfl rfl rfl rfl rfl rfl rfl ⟨rfl, rfl, rfl, rfl, rfl⟩ rfl rfl rfl rfl rfl (by kernel_rfl) Try.func10 (by kernel_rfl)
    (of_decide_eq_true (by kernel_rfl)) (by unfold Func.isWrapper; first | (rw [if_pos (by decide +kernel)]; kernel_rfl) | (rw [if_neg (by decide +kernel)]; exact ⟨rfl, rfl⟩))
    (fun os started H enc _ => showParts_lifted os started H enc)
#print axioms showParts_holds
end Go.Proofs.Ytgeaccoobhigcaa
