/-
  ponderref07.Prod.
-/
import Derived.Test.YtgeaccoobhigcaaS36
namespace Go.Proofs.Ytgeaccoobhigcaa
open Go Go.RowKit

set_option maxRecDepth 100000 in
set_option maxHeartbeats 8000000 in
theorem refProd_bad (p : ProdR) (w : World) (h : p.Mem w) (hn : condsN p.conds ≤ 1000000) (he : shapeE p.abs ≠ 0) : Calls Try.prog 35 #[p.val] w fun e w' => e = .returned (.tuple #[.string (prodTx p.abs), .int .i64 (shapeE p.abs)]) ∧ Below w.heap.size w w' := by
  have hb0 := below_new w (.cells #[.string p.name, .slice p.ca p.cn p.cc, .slice p.aa p.an p.ac] 48)
  have hS := rShape_any p _ (h.kept hb0) hn
  unfold prodTx
  rw [if_neg he]
  generalize shapeE p.abs = E at hS he ⊢
  unfold ProdR.val at hS ⊢
  have HS := Lib.hid hS
  have HB0 := Lib.hid hb0
  have e1 : (E != 0) = true := by simp [he]
  have e0 : (E == 0) = false := by simp [he]
  clear hS hb0 he h hn
  go_enter Try.func35, Try.ntmps35
  go_wp2_with (go_at_call 37; refine HS.out.mono ?_; rintro e w2 ⟨⟨k, rfl⟩, b2⟩; have acc := Lib.hid (below_trans HB0.out b2))
  go_ret2
  exact ⟨rfl, acc.out⟩

set_option maxRecDepth 100000 in
set_option maxHeartbeats 8000000 in
theorem refProd_good (p : ProdR) (w : World) (h : p.Mem w) (hn : condsN p.conds ≤ 1000000) (he : shapeE p.abs = 0) : Calls Try.prog 35 #[p.val] w fun e w' => e = .returned (.tuple #[.string (prodTx p.abs), .int .i64 0]) ∧ Below w.heap.size w w' := by
  have hb0 := below_new w (.cells #[.string p.name, .slice p.ca p.cn p.cc, .slice p.aa p.an p.ac] 48)
  have hS := rShape_any p _ (h.kept hb0) hn
  have HTX : Hid (prodTx p.abs = prodT p.abs) := Lib.hid (by unfold prodTx; rw [if_pos he])
  obtain ⟨z1, z2, z3, z4, z5, z6, z7⟩ := shapeE_zero he
  rw [he] at hS
  rw [HTX.out]
  clear HTX he
  obtain ⟨hname, hsc, hco, hsa, hac⟩ := h
  obtain ⟨name, ca, cn, cc, conds, aa, an, ac, acts⟩ := p
  unfold ProdR.val at hS ⊢
  unfold ProdR.abs at z1 z2 z3 z4 z5 z6 z7
  unfold ProdR.abs prodT
  simp only at hname hsc hco hsa hac hn hS z1 z2 z3 z4 z5 z6 z7 ⊢
  have hcl := condsMem_len hsc
  have hal := actsMem_len hsa
  have hok := firstEs_ok hco z6
  have hsm := fun a ha => actB_small (hac a ha) (List.all_eq_true.1 z7 a ha)
  have hnz := (wordB_size z1).2
  rw [← condsN_abs] at z2 z3
  have hzc := fun i s => linesC_size (l := conds.take i) (fun c hc => hok c (List.mem_of_mem_take hc)) s
  have hza := fun i s => linesA_size (l := acts.take i) (fun c hc => (hsm c (List.mem_of_mem_take hc)).1) s
  have hc1 := hsc.2.1
  have hc2 := hsc.2.2.1
  have hc3 := hsa.2.1
  have hc4 := hsa.2.2.1
  unfold maxLen at hc2 hc4
  have hbx := BoxC.new w [.string name, .slice ca cn cc, .slice aa an ac] 48
  have HS := Lib.hid hS
  have HB0 := Lib.hid hb0
  have HCL := Lib.hid hcl
  have HAL := Lib.hid hal
  have HOK := Lib.hid hok
  have HSM := Lib.hid hsm
  have HZC := Lib.hid hzc
  have HZA := Lib.hid hza
  have HSC := Lib.hid hsc
  have HSA := Lib.hid hsa
  have HBX : Hid (BoxC (w.alloc (.cells #[.string name, .slice ca cn cc, .slice aa an ac] 48)) w.heap.size 48 [.string name, .slice ca cn cc, .slice aa an ac]) := Lib.hid hbx
  have p1 := fun w => run_string_add_sum (P := Try.prog) w (⟨#[115, 112, 32, 123]⟩ : ByteArray) name (by show 4 + _ ≤ _; omega)
  have p2 := fun w => run_string_add_sum (P := Try.prog) w ((⟨#[115, 112, 32, 123]⟩ : ByteArray) ++ name) ⟨#[10]⟩ (by rw [cat2_size]; show 4 + _ + 1 ≤ _; omega)
  have hS0 : ((⟨#[115, 112, 32, 123]⟩ : ByteArray) ++ name ++ ⟨#[10]⟩).size ≤ 40 := by rw [cat2_size, cat2_size]; show 4 + _ + 1 ≤ _; omega
  obtain ⟨S0, hS0e⟩ : ∃ S0, (⟨#[115, 112, 32, 123]⟩ : ByteArray) ++ name ++ ⟨#[10]⟩ = S0 := ⟨_, rfl⟩
  rw [hS0e] at hS0 p2 ⊢
  have HS0 := Lib.hid hS0e
  clear hS hb0 hcl hal hok hsm hzc hza hsc hsa hbx hco hac z1 z6 z7 hS0e
  go_enter Try.func35, Try.ntmps35
  go_wp2_with (go_at_call 37; refine HS.out.mono ?_; rintro e w2 ⟨⟨k, rfl⟩, b2⟩; have B2 := HBX.out.below b2; have x0 := B2.at_ (j := 0) rfl; have x1 := B2.at_ (j := 1) rfl; have HB2 := Lib.hid B2; have acc := Lib.hid (below_trans HB0.out b2); clear B2)
  go_loopw [6, 7] (fun ts ti wr => ∃ i : Nat, i ≤ cn ∧ ts = .string (linesC (absL (conds.take i)) S0) ∧ ti = .int .i64 i ∧ Below w.heap.size w wr ∧ Hid (BoxC wr w.heap.size 48 [.string name, .slice ca cn cc, .slice aa an ac])) (fun _ ti _ => cn - (intOf ti).toNat)
  case atStart => exact ⟨0, by omega, by simp [absL, linesC], rfl, acc.out, HB2⟩
  case round => as_aux_lemma =>
    obtain ⟨i, hi, rfl, rfl, hb, HX⟩ := hrel
    have x1 := HX.out.at_ (j := 1) rfl
    have hz := HZC.out i S0
    have hzn := condsN_take conds i
    have hz2 : (linesC (absL (conds.take i)) S0).size ≤ 40 + 4000000000 * 16 := Nat.le_trans hz (Nat.add_le_add hS0 (Nat.mul_le_mul_left _ (by omega)))
    clear hz hzn
    by_cases hlt : i < cn
    · obtain ⟨x, hx⟩ : ∃ x, conds[i]? = some x := ⟨_, List.getElem?_eq_getElem (by rw [HCL.out]; exact hlt)⟩
      have hm := List.mem_of_getElem? hx
      have hxn := condsN_mem hm
      obtain ⟨ho, hf, hh⟩ := HOK.out x hm
      have hxz := condS_size ho hf
      have hxz2 : (condS x).size ≤ 3000000000 * 16 := by
        have : 3000000000 * condN x ≤ 3000000000 * 16 := Nat.mul_le_mul_left _ (by omega)
        omega
      have hX := fun W (hW : Below w.heap.size w W) => refCond_any ho hf hh (by omega) W hW
      obtain ⟨g, o, rfl, hcell⟩ := (HSC.out.kept hb).row_at condR_len (by omega) hx
      have HSN : Hid (linesC (absL (conds.take (i + 1))) S0 = linesC (absL (conds.take i)) S0 ++ ⟨#[32, 32]⟩ ++ condS x ++ ⟨#[10]⟩) := Lib.hid (by rw [take_snoc2 hx, absL_map, List.map_append, ← absL_map, List.map_cons, List.map_nil, linesC_snoc, condS_abs ho])
      have hcl := condR_len x
      have hc1 := condR_one x
      have hcc : ∀ j u, x.cells[j]? = some u → wr.cell? ((⟨g, o + i * 7, none⟩ : Addr).add j) = some u := fun j u h => by rw [addr_add_lit]; exact hcell j u h
      rw [condR_val x] at hX
      generalize x.cells = C at hcl hc1 hcc hX
      generalize condS x = X at hX HSN hxz2
      generalize hT : linesC (absL (conds.take i)) S0 = T at HSN hz2 ⊢
      have HX1 := Lib.hid (hX _ hb)
      have HCLL := Lib.hid hcl
      have HC1 := Lib.hid hc1
      have HCC := Lib.hid hcc
      have HXX := Lib.hid hx
      clear hx hX hcell hm hcl hc1 hcc ho hf hh hxz hxn hT
      have p1 := fun w => run_string_add_sum (P := Try.prog) w (⟨#[32, 32]⟩ : ByteArray) X (by show 2 + _ ≤ _; omega)
      have p2 := fun w => run_string_add_sum (P := Try.prog) w ((⟨#[32, 32]⟩ : ByteArray) ++ X) ⟨#[10]⟩ (by rw [cat2_size]; show 2 + _ + 1 ≤ _; omega)
      have p3 := fun w => run_string_add_sum (P := Try.prog) w T ((⟨#[32, 32]⟩ : ByteArray) ++ X ++ ⟨#[10]⟩) (by simp only [cat2_size]; show _ + (2 + _ + 1) ≤ _; omega)
      go_wp2_with (first | (refine wpList_load_agg (o := ⟨some 33, _, _, _, _, _⟩) agg60 rfl _ rfl ⟨g, o + i * 7, none⟩ rfl C HCC.out HCLL.out ?_) | (go_at_call 39; refine HX1.out.mono ?_; rintro e w5 ⟨rfl, bb⟩))
      go_roundw
      case rel => exact ⟨i + 1, by omega, by rw [HSN.out]; simp only [cat_assoc], by go_num, hb.trans (bb.mono hb.size), Lib.hid (HX.out.below bb)⟩
      case measure => simp [intOf]; omega
    · obtain rfl : i = cn := by omega
      have htk : Hid (conds.take i = conds) := Lib.hid (List.take_of_length_le (by rw [HCL.out]; omega))
      rw [htk.out] at hz2 ⊢
      have q1 := fun w => run_string_add_sum (P := Try.prog) w (linesC (absL conds) S0) ⟨#[45, 45, 62, 10]⟩ (by show _ + 4 ≤ _; omega)
      have hU : (linesC (absL conds) S0 ++ ⟨#[45, 45, 62, 10]⟩).size ≤ 64000000044 := by rw [cat2_size]; show _ + 4 ≤ _; omega
      generalize hUU : linesC (absL conds) S0 ++ ⟨#[45, 45, 62, 10]⟩ = U at q1 hU ⊢
      have HUU := Lib.hid hUU
      clear hUU
      obtain ⟨wo, rfl⟩ : ∃ wo : World, wo = wr := ⟨_, rfl⟩
      go_wp2
      go_loopw [6, 8] (fun ts ti wr => ∃ j : Nat, j ≤ an ∧ ts = .string (linesA (acts.take j) U) ∧ ti = .int .i64 j ∧ Below w.heap.size w wr ∧ Hid (BoxC wr w.heap.size 48 [.string name, .slice ca i cc, .slice aa an ac])) (fun _ ti _ => an - (intOf ti).toNat)
      case atStart => exact ⟨0, by omega, by simp [linesA], rfl, hb, HX⟩
      case round => as_aux_lemma =>
        clear HX
        obtain ⟨j, hj, rfl, rfl, hb2, HX⟩ := hrel
        have x22 := HX.out.at_ (j := 2) rfl
        have hz := HZA.out j U
        have hz3 : (linesA (acts.take j) U).size ≤ 64000000044 + 20000000 * 16 := Nat.le_trans hz (Nat.add_le_add hU (Nat.mul_le_mul_left _ (by rw [List.length_take]; omega)))
        clear hz
        by_cases hlt : j < an
        · obtain ⟨x, hx⟩ : ∃ x, acts[j]? = some x := ⟨_, List.getElem?_eq_getElem (by rw [HAL.out]; exact hlt)⟩
          have hm := List.mem_of_getElem? hx
          obtain ⟨hsm, o1, o2, o3, o4⟩ := HSM.out x hm
          have hxz2 := actS_size hsm
          have hX := fun W => refAct_any x hsm o3 o4 o1 o2 W
          obtain ⟨g, o, rfl, hcell⟩ := (HSA.out.kept hb2).row_at ac_len (by omega) hx
          have HSN : Hid (linesA (acts.take (j + 1)) U = linesA (acts.take j) U ++ ⟨#[32, 32]⟩ ++ actS x ++ ⟨#[10]⟩) := Lib.hid (by rw [take_snoc2 hx, linesA_snoc])
          have hcl := ac_len x
          have hc1 := ac_one x
          have hcc : ∀ k u, x.cells[k]? = some u → wr.cell? ((⟨g, o + j * 19, none⟩ : Addr).add k) = some u := fun k u h => by rw [addr_add_lit]; exact hcell k u h
          rw [show x.val = .agg x.cells.toArray from rfl] at hX
          generalize x.cells = C at hcl hc1 hcc hX
          generalize actS x = X at hX HSN hxz2
          generalize hT : linesA (acts.take j) U = T at HSN hz3 ⊢
          have HX1 := Lib.hid (hX wr)
          have HCLL := Lib.hid hcl
          have HC1 := Lib.hid hc1
          have HCC := Lib.hid hcc
          have HXX := Lib.hid hx
          clear hx hX hcell hm hcl hc1 hcc hsm hT q1 o1 o2 o3 o4
          have p1 := fun w => run_string_add_sum (P := Try.prog) w (⟨#[32, 32]⟩ : ByteArray) X (by show 2 + _ ≤ _; omega)
          have p2 := fun w => run_string_add_sum (P := Try.prog) w ((⟨#[32, 32]⟩ : ByteArray) ++ X) ⟨#[10]⟩ (by rw [cat2_size]; show 2 + _ + 1 ≤ _; omega)
          have p3 := fun w => run_string_add_sum (P := Try.prog) w T ((⟨#[32, 32]⟩ : ByteArray) ++ X ++ ⟨#[10]⟩) (by simp only [cat2_size]; show _ + (2 + _ + 1) ≤ _; omega)
          go_wp2_with (first | (refine wpList_load_agg (o := ⟨some 52, _, _, _, _, _⟩) agg69 rfl _ rfl ⟨g, o + j * 19, none⟩ rfl C HCC.out HCLL.out ?_) | (go_at_call 41; refine HX1.out.mono ?_; rintro e w5 ⟨rfl, bb⟩))
          go_roundw
          case rel => exact ⟨j + 1, by omega, by rw [HSN.out]; simp only [cat_assoc], by go_num, hb2.trans (bb.mono hb2.size), Lib.hid (HX.out.below bb)⟩
          case measure => simp [intOf]; omega
        · obtain rfl : j = an := by omega
          have htk2 : Hid (acts.take j = acts) := Lib.hid (List.take_of_length_le (by rw [HAL.out]; omega))
          rw [htk2.out] at hz3 ⊢
          have q2 := fun w => run_string_add_sum (P := Try.prog) w (linesA acts U) ⟨#[125, 10]⟩ (by show _ + 2 ≤ _; omega)
          go_wp2
          go_ret2
          exact ⟨ret_si (by rw [← HUU.out, ← HS0.out]) rfl, hb2⟩
end Go.Proofs.Ytgeaccoobhigcaa
