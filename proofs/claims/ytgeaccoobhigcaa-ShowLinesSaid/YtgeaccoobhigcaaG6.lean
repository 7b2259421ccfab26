/-
  show.Prod. ponderref07.Prod. The example of the document. show's example holds.
-/
import Derived.Test.YtgeaccoobhigcaaG4
import Derived.Test.YtgeaccoobhigcaaG5
namespace Go.Proofs.Ytgeaccoobhigcaa
open Go Go.RowKit

theorem condR_one (c : CondR) : c.cells.toArray.all (·.oneCell') = true := by cases c; simp [CondR.cells, Value.oneCell']
theorem condR_val (c : CondR) : c.val = .agg c.cells.toArray := by cases c; rfl
/-- What shapeE = 0 says. -/
theorem shapeE_zero {p : Pd} (h : shapeE p = 0) : wordB p.name.data.toList = true ∧ 1 ≤ cdsN p.conds ∧ cdsN p.conds ≤ 16 ∧ 1 ≤ p.acts.length ∧ p.acts.length ≤ 16 ∧ firstEs p.conds 0 = 0 ∧ p.acts.all actB = true := by
  unfold shapeE shapeEq at h
  by_cases h1 : wordB p.name.data.toList = false
  · rw [if_pos h1] at h; cases h
  · rw [if_neg h1] at h
    by_cases h2 : cdsN p.conds < 1 ∨ 16 < cdsN p.conds ∨ p.acts.length < 1 ∨ 16 < p.acts.length
    · rw [if_pos h2] at h; cases h
    · rw [if_neg h2] at h
      by_cases h3 : firstEs p.conds 0 ≠ 0
      · rw [if_pos h3] at h; exact absurd h h3
      · rw [if_neg h3] at h
        by_cases h4 : p.acts.all actB = false
        · rw [if_pos h4] at h; cases h
        · exact ⟨by simpa using h1, by omega, by omega, by omega, by omega, by simpa using h3, by simpa using h4⟩
theorem ret_si {a b : ByteArray} {x y : Int} (h : a = b) (k : x = y) : Ending.returned (.tuple #[.string a, .int .i64 x]) = .returned (.tuple #[.string b, .int .i64 y]) := by rw [h, k]

set_option maxRecDepth 100000 in
set_option maxHeartbeats 8000000 in
theorem showProd_bad (p : ProdR) (w : World) (h : p.Mem w) (hn : condsN p.conds ≤ 1000000) (he : shapeE p.abs ≠ 0) : Calls Try.prog 34 #[p.val] w fun e w' => e = .returned (.tuple #[.string (prodTx p.abs), .int .i64 (shapeE p.abs)]) ∧ Below w.heap.size w w' := by
  have hb0 := below_new w (.cells #[.string p.name, .slice p.ca p.cn p.cc, .slice p.aa p.an p.ac] 48)
  have hS := shShape_any p _ (h.kept hb0) hn
  unfold prodTx
  rw [if_neg he]
  generalize shapeE p.abs = E at hS he ⊢
  unfold ProdR.val at hS ⊢
  have HS := Lib.hid hS
  have HB0 := Lib.hid hb0
  have e1 : (E != 0) = true := by simp [he]
  have e0 : (E == 0) = false := by simp [he]
  clear hS hb0 he h hn
  go_enter Try.func34, Try.ntmps34
  go_wp2_with (go_at_call 64; refine HS.out.mono ?_; rintro e w2 ⟨⟨k, rfl⟩, b2⟩; have acc := Lib.hid (below_trans HB0.out b2))
  go_ret2
  exact ⟨rfl, acc.out⟩

set_option maxRecDepth 100000 in
set_option maxHeartbeats 8000000 in
theorem showProd_good (p : ProdR) (w : World) (h : p.Mem w) (hn : condsN p.conds ≤ 1000000) (he : shapeE p.abs = 0) : Calls Try.prog 34 #[p.val] w fun e w' => e = .returned (.tuple #[.string (prodTx p.abs), .int .i64 0]) ∧ Below w.heap.size w w' := by
  have hb0 := below_new w (.cells #[.string p.name, .slice p.ca p.cn p.cc, .slice p.aa p.an p.ac] 48)
  have hS := shShape_any p _ (h.kept hb0) hn
  have HTX : Hid (prodTx p.abs = prodT p.abs) := Lib.hid (by unfold prodTx; rw [if_pos he])
  obtain ⟨z1, z2, z3, z4, z5, z6, z7⟩ := shapeE_zero he
  rw [he] at hS
  rw [HTX.out]
  clear HTX he
  obtain ⟨hname, hsc, hco, hsa, hac⟩ := h
  obtain ⟨name, ca, cn, cc, conds, aa, an, ac, acts⟩ := p
  unfold ProdR.val at hS ⊢
  unfold ProdR.abs at z1 z2 z3 z4 z5 z6 z7
  unfold ProdR.abs prodT
  simp only at hname hsc hco hsa hac hn hS z1 z2 z3 z4 z5 z6 z7 ⊢
  have hcl := condsMem_len hsc
  have hal := actsMem_len hsa
  have hok := firstEs_ok hco z6
  have hsm : ∀ a ∈ acts, a.Small := fun a ha => (actB_small (hac a ha) (List.all_eq_true.1 z7 a ha)).1
  have hnz := (wordB_size z1).2
  rw [← condsN_abs] at z2 z3
  have hzc := fun i s => linesC_size (l := conds.take i) (fun c hc => hok c (List.mem_of_mem_take hc)) s
  have hza := fun i s => linesA_size (l := acts.take i) (fun c hc => hsm c (List.mem_of_mem_take hc)) s
  have hc1 := hsc.2.1
  have hc2 := hsc.2.2.1
  have hc3 := hsa.2.1
  have hc4 := hsa.2.2.1
  unfold maxLen at hc2 hc4
  have hbx := BoxC.new w [.string name, .slice ca cn cc, .slice aa an ac] 48
  have HS := Lib.hid hS
  have HB0 := Lib.hid hb0
  have HCL := Lib.hid hcl
  have HAL := Lib.hid hal
  have HOK := Lib.hid hok
  have HSM := Lib.hid hsm
  have HZC := Lib.hid hzc
  have HZA := Lib.hid hza
  have HSC := Lib.hid hsc
  have HSA := Lib.hid hsa
  have HBX : Hid (BoxC (w.alloc (.cells #[.string name, .slice ca cn cc, .slice aa an ac] 48)) w.heap.size 48 [.string name, .slice ca cn cc, .slice aa an ac]) := Lib.hid hbx
  have p1 := fun w => run_string_add_sum (P := Try.prog) w (⟨#[115, 112, 32, 123]⟩ : ByteArray) name (by show 4 + _ ≤ _; omega)
  have p2 := fun w => run_string_add_sum (P := Try.prog) w ((⟨#[115, 112, 32, 123]⟩ : ByteArray) ++ name) ⟨#[10]⟩ (by rw [cat2_size]; show 4 + _ + 1 ≤ _; omega)
  have hS0 : ((⟨#[115, 112, 32, 123]⟩ : ByteArray) ++ name ++ ⟨#[10]⟩).size ≤ 40 := by rw [cat2_size, cat2_size]; show 4 + _ + 1 ≤ _; omega
  obtain ⟨S0, hS0e⟩ : ∃ S0, (⟨#[115, 112, 32, 123]⟩ : ByteArray) ++ name ++ ⟨#[10]⟩ = S0 := ⟨_, rfl⟩
  rw [hS0e] at hS0 p2 ⊢
  have HS0 := Lib.hid hS0e
  clear hS hb0 hcl hal hok hsm hzc hza hsc hsa hbx hco hac z1 z6 z7 hS0e
  go_enter Try.func34, Try.ntmps34
  go_wp2_with (go_at_call 64; refine HS.out.mono ?_; rintro e w2 ⟨⟨k, rfl⟩, b2⟩; have B2 := HBX.out.below b2; have x0 := B2.at_ (j := 0) rfl; have x1 := B2.at_ (j := 1) rfl; have HB2 := Lib.hid B2; have acc := Lib.hid (below_trans HB0.out b2); clear B2)
  go_loopw [6, 26] (fun ts ti wr => ∃ i : Nat, i ≤ cn ∧ ts = .string (linesC (absL (conds.take i)) S0) ∧ ti = .int .i64 i ∧ Below w.heap.size w wr ∧ Hid (BoxC wr w.heap.size 48 [.string name, .slice ca cn cc, .slice aa an ac])) (fun _ ti _ => cn - (intOf ti).toNat)
  case atStart => exact ⟨0, by omega, by simp [absL, linesC], rfl, acc.out, HB2⟩
  case round => as_aux_lemma =>
    obtain ⟨i, hi, rfl, rfl, hb, HX⟩ := hrel
    have hz := HZC.out i S0
    have hzn := condsN_take conds i
    have hz2 : (linesC (absL (conds.take i)) S0).size ≤ 40 + 4000000000 * 16 := Nat.le_trans hz (Nat.add_le_add hS0 (Nat.mul_le_mul_left _ (by omega)))
    clear hz hzn
    by_cases hlt : i < cn
    · obtain ⟨x, hx⟩ : ∃ x, conds[i]? = some x := ⟨_, List.getElem?_eq_getElem (by rw [HCL.out]; exact hlt)⟩
      have hm := List.mem_of_getElem? hx
      have hxn := condsN_mem hm
      obtain ⟨ho, hf, hh⟩ := HOK.out x hm
      have hxz := condS_size ho hf
      have hxz2 : (condS x).size ≤ 3000000000 * 16 := by
        have : 3000000000 * condN x ≤ 3000000000 * 16 := Nat.mul_le_mul_left _ (by omega)
        omega
      have hX := fun W (hW : Below w.heap.size w W) => showCond_any ho hf (by omega) W hW
      obtain ⟨g, o, rfl, hcell⟩ := (HSC.out.kept hb).row_at condR_len (by omega) hx
      have HSN : Hid (linesC (absL (conds.take (i + 1))) S0 = linesC (absL (conds.take i)) S0 ++ ⟨#[32, 32]⟩ ++ condS x ++ ⟨#[10]⟩) := Lib.hid (by rw [take_snoc2 hx, absL_map, List.map_append, ← absL_map, List.map_cons, List.map_nil, linesC_snoc, condS_abs ho])
      have hcl := condR_len x
      have hc1 := condR_one x
      have hcc : ∀ j u, x.cells[j]? = some u → wr.cell? ((⟨g, o + i * 7, none⟩ : Addr).add j) = some u := fun j u h => by rw [addr_add_lit]; exact hcell j u h
      rw [condR_val x] at hX
      generalize x.cells = C at hcl hc1 hcc hX
      generalize condS x = X at hX HSN hxz2
      generalize hT : linesC (absL (conds.take i)) S0 = T at HSN hz2 ⊢
      have HX1 := Lib.hid (hX _ (hb.alloc hb.size (.cells C.toArray 60)))
      have HCLL := Lib.hid hcl
      have HC1 := Lib.hid hc1
      have HCC := Lib.hid hcc
      have HXX := Lib.hid hx
      clear hx hX hcell hm hcl hc1 hcc ho hf hh hxz hxn hT
      have p1 := fun w => run_string_add_sum (P := Try.prog) w T ⟨#[32, 32]⟩ (by show _ + 2 ≤ _; omega)
      have p2 := fun w => run_string_add_sum (P := Try.prog) w (T ++ ⟨#[32, 32]⟩) X (by rw [cat2_size]; show _ + 2 + _ ≤ _; omega)
      have p3 := fun w => run_string_add_sum (P := Try.prog) w (T ++ ⟨#[32, 32]⟩ ++ X) ⟨#[10]⟩ (by simp only [cat2_size]; show _ + 2 + _ + 1 ≤ _; omega)
      go_wp2_with (first | (refine wpList_load_agg (o := ⟨some 29, _, _, _, _, _⟩) agg60 rfl _ rfl ⟨g, o + i * 7, none⟩ rfl C HCC.out HCLL.out ?_) | (refine wpList_load_agg (o := ⟨some 32, _, _, _, _, _⟩) agg60 rfl _ rfl ⟨wr.heap.size, 0, none⟩ rfl C (new_cells wr C 60) HCLL.out ?_) | (refine wpList_store_agg (o := ⟨none, .store 60 _ _, _, _, _, _⟩) agg60 rfl _ _ rfl C.toArray 60 _ rfl rfl (by simp [HCLL.out]) rfl HC1.out ?_) | (go_at_call 38; refine HX1.out.mono ?_; rintro e w5 ⟨rfl, b5⟩; have bb : Below wr.heap.size wr w5 := (below_new wr _).trans (b5.mono (by simp))))
      go_roundw
      case rel => exact ⟨i + 1, by omega, by rw [HSN.out], by go_num, hb.trans (bb.mono hb.size), Lib.hid (HX.out.below bb)⟩
      case measure => simp [intOf]; omega
    · obtain rfl : i = cn := by omega
      have htk : Hid (conds.take i = conds) := Lib.hid (List.take_of_length_le (by rw [HCL.out]; omega))
      rw [htk.out] at hz2 ⊢
      have x2 := HX.out.at_ (j := 2) rfl
      have q1 := fun w => run_string_add_sum (P := Try.prog) w (linesC (absL conds) S0) ⟨#[45, 45, 62, 10]⟩ (by show _ + 4 ≤ _; omega)
      have hU : (linesC (absL conds) S0 ++ ⟨#[45, 45, 62, 10]⟩).size ≤ 64000000044 := by rw [cat2_size]; show _ + 4 ≤ _; omega
      generalize hUU : linesC (absL conds) S0 ++ ⟨#[45, 45, 62, 10]⟩ = U at q1 hU ⊢
      have HUU := Lib.hid hUU
      clear hUU
      obtain ⟨wo, rfl⟩ : ∃ wo : World, wo = wr := ⟨_, rfl⟩
      go_wp2
      go_loopw [6, 42] (fun ts ti wr => ∃ j : Nat, j ≤ an ∧ ts = .string (linesA (acts.take j) U) ∧ ti = .int .i64 j ∧ Below w.heap.size w wr) (fun _ ti _ => an - (intOf ti).toNat)
      case atStart => exact ⟨0, by omega, by simp [linesA], rfl, hb⟩
      case round => as_aux_lemma =>
        obtain ⟨j, hj, rfl, rfl, hb2⟩ := hrel
        have hz := HZA.out j U
        have hz3 : (linesA (acts.take j) U).size ≤ 64000000044 + 20000000 * 16 := Nat.le_trans hz (Nat.add_le_add hU (Nat.mul_le_mul_left _ (by rw [List.length_take]; omega)))
        clear hz
        by_cases hlt : j < an
        · obtain ⟨x, hx⟩ : ∃ x, acts[j]? = some x := ⟨_, List.getElem?_eq_getElem (by rw [HAL.out]; exact hlt)⟩
          have hm := List.mem_of_getElem? hx
          have hsm := HSM.out x hm
          have hxz2 := actS_size hsm
          have hX := fun W => showAct_any x hsm W
          obtain ⟨g, o, rfl, hcell⟩ := (HSA.out.kept hb2).row_at ac_len (by omega) hx
          have HSN : Hid (linesA (acts.take (j + 1)) U = linesA (acts.take j) U ++ ⟨#[32, 32]⟩ ++ actS x ++ ⟨#[10]⟩) := Lib.hid (by rw [take_snoc2 hx, linesA_snoc])
          have hcl := ac_len x
          have hc1 := ac_one x
          have hcc : ∀ k u, x.cells[k]? = some u → wr.cell? ((⟨g, o + j * 19, none⟩ : Addr).add k) = some u := fun k u h => by rw [addr_add_lit]; exact hcell k u h
          rw [show x.val = .agg x.cells.toArray from rfl] at hX
          generalize x.cells = C at hcl hc1 hcc hX
          generalize actS x = X at hX HSN hxz2
          generalize hT : linesA (acts.take j) U = T at HSN hz3 ⊢
          have HX1 := Lib.hid (hX (wr.alloc (.cells C.toArray 69)))
          have HCLL := Lib.hid hcl
          have HC1 := Lib.hid hc1
          have HCC := Lib.hid hcc
          have HXX := Lib.hid hx
          clear hx hX hcell hm hcl hc1 hcc hsm hT q1
          have p1 := fun w => run_string_add_sum (P := Try.prog) w T ⟨#[32, 32]⟩ (by show _ + 2 ≤ _; omega)
          have p2 := fun w => run_string_add_sum (P := Try.prog) w (T ++ ⟨#[32, 32]⟩) X (by rw [cat2_size]; show _ + 2 + _ ≤ _; omega)
          have p3 := fun w => run_string_add_sum (P := Try.prog) w (T ++ ⟨#[32, 32]⟩ ++ X) ⟨#[10]⟩ (by simp only [cat2_size]; show _ + 2 + _ + 1 ≤ _; omega)
          go_wp2_with (first | (refine wpList_load_agg (o := ⟨some 45, _, _, _, _, _⟩) agg69 rfl _ rfl ⟨g, o + j * 19, none⟩ rfl C HCC.out HCLL.out ?_) | (refine wpList_load_agg (o := ⟨some 48, _, _, _, _, _⟩) agg69 rfl _ rfl ⟨wr.heap.size, 0, none⟩ rfl C (new_cells wr C 69) HCLL.out ?_) | (refine wpList_store_agg (o := ⟨none, .store 69 _ _, _, _, _, _⟩) agg69 rfl _ _ rfl C.toArray 69 _ rfl rfl (by simp [HCLL.out]) rfl HC1.out ?_) | (go_at_call 40; refine HX1.out.mono ?_; rintro e w5 ⟨rfl, b5⟩; have bb : Below wr.heap.size wr w5 := (below_new wr _).trans (b5.mono (by simp))))
          go_roundw
          case rel => exact ⟨j + 1, by omega, by rw [HSN.out], by go_num, hb2.trans (bb.mono hb2.size)⟩
          case measure => simp [intOf]; omega
        · obtain rfl : j = an := by omega
          have htk2 : Hid (acts.take j = acts) := Lib.hid (List.take_of_length_le (by rw [HAL.out]; omega))
          rw [htk2.out] at hz3 ⊢
          have q2 := fun w => run_string_add_sum (P := Try.prog) w (linesA acts U) ⟨#[125, 10]⟩ (by show _ + 2 ≤ _; omega)
          go_wp2
          go_ret2
          exact ⟨ret_si (by rw [← HUU.out, ← HS0.out]) rfl, hb2⟩
end Go.Proofs.Ytgeaccoobhigcaa
namespace Go.Proofs.Ytgeaccoobhigcaa
open Go Go.RowKit

set_option maxRecDepth 100000 in
set_option maxHeartbeats 8000000 in
theorem refProd_bad (p : ProdR) (w : World) (h : p.Mem w) (hn : condsN p.conds ≤ 1000000) (he : shapeE p.abs ≠ 0) : Calls Try.prog 35 #[p.val] w fun e w' => e = .returned (.tuple #[.string (prodTx p.abs), .int .i64 (shapeE p.abs)]) ∧ Below w.heap.size w w' := by
  have hb0 := below_new w (.cells #[.string p.name, .slice p.ca p.cn p.cc, .slice p.aa p.an p.ac] 48)
  have hS := rShape_any p _ (h.kept hb0) hn
  unfold prodTx
  rw [if_neg he]
  generalize shapeE p.abs = E at hS he ⊢
  unfold ProdR.val at hS ⊢
  have HS := Lib.hid hS
  have HB0 := Lib.hid hb0
  have e1 : (E != 0) = true := by simp [he]
  have e0 : (E == 0) = false := by simp [he]
  clear hS hb0 he h hn
  go_enter Try.func35, Try.ntmps35
  go_wp2_with (go_at_call 37; refine HS.out.mono ?_; rintro e w2 ⟨⟨k, rfl⟩, b2⟩; have acc := Lib.hid (below_trans HB0.out b2))
  go_ret2
  exact ⟨rfl, acc.out⟩

set_option maxRecDepth 100000 in
set_option maxHeartbeats 8000000 in
theorem refProd_good (p : ProdR) (w : World) (h : p.Mem w) (hn : condsN p.conds ≤ 1000000) (he : shapeE p.abs = 0) : Calls Try.prog 35 #[p.val] w fun e w' => e = .returned (.tuple #[.string (prodTx p.abs), .int .i64 0]) ∧ Below w.heap.size w w' := by
  have hb0 := below_new w (.cells #[.string p.name, .slice p.ca p.cn p.cc, .slice p.aa p.an p.ac] 48)
  have hS := rShape_any p _ (h.kept hb0) hn
  have HTX : Hid (prodTx p.abs = prodT p.abs) := Lib.hid (by unfold prodTx; rw [if_pos he])
  obtain ⟨z1, z2, z3, z4, z5, z6, z7⟩ := shapeE_zero he
  rw [he] at hS
  rw [HTX.out]
  clear HTX he
  obtain ⟨hname, hsc, hco, hsa, hac⟩ := h
  obtain ⟨name, ca, cn, cc, conds, aa, an, ac, acts⟩ := p
  unfold ProdR.val at hS ⊢
  unfold ProdR.abs at z1 z2 z3 z4 z5 z6 z7
  unfold ProdR.abs prodT
  simp only at hname hsc hco hsa hac hn hS z1 z2 z3 z4 z5 z6 z7 ⊢
  have hcl := condsMem_len hsc
  have hal := actsMem_len hsa
  have hok := firstEs_ok hco z6
  have hsm := fun a ha => actB_small (hac a ha) (List.all_eq_true.1 z7 a ha)
  have hnz := (wordB_size z1).2
  rw [← condsN_abs] at z2 z3
  have hzc := fun i s => linesC_size (l := conds.take i) (fun c hc => hok c (List.mem_of_mem_take hc)) s
  have hza := fun i s => linesA_size (l := acts.take i) (fun c hc => (hsm c (List.mem_of_mem_take hc)).1) s
  have hc1 := hsc.2.1
  have hc2 := hsc.2.2.1
  have hc3 := hsa.2.1
  have hc4 := hsa.2.2.1
  unfold maxLen at hc2 hc4
  have hbx := BoxC.new w [.string name, .slice ca cn cc, .slice aa an ac] 48
  have HS := Lib.hid hS
  have HB0 := Lib.hid hb0
  have HCL := Lib.hid hcl
  have HAL := Lib.hid hal
  have HOK := Lib.hid hok
  have HSM := Lib.hid hsm
  have HZC := Lib.hid hzc
  have HZA := Lib.hid hza
  have HSC := Lib.hid hsc
  have HSA := Lib.hid hsa
  have HBX : Hid (BoxC (w.alloc (.cells #[.string name, .slice ca cn cc, .slice aa an ac] 48)) w.heap.size 48 [.string name, .slice ca cn cc, .slice aa an ac]) := Lib.hid hbx
  have p1 := fun w => run_string_add_sum (P := Try.prog) w (⟨#[115, 112, 32, 123]⟩ : ByteArray) name (by show 4 + _ ≤ _; omega)
  have p2 := fun w => run_string_add_sum (P := Try.prog) w ((⟨#[115, 112, 32, 123]⟩ : ByteArray) ++ name) ⟨#[10]⟩ (by rw [cat2_size]; show 4 + _ + 1 ≤ _; omega)
  have hS0 : ((⟨#[115, 112, 32, 123]⟩ : ByteArray) ++ name ++ ⟨#[10]⟩).size ≤ 40 := by rw [cat2_size, cat2_size]; show 4 + _ + 1 ≤ _; omega
  obtain ⟨S0, hS0e⟩ : ∃ S0, (⟨#[115, 112, 32, 123]⟩ : ByteArray) ++ name ++ ⟨#[10]⟩ = S0 := ⟨_, rfl⟩
  rw [hS0e] at hS0 p2 ⊢
  have HS0 := Lib.hid hS0e
  clear hS hb0 hcl hal hok hsm hzc hza hsc hsa hbx hco hac z1 z6 z7 hS0e
  go_enter Try.func35, Try.ntmps35
  go_wp2_with (go_at_call 37; refine HS.out.mono ?_; rintro e w2 ⟨⟨k, rfl⟩, b2⟩; have B2 := HBX.out.below b2; have x0 := B2.at_ (j := 0) rfl; have x1 := B2.at_ (j := 1) rfl; have HB2 := Lib.hid B2; have acc := Lib.hid (below_trans HB0.out b2); clear B2)
  go_loopw [6, 7] (fun ts ti wr => ∃ i : Nat, i ≤ cn ∧ ts = .string (linesC (absL (conds.take i)) S0) ∧ ti = .int .i64 i ∧ Below w.heap.size w wr ∧ Hid (BoxC wr w.heap.size 48 [.string name, .slice ca cn cc, .slice aa an ac])) (fun _ ti _ => cn - (intOf ti).toNat)
  case atStart => exact ⟨0, by omega, by simp [absL, linesC], rfl, acc.out, HB2⟩
  case round => as_aux_lemma =>
    obtain ⟨i, hi, rfl, rfl, hb, HX⟩ := hrel
    have x1 := HX.out.at_ (j := 1) rfl
    have hz := HZC.out i S0
    have hzn := condsN_take conds i
    have hz2 : (linesC (absL (conds.take i)) S0).size ≤ 40 + 4000000000 * 16 := Nat.le_trans hz (Nat.add_le_add hS0 (Nat.mul_le_mul_left _ (by omega)))
    clear hz hzn
    by_cases hlt : i < cn
    · obtain ⟨x, hx⟩ : ∃ x, conds[i]? = some x := ⟨_, List.getElem?_eq_getElem (by rw [HCL.out]; exact hlt)⟩
      have hm := List.mem_of_getElem? hx
      have hxn := condsN_mem hm
      obtain ⟨ho, hf, hh⟩ := HOK.out x hm
      have hxz := condS_size ho hf
      have hxz2 : (condS x).size ≤ 3000000000 * 16 := by
        have : 3000000000 * condN x ≤ 3000000000 * 16 := Nat.mul_le_mul_left _ (by omega)
        omega
      have hX := fun W (hW : Below w.heap.size w W) => refCond_any ho hf hh (by omega) W hW
      obtain ⟨g, o, rfl, hcell⟩ := (HSC.out.kept hb).row_at condR_len (by omega) hx
      have HSN : Hid (linesC (absL (conds.take (i + 1))) S0 = linesC (absL (conds.take i)) S0 ++ ⟨#[32, 32]⟩ ++ condS x ++ ⟨#[10]⟩) := Lib.hid (by rw [take_snoc2 hx, absL_map, List.map_append, ← absL_map, List.map_cons, List.map_nil, linesC_snoc, condS_abs ho])
      have hcl := condR_len x
      have hc1 := condR_one x
      have hcc : ∀ j u, x.cells[j]? = some u → wr.cell? ((⟨g, o + i * 7, none⟩ : Addr).add j) = some u := fun j u h => by rw [addr_add_lit]; exact hcell j u h
      rw [condR_val x] at hX
      generalize x.cells = C at hcl hc1 hcc hX
      generalize condS x = X at hX HSN hxz2
      generalize hT : linesC (absL (conds.take i)) S0 = T at HSN hz2 ⊢
      have HX1 := Lib.hid (hX _ hb)
      have HCLL := Lib.hid hcl
      have HC1 := Lib.hid hc1
      have HCC := Lib.hid hcc
      have HXX := Lib.hid hx
      clear hx hX hcell hm hcl hc1 hcc ho hf hh hxz hxn hT
      have p1 := fun w => run_string_add_sum (P := Try.prog) w (⟨#[32, 32]⟩ : ByteArray) X (by show 2 + _ ≤ _; omega)
      have p2 := fun w => run_string_add_sum (P := Try.prog) w ((⟨#[32, 32]⟩ : ByteArray) ++ X) ⟨#[10]⟩ (by rw [cat2_size]; show 2 + _ + 1 ≤ _; omega)
      have p3 := fun w => run_string_add_sum (P := Try.prog) w T ((⟨#[32, 32]⟩ : ByteArray) ++ X ++ ⟨#[10]⟩) (by simp only [cat2_size]; show _ + (2 + _ + 1) ≤ _; omega)
      go_wp2_with (first | (refine wpList_load_agg (o := ⟨some 33, _, _, _, _, _⟩) agg60 rfl _ rfl ⟨g, o + i * 7, none⟩ rfl C HCC.out HCLL.out ?_) | (go_at_call 39; refine HX1.out.mono ?_; rintro e w5 ⟨rfl, bb⟩))
      go_roundw
      case rel => exact ⟨i + 1, by omega, by rw [HSN.out]; simp only [cat_assoc], by go_num, hb.trans (bb.mono hb.size), Lib.hid (HX.out.below bb)⟩
      case measure => simp [intOf]; omega
    · obtain rfl : i = cn := by omega
      have htk : Hid (conds.take i = conds) := Lib.hid (List.take_of_length_le (by rw [HCL.out]; omega))
      rw [htk.out] at hz2 ⊢
      have q1 := fun w => run_string_add_sum (P := Try.prog) w (linesC (absL conds) S0) ⟨#[45, 45, 62, 10]⟩ (by show _ + 4 ≤ _; omega)
      have hU : (linesC (absL conds) S0 ++ ⟨#[45, 45, 62, 10]⟩).size ≤ 64000000044 := by rw [cat2_size]; show _ + 4 ≤ _; omega
      generalize hUU : linesC (absL conds) S0 ++ ⟨#[45, 45, 62, 10]⟩ = U at q1 hU ⊢
      have HUU := Lib.hid hUU
      clear hUU
      obtain ⟨wo, rfl⟩ : ∃ wo : World, wo = wr := ⟨_, rfl⟩
      go_wp2
      go_loopw [6, 8] (fun ts ti wr => ∃ j : Nat, j ≤ an ∧ ts = .string (linesA (acts.take j) U) ∧ ti = .int .i64 j ∧ Below w.heap.size w wr ∧ Hid (BoxC wr w.heap.size 48 [.string name, .slice ca i cc, .slice aa an ac])) (fun _ ti _ => an - (intOf ti).toNat)
      case atStart => exact ⟨0, by omega, by simp [linesA], rfl, hb, HX⟩
      case round => as_aux_lemma =>
        clear HX
        obtain ⟨j, hj, rfl, rfl, hb2, HX⟩ := hrel
        have x22 := HX.out.at_ (j := 2) rfl
        have hz := HZA.out j U
        have hz3 : (linesA (acts.take j) U).size ≤ 64000000044 + 20000000 * 16 := Nat.le_trans hz (Nat.add_le_add hU (Nat.mul_le_mul_left _ (by rw [List.length_take]; omega)))
        clear hz
        by_cases hlt : j < an
        · obtain ⟨x, hx⟩ : ∃ x, acts[j]? = some x := ⟨_, List.getElem?_eq_getElem (by rw [HAL.out]; exact hlt)⟩
          have hm := List.mem_of_getElem? hx
          obtain ⟨hsm, o1, o2, o3, o4⟩ := HSM.out x hm
          have hxz2 := actS_size hsm
          have hX := fun W => refAct_any x hsm o3 o4 o1 o2 W
          obtain ⟨g, o, rfl, hcell⟩ := (HSA.out.kept hb2).row_at ac_len (by omega) hx
          have HSN : Hid (linesA (acts.take (j + 1)) U = linesA (acts.take j) U ++ ⟨#[32, 32]⟩ ++ actS x ++ ⟨#[10]⟩) := Lib.hid (by rw [take_snoc2 hx, linesA_snoc])
          have hcl := ac_len x
          have hc1 := ac_one x
          have hcc : ∀ k u, x.cells[k]? = some u → wr.cell? ((⟨g, o + j * 19, none⟩ : Addr).add k) = some u := fun k u h => by rw [addr_add_lit]; exact hcell k u h
          rw [show x.val = .agg x.cells.toArray from rfl] at hX
          generalize x.cells = C at hcl hc1 hcc hX
          generalize actS x = X at hX HSN hxz2
          generalize hT : linesA (acts.take j) U = T at HSN hz3 ⊢
          have HX1 := Lib.hid (hX wr)
          have HCLL := Lib.hid hcl
          have HC1 := Lib.hid hc1
          have HCC := Lib.hid hcc
          have HXX := Lib.hid hx
          clear hx hX hcell hm hcl hc1 hcc hsm hT q1 o1 o2 o3 o4
          have p1 := fun w => run_string_add_sum (P := Try.prog) w (⟨#[32, 32]⟩ : ByteArray) X (by show 2 + _ ≤ _; omega)
          have p2 := fun w => run_string_add_sum (P := Try.prog) w ((⟨#[32, 32]⟩ : ByteArray) ++ X) ⟨#[10]⟩ (by rw [cat2_size]; show 2 + _ + 1 ≤ _; omega)
          have p3 := fun w => run_string_add_sum (P := Try.prog) w T ((⟨#[32, 32]⟩ : ByteArray) ++ X ++ ⟨#[10]⟩) (by simp only [cat2_size]; show _ + (2 + _ + 1) ≤ _; omega)
          go_wp2_with (first | (refine wpList_load_agg (o := ⟨some 52, _, _, _, _, _⟩) agg69 rfl _ rfl ⟨g, o + j * 19, none⟩ rfl C HCC.out HCLL.out ?_) | (go_at_call 41; refine HX1.out.mono ?_; rintro e w5 ⟨rfl, bb⟩))
          go_roundw
          case rel => exact ⟨j + 1, by omega, by rw [HSN.out]; simp only [cat_assoc], by go_num, hb2.trans (bb.mono hb2.size), Lib.hid (HX.out.below bb)⟩
          case measure => simp [intOf]; omega
        · obtain rfl : j = an := by omega
          have htk2 : Hid (acts.take j = acts) := Lib.hid (List.take_of_length_le (by rw [HAL.out]; omega))
          rw [htk2.out] at hz3 ⊢
          have q2 := fun w => run_string_add_sum (P := Try.prog) w (linesA acts U) ⟨#[125, 10]⟩ (by show _ + 2 ≤ _; omega)
          go_wp2
          go_ret2
          exact ⟨ret_si (by rw [← HUU.out, ← HS0.out]) rfl, hb2⟩
end Go.Proofs.Ytgeaccoobhigcaa
namespace Go.Proofs.Ytgeaccoobhigcaa
open Go Go.RowKit

theorem oneW_any (s : ByteArray) (w : World) : Calls Try.prog 97 #[.string s] w fun e w' => e = .returned (.agg #[.int .i64 3, .string s, .int .i64 0]) ∧ Below w.heap.size w w' := by
  go_enter Try.func97, Try.ntmps97
  go_wp2
  exact bodyPost_ret (v := .agg #[.int .i64 3, .string s, .int .i64 0]) (by simp [results, Try.results97, go_sem]) rfl ⟨rfl, below_new _ _⟩
theorem oneN_any (n : Int) (w : World) : Calls Try.prog 98 #[.int .i64 n] w fun e w' => e = .returned (.agg #[.int .i64 2, .string ⟨#[]⟩, .int .i64 n]) ∧ Below w.heap.size w w' := by
  go_enter Try.func98, Try.ntmps98
  go_wp2
  exact bodyPost_ret (v := .agg #[.int .i64 2, .string ⟨#[]⟩, .int .i64 n]) (by simp [results, Try.results98, go_sem]) rfl ⟨rfl, below_new _ _⟩

theorem bkeep2 {W w1 : World} (hb : Below W.heap.size W w1) {n : Nat} (hn : n < W.heap.size) : (∀ o, w1.cell? ⟨n, o, none⟩ = W.cell? ⟨n, o, none⟩) ∧ (∀ o, w1.frozen? ⟨n, o, none⟩ = W.frozen? ⟨n, o, none⟩) ∧ n < w1.heap.size :=
  ⟨fun o => hb.cell (p := ⟨n, o, none⟩) hn, fun o => hb.frozen (p := ⟨n, o, none⟩) hn, Nat.lt_of_lt_of_le hn hb.size⟩
theorem BoxC.set_other {W : World} {b : Nat} {t : TypeId} {cs : List Value} (h : BoxC W b t cs) {a : Addr} (hne : b ≠ a.block) (v : Value) : BoxC (W.setCell a v) b t cs :=
  (Below.heap_setCell _ _ _ _ hne).trans h
theorem SlR.of_box {W : World} {b size n : Nat} {t : TypeId} {cs : List Value} (h : BoxC W b t cs) (hl : cs.length = n * size) (hn : n ≤ maxLen) : SlR W size (some ⟨b, 0, none⟩) n n cs :=
  ⟨hl, Nat.le_refl _, hn, by simp, fun a ha j u hj => by
    cases ha
    rw [addr_add_lit, Nat.zero_add]
    exact h.at_ hj⟩
theorem BoxC.new_at {W : World} {cs : List Value} {t : TypeId} {b : Nat} (h : b = W.heap.size) : BoxC (W.alloc (.cells cs.toArray t)) b t cs := h ▸ BoxC.new W cs t
def oneAttr : TestR := ⟨1, ⟨#[]⟩, ⟨3, ⟨#[120]⟩, 0⟩, none, 0, 0, []⟩
def oneValue : TestR := ⟨1, ⟨#[]⟩, ⟨2, ⟨#[]⟩, 1⟩, none, 0, 0, []⟩
def oneCond (A B : Nat) : CondR := .mk 1 true ⟨#[115]⟩ (some ⟨A, 0, none⟩) 1 1 [oneAttr] (some ⟨B, 0, none⟩) 1 1 [oneValue] false none 0 0 []
def oneAct : Ac := ⟨⟨#[115]⟩, ⟨⟨#[]⟩, ⟨3, ⟨#[121]⟩, 0⟩⟩, ⟨0, ⟨⟨#[]⟩, ⟨2, ⟨#[]⟩, 2⟩⟩, ⟨⟨#[]⟩, ⟨0, ⟨#[]⟩, 0⟩⟩⟩, 1, ⟨⟨#[]⟩, ⟨0, ⟨#[]⟩, 0⟩⟩⟩
def oneP (A B C D : Nat) : ProdR := ⟨⟨#[97]⟩, some ⟨C, 0, none⟩, 1, 1, [oneCond A B], some ⟨D, 0, none⟩, 1, 1, [oneAct]⟩
def OneIs (w : World) (e : Ending) (w' : World) : Prop := ∃ A B C D : Nat, e = .returned (oneP A B C D).val ∧ (oneP A B C D).Mem w' ∧ Below w.heap.size w w'
theorem oneMem {W : World} {A B C D : Nat} (hA : BoxC W A 138 oneAttr.cells) (hB : BoxC W B 138 oneValue.cells) (hC : BoxC W C 60 (oneCond A B).cells) (hD : BoxC W D 69 oneAct.cells) : (oneP A B C D).Mem W := by
  have t0 : ∀ t : TestR, t = oneAttr ∨ t = oneValue → t.Mem W := by
    rintro t (rfl | rfl)
    · exact ⟨SlR.nil _ _, by decide +kernel, by decide +kernel, by intro x hx; cases hx⟩
    · exact ⟨SlR.nil _ _, by decide +kernel, by decide +kernel, by intro x hx; cases hx⟩
  refine ⟨by show (⟨#[97]⟩ : ByteArray).size ≤ _; decide +kernel, ?_, ?_, ?_, ?_⟩
  · exact SlR.of_box (n := 1) hC rfl (by decide +kernel)
  · intro c hc
    rcases List.mem_singleton.1 hc with rfl
    refine .mk (by decide +kernel) ⟨SlR.of_box (n := 1) hA rfl (by decide +kernel), fun t ht => t0 t (.inl (List.mem_singleton.1 ht))⟩ ⟨SlR.of_box (n := 1) hB rfl (by decide +kernel), fun t ht => t0 t (.inr (List.mem_singleton.1 ht))⟩ (SlR.nil _ _) (by intro c hc; cases hc)
  · exact SlR.of_box (n := 1) hD rfl (by decide +kernel)
  · intro a ha
    rcases List.mem_singleton.1 ha with rfl
    exact ⟨by decide +kernel, ⟨by decide +kernel, by decide +kernel⟩, ⟨by decide +kernel, by decide +kernel⟩, ⟨by decide +kernel, by decide +kernel⟩, ⟨by decide +kernel, by decide +kernel⟩⟩

set_option maxRecDepth 100000 in
set_option maxHeartbeats 1000000 in
theorem one_any (w : World) : Calls Try.prog 61 #[] w fun e w' => OneIs w e w' := by
  have hlt : w.heap.size < (w.alloc (.cells #[.string ⟨#[]⟩, .slice none 0 0, .slice none 0 0] 48)).heap.size := by simp
  have t1 : True := trivial
  have t2 : True := trivial
  go_enter Try.func61, Try.ntmps61
  go_wp2_with (first | (go_at_call 97; have _t := t1; refine (oneW_any _ _).mono ?_; rintro e w2 ⟨rfl, b2⟩; obtain ⟨hc2, hf2, hlt⟩ := bkeep2 b2 hlt; clear t1) | (go_at_call 98; have _t := t2; refine (oneN_any _ _).mono ?_; rintro e w3 ⟨rfl, b3⟩; obtain ⟨hc3, hf3, hlt⟩ := bkeep2 b3 (n := w.heap.size) (by simp; omega); clear t2) | (go_at_call 97; refine (oneW_any _ _).mono ?_; rintro e w4 ⟨rfl, b4⟩; obtain ⟨hc4, hf4, hlt⟩ := bkeep2 b4 (n := w.heap.size) (by simp; omega)) | (go_at_call 98; refine (oneN_any _ _).mono ?_; rintro e w5 ⟨rfl, b5⟩; obtain ⟨hc5, hf5, hlt⟩ := bkeep2 b5 (n := w.heap.size) (by omega)))
  have k2 : w.heap.size < w2.heap.size := Nat.lt_of_lt_of_le (by simp) b2.size
  have k3 : w2.heap.size < w3.heap.size := Nat.lt_of_lt_of_le (by simp) b3.size
  have k4 : w3.heap.size + 1 < w4.heap.size := Nat.lt_of_lt_of_le (by simp) b4.size
  have k5 : w4.heap.size ≤ w5.heap.size := b5.size
  have hA := (BoxC.new w2 oneAttr.cells 138).below b3
  have hA4 := (hA.below (below_trans (below_new w3 (.cells oneValue.cells.toArray 138)) (below_new _ (.cells (oneCond w2.heap.size w3.heap.size).cells.toArray 60)))).below b4
  have hB4 := ((BoxC.new w3 oneValue.cells 138).below (below_new _ (.cells (oneCond w2.heap.size w3.heap.size).cells.toArray 60))).below b4
  have hC := BoxC.new (w3.alloc (.cells oneValue.cells.toArray 138)) (oneCond w2.heap.size w3.heap.size).cells 60
  rw [World.size_alloc] at hC
  have hC4 := hC.below b4
  have bb : Below w.heap.size w w5 := by
    have h2 := below_trans (below_new w (.cells #[.string ⟨#[]⟩, .slice none 0 0, .slice none 0 0] 48)) b2
    have h3 := below_trans h2 (below_trans (below_new w2 (.cells oneAttr.cells.toArray 138)) b3)
    have h4 := below_trans h3 (below_trans (below_trans (below_new w3 (.cells oneValue.cells.toArray 138)) (below_new _ (.cells (oneCond w2.heap.size w3.heap.size).cells.toArray 60))) b4)
    exact below_trans h4 b5
  refine bodyPost_ret (v := (oneP w2.heap.size w3.heap.size (w3.heap.size + 1) w5.heap.size).val) ?_ rfl ⟨w2.heap.size, w3.heap.size, w3.heap.size + 1, w5.heap.size, rfl, ?_, ?_⟩
  · have g : ∀ o, w5.cell? ⟨w.heap.size, o, none⟩ = (w.alloc (.cells #[.string ⟨#[]⟩, .slice none 0 0, .slice none 0 0] 48)).cell? ⟨w.heap.size, o, none⟩ := fun o =>
      (((hc5 o).trans (hc4 o)).trans (past2 w3 _ _ (by omega) o)).trans (((hc3 o).trans ((below_new w2 _).cell (p := ⟨w.heap.size, o, none⟩) (by simpa using k2))).trans (hc2 o))
    have g0 := g 0
    have g1 := g 1
    have g2 := g 2
    simp at g0 g1 g2
    simp [results, Try.results61, go_sem, hlt, oneP, ProdR.val, g0, g1, g2]
  · refine oneMem ?_ ?_ ?_ ?_
    · exact ((((hA4.below b5).set_other (by simp; omega) _).set_other (by simp; omega) _).set_other (by simp; omega) _).below (below_new _ _)
    · exact ((((hB4.below b5).set_other (by simp; omega) _).set_other (by simp; omega) _).set_other (by simp; omega) _).below (below_new _ _)
    · exact ((((hC4.below b5).set_other (by simp; omega) _).set_other (by simp; omega) _).set_other (by simp; omega) _).below (below_new _ _)
    · exact BoxC.new_at (cs := oneAct.cells) (by simp [World.setCell])
  · exact (((bb.setCell (by simp) _).setCell (by simp) _).setCell (by simp) _).alloc (by simp; exact bb.size) _
end Go.Proofs.Ytgeaccoobhigcaa
namespace Go.Proofs.Ytgeaccoobhigcaa
open Go Go.RowKit

theorem showProd_any (p : ProdR) (w : World) (h : p.Mem w) (hn : condsN p.conds ≤ 1000000) : Calls Try.prog 34 #[p.val] w fun e w' => e = .returned (.tuple #[.string (prodTx p.abs), .int .i64 (shapeE p.abs)]) ∧ Below w.heap.size w w' := by
  by_cases he : shapeE p.abs = 0
  · have := showProd_good p w h hn he
    rw [he]; exact this
  · exact showProd_bad p w h hn he
theorem refProd_any (p : ProdR) (w : World) (h : p.Mem w) (hn : condsN p.conds ≤ 1000000) : Calls Try.prog 35 #[p.val] w fun e w' => e = .returned (.tuple #[.string (prodTx p.abs), .int .i64 (shapeE p.abs)]) ∧ Below w.heap.size w w' := by
  by_cases he : shapeE p.abs = 0
  · have := refProd_good p w h hn he
    rw [he]; exact this
  · exact refProd_bad p w h hn he

def onePd : Pd := ⟨⟨#[97]⟩, [.mk 1 true ⟨#[115]⟩ [⟨1, ⟨#[]⟩, ⟨3, ⟨#[120]⟩, 0⟩, []⟩] [⟨1, ⟨#[]⟩, ⟨2, ⟨#[]⟩, 1⟩, []⟩] false []], [oneAct]⟩
theorem oneP_abs (A B C D : Nat) : (oneP A B C D).abs = onePd := rfl
theorem onePd_shape : shapeE onePd = 0 := by decide +kernel
theorem onePd_text : prodTx onePd = ⟨#[115, 112, 32, 123, 97, 10, 32, 32, 40, 115, 116, 97, 116, 101, 32, 60, 115, 62, 32, 94, 120, 32, 49, 41, 10, 45, 45, 62, 10, 32, 32, 40, 60, 115, 62, 32, 94, 121, 32, 50, 32, 43, 41, 10, 125, 10]⟩ := by decide +kernel

set_option maxRecDepth 100000 in
theorem wakes7_any (w : World) : Calls Try.prog 32 #[] w fun e w' => e = .returned (.bool true) ∧ Below w.heap.size w w' := by
  go_enter Try.func32, Try.ntmps32
  go_wp2_with (first | (go_at_call 61; refine (one_any _).mono ?_; rintro e w2 ⟨A, B, C, D, rfl, hm, b2⟩; have hP := showProd_any _ _ hm (Nat.le_of_ble_eq_true rfl); rw [oneP_abs, onePd_shape, onePd_text] at hP; have HP := Lib.hid hP; have B2 := Lib.hid b2; clear hm b2 hP) | (go_at_call 34; refine HP.out.mono ?_; rintro e w3 ⟨rfl, b3⟩; have B3 := Lib.hid (below_trans B2.out b3)))
  go_ret
  exact ⟨rfl, B3.out⟩
end Go.Proofs.Ytgeaccoobhigcaa
