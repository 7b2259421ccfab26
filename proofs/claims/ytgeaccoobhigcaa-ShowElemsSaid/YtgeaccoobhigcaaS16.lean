/-
  show.Cond.
-/
import Derived.Test.YtgeaccoobhigcaaS15
import Derived.Test.YtgeaccoobhigcaaS13
namespace Go.Proofs.Ytgeaccoobhigcaa
open Go Go.RowKit

theorem ret_str {a b : ByteArray} (h : a = b) : Ending.returned (.string a) = .returned (.string b) := by rw [h]
theorem condsN_mem {c : CondR} : ∀ {l : List CondR}, c ∈ l → condN c ≤ condsN l
  | [], h => by simp at h
  | x :: r, h => by
    simp only [condsN]
    rcases List.mem_cons.1 h with rfl | h
    · omega
    · have := condsN_mem h; omega
theorem condsN_take : ∀ (l : List CondR) (i : Nat), condsN (l.take i) ≤ condsN l
  | [], i => by simp
  | x :: r, 0 => by simp [condsN]
  | x :: r, i + 1 => by
    have := condsN_take r i
    simp only [List.take_succ_cons, condsN]
    omega
theorem seven_cells {W : World} {g o : Nat} {a0 a1 a2 a3 a4 a5 a6 : Value} (h : ∀ j u, [a0, a1, a2, a3, a4, a5, a6][j]? = some u → W.cell? ⟨g, o + j, none⟩ = some u) :
    W.cell? ⟨g, o, none⟩ = some a0 ∧ W.cell? ⟨g, o + 1, none⟩ = some a1 ∧ W.cell? ⟨g, o + 2, none⟩ = some a2 ∧ W.cell? ⟨g, o + 3, none⟩ = some a3 ∧ W.cell? ⟨g, o + 4, none⟩ = some a4 ∧ W.cell? ⟨g, o + 5, none⟩ = some a5 ∧ W.cell? ⟨g, o + 6, none⟩ = some a6 :=
  ⟨h 0 _ rfl, h 1 _ rfl, h 2 _ rfl, h 3 _ rfl, h 4 _ rfl, h 5 _ rfl, h 6 _ rfl⟩

theorem showField_zero (ao : Option Addr) (c : Nat) (w : World) : Calls Try.prog 71 #[.slice ao 0 c] w fun e w' => e = .returned (.string ⟨#[]⟩) ∧ Below w.heap.size w w' := by
  go_enter Try.func71, Try.ntmps71
  go_wp2
  go_ret
  exact ⟨rfl, Below.refl _ _⟩
theorem showField_all (ao : Option Addr) (n c : Nat) (l : List TestR) (w : World) (h : TestsIn w ao n c l) (hn : n ≤ 1000) :
    Calls Try.prog 71 #[.slice ao n c] w fun e w' => e = .returned (.string (if l.length = 0 then ⟨#[]⟩ else fieldS l)) ∧ Below w.heap.size w w' := by
  have hl := h.len
  rcases Nat.eq_zero_or_pos n with rfl | h1
  · rw [if_pos hl]; exact showField_zero ao c w
  · rw [if_neg (by omega)]; exact showField_any ao n c l w h h1 hn

set_option maxRecDepth 100000 in
set_option maxHeartbeats 8000000 in
theorem showCond_any {w0 : World} {c : CondR} (h : c.Ok w0) : c.Fit → condN c ≤ 1000 → ∀ w : World, Below w0.heap.size w0 w →
    Calls Try.prog 38 #[c.val] w fun e w' => e = .returned (.string (condS c)) ∧ Below w.heap.size w w' := by
  induction h with
  | @mk kind goal id aa an ac attr va vn vc value acc ca cn cc conds ha hv hs hc ih =>
    intro hf hN w hw
    obtain ⟨hi, h1, h2, h3⟩ := hf
    have hcl : conds.length = cn := by have := hs.1; rw [rows_length condR_len] at this; omega
    have hsz : ∀ x ∈ conds, (condS x).size + 1 ≤ 3000000000 * condN x := fun x hx => condS_size (hc x hx) (h3 x hx)
    simp only [condN] at hN
    unfold CondR.val
    by_cases hk : kind = 3
    · subst hk
      have HS : Hid (condS (.mk 3 goal id aa an ac attr va vn vc value acc ca cn cc conds) = condsS conds true ⟨#[45, 123]⟩ ++ ⟨#[125]⟩) := Lib.hid (by simp only [condS]; rw [if_pos trivial])
      rw [HS.out]
      have hcap := hs.2.1
      have hmx := hs.2.2.1
      unfold maxLen at hmx
      have HCL := Lib.hid hcl
      have hw1 : Below w0.heap.size w0 (w.alloc (.cells #[.int .i64 3, .bool goal, .string id, .slice aa an ac, .slice va vn vc, .bool acc, .slice ca cn cc] 60)) := hw.alloc hw.size _
      have hbw : Below w.heap.size w (w.alloc (.cells #[.int .i64 3, .bool goal, .string id, .slice aa an ac, .slice va vn vc, .bool acc, .slice ca cn cc] 60)) := (Below.refl _ w).alloc (Nat.le_refl _) _
      have HW1 := Lib.hid hw1
      have HBW := Lib.hid hbw
      have HIH := Lib.hid ih
      have HSZ := Lib.hid hsz
      have HH3 := Lib.hid h3
      clear hcl ih hsz h3 hw1 hbw
      go_enter Try.func38, Try.ntmps38
      go_wp2
      go_loopw [3, 13] (fun ts ti wr => ∃ i : Nat, i ≤ cn ∧ ts = .string (condsS (conds.take i) true ⟨#[45, 123]⟩) ∧ ti = .int .i64 i ∧ Below w0.heap.size w0 wr ∧ Below w.heap.size w wr) (fun _ ti _ => cn - (intOf ti).toNat)
      case atStart => exact ⟨0, by omega, rfl, rfl, HW1.out, HBW.out⟩
      case round =>
        obtain ⟨i, hi', rfl, rfl, hb0, hb1⟩ := hrel
        have hz := condsS_size (conds.take i) (fun x hx => HSZ.out x (List.mem_of_mem_take hx)) true ⟨#[45, 123]⟩
        have hzn := condsN_take conds i
        have hz2 : (condsS (conds.take i) true ⟨#[45, 123]⟩).size ≤ 2 + 3000000000 * 1000 := Nat.le_trans hz (Nat.add_le_add (Nat.le_refl 2) (Nat.mul_le_mul_left _ (by omega)))
        clear hz
        by_cases hlt : i < cn
        · obtain ⟨x, hx⟩ : ∃ x, conds[i]? = some x := ⟨_, List.getElem?_eq_getElem (by rw [HCL.out]; exact hlt)⟩
          have hm := List.mem_of_getElem? hx
          have hxn := condsN_mem hm
          have hxz := HSZ.out x hm
          have hxz2 : (condS x).size ≤ 3000000000 * 1000 := by
            have : 3000000000 * condN x ≤ 3000000000 * 1000 := Nat.mul_le_mul_left _ (by omega)
            omega
          have hX := HIH.out x hm (HH3.out x hm) (by omega)
          obtain ⟨g, o, rfl, hcell⟩ := (hs.kept hb0).row_at condR_len (by omega) hx
          have hsn := condsS_snoc x (conds.take i) true ⟨#[45, 123]⟩
          rw [← take_snoc2 hx] at hsn
          have HSN := Lib.hid hsn
          have HXX := Lib.hid hx
          clear hxz hx hxn hzn HSN hm
          obtain ⟨xk, xg, xi, xaa, xan, xac, xat, xva, xvn, xvc, xvl, xacc, xca, xcn, xcc, xcs⟩ := x
          obtain ⟨c0, c1, c2, c3, c4, c5, c6⟩ := seven_cells (hcell)
          unfold CondR.val at hX
          simp only at hX
          have hwa : Below w0.heap.size w0 (wr.alloc (.cells #[.int .i64 xk, .bool xg, .string xi, .slice xaa xan xac, .slice xva xvn xvc, .bool xacc, .slice xca xcn xcc] 60)) := hb0.alloc hb0.size _
          have hba : Below wr.heap.size wr (wr.alloc (.cells #[.int .i64 xk, .bool xg, .string xi, .slice xaa xan xac, .slice xva xvn xvc, .bool xacc, .slice xca xcn xcc] 60)) := (Below.refl _ wr).alloc (Nat.le_refl _) _
          have HWA := Lib.hid hwa
          have HBA := Lib.hid hba
          have HX := Lib.hid hX
          clear hX hwa hba hcell
          generalize condS (.mk xk xg xi xaa xan xac xat xva xvn xvc xvl xacc xca xcn xcc xcs) = X at HX hsn hxz2
          by_cases hc0 : i = 0
          · rw [if_pos ⟨by rw [hc0]; rfl, rfl⟩] at hsn
            have HSN := Lib.hid hsn
            have hi0 : ¬ (0 : Int) < (i : Int) := by omega
            have p1 := fun w => run_string_add_sum (P := Try.prog) w (condsS (conds.take i) true ⟨#[45, 123]⟩) X (by omega)
            clear hsn
            clear hc0
            go_wp2_with (go_at_call 38; refine (HX.out _ HWA.out).mono ?_; rintro e w2 ⟨rfl, b2⟩)
            have bb : Below wr.heap.size wr w2 := HBA.out.trans (b2.mono (by simp))
            go_roundw
            case rel => exact ⟨i + 1, by omega, by rw [HSN.out], by go_num, hb0.trans (bb.mono hb0.size), hb1.trans (bb.mono hb1.size)⟩
            case measure => simp [intOf]; omega
          · rw [if_neg (fun h => hc0 (by have := congrArg List.length h.1; rw [List.length_take, HCL.out] at this; simp at this; omega))] at hsn
            have HSN := Lib.hid hsn
            have hi0 : (0 : Int) < (i : Int) := by omega
            have p1 := fun w => run_string_add_sum (P := Try.prog) w (condsS (conds.take i) true ⟨#[45, 123]⟩) ⟨#[32]⟩ (by show _ + 1 ≤ _; omega)
            have p2 := fun w => run_string_add_sum (P := Try.prog) w (condsS (conds.take i) true ⟨#[45, 123]⟩ ++ ⟨#[32]⟩) X (by rw [cat2_size]; show _ + 1 + _ ≤ _; omega)
            clear hsn
            clear hc0
            go_wp2_with (go_at_call 38; refine (HX.out _ HWA.out).mono ?_; rintro e w2 ⟨rfl, b2⟩)
            have bb : Below wr.heap.size wr w2 := HBA.out.trans (b2.mono (by simp))
            go_roundw
            case rel => exact ⟨i + 1, by omega, by rw [HSN.out], by go_num, hb0.trans (bb.mono hb0.size), hb1.trans (bb.mono hb1.size)⟩
            case measure => simp [intOf]; omega
        · obtain rfl : i = cn := by omega
          have htk : Hid (conds.take i = conds) := Lib.hid (List.take_of_length_le (by rw [HCL.out]; omega))
          have p1 := fun w => run_string_add_sum (P := Try.prog) w (condsS (conds.take i) true ⟨#[45, 123]⟩) ⟨#[125]⟩ (by show _ + 1 ≤ _; omega)
          go_wp2
          go_ret
          exact ⟨by rw [htk.out]; rfl, hb1⟩
    · have hal := ha.len
      have hvl := hv.len
      have hwa : Below w0.heap.size w0 (w.alloc (.cells #[.int .i64 kind, .bool goal, .string id, .slice aa an ac, .slice va vn vc, .bool acc, .slice ca cn cc] 60)) := hw.alloc hw.size _
      have hba : Below w.heap.size w (w.alloc (.cells #[.int .i64 kind, .bool goal, .string id, .slice aa an ac, .slice va vn vc, .bool acc, .slice ca cn cc] 60)) := (Below.refl _ w).alloc (Nat.le_refl _) _
      have hbx : BoxC (w.alloc (.cells #[.int .i64 kind, .bool goal, .string id, .slice aa an ac, .slice va vn vc, .bool acc, .slice ca cn cc] 60)) w.heap.size 60 [.int .i64 kind, .bool goal, .string id, .slice aa an ac, .slice va vn vc, .bool acc, .slice ca cn cc] := BoxC.new w _ 60
      have hA := fun W (hb : Below w0.heap.size w0 W) => showField_all aa an ac attr W (ha.kept hb) h1
      have hV := fun W (hb : Below w0.heap.size w0 W) => showField_all va vn vc value W (hv.kept hb) h2
      have hfa := fieldS_size ha.ok (by rw [ha.len]; exact h1)
      have hfv := fieldS_size hv.ok (by rw [hv.len]; exact h2)
      have hza : (if attr.length = 0 then (⟨#[]⟩ : ByteArray) else fieldS attr).size ≤ 1000011010 := by
        split
        · exact Nat.zero_le _
        · exact hfa
      simp only [condS]
      rw [if_neg hk]
      generalize (if attr.length = 0 then (⟨#[]⟩ : ByteArray) else fieldS attr) = FA at hA hza ⊢
      have hmix : Try.prog.follows .mixedOrders = true := by kernel_rfl
      have e3 : (kind == 3) = false := by simp [hk]
      have HA := Lib.hid hA
      have HV := Lib.hid hV
      have HWD : Hid (Below w0.heap.size w0 (w.alloc (.cells #[.int .i64 kind, .bool goal, .string id, .slice aa an ac, .slice va vn vc, .bool acc, .slice ca cn cc] 60)).drew) := Lib.hid ⟨hwa.os, hwa.tape, hwa.output, hwa.size, hwa.block⟩
      have HWA := Lib.hid hwa
      have HBA := Lib.hid hba
      have HBX := Lib.hid hbx
      have HIH := Lib.hid ih
      clear hA hV hwa hba hbx ih hk hcl
      have l1 : (⟨#[41]⟩ : ByteArray).size = 1 := rfl
      have l2 : (⟨#[32, 43]⟩ : ByteArray).size = 2 := rfl
      have l3 : (⟨#[32]⟩ : ByteArray).size = 1 := rfl
      have l4 : (⟨#[62, 32, 94]⟩ : ByteArray).size = 3 := rfl
      have l5 : (⟨#[60]⟩ : ByteArray).size = 1 := rfl
      have l6 : (⟨#[115, 116, 97, 116, 101, 32]⟩ : ByteArray).size = 6 := rfl
      have l7 : (⟨#[45, 40]⟩ : ByteArray).size = 2 := rfl
      have l8 : (⟨#[40]⟩ : ByteArray).size = 1 := rfl
      by_cases hk2 : kind = 2 <;> rcases goal with _ | _
      focus
        rw [if_pos hk2, if_neg (show ¬ (false = true) by decide)]
        have e2 : (kind == 2) = true := by simp [hk2]
        clear hk2
        go_enter Try.func38, Try.ntmps38
        go_wp2
        generalize hSS : (⟨#[45, 40]⟩ : ByteArray) = S
        have hS : S.size ≤ 8 := by rw [← hSS]; decide +kernel
        have HSS := Lib.hid hSS
        clear hSS
      rotate_left
      focus
        rw [if_pos hk2, if_pos (show true = true from rfl)]
        have e2 : (kind == 2) = true := by simp [hk2]
        clear hk2
        go_enter Try.func38, Try.ntmps38
        go_wp2
        generalize hSS : (⟨#[45, 40]⟩ : ByteArray) ++ ⟨#[115, 116, 97, 116, 101, 32]⟩ = S
        have hS : S.size ≤ 8 := by rw [← hSS]; decide +kernel
        have HSS := Lib.hid hSS
        clear hSS
      rotate_left
      focus
        rw [if_neg hk2, if_neg (show ¬ (false = true) by decide)]
        have e2 : (kind == 2) = false := by simp [hk2]
        clear hk2
        go_enter Try.func38, Try.ntmps38
        go_wp2
        generalize hSS : (⟨#[40]⟩ : ByteArray) = S
        have hS : S.size ≤ 8 := by rw [← hSS]; decide +kernel
        have HSS := Lib.hid hSS
        clear hSS
      rotate_left
      focus
        rw [if_neg hk2, if_pos (show true = true from rfl)]
        have e2 : (kind == 2) = false := by simp [hk2]
        clear hk2
        go_enter Try.func38, Try.ntmps38
        go_wp2
        generalize hSS : (⟨#[40]⟩ : ByteArray) ++ ⟨#[115, 116, 97, 116, 101, 32]⟩ = S
        have hS : S.size ≤ 8 := by rw [← hSS]; decide +kernel
        have HSS := Lib.hid hSS
        clear hSS
      rotate_left
      all_goals
        have p1 := fun w => run_string_add_sum (P := Try.prog) w S ⟨#[60]⟩ (by show _ + 1 ≤ _; omega)
        have p2 := fun w => run_string_add_sum (P := Try.prog) w (S ++ ⟨#[60]⟩) id (by rw [cat2_size]; show _ + 1 + _ ≤ _; omega)
        have p3 := fun w => run_string_add_sum (P := Try.prog) w (S ++ ⟨#[60]⟩ ++ id) ⟨#[62, 32, 94]⟩ (by simp only [cat2_size]; show _ + 1 + _ + 3 ≤ _; omega)
        have p4 := fun w => run_string_add_sum (P := Try.prog) w (S ++ ⟨#[60]⟩ ++ id ++ ⟨#[62, 32, 94]⟩) FA (by simp only [cat2_size]; show _ + 1 + _ + 3 + _ ≤ _; omega)
        go_region_held3 (fun w' => w'.cell? ⟨w.heap.size, 2, none⟩ = some (.string id) ∧ w'.cell? ⟨w.heap.size, 3, none⟩ = some (.slice aa an ac)) (first | exact ⟨HBX.out.at_ rfl, HBX.out.at_ rfl⟩ | (have B2 := HBX.out.below (undrew b2); exact ⟨B2.at_ rfl, B2.at_ rfl⟩)) (first | (go_at_call 71; refine (HA.out _ HWD.out).mono ?_; rintro e w2 ⟨rfl, b2⟩))
        have B2 := HBX.out.below (undrew b2)
        have x4 := B2.at_ (j := 4) rfl
        have x5 := B2.at_ (j := 5) rfl
        have HB2 := Lib.hid B2
        have HW2 : Hid (Below w0.heap.size w0 w2) := Lib.hid (HWA.out.trans ((undrew b2).mono (by simpa using HWA.out.size)))
        have HC2 : Hid (Below w.heap.size w w2) := Lib.hid (HBA.out.trans ((undrew b2).mono (by simp)))
        have hT : (S ++ ⟨#[60]⟩ ++ id ++ ⟨#[62, 32, 94]⟩ ++ FA).size ≤ 2000000000 := by simp only [cat2_size]; show _ + 1 + _ + 3 + _ ≤ _; omega
        clear p1 p2 p3 p4 B2 b2
        generalize hTT : (S ++ ⟨#[60]⟩ ++ id ++ ⟨#[62, 32, 94]⟩ ++ FA) = T at hT ⊢
        have HTT := Lib.hid hTT
        clear hTT
        by_cases hv0 : vn = 0
        · have hvc : ¬ (0 : Int) < (vn : Int) := by omega
          have HV0 : Hid (¬ 0 < value.length) := Lib.hid (by omega)
          clear hv0
          rcases acc with _ | _
          · have q1 := fun w => run_string_add_sum (P := Try.prog) w T ⟨#[41]⟩ (by show _ + 1 ≤ _; omega)
            go_wp2
            go_ret
            exact ⟨ret_str (by rw [← HTT.out, ← HSS.out]), HC2.out⟩
          · have q1 := fun w => run_string_add_sum (P := Try.prog) w T ⟨#[32, 43]⟩ (by show _ + 2 ≤ _; omega)
            have q2 := fun w => run_string_add_sum (P := Try.prog) w (T ++ ⟨#[32, 43]⟩) ⟨#[41]⟩ (by rw [cat2_size]; show _ + 2 + 1 ≤ _; omega)
            go_wp2
            go_ret
            exact ⟨ret_str (by rw [← HTT.out, ← HSS.out]), HC2.out⟩
        · have hvc : (0 : Int) < (vn : Int) := by omega
          have HV0 : Hid (0 < value.length) := Lib.hid (by omega)
          clear hv0
          have HV2 : Hid (Calls Try.prog 71 #[.slice va vn vc] w2 fun e w' => e = .returned (.string (fieldS value)) ∧ Below w2.heap.size w2 w') := Lib.hid (by have := HV.out w2 HW2.out; rwa [if_neg (by omega)] at this)
          generalize hFV : fieldS value = FV at HV2 hfv ⊢
          have HFV := Lib.hid hFV
          clear hFV
          have q1 := fun w => run_string_add_sum (P := Try.prog) w T ⟨#[32]⟩ (by show _ + 1 ≤ _; omega)
          have q2 := fun w => run_string_add_sum (P := Try.prog) w (T ++ ⟨#[32]⟩) FV (by rw [cat2_size]; show _ + 1 + _ ≤ _; omega)
          have hT2 : (T ++ ⟨#[32]⟩ ++ FV).size ≤ 4000000000 := by simp only [cat2_size]; show _ + 1 + _ ≤ _; omega
          rcases acc with _ | _
          · have q3 := fun w => run_string_add_sum (P := Try.prog) w (T ++ ⟨#[32]⟩ ++ FV) ⟨#[41]⟩ (by show _ + 1 ≤ _; omega)
            go_wp2_with (go_at_call 71; refine HV2.out.mono ?_; rintro e w3 ⟨rfl, b3⟩; have x53 := (HB2.out.below b3).at_ (j := 5) rfl)
            go_ret
            exact ⟨ret_str (by rw [← HTT.out, ← HSS.out, ← HFV.out]), HC2.out.trans (b3.mono HC2.out.size)⟩
          · have q3 := fun w => run_string_add_sum (P := Try.prog) w (T ++ ⟨#[32]⟩ ++ FV) ⟨#[32, 43]⟩ (by show _ + 2 ≤ _; omega)
            have q4 := fun w => run_string_add_sum (P := Try.prog) w (T ++ ⟨#[32]⟩ ++ FV ++ ⟨#[32, 43]⟩) ⟨#[41]⟩ (by rw [cat2_size]; show _ + 2 + 1 ≤ _; omega)
            go_wp2_with (go_at_call 71; refine HV2.out.mono ?_; rintro e w3 ⟨rfl, b3⟩; have x53 := (HB2.out.below b3).at_ (j := 5) rfl)
            go_ret
            exact ⟨ret_str (by rw [← HTT.out, ← HSS.out, ← HFV.out]), HC2.out.trans (b3.mono HC2.out.size)⟩
end Go.Proofs.Ytgeaccoobhigcaa
