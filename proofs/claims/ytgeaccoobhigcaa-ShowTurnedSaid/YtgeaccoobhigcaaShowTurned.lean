/-
  The law ShowTurned holds for every input: the given statement Rows.ShowTurnedSaid, without any condition of its own.
-/
import Derived.Test.YtgeaccoobhigcaaGF
import Derived.Test.YtgeaccoobhigcaaG6
import Derived.Test.YtgeaccoobhigcaaG8
import Derived.Test.YtgeaccoobhigcaaG7
import Derived.Test.YtgeaccoobhigcaaGD
import Derived.Test.YtgeaccoobhigcaaG4
import Derived.Test.YtgeaccoobhigcaaGJ
import Derived.Test.YtgeaccoobhigcaaG9
import Derived.Deep.QuietTactic
import Derived.BigQuiet
import Derived.ProofKit
import Derived.OpenShut
import Derived.ShutString
import Derived.ChangeOld
import Derived.Below
namespace Go.Proofs.Ytgeaccoobhigcaa
open Go Go.RowKit

theorem same_texts {P Q : Pd} (hp : shapeE P = 0) (hq : shapeE Q = 0) : ((prodT P).toList == (prodT Q).toList) = pdEq P Q := by
  rw [Bool.eq_iff_iff, beq_iff_eq, pdEq_iff]
  constructor
  · intro h
    rw [ByteArray.toList_eq, ByteArray.toList_eq] at h
    exact prodT_inj hp hq (str_ext h)
  · rintro rfl; rfl
theorem prodTx_bad {P : Pd} (h : shapeE P ≠ 0) : prodTx P = ⟨#[]⟩ := if_neg h
set_option maxRecDepth 100000 in
set_option maxHeartbeats 4000000 in
theorem showUnlike_walk (p q : ProdR) (w : World) (hp : p.Mem w) (hq : q.Mem w) : Calls Try.prog 11 #[p.val, q.val] w fun x w' => x = .returned (.bool true) ∧ Below w.heap.size w w' := by
  have hH := fun W (hW : Below w.heap.size w W) => heavy_any p W (hp.kept hW)
  have hH2 := fun W (hW : Below w.heap.size w W) => heavy_any q W (hq.kept hW)
  have hS := fun hn W (hW : Below w.heap.size w W) => showProd_any p W (hp.kept hW) hn
  have hS2 := fun hn W (hW : Below w.heap.size w W) => showProd_any q W (hq.kept hW) hn
  have hK := fun W (hW : Below w.heap.size w W) => kProd_any p q W (hp.kept hW) (hq.kept hW)
  have hlt : p.Light → condsN p.conds ≤ 1000000 := fun hl => by have := hl.n; omega
  have hlt2 : q.Light → condsN q.conds ≤ 1000000 := fun hl => by have := hl.n; omega
  obtain ⟨name, ca, cn, cc, conds, aa, an, ac, acts⟩ := p
  obtain ⟨qn, qca, qcn, qcc, qcs, qaa, qan, qac, qas⟩ := q
  have hv : ProdR.val ⟨name, ca, cn, cc, conds, aa, an, ac, acts⟩ = .agg #[.string name, .slice ca cn cc, .slice aa an ac] := rfl
  have hv2 : ProdR.val ⟨qn, qca, qcn, qcc, qcs, qaa, qan, qac, qas⟩ = .agg #[.string qn, .slice qca qcn qcc, .slice qaa qan qac] := rfl
  rw [hv] at hH hS hK ⊢
  rw [hv2] at hH2 hS2 hK ⊢
  generalize ProdR.abs ⟨name, ca, cn, cc, conds, aa, an, ac, acts⟩ = P at hS hK
  generalize ProdR.abs ⟨qn, qca, qcn, qcc, qcs, qaa, qan, qac, qas⟩ = Q at hS2 hK
  have hbb := below_trans (below_new w (.cells #[.string name, .slice ca cn cc, .slice aa an ac] 48)) (below_new _ (.cells #[.string qn, .slice qca qcn qcc, .slice qaa qan qac] 48))
  have hx0 : BoxC ((w.alloc (.cells #[.string name, .slice ca cn cc, .slice aa an ac] 48)).alloc (.cells #[.string qn, .slice qca qcn qcc, .slice qaa qan qac] 48)) w.heap.size 48 [.string name, .slice ca cn cc, .slice aa an ac] := (BoxC.new w _ 48).alloc _
  have hy0 : BoxC ((w.alloc (.cells #[.string name, .slice ca cn cc, .slice aa an ac] 48)).alloc (.cells #[.string qn, .slice qca qcn qcc, .slice qaa qan qac] 48)) (w.heap.size + 1) 48 [.string qn, .slice qca qcn qcc, .slice qaa qan qac] := BoxC.new_at' (by simp)
  have HH := Lib.hid hH
  have HH2 := Lib.hid hH2
  have HS := Lib.hid hS
  have HS2 := Lib.hid hS2
  have HK := Lib.hid hK
  have HL := Lib.hid hlt
  have HL2 := Lib.hid hlt2
  have HBB := Lib.hid hbb
  have HX := Lib.hid hx0
  have HY := Lib.hid hy0
  clear hH hS hlt hbb hx0 hp hv hH2 hS2 hK hlt2 hy0 hq hv2
  go_enter Try.func11, Try.ntmps11
  go_wp2_with fail
  refine (HH.out _ HBB.out).mono ?_
  rintro e w2 ⟨⟨b, rfl, hb⟩, b2⟩
  have HB := Lib.hid hb
  have HBB2 := Lib.hid (below_trans HBB.out b2)
  have HX2 := Lib.hid (HX.out.below b2)
  have HY2 := Lib.hid (HY.out.below b2)
  clear hb b2 HX HY
  cases b with
  | true =>
    go_wp2_with (go_at_call 32; refine (wakes7_any _).mono ?_; rintro e w3 ⟨rfl, b3⟩)
    go_ret
    exact ⟨rfl, below_trans HBB2.out b3⟩
  | false =>
    have HN := Lib.hid (HL.out (HB.out rfl))
    obtain ⟨x0, x1, x2⟩ := three_box HX2.out
    obtain ⟨y0, y1, y2⟩ := three_box HY2.out
    clear HH HB HL
    go_wp2_with fail
    refine (HH2.out _ HBB2.out).mono ?_
    rintro e w3 ⟨⟨b, rfl, hb⟩, b3⟩
    have HB := Lib.hid hb
    have HB3 := Lib.hid (below_trans HBB2.out b3)
    have HX3 := Lib.hid (HX2.out.below b3)
    have HY3 := Lib.hid (HY2.out.below b3)
    clear hb b3 HX2 HY2 x0 x1 x2 y0 y1 y2
    cases b with
    | true =>
      go_wp2_with (go_at_call 32; refine (wakes7_any _).mono ?_; rintro e w3 ⟨rfl, b3⟩)
      go_ret
      exact ⟨rfl, below_trans HB3.out b3⟩
    | false =>
      have HN2 := Lib.hid (HL2.out (HB.out rfl))
      obtain ⟨x0, x1, x2⟩ := three_box HX3.out
      obtain ⟨y0, y1, y2⟩ := three_box HY3.out
      clear HH2 HB HL2
      go_wp2_with fail
      refine (HS.out HN.out _ HB3.out).mono ?_
      rintro e w4 ⟨rfl, b4⟩
      have HB4 := Lib.hid (below_trans HB3.out b4)
      have HX4 := Lib.hid (HX3.out.below b4)
      have HY4 := Lib.hid (HY3.out.below b4)
      clear b4 HX3 HY3 x0 x1 x2 y0 y1 y2 HS
      obtain ⟨x0, x1, x2⟩ := three_box HX4.out
      obtain ⟨y0, y1, y2⟩ := three_box HY4.out
      go_wp2_with fail
      refine (HS2.out HN2.out _ HB4.out).mono ?_
      rintro e w5 ⟨rfl, b5⟩
      have HB5 := Lib.hid (below_trans HB4.out b5)
      have HX5 := Lib.hid (HX4.out.below b5)
      have HY5 := Lib.hid (HY4.out.below b5)
      clear b5 HX4 HY4 x0 x1 x2 y0 y1 y2 HS2
      obtain ⟨x0, x1, x2⟩ := three_box HX5.out
      obtain ⟨y0, y1, y2⟩ := three_box HY5.out
      have hnil : ((⟨#[]⟩ : ByteArray).toList == []) = true := by rw [ByteArray.toList_eq]; rfl
      by_cases hE : shapeE P = 0
      · by_cases hF : shapeE Q = 0
        · have hs := same_texts hE hF
          rw [hE, hF, show prodTx P = prodT P from if_pos hE, show prodTx Q = prodT Q from if_pos hF]
          generalize prodT P = S at hs ⊢
          generalize prodT Q = T at hs ⊢
          have hK := HK.out _ HB5.out
          generalize pdEq P Q = b at hs hK
          have HKK := Lib.hid hK
          clear hK hE hF HK
          cases b with
          | true =>
            go_wp2_with fail
            refine HKK.out.mono ?_
            rintro e w6 ⟨rfl, b6⟩
            have HB6 := Lib.hid (below_trans HB5.out b6)
            clear b6
            go_wp2_with (go_at_call 32; refine (wakes7_any _).mono ?_; rintro e w7 ⟨rfl, b7⟩)
            go_ret
            exact ⟨rfl, below_trans HB6.out b7⟩
          | false =>
            go_wp2_with fail
            refine HKK.out.mono ?_
            rintro e w6 ⟨rfl, b6⟩
            have HB6 := Lib.hid (below_trans HB5.out b6)
            clear b6
            go_wp2_with (go_at_call 32; refine (wakes7_any _).mono ?_; rintro e w7 ⟨rfl, b7⟩)
            go_ret
            exact ⟨rfl, below_trans HB6.out b7⟩
        · rw [hE, prodTx_bad hF]
          have e1 : (shapeE Q != 0) = true := by simp [hF]
          generalize shapeE Q = F at *
          generalize prodTx P = S at *
          clear hE hF HK
          cases hs : (S.toList == []) with
          | true =>
            go_wp2_with (go_at_call 32; refine (wakes7_any _).mono ?_; rintro e w7 ⟨rfl, b7⟩)
            go_ret
            exact ⟨rfl, below_trans HB5.out b7⟩
          | false =>
            go_wp2_with (go_at_call 32; refine (wakes7_any _).mono ?_; rintro e w7 ⟨rfl, b7⟩)
            go_ret
            exact ⟨rfl, below_trans HB5.out b7⟩
      · rw [prodTx_bad hE]
        have e1 : (shapeE P != 0) = true := by simp [hE]
        generalize shapeE P = F at *
        by_cases hF : shapeE Q = 0
        · rw [hF]
          generalize prodTx Q = S at *
          clear hE hF HK
          cases hs : (S.toList == []) with
          | true =>
            go_wp2_with (go_at_call 32; refine (wakes7_any _).mono ?_; rintro e w7 ⟨rfl, b7⟩)
            go_ret
            exact ⟨rfl, below_trans HB5.out b7⟩
          | false =>
            go_wp2_with (go_at_call 32; refine (wakes7_any _).mono ?_; rintro e w7 ⟨rfl, b7⟩)
            go_ret
            exact ⟨rfl, below_trans HB5.out b7⟩
        · rw [prodTx_bad hF]
          generalize shapeE Q = G at *
          clear hE hF HK
          go_wp2_with (go_at_call 32; refine (wakes7_any _).mono ?_; rintro e w7 ⟨rfl, b7⟩)
          go_ret
          exact ⟨rfl, below_trans HB5.out b7⟩
end Go.Proofs.Ytgeaccoobhigcaa
namespace Go.Proofs.Ytgeaccoobhigcaa
open Go Go.RowKit

set_option maxRecDepth 100000 in
set_option maxHeartbeats 4000000 in
theorem copyConds_own (conds : List CondR) (hM : condsN conds ≤ 1000000) (ca : Option Addr) (cn cc : Nat) (w : World) (hs : SlR w 7 ca cn cc (conds.flatMap CondR.cells)) (hc : ∀ c ∈ conds, c.Mem w) (hli : ∀ c ∈ conds, c.Light) :
    Calls Try.prog 62 #[.slice ca cn cc] w fun e w' => (∃ (v : Value) (l : List CondR), e = .returned v ∧ OwnD mkCond w.heap.size 60 w' v l ∧ absL l = absL conds) ∧ Below w.heap.size w w' := by
  obtain ⟨i0, hi, hz0, hz1, hz2⟩ := info_parts Try.info60
  have hcl := condsMem_len hs
  have hcm := condsN_length conds
  have hcap := hs.2.1
  have hmx := hs.2.2.1
  unfold maxLen at hmx
  rw [hcl] at hcm
  have HCL := Lib.hid hcl
  have HC := Lib.hid hc
  have HS := Lib.hid hs
  have HLI := Lib.hid hli
  clear hcl hc hs hli
  go_enter Try.func62, Try.ntmps62
  go_wp2
  go_loopw [3, 4] (fun v ti wr => ∃ (i : Nat) (l' : List CondR), i ≤ cn ∧ ti = .int .i64 i ∧ Hid (l'.length = i) ∧ Hid (absL l' = absL (conds.take i)) ∧ OwnD mkCond w.heap.size 60 wr v l' ∧ Below w.heap.size w wr) (fun _ ti _ => cn - (intOf ti).toNat)
  case atStart => exact ⟨0, [], by omega, rfl, Lib.hid rfl, Lib.hid rfl, OwnD.nil _ _ _ _, Below.refl _ _⟩
  case round =>
    obtain ⟨i, l', hin, rfl, HL', HE, ho, hb⟩ := hrel
    by_cases hlt : i < cn
    · obtain ⟨x, hx⟩ : ∃ x, conds[i]? = some x := ⟨_, List.getElem?_eq_getElem (by rw [HCL.out]; exact hlt)⟩
      have hm := List.mem_of_getElem? hx
      have hza := condsN_stop hx
      have hkn := condN_kids x
      have hkb : condsN x.kids ≤ 1000000 := by omega
      obtain ⟨g, o, rfl, hcell⟩ := (HS.out.kept hb).row_at condR_len (by omega) hx
      have hxm := (HC.out x hm).kept hb
      obtain ⟨xca, xcn, xcc, hx6, hxs, hxc⟩ := hxm.kids
      have hI := fun hkl W (hW : Below wr.heap.size wr W) => copyConds_any (condsN x.kids + 1) x.kids (by omega) hkb xca xcn xcc W (hxs.kept hW) (fun c h => (hxc c h).kept hW) hkl
      have hbs := hb.size
      have HX := Lib.hid hx
      have hxl := HLI.out x hm
      have hll' : l'.length ≤ 1000000 := by rw [HL'.out]; omega
      cases hxm with
      | @mk xk xg xi xaa xan xac xat xva xvn xvc xvl xacc xca' xcn' xcc' xcs zi za zv zs zc =>
      cases hxl with
      | mk q1 q2 q3 q4 q5 =>
      obtain ⟨c0, c1, c2, c3, c4, c5, c6⟩ := seven_cells hcell
      simp only [CondR.cells, List.getElem?_cons_succ, List.getElem?_cons_zero, Option.some.injEq, Value.slice.injEq] at hx6
      obtain ⟨rfl, rfl, rfl⟩ := hx6
      have hCC := copyCond_step (kind := xk) (goal := xg) (acc := xacc) wr zi za zv q1 q2 q3 q4 (hI q5)
      have HCC := Lib.hid hCC
      have HO := Lib.hid ho
      have HB := Lib.hid hb
      clear hx hm hcell hxs hxc hI hkn hza hkb za zv zs zc zi q1 q2 q3 q4 q5 hCC ho hb
      go_wp2_with fail
      refine HCC.out.mono ?_
      rintro e w2 ⟨⟨c', rfl, he, hm2, hi2⟩, b2⟩
      have HO2 := Lib.hid (HO.out.kept b2)
      have HB2 := Lib.hid (below_trans HB.out b2)
      have HF := Lib.hid (cond_fits HO.out hbs hm2 hi2)
      have HEE := Lib.hid he
      clear b2 hm2 hi2 he
      obtain ⟨yk, yg, yi, ya1, ya2, ya3, ya, yv1, yv2, yv3, yv, yacc, yc1, yc2, yc3, yc⟩ := c'
      unfold CondR.val
      simp only
      go_wp2_with (at_builtin; refine wpList_push2 rfl (.tmp 11) (.tmp 17) 45 rfl mkCond 60 i0 _ 112 Try.underlying45 hi hz0 hz1 hz2 rfl (by omega) _ l' (.mk yk yg yi ya1 ya2 ya3 ya yv1 yv2 yv3 yv yacc yc1 yc2 yc3 yc) rfl HO2.out HB2.out HF.out hll' _ (by simp) rfl rfl ?_; intro go' c' w' HO3 HB3)
      have HLN : Hid ((l' ++ [CondR.mk yk yg yi ya1 ya2 ya3 ya yv1 yv2 yv3 yv yacc yc1 yc2 yc3 yc]).length = i + 1) := Lib.hid (by rw [List.length_append, HL'.out]; rfl)
      have HEN : Hid (absL (l' ++ [CondR.mk yk yg yi ya1 ya2 ya3 ya yv1 yv2 yv3 yv yacc yc1 yc2 yc3 yc]) = absL (conds.take (i + 1))) := Lib.hid (by
        have h1 := HE.out
        have h2 := HEE.out
        rw [absL_map] at h1 ⊢
        rw [absL_map] at h1 ⊢
        rw [take_snoc2 HX.out, List.map_append, List.map_append, h1]
        exact congrArg (fun z => List.map CondR.abs (conds.take i) ++ [z]) h2)
      go_roundw
      case rel => exact ⟨i + 1, _, by omega, by go_num, HLN, HEN, HO3.out, HB3.out⟩
      case measure => simp [intOf]; omega
    · obtain rfl : i = cn := by omega
      have HEN : Hid (absL l' = absL conds) := Lib.hid (by have := HE.out; rwa [List.take_of_length_le (by rw [HCL.out]; omega)] at this)
      have HO3 := Lib.hid ho
      have HB3 := Lib.hid hb
      clear ho hb
      go_wp2
      go_ret
      exact ⟨⟨_, l', rfl, HO3.out, HEN.out⟩, HB3.out⟩

section
variable {α : Type}
/-- A row copied: append to nothing. -/
theorem wp_copied {P : Program} {o : Oper} {a : Act} {Z : Act → World → Prop} {Q : Exit → Act → World → Prop} (s x : Operand) (t : TypeId)
    (ho : o.op = .call { callee := .builtin .append, args := #[s, x], argTypes := #[t, t] })
    (M : Make α) (e : TypeId) (i : TypeInfo) (z : Value) (bytes : Nat) (ht : P.underlying t = some (.slice e)) (hi : P.info? e = some i) (hz : i.zero = some z)
    (hsize : i.size = M.size) (hby : i.bytes = bytes) (hzs : z.cells.size = M.size) (hbytes : bytes ≤ 1000) {w0 : World}
    (ao : Option Addr) (m c : Nat) (l : List α) (hs : a.eval s = .slice none 0 0) (hx : a.eval x = .slice ao m c) (hsl : SlR w0 M.size ao m c (l.flatMap M.cells)) (hok : ∀ x ∈ l, M.ok w0 x) (hin : ∀ x ∈ l, M.inK (fun _ => False) x) (hm : m ≤ 1000000)
    (h : ∀ v' w', OwnD M w0.heap.size e w' v' l → w0.grownBy w' none → Z (a.put o.dst v') w') : o.wp P a w0 Z Q := by
  have hll : l.length = m := by
    have := hsl.1
    rw [rows_length M.len] at this
    exact Nat.eq_of_mul_eq_mul_right M.pos this
  have hO := OwnD.nil M w0.heap.size e w0
  unfold Oper.wp execOp
  cases ao with
  | none =>
    have hc0 := hsl.2.2.2.1 rfl
    have hm0 : m = 0 := by have := hsl.2.1; omega
    subst hc0 hm0
    have : l = [] := List.eq_nil_of_length_eq_zero hll
    subst this
    have hrun := run_append_none (P := P) (w := w0) (i := i) o.type ht hi hO.own
    simp only [ho, resolve, invoke, builtin, Sem.run_bind, Sem.run_pure, Result.andThen_ok, List.map_toArray, List.map_cons, List.map_nil, hs, hx, hrun]
    exact h _ w0 hO (grownBy_refl _ _)
  | some ad =>
    have hone : ∀ u ∈ l.flatMap M.cells, u.oneCell' = true := fun u hu => by
      obtain ⟨a, _, ha⟩ := List.mem_flatMap.1 hu
      exact M.one a u ha
    obtain ⟨v', w', hrun, h2, h3, _, h5⟩ := run_append_own_at (P := P) w0 w0.heap.size t o.type e i z M.size bytes ht hi hz hsize hby hzs M.pos (.slice none 0 0) 0 [] hO.own ad m c (l.flatMap M.cells) hsl.1 (fun j u hj => hsl.2.2.2.2 ad rfl j u hj) hone (by unfold maxLen; omega)
      (by have := Nat.mul_le_mul (show 0 + m ≤ 1000000 by omega) hbytes; omega) (Nat.le_refl _)
    simp only [ho, resolve, invoke, builtin, Sem.run_bind, Sem.run_pure, Result.andThen_ok, List.map_toArray, List.map_cons, List.map_nil, hs, hx, hrun]
    exact h v' w' (by simpa using hO.pushes (K := fun _ => False) (l2 := l) rfl (by rw [hll]; simpa using h2) h3 h5 hok hin (fun b hb => hb.elim)) h3
theorem wpList_copied {P : Program} {ops : Array Oper} {rest : List Oper} {o : Oper} {a : Act} {Q : Exit → Act → World → Prop} (hgd : o.guard = none) (s x : Operand) (t : TypeId)
    (ho : o.op = .call { callee := .builtin .append, args := #[s, x], argTypes := #[t, t] })
    (M : Make α) (e : TypeId) (i : TypeInfo) (z : Value) (bytes : Nat) (ht : P.underlying t = some (.slice e)) (hi : P.info? e = some i) (hz : i.zero = some z)
    (hsize : i.size = M.size) (hby : i.bytes = bytes) (hzs : z.cells.size = M.size) (hbytes : bytes ≤ 1000) {w0 : World}
    (ao : Option Addr) (m c : Nat) (l : List α) (hs : a.eval s = .slice none 0 0) (hx : a.eval x = .slice ao m c) (hsl : SlR w0 M.size ao m c (l.flatMap M.cells)) (hok : ∀ x ∈ l, M.ok w0 x) (hin : ∀ x ∈ l, M.inK (fun _ => False) x) (hm : m ≤ 1000000)
    (h : ∀ v' w', OwnD M w0.heap.size e w' v' l → w0.grownBy w' none → wpList P ops Q rest (a.put o.dst v') w') : wpList P ops Q (o :: rest) a w0 :=
  wpList_plain hgd fun _ hZ => wp_copied s x t ho M e i z bytes ht hi hz hsize hby hzs hbytes ao m c l hs hx hsl hok hin hm fun v' w' h1 h2 => hZ _ _ (h v' w' h1 h2)
end
set_option maxRecDepth 100000 in
set_option maxHeartbeats 1000000 in
theorem copyActs_own (ao : Option Addr) (n c : Nat) (l : List Ac) (w : World) (h : SlR w 19 ao n c (l.flatMap Ac.cells)) (hz : ∀ x ∈ l, x.Big) (hn : n ≤ 1000000) :
    Calls Try.prog 63 #[.slice ao n c] w fun e w' => (∃ v : Value, e = .returned v ∧ OwnD mkAct w.heap.size 69 w' v l) ∧ Below w.heap.size w w' := by
  obtain ⟨i0, z0, hi, hz0, hz1, hz2⟩ := acts_info
  have hzs : z0.cells.size = 19 := acts_zero hi hz0
  go_enter Try.func63, Try.ntmps63
  go_wp2_with (at_builtin; refine wpList_copied rfl _ _ 46 rfl mkAct 69 i0 z0 224 Try.underlying46 hi hz0 hz1 hz2 hzs (by omega) ao n c l rfl rfl h hz (fun _ _ => trivial) hn ?_; intro v' w' h2 h3)
  go_ret
  exact ⟨⟨_, rfl, h2⟩, below_grown0 h3 (Nat.le_refl _)⟩

/-- A production of which the rows are their own. -/
def OwnP (base : Nat) (w : World) (q : ProdR) : Prop := ∃ bc ba : Nat, q.name.size ≤ 9223372036854775807 ∧ base ≤ bc ∧ bc ≤ ba ∧ ba ≤ w.heap.size ∧ OwnD mkCond bc 60 w (.slice q.ca q.cn q.cc) q.conds ∧ OwnD mkAct ba 69 w (.slice q.aa q.an q.ac) q.acts ∧
  (∀ b, (Value.slice q.ca q.cn q.cc).ownBlock = some b → b < ba) ∧ ∀ c ∈ q.conds, c.In fun b => bc ≤ b ∧ b < ba ∧ some b ≠ (Value.slice q.ca q.cn q.cc).ownBlock
set_option maxRecDepth 100000 in
set_option maxHeartbeats 4000000 in
theorem copyProd_own (p : ProdR) (w : World) (h : p.Mem w) (hl : p.Light) : Calls Try.prog 33 #[p.val] w fun e w' => (∃ q : ProdR, e = .returned q.val ∧ q.abs = p.abs ∧ OwnP w.heap.size w' q) ∧ Below w.heap.size w w' := by
  obtain ⟨hname, hsc, hco, hsa, hac⟩ := h
  obtain ⟨l1, l2, l3, l4⟩ := hl
  obtain ⟨name, ca, cn, cc, conds, aa, an, ac, acts⟩ := p
  unfold ProdR.val ProdR.abs
  simp only at hname hsc hco hsa hac l1 l2 l3 l4 ⊢
  have hC := fun W (hW : Below w.heap.size w W) => copyConds_own conds (by omega) ca cn cc W (hsc.kept hW) (fun c hc => (hco c hc).kept hW) l4
  have hA := fun W (hW : Below w.heap.size w W) => copyActs_own aa an ac acts W (hsa.kept hW) hac (by omega)
  have HC := Lib.hid hC
  have HA := Lib.hid hA
  have HN := Lib.hid hname
  clear hC hA hsc hco hsa hac hname l4
  have hmix : Try.prog.follows .mixedOrders = true := by kernel_rfl
  have hbb : Below w.heap.size w ((w.alloc (.cells #[.string name, .slice ca cn cc, .slice aa an ac] 48)).alloc (.cells #[.string ⟨#[]⟩, .slice none 0 0, .slice none 0 0] 48)) := below_trans (below_new _ _) (below_new _ _)
  have hx0 : BoxC ((w.alloc (.cells #[.string name, .slice ca cn cc, .slice aa an ac] 48)).alloc (.cells #[.string ⟨#[]⟩, .slice none 0 0, .slice none 0 0] 48)) w.heap.size 48 [.string name, .slice ca cn cc, .slice aa an ac] := (BoxC.new w _ 48).alloc _
  have hy0 : BoxC ((w.alloc (.cells #[.string name, .slice ca cn cc, .slice aa an ac] 48)).alloc (.cells #[.string ⟨#[]⟩, .slice none 0 0, .slice none 0 0] 48)) (w.heap.size + 1) 48 [.string ⟨#[]⟩, .slice none 0 0, .slice none 0 0] := BoxC.new_at' (by simp)
  have HBB := Lib.hid hbb
  have HX0 := Lib.hid hx0
  have HY0 := Lib.hid hy0
  clear hbb hx0 hy0
  go_enter Try.func33, Try.ntmps33
  go_wp2
  go_region_held3 (fun w' => w'.cell? ⟨w.heap.size, 0, none⟩ = some (.string name) ∧ w'.cell? ⟨w.heap.size, 1, none⟩ = some (.slice ca cn cc) ∧ w'.cell? ⟨w.heap.size, 2, none⟩ = some (.slice aa an ac)) (first | exact three_box HX0.out | exact three_box (HX0.out.below (undrew b2)) | exact three_box ((HX0.out.below (undrew b2)).below b3) | exact three_box (box_set3 ((HX0.out.below (undrew b2)).below b3) (by omega) _ _ _)) (first | (go_at_call 62; refine (HC.out _ (by first | exact HBB.out | exact HBB.out.drew | exact below_trans HBB.out b3 | exact below_trans HBB.out (undrew b3) | exact (below_trans HBB.out b3).drew | exact (below_trans HBB.out (undrew b3)).drew)).mono ?_; rintro e w2 ⟨⟨v2, l2, rfl, ho2, hl2⟩, b2⟩; obtain ⟨a2, k2, rfl, _⟩ := ho2.deep) | (go_at_call 63; refine (HA.out _ (by first | exact HBB.out | exact HBB.out.drew | exact below_trans HBB.out b2 | exact below_trans HBB.out (undrew b2) | exact (below_trans HBB.out b2).drew | exact (below_trans HBB.out (undrew b2)).drew)).mono ?_; rintro e w3 ⟨⟨v3, rfl, ho3⟩, b3⟩; obtain ⟨a3, k3, rfl, _⟩ := ho3.deep; obtain ⟨y0, y1, y2⟩ := three_box ((HY0.out.below (undrew b2)).below b3); obtain ⟨z0, z1, z2⟩ := three_free ((HY0.out.below (undrew b2)).below b3)))
  have bb : Below w.heap.size w w3 := below_trans (below_trans HBB.out (undrew b2)) b3
  have hz2 : w.heap.size + 2 ≤ w2.heap.size := by have := b2.size; simpa using this
  have hb0 : ((w.alloc (.cells #[.string name, .slice ca cn cc, .slice aa an ac] 48)).alloc (.cells #[.string ⟨#[]⟩, .slice none 0 0, .slice none 0 0] 48)).drew.heap.size = w.heap.size + 2 := by simp
  have ho2 : OwnD mkCond (w.heap.size + 2) 60 w2 (.slice a2 l2.length k2) l2 := by rw [← hb0]; exact ho2
  obtain ⟨y0, y1, y2⟩ := three_box ((HY0.out.below (undrew b2)).below b3)
  have hin := ho2.ink
  have hlt := fun b e => (ho2.own.lt b e).2
  have HO2 := Lib.hid (((((ho2.kept b3).grown (grownBy_setCell w3 ⟨w.heap.size + 1, 0, none⟩ (.string name)) (fun b e => .inl (by cases e; show w.heap.size + 1 < w.heap.size + 2; omega))).grown (grownBy_setCell _ ⟨w.heap.size + 1, 1, none⟩ (.slice a2 l2.length k2)) (fun b e => .inl (by cases e; show w.heap.size + 1 < w.heap.size + 2; omega))).grown (grownBy_setCell _ ⟨w.heap.size + 1, 2, none⟩ (.slice a3 acts.length k3)) (fun b e => .inl (by cases e; show w.heap.size + 1 < w.heap.size + 2; omega))))
  have HO3 := Lib.hid ((((ho3.grown (grownBy_setCell w3 ⟨w.heap.size + 1, 0, none⟩ (.string name)) (fun b e => .inl (by cases e; show w.heap.size + 1 < w2.heap.size; omega))).grown (grownBy_setCell _ ⟨w.heap.size + 1, 1, none⟩ (.slice a2 l2.length k2)) (fun b e => .inl (by cases e; show w.heap.size + 1 < w2.heap.size; omega))).grown (grownBy_setCell _ ⟨w.heap.size + 1, 2, none⟩ (.slice a3 acts.length k3)) (fun b e => .inl (by cases e; show w.heap.size + 1 < w2.heap.size; omega))))
  have HH := Lib.hid hl2
  have HI := Lib.hid hin
  have hz3 := b3.size
  clear hl2 ho2 ho3 hin
  go_wp2
  refine bodyPost_ret (v := (ProdR.mk name a2 l2.length k2 l2 a3 acts.length k3 acts).val) ?_ rfl ⟨⟨_, rfl, ?_, ⟨w.heap.size + 2, w2.heap.size, HN.out, by omega, hz2, by simp; omega, HO2.out, HO3.out, hlt, HI.out⟩⟩, ?_⟩
  · simp [results, Try.results33, go_sem, ProdR.val, y0, y1, y2]
  · simp only [HH.out]
  · exact ((bb.setCell (by simp) _).setCell (by simp) _).setCell (by simp) _
end Go.Proofs.Ytgeaccoobhigcaa
namespace Go.Proofs.Ytgeaccoobhigcaa
open Go Go.RowKit

section
variable {α : Type}
theorem flat_set {f : α → List Value} {m : Nat} (hf : ∀ a, (f a).length = m) : ∀ (l : List α) (i j : Nat) (x x' : α) (u : Value), l[i]? = some x → j < m → f x' = (f x).set j u → (l.set i x').flatMap f = (l.flatMap f).set (i * m + j) u
  | [], i, j, x, x', u, h, _, _ => by simp at h
  | a :: l, 0, j, x, x', u, h, hj, hx => by
    simp only [List.getElem?_cons_zero, Option.some.injEq] at h
    subst h
    rw [List.set_cons_zero, List.flatMap_cons, List.flatMap_cons, hx, Nat.zero_mul, Nat.zero_add, List.set_append_left _ _ (by rw [hf]; exact hj)]
  | a :: l, i + 1, j, x, x', u, h, hj, hx => by
    rw [List.getElem?_cons_succ] at h
    rw [List.set_cons_succ, List.flatMap_cons, List.flatMap_cons, flat_set hf l i j x x' u h hj hx, List.set_append_right _ _ (by rw [hf, Nat.add_mul]; omega), hf]
    congr 2
    rw [Nat.add_mul]; omega
/-- An own row is a box. -/
theorem OwnD.row {M : Make α} {base : Nat} {e : TypeId} {w : World} {ao : Option Addr} {n c : Nat} {l : List α} (h : OwnD M base e w (.slice ao n c) l) (hn : 0 < l.length) :
    ∃ g cs, ao = some ⟨g, 0, none⟩ ∧ base ≤ g ∧ n = l.length ∧ BoxC w g e cs ∧ l.length * M.size ≤ cs.length ∧ cs.take (l.length * M.size) = l.flatMap M.cells ∧ cs.length = c * M.size ∧ l.length ≤ c ∧ c ≤ maxLen := by
  rcases h.own.2 with ⟨_, hx⟩ | ⟨g, cap, cur, hv, hb, hg, hnc, hc, hsz, htake⟩
  · have := h.own.1
    rw [hx] at this
    have hp := Nat.mul_pos hn M.pos
    simp at this
    omega
  · injection hv with h1 h2 h3
    subst h1 h2 h3
    exact ⟨g, cur.toList, rfl, hb, rfl, by unfold BoxC; simpa using hg, by simp; rw [hsz]; exact Nat.mul_le_mul_right _ hnc, htake, by simp [hsz], hnc, hc⟩
theorem OwnD.of_row {M : Make α} {base : Nat} {e : TypeId} {w : World} {g c : Nat} {l : List α} {cs : List Value} (hb : base ≤ g) (hbox : BoxC w g e cs) (htake : cs.take (l.length * M.size) = l.flatMap M.cells) (hc : cs.length = c * M.size) (hlc : l.length ≤ c) (hm : c ≤ maxLen)
    (hok : ∀ a ∈ l, M.ok w a) (hin : ∀ a ∈ l, M.inK (fun b => base ≤ b ∧ b < w.heap.size ∧ b ≠ g) a) : OwnD M base e w (.slice (some ⟨g, 0, none⟩) l.length c) l :=
  ⟨⟨rows_length M.len _, .inr ⟨g, c, cs.toArray, rfl, hb, hbox, hlc, hm, by simp [hc], by simpa using htake⟩⟩, hok, fun a ha => M.mono (hin a ha) fun b hb => ⟨hb.1, hb.2.1, fun e => hb.2.2 (by have : (Value.slice (some ⟨g, 0, none⟩) l.length c).ownBlock = some g := rfl; rw [this] at e; injection e)⟩⟩
/-- The row behind such a store. -/
theorem OwnD.poke {M : Make α} {base : Nat} {e : TypeId} {w w' : World} {g c i j : Nat} {l : List α} {cs : List Value} {x x' : α} {u : Value} (h : OwnD M base e w (.slice (some ⟨g, 0, none⟩) l.length c) l) (hx : l[i]? = some x) (hj : j < M.size) (hc' : M.cells x' = (M.cells x).set j u)
    (hlen : l.length * M.size ≤ cs.length) (htake : cs.take (l.length * M.size) = l.flatMap M.cells) (hcs : cs.length = c * M.size) (hlc : l.length ≤ c) (hm : c ≤ maxLen) (hb : base ≤ g)
    (hbox : BoxC w' g e (cs.take (i * M.size + j) ++ [u] ++ cs.drop (i * M.size + j + 1))) (hgr : w.grownBy w' (some g)) (hok : ∀ w, M.ok w x → M.ok w x') (hin : ∀ K, M.inK K x → M.inK K x') :
    OwnD M base e w' (.slice (some ⟨g, 0, none⟩) l.length c) (l.set i x') := by
  have hil : i < l.length := (List.getElem?_eq_some_iff.1 hx).1
  have ho : i * M.size + j < l.length * M.size := by
    have := Nat.mul_le_mul_right M.size (show i + 1 ≤ l.length by omega)
    rw [Nat.add_mul] at this
    omega
  have hset : cs.take (i * M.size + j) ++ [u] ++ cs.drop (i * M.size + j + 1) = cs.set (i * M.size + j) u := by
    rw [List.set_eq_take_append_cons_drop, if_pos (by omega)]
    simp
  rw [hset] at hbox
  have hll : (l.set i x').length = l.length := List.length_set
  have hkeep : ∀ a, M.ok w a → M.inK (fun b => base ≤ b ∧ b < w.heap.size ∧ some b ≠ (Value.slice (some ⟨g, 0, none⟩) l.length c).ownBlock) a → M.ok w' a := fun a h1 h2 => M.same h1 h2 (sameIn_of_grown hgr fun b hb e => hb.2.2 e)
  have hstep : ∀ a, M.inK (fun b => base ≤ b ∧ b < w.heap.size ∧ some b ≠ (Value.slice (some ⟨g, 0, none⟩) l.length c).ownBlock) a → M.inK (fun b => base ≤ b ∧ b < w'.heap.size ∧ b ≠ g) a := fun a ha => M.mono ha fun b hb => ⟨hb.1, Nat.lt_of_lt_of_le hb.2.1 hgr.size, fun e => hb.2.2 (by rw [e]; rfl)⟩
  have hxm := List.mem_of_getElem? hx
  have := OwnD.of_row (M := M) (e := e) (w := w') (l := l.set i x') (c := c) hb hbox (by rw [hll, List.take_set, htake, flat_set M.len l i j x x' u hx hj hc']) (by rw [List.length_set]; exact hcs) (by rw [hll]; exact hlc) hm
    (fun a ha => by
      rcases List.mem_or_eq_of_mem_set ha with ha | rfl
      · exact hkeep a (h.ok a ha) (h.ink a ha)
      · exact hok _ (hkeep x (h.ok x hxm) (h.ink x hxm)))
    (fun a ha => by
      rcases List.mem_or_eq_of_mem_set ha with ha | rfl
      · exact hstep a (h.ink a ha)
      · exact hin _ (hstep x (h.ink x hxm)))
  rwa [hll] at this
end
end Go.Proofs.Ytgeaccoobhigcaa
namespace Go.Proofs.Ytgeaccoobhigcaa
open Go Go.RowKit

theorem turned_texts {P Q : Pd} (hp : shapeE P = 0) (hq : shapeE Q = 0) (h : Q ≠ P) : ((prodT Q).toList != (prodT P).toList) = true := by
  have := same_texts hq hp
  have hf : pdEq Q P = false := by
    cases e : pdEq Q P with
    | false => rfl
    | true => exact absurd (pdEq_iff.1 e) h
  rw [hf] at this
  simp [bne, this]
def CondR.turn (k : Int) (g : Bool) (id : ByteArray) (acc : Bool) : CondR → CondR
  | .mk _ _ _ aa an ac attr va vn vc value _ ca cn cc conds => .mk k g id aa an ac attr va vn vc value acc ca cn cc conds
def CondR.kd : CondR → Int | .mk k _ _ _ _ _ _ _ _ _ _ _ _ _ _ _ => k
def CondR.gl : CondR → Bool | .mk _ g _ _ _ _ _ _ _ _ _ _ _ _ _ _ => g
def CondR.nm : CondR → ByteArray | .mk _ _ i _ _ _ _ _ _ _ _ _ _ _ _ _ => i
def CondR.ak : CondR → Bool | .mk _ _ _ _ _ _ _ _ _ _ _ a _ _ _ _ => a
theorem CondR.turn_mem {k : Int} {g : Bool} {id : ByteArray} {acc : Bool} (hid : id.size ≤ 9223372036854775807) {w : World} {c : CondR} (h : c.Mem w) : (c.turn k g id acc).Mem w := by
  cases h with
  | mk hi ha hv hs hc => exact .mk hid ha hv hs hc
theorem CondR.turn_in {k : Int} {g : Bool} {id : ByteArray} {acc : Bool} {K : Nat → Prop} {c : CondR} (h : c.In K) : (c.turn k g id acc).In K := by
  cases h with
  | mk ha hat hv hvt hs hc => exact .mk ha hat hv hvt hs hc
theorem CondR.turn_kind (c : CondR) (k : Int) : (c.turn k c.gl c.nm c.ak).cells = c.cells.set 0 (.int .i64 k) ∧ (k ≠ c.kd → (c.turn k c.gl c.nm c.ak).abs ≠ c.abs) := by
  cases c
  exact ⟨rfl, fun h e => by simp only [CondR.turn, CondR.abs, Cd.mk.injEq] at e; exact h e.1⟩
theorem CondR.turn_goal (c : CondR) (g : Bool) : (c.turn c.kd g c.nm c.ak).cells = c.cells.set 1 (.bool g) ∧ (g ≠ c.gl → (c.turn c.kd g c.nm c.ak).abs ≠ c.abs) := by
  cases c
  exact ⟨rfl, fun h e => by simp only [CondR.turn, CondR.abs, Cd.mk.injEq] at e; exact h e.2.1⟩
theorem CondR.turn_name (c : CondR) (n : ByteArray) : (c.turn c.kd c.gl n c.ak).cells = c.cells.set 2 (.string n) ∧ (n ≠ c.nm → (c.turn c.kd c.gl n c.ak).abs ≠ c.abs) := by
  cases c
  exact ⟨rfl, fun h e => by simp only [CondR.turn, CondR.abs, Cd.mk.injEq] at e; exact h e.2.2.1⟩
theorem CondR.turn_acc (c : CondR) (a : Bool) : (c.turn c.kd c.gl c.nm a).cells = c.cells.set 5 (.bool a) ∧ (a ≠ c.ak → (c.turn c.kd c.gl c.nm a).abs ≠ c.abs) := by
  cases c
  exact ⟨rfl, fun h e => by simp only [CondR.turn, CondR.abs, Cd.mk.injEq] at e; exact h e.2.2.2.2.2.1⟩
theorem set_ne {α : Type} {l : List α} {i : Nat} {x y : α} (h : l[i]? = some x) (hne : y ≠ x) : l.set i y ≠ l := by
  intro e
  have h1 := congrArg (fun z => z[i]?) e
  have hi := (List.getElem?_eq_some_iff.1 h).1
  simp only [List.getElem?_set_self hi, h] at h1
  injection h1 with h1
  exact hne h1
theorem absL_set (l : List CondR) (i : Nat) (c : CondR) : absL (l.set i c) = (absL l).set i c.abs := by rw [absL_map, absL_map, List.map_set]
theorem absL_at {l : List CondR} {i : Nat} {c : CondR} (h : l[i]? = some c) : (absL l)[i]? = some c.abs := by rw [absL_map, List.getElem?_map, h]; rfl
theorem longer_ne (s : ByteArray) : s ++ (⟨#[120]⟩ : ByteArray) ≠ s := by
  intro e
  have := congrArg ByteArray.size e
  rw [cat2_size] at this
  have h1 : (⟨#[120]⟩ : ByteArray).size = 1 := rfl
  omega

theorem cond_form {c : CondR} {d : Int} (h : firstE c.abs d = 0) : c.nm.size ≤ 32 ∧ (c.kd = 1 ∨ c.kd = 2 ∨ c.kd = 3) := by
  cases c
  simp only [CondR.abs] at h
  obtain ⟨h1, _⟩ := firstE_zero h
  rcases condE_zero h1 with ⟨k, _, i, _, _, _, _, _⟩ | ⟨k, _, i, _, _, _, _, _⟩
  · exact ⟨Nat.le_trans (Nat.le_of_eq i) (by decide), .inr (.inr k)⟩
  · exact ⟨(wordB_size i).2, by rcases k with k | k; exact .inl k; exact .inr (.inl k)⟩
theorem row_cell {α : Type} {f : α → List Value} {m : Nat} (hf : ∀ a, (f a).length = m) {l : List α} {cs : List Value} {i j : Nat} {x : α} {u : Value} (ht : cs.take (l.length * m) = l.flatMap f) (hx : l[i]? = some x) (hu : (f x)[j]? = some u) : cs[i * m + j]? = some u := by
  have h1 : (l.flatMap f)[i * m + j]? = some u := by
    clear ht
    induction l generalizing i with
    | nil => simp at hx
    | cons a l ih =>
      cases i with
      | zero =>
        simp only [List.getElem?_cons_zero, Option.some.injEq] at hx
        subst hx
        have hj := (List.getElem?_eq_some_iff.1 hu).1
        rw [List.flatMap_cons, Nat.zero_mul, Nat.zero_add, List.getElem?_append_left hj, hu]
      | succ i =>
        rw [List.getElem?_cons_succ] at hx
        rw [List.flatMap_cons, List.getElem?_append_right (by rw [hf, Nat.add_mul]; omega), hf]
        have := ih hx
        rw [← this]
        congr 1
        rw [Nat.add_mul]; omega
  rw [← ht, List.getElem?_take] at h1
  split at h1
  · exact h1
  · cases h1
theorem own_mem {bc ba : Nat} {w : World} {name : ByteArray} {ca : Option Addr} {cn cc : Nat} {cl : List CondR} {aa : Option Addr} {an ac : Nat} {al : List Ac} (hn : name.size ≤ 9223372036854775807) (hc : OwnD mkCond bc 60 w (.slice ca cn cc) cl) (ha : OwnD mkAct ba 69 w (.slice aa an ac) al) : ProdR.Mem w ⟨name, ca, cn, cc, cl, aa, an, ac, al⟩ := by
  obtain ⟨a1, c1, e1, d1⟩ := hc.deep
  obtain ⟨a2, c2, e2, d2⟩ := ha.deep
  injection e1 with h1 h2 h3
  injection e2 with k1 k2 k3
  subst h1 h2 h3 k1 k2 k3
  exact ⟨hn, d1.sl, d1.ok, d2.sl, d2.ok⟩
theorem condN_turn (c : CondR) (k : Int) (g : Bool) (n : ByteArray) (a : Bool) : condN (c.turn k g n a) = condN c := by cases c; rfl
theorem condsN_set {c c' : CondR} (h : condN c' = condN c) : ∀ (l : List CondR) (i : Nat), l[i]? = some c → condsN (l.set i c') = condsN l
  | [], i, hi => by simp at hi
  | x :: r, 0, hi => by
    simp only [List.getElem?_cons_zero, Option.some.injEq] at hi
    subst hi
    simp only [List.set_cons_zero, condsN, h]
  | x :: r, i + 1, hi => by
    rw [List.getElem?_cons_succ] at hi
    simp only [List.set_cons_succ, condsN]
    rw [condsN_set h r i hi]
theorem low_conds {bc ba : Nat} {w : World} {g cn cc : Nat} {cl : List CondR} (h : OwnD mkCond bc 60 w (.slice (some ⟨g, 0, none⟩) cn cc) cl) (hci : ∀ c ∈ cl, c.In fun b => bc ≤ b ∧ b < ba ∧ some b ≠ (Value.slice (some ⟨g, 0, none⟩) cn cc).ownBlock) (hg : g < ba) : Deep mkCond (fun b => b < ba) w (some ⟨g, 0, none⟩) cn cc cl := by
  obtain ⟨ao, c, e, d⟩ := h.deep
  injection e with e1 e2 e3
  subst e1 e2 e3
  exact ⟨d.sl, by intro a ha _; cases ha; exact hg, d.ok, fun a ha => CondR.In.mono (hci a ha) fun b hb => hb.2.1⟩
theorem deep_mem {K : Nat → Prop} {ba : Nat} {w : World} {name : ByteArray} {ca : Option Addr} {cn cc : Nat} {cl : List CondR} {aa : Option Addr} {an ac : Nat} {al : List Ac} (hn : name.size ≤ 9223372036854775807) (hc : Deep mkCond K w ca cn cc cl) (ha : OwnD mkAct ba 69 w (.slice aa an ac) al) : ProdR.Mem w ⟨name, ca, cn, cc, cl, aa, an, ac, al⟩ := by
  obtain ⟨a2, c2, e2, d2⟩ := ha.deep
  injection e2 with k1 k2 k3
  subst k1 k2 k3
  exact ⟨hn, hc.sl, hc.ok, d2.sl, d2.ok⟩
theorem act_form {l : List Ac} {y : Ac} (h : l.all actB = true) (hy : y ∈ l) : y.id.size ≤ 32 ∧ 0 ≤ y.value.op ∧ y.value.op ≤ 3 ∧ 1 ≤ y.pref ∧ y.pref ≤ 10 := by
  have h1 := List.all_eq_true.1 h y hy
  unfold actB at h1
  simp only [Bool.and_eq_true, decide_eq_true_eq] at h1
  obtain ⟨⟨⟨⟨h2, _⟩, h3⟩, h4⟩, _⟩ := h1
  unfold termB at h3
  simp only [Bool.and_eq_true, decide_eq_true_eq] at h3
  exact ⟨(wordB_size h2).2, h3.1.1.1, h3.1.1.2, h4.1, h4.2⟩
theorem low_acts {ba N : Nat} {w : World} {ga an ac : Nat} {al : List Ac} (h : OwnD mkAct ba 69 w (.slice (some ⟨ga, 0, none⟩) an ac) al) (hg : ga < N) : Deep mkAct (fun b => b < N) w (some ⟨ga, 0, none⟩) an ac al := by
  obtain ⟨ao, c, e, d⟩ := h.deep
  injection e with e1 e2 e3
  subst e1 e2 e3
  exact ⟨d.sl, by intro a ha _; cases ha; exact hg, d.ok, fun _ _ => trivial⟩
theorem deep_mem2 {K L : Nat → Prop} {w : World} {name : ByteArray} {ca : Option Addr} {cn cc : Nat} {cl : List CondR} {aa : Option Addr} {an ac : Nat} {al : List Ac} (hn : name.size ≤ 9223372036854775807) (hc : Deep mkCond K w ca cn cc cl) (ha : Deep mkAct L w aa an ac al) : ProdR.Mem w ⟨name, ca, cn, cc, cl, aa, an, ac, al⟩ :=
  ⟨hn, hc.sl, hc.ok, ha.sl, ha.ok⟩
theorem deep_tail {K : Nat → Prop} {w : World} {g n c : Nat} {cl : List CondR} (h : Deep mkCond K w (some ⟨g, 0, none⟩) n c cl) (hn : 1 ≤ n) : Deep mkCond K w (some (if c = 1 then ⟨g, 0, none⟩ else ⟨g, 7, none⟩)) (n - 1) (c - 1) cl.tail := by
  have hl := h.len
  have hs := h.sl
  have hnc := hs.2.1
  have hcm := hs.2.2.1
  obtain ⟨x, t, rfl⟩ : ∃ x t, cl = x :: t := by
    cases cl with
    | nil => simp at hl; omega
    | cons x t => exact ⟨x, t, rfl⟩
  simp only [List.length_cons] at hl
  refine ⟨⟨by rw [rows_length mkCond.len, List.tail_cons, show t.length = n - 1 by omega], by omega, by omega, by simp, ?_⟩, ?_, fun a ha => h.ok a (by simp only [List.tail_cons] at ha; simp [ha]), fun a ha => h.ink a (by simp only [List.tail_cons] at ha; simp [ha])⟩
  · intro a ha j u hj
    simp only [List.tail_cons] at hj
    have hjl := (List.getElem?_eq_some_iff.1 hj).1
    rw [rows_length mkCond.len] at hjl
    have h7 : mkCond.size = 7 := rfl
    rw [h7] at hjl
    have hc1 : c ≠ 1 := by rintro rfl; omega
    rw [if_neg hc1] at ha
    cases ha
    have := hs.2.2.2.2 _ rfl (7 + j) u (by
      rw [List.flatMap_cons, List.getElem?_append_right (by rw [mkCond.len]; omega), mkCond.len, h7]
      simpa using hj)
    rw [addr_add_lit] at this ⊢
    rw [← this]
    congr 2
    omega
  · intro a ha _
    have hk := h.inb ⟨g, 0, none⟩ rfl (by omega)
    split at ha <;> cases ha <;> exact hk
theorem condsN_tail (cl : List CondR) : condsN cl.tail ≤ condsN cl := by
  cases cl with
  | nil => exact Nat.le_refl _
  | cons x t => simp only [List.tail_cons, condsN]; omega
set_option maxRecDepth 100000 in
theorem run_cut45 (g len cap : Nat) (h : 1 ≤ len) (w : World) : (Instr.slice 45 (.slice (some ⟨g, 0, none⟩) len cap) (some (.int .i64 1)) none none).run Try.prog w = .ok (.slice (some (if cap = 1 then ⟨g, 0, none⟩ else ⟨g, 7, none⟩)) (len - 1) (cap - 1)) w := by
  obtain ⟨i0, hi, hz0, hz1, hz2⟩ := info_parts Try.info60
  rw [run_slice_l w 45 (some ⟨g, 0, none⟩) len cap Try.underlying45 .i64 1 (by omega) (by omega)]
  have : Try.prog.elem 45 = 60 := by kernel_rfl
  rw [this]
  simp [sizeOf, typeInfo, hi, hz1, Result.andThen, sliced]
  split <;> simp [Addr.add]
theorem sz45 : (Try.prog.info? 45).map (·.size) = some 1 := by kernel_rfl
theorem absL_tail_ne {l : List CondR} (h : 0 < l.length) : absL l.tail ≠ absL l := by
  intro e
  have := congrArg List.length e
  rw [absL_map, absL_map, List.length_map, List.length_map, List.length_tail] at this
  omega
theorem not_ne (b : Bool) : (!b) ≠ b := by cases b <;> decide

set_option maxRecDepth 100000 in
set_option maxHeartbeats 4000000 in
theorem showTurned_walk (p : ProdR) (what at_ : Int) (w : World) (h : p.Mem w) : Calls Try.prog 12 #[p.val, .int .i64 what, .int .i64 at_] w fun x w' => x = .returned (.bool true) ∧ Below w.heap.size w w' := by
  have hH := fun W (hW : Below w.heap.size w W) => heavy_any p W (h.kept hW)
  have hS := fun hn W (hW : Below w.heap.size w W) => showProd_any p W (h.kept hW) hn
  have hC := fun hl W (hW : Below w.heap.size w W) => copyProd_own p W (h.kept hW) hl
  have hlt : p.Light → condsN p.conds ≤ 1000000 := fun hl => by have := hl.n; omega
  obtain ⟨name, ca, cn, cc, conds, aa, an, ac, acts⟩ := p
  have hv : ProdR.val ⟨name, ca, cn, cc, conds, aa, an, ac, acts⟩ = .agg #[.string name, .slice ca cn cc, .slice aa an ac] := rfl
  rw [hv] at hH hS hC ⊢
  have hbb := below_new w (.cells #[.string name, .slice ca cn cc, .slice aa an ac] 48)
  have hx0 : BoxC (w.alloc (.cells #[.string name, .slice ca cn cc, .slice aa an ac] 48)) w.heap.size 48 [.string name, .slice ca cn cc, .slice aa an ac] := BoxC.new w _ 48
  obtain ⟨P, hP⟩ : ∃ P, ProdR.abs ⟨name, ca, cn, cc, conds, aa, an, ac, acts⟩ = P := ⟨_, rfl⟩
  rw [hP] at hS hC
  have HH := Lib.hid hH
  have HS := Lib.hid hS
  have HC := Lib.hid hC
  have HL := Lib.hid hlt
  have HBB := Lib.hid hbb
  have HX := Lib.hid hx0
  clear hH hS hC hlt hbb hx0 h hv hP
  go_enter Try.func12, Try.ntmps12
  go_wp2_with fail
  refine (HH.out _ HBB.out).mono ?_
  rintro e w2 ⟨⟨b, rfl, hb⟩, b2⟩
  have HB := Lib.hid hb
  have HBB2 := Lib.hid (below_trans HBB.out b2)
  have HX2 := Lib.hid (HX.out.below b2)
  clear hb b2
  cases b with
  | true =>
    go_wp2_with (go_at_call 32; refine (wakes7_any _).mono ?_; rintro e w3 ⟨rfl, b3⟩)
    go_ret
    exact ⟨rfl, below_trans HBB2.out b3⟩
  | false =>
    have hn := HL.out (HB.out rfl)
    have HS2 := Lib.hid (HS.out hn)
    have HC2 := Lib.hid (HC.out (HB.out rfl))
    obtain ⟨x0, x1, x2⟩ := three_box HX2.out
    clear HS HH HB HX hn HC
    go_wp2_with fail
    refine (HS2.out _ HBB2.out).mono ?_
    rintro e w3 ⟨rfl, b3⟩
    have HX3 := Lib.hid (HX2.out.below b3)
    have HB3 := Lib.hid (below_trans HBB2.out b3)
    clear b3 x0 x1 x2
    by_cases hE : shapeE P = 0
    · rw [hE, show prodTx P = prodT P from if_pos hE]
      obtain ⟨x0, x1, x2⟩ := three_box HX3.out
      have HEP := Lib.hid hE
      clear hE
      go_wp2_with fail
      refine (HC2.out _ HB3.out).mono ?_
      rintro e w4 ⟨⟨q, rfl, hqa, hown⟩, b4⟩
      obtain ⟨hz1, hz2, hz3, hz4, hz5, hz6, hz7⟩ := shapeE_parts HEP.out
      obtain ⟨qn, qca, qcn, qcc, qcs, qaa, qan, qac, qas⟩ := q
      unfold OwnP at hown
      unfold ProdR.abs at hqa
      unfold ProdR.val
      dsimp only at hown hqa ⊢
      rw [← hqa] at hz1 hz2 hz3 hz4 hz5 hz6 hz7
      dsimp only at hz1 hz2 hz3 hz4 hz5 hz6 hz7
      obtain ⟨bc, ba, hnm, hb1, hb2, hb3, hoc, hoa, hcl, hci⟩ := hown
      have hcl0 : 0 < qcs.length := by
        rcases Nat.eq_zero_or_pos qcs.length with h | h
        · rw [List.eq_nil_of_length_eq_zero h] at hz2
          simp [absL, cdsN] at hz2
        · exact h
      have hal0 : 0 < qas.length := hz4
      have hw3 : w.heap.size ≤ w3.heap.size := HB3.out.size
      have hw5 : w.heap.size < w4.heap.size := Nat.lt_of_lt_of_le HX3.out.lt b4.size
      have hlo := fun b e => (hoa.own.lt b e).2
      have hoc := hoc.kept (below_new w4 (.cells #[.string qn, .slice qca qcn qcc, .slice qaa qan qac] 48))
      have hoa := hoa.kept (below_new w4 (.cells #[.string qn, .slice qca qcn qcc, .slice qaa qan qac] 48))
      have hx5 := BoxC.new w4 [.string qn, .slice qca qcn qcc, .slice qaa qan qac] 48
      have hb5 := below_trans (below_trans HB3.out b4) (below_new w4 (.cells #[.string qn, .slice qca qcn qcc, .slice qaa qan qac] 48))
      obtain ⟨g, cs, rfl, r1, rfl, r2, r3, r4, r5, r6, r7⟩ := hoc.row hcl0
      obtain ⟨ga, rs, rfl, s1, rfl, s2, s3, s4, s5, s6, s7⟩ := hoa.row (show 0 < qas.length from hz4)
      have hg : g < w4.heap.size := Nat.lt_of_lt_of_le (hcl g rfl) hb3
      have hga : ga < w4.heap.size := hlo ga rfl
      have hlo2 : ba ≤ ga := s1
      have hgb : g < ba := hcl g rfl
      obtain ⟨i, hi⟩ : ∃ i : Nat, (i : Int) = at_ % (qcs.length : Int) := ⟨(at_ % (qcs.length : Int)).toNat, by have := Int.emod_nonneg at_ (show (qcs.length : Int) ≠ 0 by omega); omega⟩
      obtain ⟨j, hj⟩ : ∃ j : Nat, (j : Int) = at_ % (qas.length : Int) := ⟨(at_ % (qas.length : Int)).toNat, by have := Int.emod_nonneg at_ (show (qas.length : Int) ≠ 0 by omega); omega⟩
      obtain ⟨k, hk⟩ : ∃ k : Nat, (k : Int) = what % 9 := ⟨(what % 9).toNat, by have := Int.emod_nonneg what (show (9 : Int) ≠ 0 by omega); omega⟩
      have hil : i < qcs.length := by have := Int.emod_lt_of_pos at_ (show 0 < (qcs.length : Int) by omega); omega
      have hjl : j < qas.length := by have := Int.emod_lt_of_pos at_ (show 0 < (qas.length : Int) by omega); omega
      have hk9 : k < 9 := by have := Int.emod_lt_of_pos what (show (0 : Int) < 9 by omega); omega
      have hm1 : qcs.length ≤ 9223372036854775807 := Nat.le_trans r6 r7
      have hm2 : qas.length ≤ 9223372036854775807 := Nat.le_trans s6 s7
      have hW1 := fun w => within_any at_ (qcs.length : Int) w (by omega) (by omega)
      have hW2 := fun w => within_any at_ (qas.length : Int) w (by omega) (by omega)
      have hW3 := fun w => within_any what 9 w (by omega) (by omega)
      rw [← hi] at hW1
      rw [← hj] at hW2
      rw [← hk] at hW3
      obtain ⟨c, hc⟩ : ∃ c, qcs[i]? = some c := ⟨_, List.getElem?_eq_getElem hil⟩
      obtain ⟨y, hy⟩ : ∃ y, qas[j]? = some y := ⟨_, List.getElem?_eq_getElem hjl⟩
      have hcm := List.mem_of_getElem? hc
      have hym := List.mem_of_getElem? hy
      obtain ⟨hn32, hkd⟩ := cond_form (firstEs_mem hz6 (abs_mem hcm))
      have HW1 := Lib.hid hW1
      have HW2 := Lib.hid hW2
      have HW3 := Lib.hid hW3
      have HOC := Lib.hid hoc
      have HOA := Lib.hid hoa
      have HX5 := Lib.hid hx5
      have HB5 := Lib.hid hb5
      have HCI := Lib.hid hci
      have HQA := Lib.hid hqa
      have HNM := Lib.hid hnm
      have HR2 := Lib.hid r2
      have HR3 := Lib.hid r3
      have HR4 := Lib.hid r4
      have HR5 := Lib.hid r5
      have HR7 := Lib.hid r7
      have HS2' := Lib.hid s2
      have HS3 := Lib.hid s3
      have HS4 := Lib.hid s4
      have HS5 := Lib.hid s5
      have HS7 := Lib.hid s7
      have HSH := Lib.hid (And.intro hz1 (And.intro hz6 hz7))
      have HSZ : Hid (cdsN (absL qcs) ≤ 1000000) := Lib.hid (by omega)
      have HYB : Hid (y.Big) := Lib.hid (hoa.ok y hym)
      have HYI := Lib.hid (act_form hz7 hym)
      have HCN : Hid (c.nm.size ≤ 9223372036854775807) := Lib.hid (by have := hoc.ok c hcm; cases this; assumption)
      have HC := Lib.hid hc
      have HY := Lib.hid hy
      have hcl1 : ((qcs.length : Int) == 0) = false := beq_eq_false_iff_ne.2 (show (qcs.length : Int) ≠ 0 by omega)
      have hal1 : ((qas.length : Int) == 0) = false := beq_eq_false_iff_ne.2 (show (qas.length : Int) ≠ 0 by omega)
      obtain ⟨d0, d1, d2⟩ := three_box hx5
      have D1 : ∀ q, ((w4.alloc (.cells #[.string qn, .slice (some ⟨g, 0, none⟩) qcs.length qcc, .slice (some ⟨ga, 0, none⟩) qas.length qac] 48)).drewN q).cell? ⟨w4.heap.size, 1, none⟩ = some (.slice (some ⟨g, 0, none⟩) qcs.length qcc) := fun _ => d1
      have D2 : ∀ q, ((w4.alloc (.cells #[.string qn, .slice (some ⟨g, 0, none⟩) qcs.length qcc, .slice (some ⟨ga, 0, none⟩) qas.length qac] 48)).drewN q).cell? ⟨w4.heap.size, 2, none⟩ = some (.slice (some ⟨ga, 0, none⟩) qas.length qac) := fun _ => d2
      clear hW1 hW2 hW3 hoc hoa hx5 hb5 hci hqa hnm r2 r3 r4 r5 r7 s2 s3 s4 s5 s7 hz1 hz2 hz3 hz4 hz5 hz6 hz7 hc hy hi hj hk hcm hym hcl hlo b4 x0 x1 x2 HC2 HS2
      go_wp2_with fail
      go_quiet ((go_at_call 27; exact Calls.quiet_of_same ((HW1.out _).mono fun e w6 h => ⟨h.1, h.2.symm⟩)))
      go_wp2_with fail
      have hdd : Below (w4.alloc (.cells #[.string qn, .slice (some ⟨g, 0, none⟩) qcs.length qcc, .slice (some ⟨ga, 0, none⟩) qas.length qac] 48)).heap.size (w4.alloc (.cells #[.string qn, .slice (some ⟨g, 0, none⟩) qcs.length qcc, .slice (some ⟨ga, 0, none⟩) qas.length qac] 48)) ((w4.alloc (.cells #[.string qn, .slice (some ⟨g, 0, none⟩) qcs.length qcc, .slice (some ⟨ga, 0, none⟩) qas.length qac] 48)).drewN nq) := below_drewN _ _
      replace HX5 := Lib.hid (HX5.out.below hdd)
      replace HOC := Lib.hid (HOC.out.kept hdd)
      replace HOA := Lib.hid (HOA.out.kept hdd)
      replace HB5 := Lib.hid (below_trans HB5.out hdd)
      replace HR2 := Lib.hid (HR2.out.below hdd)
      replace HS2' := Lib.hid (HS2'.out.below hdd)
      clear d0 d1 d2 D1 D2
      generalize (w4.alloc (.cells #[.string qn, .slice (some ⟨g, 0, none⟩) qcs.length qcc, .slice (some ⟨ga, 0, none⟩) qas.length qac] 48)).drewN nq = w5 at *
      obtain ⟨d0, d1, d2⟩ := three_box HX5.out
      have D2 : ∀ q, (w5.drewN q).cell? ⟨w4.heap.size, 2, none⟩ = some (.slice (some ⟨ga, 0, none⟩) qas.length qac) := fun _ => d2
      clear hdd
      go_quiet ((go_at_call 27; exact Calls.quiet_of_same ((HW2.out _).mono fun e w6 h => ⟨h.1, h.2.symm⟩)))
      go_wp2_with fail
      refine (HW3.out _).mono ?_
      rintro e w6 ⟨rfl, rfl⟩
      clear HW1 HW2 HW3 d0 d1 d2 D2 hcl1 hal1
      have hdd : Below w5.heap.size w5 (w5.drewN nq) := below_drewN _ _
      replace HX5 := Lib.hid (HX5.out.below hdd)
      replace HOC := Lib.hid (HOC.out.kept hdd)
      replace HOA := Lib.hid (HOA.out.kept hdd)
      replace HB5 := Lib.hid (below_trans HB5.out hdd)
      replace HR2 := Lib.hid (HR2.out.below hdd)
      replace HS2' := Lib.hid (HS2'.out.below hdd)
      clear hdd
      generalize w5.drewN nq = wk at *
      have hcs7 : i * 7 + 7 ≤ cs.length := by have := HR3.out; have h7 : mkCond.size = 7 := rfl; rw [h7] at this; omega
      have hrs19 : j * 19 + 19 ≤ rs.length := by have := HS3.out; have h7 : mkAct.size = 19 := rfl; rw [h7] at this; omega
      rcases (show k = 0 ∨ k = 1 ∨ k = 2 ∨ k = 3 ∨ k = 4 ∨ k = 5 ∨ k = 6 ∨ k = 7 ∨ k = 8 by omega) with rfl | rfl | rfl | rfl | rfl | rfl | rfl | rfl | rfl
      · have hqn := (wordB_size HSH.out.1).2
        have hqs : qn.size ≤ 32 := hqn
        obtain ⟨d0, d1, d2⟩ := three_box HX5.out
        go_wp2_with (refine wpList_box rfl 9 (.tmp 65) (.tmp 64) rfl w4.heap.size 0 _ [.string (qn ++ ⟨#[120]⟩)] rfl rfl rfl HX5.out Try.sz9 (by simp) (by simp [Value.oneCell']) [.string (qn ++ ⟨#[120]⟩), .slice (some ⟨g, 0, none⟩) qcs.length qcc, .slice (some ⟨ga, 0, none⟩) qas.length qac] rfl ?_; intro w7 B7 g7; clear d0 d1 d2; obtain ⟨d0, d1, d2⟩ := three_box B7; have HG7 := Lib.hid g7; clear B7 g7)
        have HA7 := Lib.hid ((low_conds HOC.out HCI.out hgb).same (sameIn_of_grown HG7.out fun b hb e => by injection e with e; omega))
        have HO7 := Lib.hid ((low_acts HOA.out hga).same (sameIn_of_grown HG7.out fun b hb e => by injection e with e; omega))
        have HB7 := Lib.hid (below_grows HB5.out HG7.out (fun b e => by cases e; omega))
        have HMEM := Lib.hid (deep_mem2 (name := qn ++ (⟨#[120]⟩ : ByteArray)) (by rw [cat2_size]; show qn.size + 1 ≤ _; omega) HA7.out HO7.out)
        have HN7 : Hid (condsN qcs ≤ 1000000) := Lib.hid (by rw [condsN_abs]; exact HSZ.out)
        have HNE : Hid ((⟨qn ++ (⟨#[120]⟩ : ByteArray), absL qcs, qas⟩ : Pd) ≠ P) := Lib.hid (by rw [← HQA.out]; intro e; injection e with e _ _; exact longer_ne _ e)
        clear HG7
        have hS := showProd_any _ w7 HMEM.out HN7.out
        unfold ProdR.val ProdR.abs at hS
        dsimp only at hS
        obtain ⟨Q, hQ⟩ : ∃ Q : Pd, (⟨qn ++ (⟨#[120]⟩ : ByteArray), absL qcs, qas⟩ : Pd) = Q := ⟨_, rfl⟩
        rw [hQ] at hS HNE
        by_cases hF : shapeE Q = 0
        · have ht := turned_texts HEP.out hF HNE.out
          have ht2 : ((prodT Q).toList == (prodT P).toList) = false := by simpa [bne] using ht
          rw [hF, show prodTx Q = prodT Q from if_pos hF] at hS
          generalize prodT Q = T at hS ht ht2
          have HSS := Lib.hid hS
          clear hS hF hQ
          refine HSS.out.mono ?_
          rintro e w8 ⟨rfl, b8⟩
          have HB8 := Lib.hid (below_trans HB7.out b8)
          clear b8
          go_wp2_with (go_at_call 32; refine (wakes7_any _).mono ?_; rintro e w9 ⟨rfl, b9⟩)
          go_ret
          exact ⟨rfl, below_trans HB8.out b9⟩
        · rw [prodTx_bad hF] at hS
          have e1 : (shapeE Q != 0) = true := by simp [hF]
          have e0 : (shapeE Q == 0) = false := by simp [hF]
          have hnil : ((⟨#[]⟩ : ByteArray).toList == []) = true := by rw [ByteArray.toList_eq]; rfl
          generalize shapeE Q = F at hS e1 e0
          have HSS := Lib.hid hS
          clear hS hF hQ
          refine HSS.out.mono ?_
          rintro e w8 ⟨rfl, b8⟩
          have HB8 := Lib.hid (below_trans HB7.out b8)
          clear b8
          go_wp2_with (go_at_call 32; refine (wakes7_any _).mono ?_; rintro e w9 ⟨rfl, b9⟩)
          go_ret
          exact ⟨rfl, below_trans HB8.out b9⟩
      · have x0 : wk.cell? ⟨g, i * 7 + 1, none⟩ = some (.bool c.gl) := HR2.out.at_ (j := i * 7 + 1) (row_cell condR_len HR4.out HC.out (by cases c; rfl))
        go_wp2_with (refine wpList_box rfl 4 (.tmp 75) (.tmp 73) rfl g (i * 7 + 1) _ [.bool (!c.gl)] rfl rfl rfl HR2.out Try.sz4 (by simp; omega) (by simp [Value.oneCell']) _ rfl ?_; intro w7 B7 g7; have HX7 := Lib.hid (HX5.out.grown g7 (by simp; omega)); obtain ⟨d0, d1, d2⟩ := three_box HX7.out; have HK7 := Lib.hid B7; have HG7 := Lib.hid g7; clear B7 g7 x0)
        have HO7 := Lib.hid (OwnD.poke HOC.out HC.out (x' := c.turn c.kd (!c.gl) c.nm c.ak) (j := 1) (by decide) (c.turn_goal (!c.gl)).1 HR3.out HR4.out HR5.out r6 HR7.out r1 HK7.out HG7.out (fun _ h => CondR.turn_mem HCN.out h) (fun _ h => CondR.turn_in h))
        have HA7 := Lib.hid (HOA.out.grown HG7.out (fun b e => .inl (by cases e; exact hgb)))
        have HB7 := Lib.hid (below_grows HB5.out HG7.out (fun b e => by cases e; omega))
        have HMEM := Lib.hid (own_mem HNM.out HO7.out HA7.out)
        have HN7 : Hid (condsN (qcs.set i (c.turn c.kd (!c.gl) c.nm c.ak)) ≤ 1000000) := Lib.hid (by rw [condsN_set (condN_turn c _ _ _ _) qcs i HC.out, condsN_abs]; exact HSZ.out)
        have HNE : Hid ((⟨qn, absL (qcs.set i (c.turn c.kd (!c.gl) c.nm c.ak)), qas⟩ : Pd) ≠ P) := Lib.hid (by rw [← HQA.out, absL_set]; intro e; injection e with _ e _; exact set_ne (absL_at HC.out) ((c.turn_goal (!c.gl)).2 (not_ne _)) e)
        clear HK7 HG7
        have hS := showProd_any _ w7 HMEM.out HN7.out
        unfold ProdR.val ProdR.abs at hS
        dsimp only at hS
        obtain ⟨Q, hQ⟩ : ∃ Q : Pd, (⟨qn, absL (qcs.set i (c.turn c.kd (!c.gl) c.nm c.ak)), qas⟩ : Pd) = Q := ⟨_, rfl⟩
        rw [hQ] at hS HNE
        by_cases hF : shapeE Q = 0
        · have ht := turned_texts HEP.out hF HNE.out
          have ht2 : ((prodT Q).toList == (prodT P).toList) = false := by simpa [bne] using ht
          rw [hF, show prodTx Q = prodT Q from if_pos hF] at hS
          generalize prodT Q = T at hS ht ht2
          have HSS := Lib.hid hS
          clear hS hF hQ
          refine HSS.out.mono ?_
          rintro e w8 ⟨rfl, b8⟩
          have HB8 := Lib.hid (below_trans HB7.out b8)
          clear b8
          go_wp2_with (go_at_call 32; refine (wakes7_any _).mono ?_; rintro e w9 ⟨rfl, b9⟩)
          go_ret
          exact ⟨rfl, below_trans HB8.out b9⟩
        · rw [prodTx_bad hF] at hS
          have e1 : (shapeE Q != 0) = true := by simp [hF]
          have e0 : (shapeE Q == 0) = false := by simp [hF]
          have hnil : ((⟨#[]⟩ : ByteArray).toList == []) = true := by rw [ByteArray.toList_eq]; rfl
          generalize shapeE Q = F at hS e1 e0
          have HSS := Lib.hid hS
          clear hS hF hQ
          refine HSS.out.mono ?_
          rintro e w8 ⟨rfl, b8⟩
          have HB8 := Lib.hid (below_trans HB7.out b8)
          clear b8
          go_wp2_with (go_at_call 32; refine (wakes7_any _).mono ?_; rintro e w9 ⟨rfl, b9⟩)
          go_ret
          exact ⟨rfl, below_trans HB8.out b9⟩
      · have x0 : wk.cell? ⟨g, i * 7 + 5, none⟩ = some (.bool c.ak) := HR2.out.at_ (j := i * 7 + 5) (row_cell condR_len HR4.out HC.out (by cases c; rfl))
        go_wp2_with (refine wpList_box rfl 4 (.tmp 85) (.tmp 83) rfl g (i * 7 + 5) _ [.bool (!c.ak)] rfl rfl rfl HR2.out Try.sz4 (by simp; omega) (by simp [Value.oneCell']) _ rfl ?_; intro w7 B7 g7; have HX7 := Lib.hid (HX5.out.grown g7 (by simp; omega)); obtain ⟨d0, d1, d2⟩ := three_box HX7.out; have HK7 := Lib.hid B7; have HG7 := Lib.hid g7; clear B7 g7 x0)
        have HO7 := Lib.hid (OwnD.poke HOC.out HC.out (x' := c.turn c.kd c.gl c.nm (!c.ak)) (j := 5) (by decide) (c.turn_acc (!c.ak)).1 HR3.out HR4.out HR5.out r6 HR7.out r1 HK7.out HG7.out (fun _ h => CondR.turn_mem HCN.out h) (fun _ h => CondR.turn_in h))
        have HA7 := Lib.hid (HOA.out.grown HG7.out (fun b e => .inl (by cases e; exact hgb)))
        have HB7 := Lib.hid (below_grows HB5.out HG7.out (fun b e => by cases e; omega))
        have HMEM := Lib.hid (own_mem HNM.out HO7.out HA7.out)
        have HN7 : Hid (condsN (qcs.set i (c.turn c.kd c.gl c.nm (!c.ak))) ≤ 1000000) := Lib.hid (by rw [condsN_set (condN_turn c _ _ _ _) qcs i HC.out, condsN_abs]; exact HSZ.out)
        have HNE : Hid ((⟨qn, absL (qcs.set i (c.turn c.kd c.gl c.nm (!c.ak))), qas⟩ : Pd) ≠ P) := Lib.hid (by rw [← HQA.out, absL_set]; intro e; injection e with _ e _; exact set_ne (absL_at HC.out) ((c.turn_acc (!c.ak)).2 (not_ne _)) e)
        clear HK7 HG7
        have hS := showProd_any _ w7 HMEM.out HN7.out
        unfold ProdR.val ProdR.abs at hS
        dsimp only at hS
        obtain ⟨Q, hQ⟩ : ∃ Q : Pd, (⟨qn, absL (qcs.set i (c.turn c.kd c.gl c.nm (!c.ak))), qas⟩ : Pd) = Q := ⟨_, rfl⟩
        rw [hQ] at hS HNE
        by_cases hF : shapeE Q = 0
        · have ht := turned_texts HEP.out hF HNE.out
          have ht2 : ((prodT Q).toList == (prodT P).toList) = false := by simpa [bne] using ht
          rw [hF, show prodTx Q = prodT Q from if_pos hF] at hS
          generalize prodT Q = T at hS ht ht2
          have HSS := Lib.hid hS
          clear hS hF hQ
          refine HSS.out.mono ?_
          rintro e w8 ⟨rfl, b8⟩
          have HB8 := Lib.hid (below_trans HB7.out b8)
          clear b8
          go_wp2_with (go_at_call 32; refine (wakes7_any _).mono ?_; rintro e w9 ⟨rfl, b9⟩)
          go_ret
          exact ⟨rfl, below_trans HB8.out b9⟩
        · rw [prodTx_bad hF] at hS
          have e1 : (shapeE Q != 0) = true := by simp [hF]
          have e0 : (shapeE Q == 0) = false := by simp [hF]
          have hnil : ((⟨#[]⟩ : ByteArray).toList == []) = true := by rw [ByteArray.toList_eq]; rfl
          generalize shapeE Q = F at hS e1 e0
          have HSS := Lib.hid hS
          clear hS hF hQ
          refine HSS.out.mono ?_
          rintro e w8 ⟨rfl, b8⟩
          have HB8 := Lib.hid (below_trans HB7.out b8)
          clear b8
          go_wp2_with (go_at_call 32; refine (wakes7_any _).mono ?_; rintro e w9 ⟨rfl, b9⟩)
          go_ret
          exact ⟨rfl, below_trans HB8.out b9⟩
      · rcases hkd with hkd | hkd | hkd
        · have x0 : wk.cell? ⟨g, i * 7, none⟩ = some (.int .i64 1) := HR2.out.at_ (j := i * 7 + 0) (row_cell condR_len HR4.out HC.out (by have e : (CondR.cells c)[0]? = some (.int .i64 c.kd) := (by cases c; rfl); rw [e, hkd]))
          go_wp2_with (refine wpList_box rfl 3 (.tmp 96) (.tmp 94) rfl g (i * 7 + 0) _ [.int .i64 2] rfl rfl rfl HR2.out Try.sz3 (by simp; omega) (by simp [Value.oneCell']) _ rfl ?_; intro w7 B7 g7; have HX7 := Lib.hid (HX5.out.grown g7 (by simp; omega)); obtain ⟨d0, d1, d2⟩ := three_box HX7.out; have HK7 := Lib.hid B7; have HG7 := Lib.hid g7; clear B7 g7 x0)
          have HO7 := Lib.hid (OwnD.poke HOC.out HC.out (x' := c.turn 2 c.gl c.nm c.ak) (j := 0) (by decide) (c.turn_kind 2).1 HR3.out HR4.out HR5.out r6 HR7.out r1 HK7.out HG7.out (fun _ h => CondR.turn_mem HCN.out h) (fun _ h => CondR.turn_in h))
          have HA7 := Lib.hid (HOA.out.grown HG7.out (fun b e => .inl (by cases e; exact hgb)))
          have HB7 := Lib.hid (below_grows HB5.out HG7.out (fun b e => by cases e; omega))
          have HMEM := Lib.hid (own_mem HNM.out HO7.out HA7.out)
          have HN7 : Hid (condsN (qcs.set i (c.turn 2 c.gl c.nm c.ak)) ≤ 1000000) := Lib.hid (by rw [condsN_set (condN_turn c _ _ _ _) qcs i HC.out, condsN_abs]; exact HSZ.out)
          have HNE : Hid ((⟨qn, absL (qcs.set i (c.turn 2 c.gl c.nm c.ak)), qas⟩ : Pd) ≠ P) := Lib.hid (by rw [← HQA.out, absL_set]; intro e; injection e with _ e _; exact set_ne (absL_at HC.out) ((c.turn_kind 2).2 (by rw [hkd]; decide)) e)
          clear HK7 HG7
          have hS := showProd_any _ w7 HMEM.out HN7.out
          unfold ProdR.val ProdR.abs at hS
          dsimp only at hS
          obtain ⟨Q, hQ⟩ : ∃ Q : Pd, (⟨qn, absL (qcs.set i (c.turn 2 c.gl c.nm c.ak)), qas⟩ : Pd) = Q := ⟨_, rfl⟩
          rw [hQ] at hS HNE
          by_cases hF : shapeE Q = 0
          · have ht := turned_texts HEP.out hF HNE.out
            have ht2 : ((prodT Q).toList == (prodT P).toList) = false := by simpa [bne] using ht
            rw [hF, show prodTx Q = prodT Q from if_pos hF] at hS
            generalize prodT Q = T at hS ht ht2
            have HSS := Lib.hid hS
            clear hS hF hQ
            refine HSS.out.mono ?_
            rintro e w8 ⟨rfl, b8⟩
            have HB8 := Lib.hid (below_trans HB7.out b8)
            clear b8
            go_wp2_with (go_at_call 32; refine (wakes7_any _).mono ?_; rintro e w9 ⟨rfl, b9⟩)
            go_ret
            exact ⟨rfl, below_trans HB8.out b9⟩
          · rw [prodTx_bad hF] at hS
            have e1 : (shapeE Q != 0) = true := by simp [hF]
            have e0 : (shapeE Q == 0) = false := by simp [hF]
            have hnil : ((⟨#[]⟩ : ByteArray).toList == []) = true := by rw [ByteArray.toList_eq]; rfl
            generalize shapeE Q = F at hS e1 e0
            have HSS := Lib.hid hS
            clear hS hF hQ
            refine HSS.out.mono ?_
            rintro e w8 ⟨rfl, b8⟩
            have HB8 := Lib.hid (below_trans HB7.out b8)
            clear b8
            go_wp2_with (go_at_call 32; refine (wakes7_any _).mono ?_; rintro e w9 ⟨rfl, b9⟩)
            go_ret
            exact ⟨rfl, below_trans HB8.out b9⟩
        · have x0 : wk.cell? ⟨g, i * 7, none⟩ = some (.int .i64 2) := HR2.out.at_ (j := i * 7 + 0) (row_cell condR_len HR4.out HC.out (by have e : (CondR.cells c)[0]? = some (.int .i64 c.kd) := (by cases c; rfl); rw [e, hkd]))
          go_wp2_with (refine wpList_box rfl 3 (.tmp 96) (.tmp 94) rfl g (i * 7 + 0) _ [.int .i64 3] rfl rfl rfl HR2.out Try.sz3 (by simp; omega) (by simp [Value.oneCell']) _ rfl ?_; intro w7 B7 g7; have HX7 := Lib.hid (HX5.out.grown g7 (by simp; omega)); obtain ⟨d0, d1, d2⟩ := three_box HX7.out; have HK7 := Lib.hid B7; have HG7 := Lib.hid g7; clear B7 g7 x0)
          have HO7 := Lib.hid (OwnD.poke HOC.out HC.out (x' := c.turn 3 c.gl c.nm c.ak) (j := 0) (by decide) (c.turn_kind 3).1 HR3.out HR4.out HR5.out r6 HR7.out r1 HK7.out HG7.out (fun _ h => CondR.turn_mem HCN.out h) (fun _ h => CondR.turn_in h))
          have HA7 := Lib.hid (HOA.out.grown HG7.out (fun b e => .inl (by cases e; exact hgb)))
          have HB7 := Lib.hid (below_grows HB5.out HG7.out (fun b e => by cases e; omega))
          have HMEM := Lib.hid (own_mem HNM.out HO7.out HA7.out)
          have HN7 : Hid (condsN (qcs.set i (c.turn 3 c.gl c.nm c.ak)) ≤ 1000000) := Lib.hid (by rw [condsN_set (condN_turn c _ _ _ _) qcs i HC.out, condsN_abs]; exact HSZ.out)
          have HNE : Hid ((⟨qn, absL (qcs.set i (c.turn 3 c.gl c.nm c.ak)), qas⟩ : Pd) ≠ P) := Lib.hid (by rw [← HQA.out, absL_set]; intro e; injection e with _ e _; exact set_ne (absL_at HC.out) ((c.turn_kind 3).2 (by rw [hkd]; decide)) e)
          clear HK7 HG7
          have hS := showProd_any _ w7 HMEM.out HN7.out
          unfold ProdR.val ProdR.abs at hS
          dsimp only at hS
          obtain ⟨Q, hQ⟩ : ∃ Q : Pd, (⟨qn, absL (qcs.set i (c.turn 3 c.gl c.nm c.ak)), qas⟩ : Pd) = Q := ⟨_, rfl⟩
          rw [hQ] at hS HNE
          by_cases hF : shapeE Q = 0
          · have ht := turned_texts HEP.out hF HNE.out
            have ht2 : ((prodT Q).toList == (prodT P).toList) = false := by simpa [bne] using ht
            rw [hF, show prodTx Q = prodT Q from if_pos hF] at hS
            generalize prodT Q = T at hS ht ht2
            have HSS := Lib.hid hS
            clear hS hF hQ
            refine HSS.out.mono ?_
            rintro e w8 ⟨rfl, b8⟩
            have HB8 := Lib.hid (below_trans HB7.out b8)
            clear b8
            go_wp2_with (go_at_call 32; refine (wakes7_any _).mono ?_; rintro e w9 ⟨rfl, b9⟩)
            go_ret
            exact ⟨rfl, below_trans HB8.out b9⟩
          · rw [prodTx_bad hF] at hS
            have e1 : (shapeE Q != 0) = true := by simp [hF]
            have e0 : (shapeE Q == 0) = false := by simp [hF]
            have hnil : ((⟨#[]⟩ : ByteArray).toList == []) = true := by rw [ByteArray.toList_eq]; rfl
            generalize shapeE Q = F at hS e1 e0
            have HSS := Lib.hid hS
            clear hS hF hQ
            refine HSS.out.mono ?_
            rintro e w8 ⟨rfl, b8⟩
            have HB8 := Lib.hid (below_trans HB7.out b8)
            clear b8
            go_wp2_with (go_at_call 32; refine (wakes7_any _).mono ?_; rintro e w9 ⟨rfl, b9⟩)
            go_ret
            exact ⟨rfl, below_trans HB8.out b9⟩
        · have x0 : wk.cell? ⟨g, i * 7, none⟩ = some (.int .i64 3) := HR2.out.at_ (j := i * 7 + 0) (row_cell condR_len HR4.out HC.out (by have e : (CondR.cells c)[0]? = some (.int .i64 c.kd) := (by cases c; rfl); rw [e, hkd]))
          go_wp2_with (refine wpList_box rfl 3 (.tmp 96) (.tmp 94) rfl g (i * 7 + 0) _ [.int .i64 1] rfl rfl rfl HR2.out Try.sz3 (by simp; omega) (by simp [Value.oneCell']) _ rfl ?_; intro w7 B7 g7; have HX7 := Lib.hid (HX5.out.grown g7 (by simp; omega)); obtain ⟨d0, d1, d2⟩ := three_box HX7.out; have HK7 := Lib.hid B7; have HG7 := Lib.hid g7; clear B7 g7 x0)
          have HO7 := Lib.hid (OwnD.poke HOC.out HC.out (x' := c.turn 1 c.gl c.nm c.ak) (j := 0) (by decide) (c.turn_kind 1).1 HR3.out HR4.out HR5.out r6 HR7.out r1 HK7.out HG7.out (fun _ h => CondR.turn_mem HCN.out h) (fun _ h => CondR.turn_in h))
          have HA7 := Lib.hid (HOA.out.grown HG7.out (fun b e => .inl (by cases e; exact hgb)))
          have HB7 := Lib.hid (below_grows HB5.out HG7.out (fun b e => by cases e; omega))
          have HMEM := Lib.hid (own_mem HNM.out HO7.out HA7.out)
          have HN7 : Hid (condsN (qcs.set i (c.turn 1 c.gl c.nm c.ak)) ≤ 1000000) := Lib.hid (by rw [condsN_set (condN_turn c _ _ _ _) qcs i HC.out, condsN_abs]; exact HSZ.out)
          have HNE : Hid ((⟨qn, absL (qcs.set i (c.turn 1 c.gl c.nm c.ak)), qas⟩ : Pd) ≠ P) := Lib.hid (by rw [← HQA.out, absL_set]; intro e; injection e with _ e _; exact set_ne (absL_at HC.out) ((c.turn_kind 1).2 (by rw [hkd]; decide)) e)
          clear HK7 HG7
          have hS := showProd_any _ w7 HMEM.out HN7.out
          unfold ProdR.val ProdR.abs at hS
          dsimp only at hS
          obtain ⟨Q, hQ⟩ : ∃ Q : Pd, (⟨qn, absL (qcs.set i (c.turn 1 c.gl c.nm c.ak)), qas⟩ : Pd) = Q := ⟨_, rfl⟩
          rw [hQ] at hS HNE
          by_cases hF : shapeE Q = 0
          · have ht := turned_texts HEP.out hF HNE.out
            have ht2 : ((prodT Q).toList == (prodT P).toList) = false := by simpa [bne] using ht
            rw [hF, show prodTx Q = prodT Q from if_pos hF] at hS
            generalize prodT Q = T at hS ht ht2
            have HSS := Lib.hid hS
            clear hS hF hQ
            refine HSS.out.mono ?_
            rintro e w8 ⟨rfl, b8⟩
            have HB8 := Lib.hid (below_trans HB7.out b8)
            clear b8
            go_wp2_with (go_at_call 32; refine (wakes7_any _).mono ?_; rintro e w9 ⟨rfl, b9⟩)
            go_ret
            exact ⟨rfl, below_trans HB8.out b9⟩
          · rw [prodTx_bad hF] at hS
            have e1 : (shapeE Q != 0) = true := by simp [hF]
            have e0 : (shapeE Q == 0) = false := by simp [hF]
            have hnil : ((⟨#[]⟩ : ByteArray).toList == []) = true := by rw [ByteArray.toList_eq]; rfl
            generalize shapeE Q = F at hS e1 e0
            have HSS := Lib.hid hS
            clear hS hF hQ
            refine HSS.out.mono ?_
            rintro e w8 ⟨rfl, b8⟩
            have HB8 := Lib.hid (below_trans HB7.out b8)
            clear b8
            go_wp2_with (go_at_call 32; refine (wakes7_any _).mono ?_; rintro e w9 ⟨rfl, b9⟩)
            go_ret
            exact ⟨rfl, below_trans HB8.out b9⟩
      · have x0 : wk.cell? ⟨g, i * 7 + 2, none⟩ = some (.string c.nm) := HR2.out.at_ (j := i * 7 + 2) (row_cell condR_len HR4.out HC.out (by cases c; rfl))
        go_wp2_with (refine wpList_box rfl 9 (.tmp 105) (.tmp 103) rfl g (i * 7 + 2) _ [.string (c.nm ++ ⟨#[120]⟩)] rfl rfl rfl HR2.out Try.sz9 (by simp; omega) (by simp [Value.oneCell']) _ rfl ?_; intro w7 B7 g7; have HX7 := Lib.hid (HX5.out.grown g7 (by simp; omega)); obtain ⟨d0, d1, d2⟩ := three_box HX7.out; have HK7 := Lib.hid B7; have HG7 := Lib.hid g7; clear B7 g7 x0)
        have HO7 := Lib.hid (OwnD.poke HOC.out HC.out (x' := c.turn c.kd c.gl (c.nm ++ (⟨#[120]⟩ : ByteArray)) c.ak) (j := 2) (by decide) (c.turn_name (c.nm ++ (⟨#[120]⟩ : ByteArray))).1 HR3.out HR4.out HR5.out r6 HR7.out r1 HK7.out HG7.out (fun _ h => CondR.turn_mem (by rw [cat2_size]; show c.nm.size + 1 ≤ _; omega) h) (fun _ h => CondR.turn_in h))
        have HA7 := Lib.hid (HOA.out.grown HG7.out (fun b e => .inl (by cases e; exact hgb)))
        have HB7 := Lib.hid (below_grows HB5.out HG7.out (fun b e => by cases e; omega))
        have HMEM := Lib.hid (own_mem HNM.out HO7.out HA7.out)
        have HN7 : Hid (condsN (qcs.set i (c.turn c.kd c.gl (c.nm ++ (⟨#[120]⟩ : ByteArray)) c.ak)) ≤ 1000000) := Lib.hid (by rw [condsN_set (condN_turn c _ _ _ _) qcs i HC.out, condsN_abs]; exact HSZ.out)
        have HNE : Hid ((⟨qn, absL (qcs.set i (c.turn c.kd c.gl (c.nm ++ (⟨#[120]⟩ : ByteArray)) c.ak)), qas⟩ : Pd) ≠ P) := Lib.hid (by rw [← HQA.out, absL_set]; intro e; injection e with _ e _; exact set_ne (absL_at HC.out) ((c.turn_name (c.nm ++ (⟨#[120]⟩ : ByteArray))).2 (longer_ne _)) e)
        clear HK7 HG7
        have hS := showProd_any _ w7 HMEM.out HN7.out
        unfold ProdR.val ProdR.abs at hS
        dsimp only at hS
        obtain ⟨Q, hQ⟩ : ∃ Q : Pd, (⟨qn, absL (qcs.set i (c.turn c.kd c.gl (c.nm ++ (⟨#[120]⟩ : ByteArray)) c.ak)), qas⟩ : Pd) = Q := ⟨_, rfl⟩
        rw [hQ] at hS HNE
        by_cases hF : shapeE Q = 0
        · have ht := turned_texts HEP.out hF HNE.out
          have ht2 : ((prodT Q).toList == (prodT P).toList) = false := by simpa [bne] using ht
          rw [hF, show prodTx Q = prodT Q from if_pos hF] at hS
          generalize prodT Q = T at hS ht ht2
          have HSS := Lib.hid hS
          clear hS hF hQ
          refine HSS.out.mono ?_
          rintro e w8 ⟨rfl, b8⟩
          have HB8 := Lib.hid (below_trans HB7.out b8)
          clear b8
          go_wp2_with (go_at_call 32; refine (wakes7_any _).mono ?_; rintro e w9 ⟨rfl, b9⟩)
          go_ret
          exact ⟨rfl, below_trans HB8.out b9⟩
        · rw [prodTx_bad hF] at hS
          have e1 : (shapeE Q != 0) = true := by simp [hF]
          have e0 : (shapeE Q == 0) = false := by simp [hF]
          have hnil : ((⟨#[]⟩ : ByteArray).toList == []) = true := by rw [ByteArray.toList_eq]; rfl
          generalize shapeE Q = F at hS e1 e0
          have HSS := Lib.hid hS
          clear hS hF hQ
          refine HSS.out.mono ?_
          rintro e w8 ⟨rfl, b8⟩
          have HB8 := Lib.hid (below_trans HB7.out b8)
          clear b8
          go_wp2_with (go_at_call 32; refine (wakes7_any _).mono ?_; rintro e w9 ⟨rfl, b9⟩)
          go_ret
          exact ⟨rfl, below_trans HB8.out b9⟩
      · have hy32 := HYI.out.1
        have x0 : wk.cell? ⟨ga, j * 19, none⟩ = some (.string y.id) := HS2'.out.at_ (j := j * 19 + 0) (row_cell ac_len HS4.out HY.out rfl)
        go_wp2_with (refine wpList_box rfl 9 (.tmp 114) (.tmp 112) rfl ga (j * 19 + 0) _ [.string (y.id ++ ⟨#[120]⟩)] rfl rfl rfl HS2'.out Try.sz9 (by simp; omega) (by simp [Value.oneCell']) _ rfl ?_; intro w7 B7 g7; have HX7 := Lib.hid (HX5.out.grown g7 (by simp; omega)); obtain ⟨d0, d1, d2⟩ := three_box HX7.out; have HK7 := Lib.hid B7; have HG7 := Lib.hid g7; clear B7 g7 x0)
        have HO7 := Lib.hid (OwnD.poke HOA.out HY.out (x' := ({ y with id := y.id ++ (⟨#[120]⟩ : ByteArray) } : Ac)) (j := 0) (by decide) rfl HS3.out HS4.out HS5.out s6 HS7.out s1 HK7.out HG7.out (fun _ h => (show Ac.Big { y with id := y.id ++ (⟨#[120]⟩ : ByteArray) } from ⟨by show (y.id ++ (⟨#[120]⟩ : ByteArray)).size ≤ 9223372036854775807; rw [cat2_size]; have := HYI.out.1; show y.id.size + 1 ≤ _; omega, h.attr, h.va, h.vb, h.other⟩)) (fun _ h => trivial))
        have HA7 := Lib.hid ((low_conds HOC.out HCI.out hgb).same (sameIn_of_grown HG7.out fun b hb e => by injection e with e; omega))
        have HB7 := Lib.hid (below_grows HB5.out HG7.out (fun b e => by cases e; omega))
        have HMEM := Lib.hid (deep_mem HNM.out HA7.out HO7.out)
        have HN7 : Hid (condsN qcs ≤ 1000000) := Lib.hid (by rw [condsN_abs]; exact HSZ.out)
        have HNE : Hid ((⟨qn, absL qcs, qas.set j ({ y with id := y.id ++ (⟨#[120]⟩ : ByteArray) })⟩ : Pd) ≠ P) := Lib.hid (by rw [← HQA.out]; intro e; injection e with _ _ e; exact set_ne HY.out (fun e => longer_ne y.id (congrArg Ac.id e)) e)
        clear HK7 HG7
        have hS := showProd_any _ w7 HMEM.out HN7.out
        unfold ProdR.val ProdR.abs at hS
        dsimp only at hS
        obtain ⟨Q, hQ⟩ : ∃ Q : Pd, (⟨qn, absL qcs, (qas.set j ({ y with id := y.id ++ (⟨#[120]⟩ : ByteArray) }))⟩ : Pd) = Q := ⟨_, rfl⟩
        rw [hQ] at hS HNE
        by_cases hF : shapeE Q = 0
        · have ht := turned_texts HEP.out hF HNE.out
          have ht2 : ((prodT Q).toList == (prodT P).toList) = false := by simpa [bne] using ht
          rw [hF, show prodTx Q = prodT Q from if_pos hF] at hS
          generalize prodT Q = T at hS ht ht2
          have HSS := Lib.hid hS
          clear hS hF hQ
          refine HSS.out.mono ?_
          rintro e w8 ⟨rfl, b8⟩
          have HB8 := Lib.hid (below_trans HB7.out b8)
          clear b8
          go_wp2_with (go_at_call 32; refine (wakes7_any _).mono ?_; rintro e w9 ⟨rfl, b9⟩)
          go_ret
          exact ⟨rfl, below_trans HB8.out b9⟩
        · rw [prodTx_bad hF] at hS
          have e1 : (shapeE Q != 0) = true := by simp [hF]
          have e0 : (shapeE Q == 0) = false := by simp [hF]
          have hnil : ((⟨#[]⟩ : ByteArray).toList == []) = true := by rw [ByteArray.toList_eq]; rfl
          generalize shapeE Q = F at hS e1 e0
          have HSS := Lib.hid hS
          clear hS hF hQ
          refine HSS.out.mono ?_
          rintro e w8 ⟨rfl, b8⟩
          have HB8 := Lib.hid (below_trans HB7.out b8)
          clear b8
          go_wp2_with (go_at_call 32; refine (wakes7_any _).mono ?_; rintro e w9 ⟨rfl, b9⟩)
          go_ret
          exact ⟨rfl, below_trans HB8.out b9⟩
      · have hyi := HYI.out
        rcases (show y.pref = 1 ∨ y.pref = 2 ∨ y.pref = 3 ∨ y.pref = 4 ∨ y.pref = 5 ∨ y.pref = 6 ∨ y.pref = 7 ∨ y.pref = 8 ∨ y.pref = 9 ∨ y.pref = 10 by omega) with hkp | hkp | hkp | hkp | hkp | hkp | hkp | hkp | hkp | hkp
        all_goals clear hyi
        · have x0 : wk.cell? ⟨ga, j * 19 + 14, none⟩ = some (.int .i64 1) := HS2'.out.at_ (j := j * 19 + 14) (row_cell ac_len HS4.out HY.out (by show some (Value.int .i64 y.pref) = _; rw [hkp]))
          go_wp2_with (refine wpList_box rfl 3 (.tmp 125) (.tmp 123) rfl ga (j * 19 + 14) _ [.int .i64 2] rfl rfl rfl HS2'.out Try.sz3 (by simp; omega) (by simp [Value.oneCell']) _ rfl ?_; intro w7 B7 g7; have HX7 := Lib.hid (HX5.out.grown g7 (by simp; omega)); obtain ⟨d0, d1, d2⟩ := three_box HX7.out; have HK7 := Lib.hid B7; have HG7 := Lib.hid g7; clear B7 g7 x0)
          have HO7 := Lib.hid (OwnD.poke HOA.out HY.out (x' := ({ y with pref := 2 } : Ac)) (j := 14) (by decide) rfl HS3.out HS4.out HS5.out s6 HS7.out s1 HK7.out HG7.out (fun _ h => (show Ac.Big { y with pref := 2 } from ⟨h.id, h.attr, h.va, h.vb, h.other⟩)) (fun _ h => trivial))
          have HA7 := Lib.hid ((low_conds HOC.out HCI.out hgb).same (sameIn_of_grown HG7.out fun b hb e => by injection e with e; omega))
          have HB7 := Lib.hid (below_grows HB5.out HG7.out (fun b e => by cases e; omega))
          have HMEM := Lib.hid (deep_mem HNM.out HA7.out HO7.out)
          have HN7 : Hid (condsN qcs ≤ 1000000) := Lib.hid (by rw [condsN_abs]; exact HSZ.out)
          have HNE : Hid ((⟨qn, absL qcs, qas.set j ({ y with pref := 2 })⟩ : Pd) ≠ P) := Lib.hid (by rw [← HQA.out]; intro e; injection e with _ _ e; exact set_ne HY.out (fun e => by have e2 : (2 : Int) = 1 := (congrArg Ac.pref e).trans hkp; exact absurd e2 (by decide)) e)
          clear HK7 HG7
          have hS := showProd_any _ w7 HMEM.out HN7.out
          unfold ProdR.val ProdR.abs at hS
          dsimp only at hS
          obtain ⟨Q, hQ⟩ : ∃ Q : Pd, (⟨qn, absL qcs, (qas.set j ({ y with pref := 2 }))⟩ : Pd) = Q := ⟨_, rfl⟩
          rw [hQ] at hS HNE
          by_cases hF : shapeE Q = 0
          · have ht := turned_texts HEP.out hF HNE.out
            have ht2 : ((prodT Q).toList == (prodT P).toList) = false := by simpa [bne] using ht
            rw [hF, show prodTx Q = prodT Q from if_pos hF] at hS
            generalize prodT Q = T at hS ht ht2
            have HSS := Lib.hid hS
            clear hS hF hQ
            refine HSS.out.mono ?_
            rintro e w8 ⟨rfl, b8⟩
            have HB8 := Lib.hid (below_trans HB7.out b8)
            clear b8
            go_wp2_with (go_at_call 32; refine (wakes7_any _).mono ?_; rintro e w9 ⟨rfl, b9⟩)
            go_ret
            exact ⟨rfl, below_trans HB8.out b9⟩
          · rw [prodTx_bad hF] at hS
            have e1 : (shapeE Q != 0) = true := by simp [hF]
            have e0 : (shapeE Q == 0) = false := by simp [hF]
            have hnil : ((⟨#[]⟩ : ByteArray).toList == []) = true := by rw [ByteArray.toList_eq]; rfl
            generalize shapeE Q = F at hS e1 e0
            have HSS := Lib.hid hS
            clear hS hF hQ
            refine HSS.out.mono ?_
            rintro e w8 ⟨rfl, b8⟩
            have HB8 := Lib.hid (below_trans HB7.out b8)
            clear b8
            go_wp2_with (go_at_call 32; refine (wakes7_any _).mono ?_; rintro e w9 ⟨rfl, b9⟩)
            go_ret
            exact ⟨rfl, below_trans HB8.out b9⟩
        · have x0 : wk.cell? ⟨ga, j * 19 + 14, none⟩ = some (.int .i64 2) := HS2'.out.at_ (j := j * 19 + 14) (row_cell ac_len HS4.out HY.out (by show some (Value.int .i64 y.pref) = _; rw [hkp]))
          go_wp2_with (refine wpList_box rfl 3 (.tmp 125) (.tmp 123) rfl ga (j * 19 + 14) _ [.int .i64 3] rfl rfl rfl HS2'.out Try.sz3 (by simp; omega) (by simp [Value.oneCell']) _ rfl ?_; intro w7 B7 g7; have HX7 := Lib.hid (HX5.out.grown g7 (by simp; omega)); obtain ⟨d0, d1, d2⟩ := three_box HX7.out; have HK7 := Lib.hid B7; have HG7 := Lib.hid g7; clear B7 g7 x0)
          have HO7 := Lib.hid (OwnD.poke HOA.out HY.out (x' := ({ y with pref := 3 } : Ac)) (j := 14) (by decide) rfl HS3.out HS4.out HS5.out s6 HS7.out s1 HK7.out HG7.out (fun _ h => (show Ac.Big { y with pref := 3 } from ⟨h.id, h.attr, h.va, h.vb, h.other⟩)) (fun _ h => trivial))
          have HA7 := Lib.hid ((low_conds HOC.out HCI.out hgb).same (sameIn_of_grown HG7.out fun b hb e => by injection e with e; omega))
          have HB7 := Lib.hid (below_grows HB5.out HG7.out (fun b e => by cases e; omega))
          have HMEM := Lib.hid (deep_mem HNM.out HA7.out HO7.out)
          have HN7 : Hid (condsN qcs ≤ 1000000) := Lib.hid (by rw [condsN_abs]; exact HSZ.out)
          have HNE : Hid ((⟨qn, absL qcs, qas.set j ({ y with pref := 3 })⟩ : Pd) ≠ P) := Lib.hid (by rw [← HQA.out]; intro e; injection e with _ _ e; exact set_ne HY.out (fun e => by have e2 : (3 : Int) = 2 := (congrArg Ac.pref e).trans hkp; exact absurd e2 (by decide)) e)
          clear HK7 HG7
          have hS := showProd_any _ w7 HMEM.out HN7.out
          unfold ProdR.val ProdR.abs at hS
          dsimp only at hS
          obtain ⟨Q, hQ⟩ : ∃ Q : Pd, (⟨qn, absL qcs, (qas.set j ({ y with pref := 3 }))⟩ : Pd) = Q := ⟨_, rfl⟩
          rw [hQ] at hS HNE
          by_cases hF : shapeE Q = 0
          · have ht := turned_texts HEP.out hF HNE.out
            have ht2 : ((prodT Q).toList == (prodT P).toList) = false := by simpa [bne] using ht
            rw [hF, show prodTx Q = prodT Q from if_pos hF] at hS
            generalize prodT Q = T at hS ht ht2
            have HSS := Lib.hid hS
            clear hS hF hQ
            refine HSS.out.mono ?_
            rintro e w8 ⟨rfl, b8⟩
            have HB8 := Lib.hid (below_trans HB7.out b8)
            clear b8
            go_wp2_with (go_at_call 32; refine (wakes7_any _).mono ?_; rintro e w9 ⟨rfl, b9⟩)
            go_ret
            exact ⟨rfl, below_trans HB8.out b9⟩
          · rw [prodTx_bad hF] at hS
            have e1 : (shapeE Q != 0) = true := by simp [hF]
            have e0 : (shapeE Q == 0) = false := by simp [hF]
            have hnil : ((⟨#[]⟩ : ByteArray).toList == []) = true := by rw [ByteArray.toList_eq]; rfl
            generalize shapeE Q = F at hS e1 e0
            have HSS := Lib.hid hS
            clear hS hF hQ
            refine HSS.out.mono ?_
            rintro e w8 ⟨rfl, b8⟩
            have HB8 := Lib.hid (below_trans HB7.out b8)
            clear b8
            go_wp2_with (go_at_call 32; refine (wakes7_any _).mono ?_; rintro e w9 ⟨rfl, b9⟩)
            go_ret
            exact ⟨rfl, below_trans HB8.out b9⟩
        · have x0 : wk.cell? ⟨ga, j * 19 + 14, none⟩ = some (.int .i64 3) := HS2'.out.at_ (j := j * 19 + 14) (row_cell ac_len HS4.out HY.out (by show some (Value.int .i64 y.pref) = _; rw [hkp]))
          go_wp2_with (refine wpList_box rfl 3 (.tmp 125) (.tmp 123) rfl ga (j * 19 + 14) _ [.int .i64 4] rfl rfl rfl HS2'.out Try.sz3 (by simp; omega) (by simp [Value.oneCell']) _ rfl ?_; intro w7 B7 g7; have HX7 := Lib.hid (HX5.out.grown g7 (by simp; omega)); obtain ⟨d0, d1, d2⟩ := three_box HX7.out; have HK7 := Lib.hid B7; have HG7 := Lib.hid g7; clear B7 g7 x0)
          have HO7 := Lib.hid (OwnD.poke HOA.out HY.out (x' := ({ y with pref := 4 } : Ac)) (j := 14) (by decide) rfl HS3.out HS4.out HS5.out s6 HS7.out s1 HK7.out HG7.out (fun _ h => (show Ac.Big { y with pref := 4 } from ⟨h.id, h.attr, h.va, h.vb, h.other⟩)) (fun _ h => trivial))
          have HA7 := Lib.hid ((low_conds HOC.out HCI.out hgb).same (sameIn_of_grown HG7.out fun b hb e => by injection e with e; omega))
          have HB7 := Lib.hid (below_grows HB5.out HG7.out (fun b e => by cases e; omega))
          have HMEM := Lib.hid (deep_mem HNM.out HA7.out HO7.out)
          have HN7 : Hid (condsN qcs ≤ 1000000) := Lib.hid (by rw [condsN_abs]; exact HSZ.out)
          have HNE : Hid ((⟨qn, absL qcs, qas.set j ({ y with pref := 4 })⟩ : Pd) ≠ P) := Lib.hid (by rw [← HQA.out]; intro e; injection e with _ _ e; exact set_ne HY.out (fun e => by have e2 : (4 : Int) = 3 := (congrArg Ac.pref e).trans hkp; exact absurd e2 (by decide)) e)
          clear HK7 HG7
          have hS := showProd_any _ w7 HMEM.out HN7.out
          unfold ProdR.val ProdR.abs at hS
          dsimp only at hS
          obtain ⟨Q, hQ⟩ : ∃ Q : Pd, (⟨qn, absL qcs, (qas.set j ({ y with pref := 4 }))⟩ : Pd) = Q := ⟨_, rfl⟩
          rw [hQ] at hS HNE
          by_cases hF : shapeE Q = 0
          · have ht := turned_texts HEP.out hF HNE.out
            have ht2 : ((prodT Q).toList == (prodT P).toList) = false := by simpa [bne] using ht
            rw [hF, show prodTx Q = prodT Q from if_pos hF] at hS
            generalize prodT Q = T at hS ht ht2
            have HSS := Lib.hid hS
            clear hS hF hQ
            refine HSS.out.mono ?_
            rintro e w8 ⟨rfl, b8⟩
            have HB8 := Lib.hid (below_trans HB7.out b8)
            clear b8
            go_wp2_with (go_at_call 32; refine (wakes7_any _).mono ?_; rintro e w9 ⟨rfl, b9⟩)
            go_ret
            exact ⟨rfl, below_trans HB8.out b9⟩
          · rw [prodTx_bad hF] at hS
            have e1 : (shapeE Q != 0) = true := by simp [hF]
            have e0 : (shapeE Q == 0) = false := by simp [hF]
            have hnil : ((⟨#[]⟩ : ByteArray).toList == []) = true := by rw [ByteArray.toList_eq]; rfl
            generalize shapeE Q = F at hS e1 e0
            have HSS := Lib.hid hS
            clear hS hF hQ
            refine HSS.out.mono ?_
            rintro e w8 ⟨rfl, b8⟩
            have HB8 := Lib.hid (below_trans HB7.out b8)
            clear b8
            go_wp2_with (go_at_call 32; refine (wakes7_any _).mono ?_; rintro e w9 ⟨rfl, b9⟩)
            go_ret
            exact ⟨rfl, below_trans HB8.out b9⟩
        · have x0 : wk.cell? ⟨ga, j * 19 + 14, none⟩ = some (.int .i64 4) := HS2'.out.at_ (j := j * 19 + 14) (row_cell ac_len HS4.out HY.out (by show some (Value.int .i64 y.pref) = _; rw [hkp]))
          go_wp2_with (refine wpList_box rfl 3 (.tmp 125) (.tmp 123) rfl ga (j * 19 + 14) _ [.int .i64 5] rfl rfl rfl HS2'.out Try.sz3 (by simp; omega) (by simp [Value.oneCell']) _ rfl ?_; intro w7 B7 g7; have HX7 := Lib.hid (HX5.out.grown g7 (by simp; omega)); obtain ⟨d0, d1, d2⟩ := three_box HX7.out; have HK7 := Lib.hid B7; have HG7 := Lib.hid g7; clear B7 g7 x0)
          have HO7 := Lib.hid (OwnD.poke HOA.out HY.out (x' := ({ y with pref := 5 } : Ac)) (j := 14) (by decide) rfl HS3.out HS4.out HS5.out s6 HS7.out s1 HK7.out HG7.out (fun _ h => (show Ac.Big { y with pref := 5 } from ⟨h.id, h.attr, h.va, h.vb, h.other⟩)) (fun _ h => trivial))
          have HA7 := Lib.hid ((low_conds HOC.out HCI.out hgb).same (sameIn_of_grown HG7.out fun b hb e => by injection e with e; omega))
          have HB7 := Lib.hid (below_grows HB5.out HG7.out (fun b e => by cases e; omega))
          have HMEM := Lib.hid (deep_mem HNM.out HA7.out HO7.out)
          have HN7 : Hid (condsN qcs ≤ 1000000) := Lib.hid (by rw [condsN_abs]; exact HSZ.out)
          have HNE : Hid ((⟨qn, absL qcs, qas.set j ({ y with pref := 5 })⟩ : Pd) ≠ P) := Lib.hid (by rw [← HQA.out]; intro e; injection e with _ _ e; exact set_ne HY.out (fun e => by have e2 : (5 : Int) = 4 := (congrArg Ac.pref e).trans hkp; exact absurd e2 (by decide)) e)
          clear HK7 HG7
          have hS := showProd_any _ w7 HMEM.out HN7.out
          unfold ProdR.val ProdR.abs at hS
          dsimp only at hS
          obtain ⟨Q, hQ⟩ : ∃ Q : Pd, (⟨qn, absL qcs, (qas.set j ({ y with pref := 5 }))⟩ : Pd) = Q := ⟨_, rfl⟩
          rw [hQ] at hS HNE
          by_cases hF : shapeE Q = 0
          · have ht := turned_texts HEP.out hF HNE.out
            have ht2 : ((prodT Q).toList == (prodT P).toList) = false := by simpa [bne] using ht
            rw [hF, show prodTx Q = prodT Q from if_pos hF] at hS
            generalize prodT Q = T at hS ht ht2
            have HSS := Lib.hid hS
            clear hS hF hQ
            refine HSS.out.mono ?_
            rintro e w8 ⟨rfl, b8⟩
            have HB8 := Lib.hid (below_trans HB7.out b8)
            clear b8
            go_wp2_with (go_at_call 32; refine (wakes7_any _).mono ?_; rintro e w9 ⟨rfl, b9⟩)
            go_ret
            exact ⟨rfl, below_trans HB8.out b9⟩
          · rw [prodTx_bad hF] at hS
            have e1 : (shapeE Q != 0) = true := by simp [hF]
            have e0 : (shapeE Q == 0) = false := by simp [hF]
            have hnil : ((⟨#[]⟩ : ByteArray).toList == []) = true := by rw [ByteArray.toList_eq]; rfl
            generalize shapeE Q = F at hS e1 e0
            have HSS := Lib.hid hS
            clear hS hF hQ
            refine HSS.out.mono ?_
            rintro e w8 ⟨rfl, b8⟩
            have HB8 := Lib.hid (below_trans HB7.out b8)
            clear b8
            go_wp2_with (go_at_call 32; refine (wakes7_any _).mono ?_; rintro e w9 ⟨rfl, b9⟩)
            go_ret
            exact ⟨rfl, below_trans HB8.out b9⟩
        · have x0 : wk.cell? ⟨ga, j * 19 + 14, none⟩ = some (.int .i64 5) := HS2'.out.at_ (j := j * 19 + 14) (row_cell ac_len HS4.out HY.out (by show some (Value.int .i64 y.pref) = _; rw [hkp]))
          go_wp2_with (refine wpList_box rfl 3 (.tmp 125) (.tmp 123) rfl ga (j * 19 + 14) _ [.int .i64 6] rfl rfl rfl HS2'.out Try.sz3 (by simp; omega) (by simp [Value.oneCell']) _ rfl ?_; intro w7 B7 g7; have HX7 := Lib.hid (HX5.out.grown g7 (by simp; omega)); obtain ⟨d0, d1, d2⟩ := three_box HX7.out; have HK7 := Lib.hid B7; have HG7 := Lib.hid g7; clear B7 g7 x0)
          have HO7 := Lib.hid (OwnD.poke HOA.out HY.out (x' := ({ y with pref := 6 } : Ac)) (j := 14) (by decide) rfl HS3.out HS4.out HS5.out s6 HS7.out s1 HK7.out HG7.out (fun _ h => (show Ac.Big { y with pref := 6 } from ⟨h.id, h.attr, h.va, h.vb, h.other⟩)) (fun _ h => trivial))
          have HA7 := Lib.hid ((low_conds HOC.out HCI.out hgb).same (sameIn_of_grown HG7.out fun b hb e => by injection e with e; omega))
          have HB7 := Lib.hid (below_grows HB5.out HG7.out (fun b e => by cases e; omega))
          have HMEM := Lib.hid (deep_mem HNM.out HA7.out HO7.out)
          have HN7 : Hid (condsN qcs ≤ 1000000) := Lib.hid (by rw [condsN_abs]; exact HSZ.out)
          have HNE : Hid ((⟨qn, absL qcs, qas.set j ({ y with pref := 6 })⟩ : Pd) ≠ P) := Lib.hid (by rw [← HQA.out]; intro e; injection e with _ _ e; exact set_ne HY.out (fun e => by have e2 : (6 : Int) = 5 := (congrArg Ac.pref e).trans hkp; exact absurd e2 (by decide)) e)
          clear HK7 HG7
          have hS := showProd_any _ w7 HMEM.out HN7.out
          unfold ProdR.val ProdR.abs at hS
          dsimp only at hS
          obtain ⟨Q, hQ⟩ : ∃ Q : Pd, (⟨qn, absL qcs, (qas.set j ({ y with pref := 6 }))⟩ : Pd) = Q := ⟨_, rfl⟩
          rw [hQ] at hS HNE
          by_cases hF : shapeE Q = 0
          · have ht := turned_texts HEP.out hF HNE.out
            have ht2 : ((prodT Q).toList == (prodT P).toList) = false := by simpa [bne] using ht
            rw [hF, show prodTx Q = prodT Q from if_pos hF] at hS
            generalize prodT Q = T at hS ht ht2
            have HSS := Lib.hid hS
            clear hS hF hQ
            refine HSS.out.mono ?_
            rintro e w8 ⟨rfl, b8⟩
            have HB8 := Lib.hid (below_trans HB7.out b8)
            clear b8
            go_wp2_with (go_at_call 32; refine (wakes7_any _).mono ?_; rintro e w9 ⟨rfl, b9⟩)
            go_ret
            exact ⟨rfl, below_trans HB8.out b9⟩
          · rw [prodTx_bad hF] at hS
            have e1 : (shapeE Q != 0) = true := by simp [hF]
            have e0 : (shapeE Q == 0) = false := by simp [hF]
            have hnil : ((⟨#[]⟩ : ByteArray).toList == []) = true := by rw [ByteArray.toList_eq]; rfl
            generalize shapeE Q = F at hS e1 e0
            have HSS := Lib.hid hS
            clear hS hF hQ
            refine HSS.out.mono ?_
            rintro e w8 ⟨rfl, b8⟩
            have HB8 := Lib.hid (below_trans HB7.out b8)
            clear b8
            go_wp2_with (go_at_call 32; refine (wakes7_any _).mono ?_; rintro e w9 ⟨rfl, b9⟩)
            go_ret
            exact ⟨rfl, below_trans HB8.out b9⟩
        · have x0 : wk.cell? ⟨ga, j * 19 + 14, none⟩ = some (.int .i64 6) := HS2'.out.at_ (j := j * 19 + 14) (row_cell ac_len HS4.out HY.out (by show some (Value.int .i64 y.pref) = _; rw [hkp]))
          go_wp2_with (refine wpList_box rfl 3 (.tmp 125) (.tmp 123) rfl ga (j * 19 + 14) _ [.int .i64 7] rfl rfl rfl HS2'.out Try.sz3 (by simp; omega) (by simp [Value.oneCell']) _ rfl ?_; intro w7 B7 g7; have HX7 := Lib.hid (HX5.out.grown g7 (by simp; omega)); obtain ⟨d0, d1, d2⟩ := three_box HX7.out; have HK7 := Lib.hid B7; have HG7 := Lib.hid g7; clear B7 g7 x0)
          have HO7 := Lib.hid (OwnD.poke HOA.out HY.out (x' := ({ y with pref := 7 } : Ac)) (j := 14) (by decide) rfl HS3.out HS4.out HS5.out s6 HS7.out s1 HK7.out HG7.out (fun _ h => (show Ac.Big { y with pref := 7 } from ⟨h.id, h.attr, h.va, h.vb, h.other⟩)) (fun _ h => trivial))
          have HA7 := Lib.hid ((low_conds HOC.out HCI.out hgb).same (sameIn_of_grown HG7.out fun b hb e => by injection e with e; omega))
          have HB7 := Lib.hid (below_grows HB5.out HG7.out (fun b e => by cases e; omega))
          have HMEM := Lib.hid (deep_mem HNM.out HA7.out HO7.out)
          have HN7 : Hid (condsN qcs ≤ 1000000) := Lib.hid (by rw [condsN_abs]; exact HSZ.out)
          have HNE : Hid ((⟨qn, absL qcs, qas.set j ({ y with pref := 7 })⟩ : Pd) ≠ P) := Lib.hid (by rw [← HQA.out]; intro e; injection e with _ _ e; exact set_ne HY.out (fun e => by have e2 : (7 : Int) = 6 := (congrArg Ac.pref e).trans hkp; exact absurd e2 (by decide)) e)
          clear HK7 HG7
          have hS := showProd_any _ w7 HMEM.out HN7.out
          unfold ProdR.val ProdR.abs at hS
          dsimp only at hS
          obtain ⟨Q, hQ⟩ : ∃ Q : Pd, (⟨qn, absL qcs, (qas.set j ({ y with pref := 7 }))⟩ : Pd) = Q := ⟨_, rfl⟩
          rw [hQ] at hS HNE
          by_cases hF : shapeE Q = 0
          · have ht := turned_texts HEP.out hF HNE.out
            have ht2 : ((prodT Q).toList == (prodT P).toList) = false := by simpa [bne] using ht
            rw [hF, show prodTx Q = prodT Q from if_pos hF] at hS
            generalize prodT Q = T at hS ht ht2
            have HSS := Lib.hid hS
            clear hS hF hQ
            refine HSS.out.mono ?_
            rintro e w8 ⟨rfl, b8⟩
            have HB8 := Lib.hid (below_trans HB7.out b8)
            clear b8
            go_wp2_with (go_at_call 32; refine (wakes7_any _).mono ?_; rintro e w9 ⟨rfl, b9⟩)
            go_ret
            exact ⟨rfl, below_trans HB8.out b9⟩
          · rw [prodTx_bad hF] at hS
            have e1 : (shapeE Q != 0) = true := by simp [hF]
            have e0 : (shapeE Q == 0) = false := by simp [hF]
            have hnil : ((⟨#[]⟩ : ByteArray).toList == []) = true := by rw [ByteArray.toList_eq]; rfl
            generalize shapeE Q = F at hS e1 e0
            have HSS := Lib.hid hS
            clear hS hF hQ
            refine HSS.out.mono ?_
            rintro e w8 ⟨rfl, b8⟩
            have HB8 := Lib.hid (below_trans HB7.out b8)
            clear b8
            go_wp2_with (go_at_call 32; refine (wakes7_any _).mono ?_; rintro e w9 ⟨rfl, b9⟩)
            go_ret
            exact ⟨rfl, below_trans HB8.out b9⟩
        · have x0 : wk.cell? ⟨ga, j * 19 + 14, none⟩ = some (.int .i64 7) := HS2'.out.at_ (j := j * 19 + 14) (row_cell ac_len HS4.out HY.out (by show some (Value.int .i64 y.pref) = _; rw [hkp]))
          go_wp2_with (refine wpList_box rfl 3 (.tmp 125) (.tmp 123) rfl ga (j * 19 + 14) _ [.int .i64 8] rfl rfl rfl HS2'.out Try.sz3 (by simp; omega) (by simp [Value.oneCell']) _ rfl ?_; intro w7 B7 g7; have HX7 := Lib.hid (HX5.out.grown g7 (by simp; omega)); obtain ⟨d0, d1, d2⟩ := three_box HX7.out; have HK7 := Lib.hid B7; have HG7 := Lib.hid g7; clear B7 g7 x0)
          have HO7 := Lib.hid (OwnD.poke HOA.out HY.out (x' := ({ y with pref := 8 } : Ac)) (j := 14) (by decide) rfl HS3.out HS4.out HS5.out s6 HS7.out s1 HK7.out HG7.out (fun _ h => (show Ac.Big { y with pref := 8 } from ⟨h.id, h.attr, h.va, h.vb, h.other⟩)) (fun _ h => trivial))
          have HA7 := Lib.hid ((low_conds HOC.out HCI.out hgb).same (sameIn_of_grown HG7.out fun b hb e => by injection e with e; omega))
          have HB7 := Lib.hid (below_grows HB5.out HG7.out (fun b e => by cases e; omega))
          have HMEM := Lib.hid (deep_mem HNM.out HA7.out HO7.out)
          have HN7 : Hid (condsN qcs ≤ 1000000) := Lib.hid (by rw [condsN_abs]; exact HSZ.out)
          have HNE : Hid ((⟨qn, absL qcs, qas.set j ({ y with pref := 8 })⟩ : Pd) ≠ P) := Lib.hid (by rw [← HQA.out]; intro e; injection e with _ _ e; exact set_ne HY.out (fun e => by have e2 : (8 : Int) = 7 := (congrArg Ac.pref e).trans hkp; exact absurd e2 (by decide)) e)
          clear HK7 HG7
          have hS := showProd_any _ w7 HMEM.out HN7.out
          unfold ProdR.val ProdR.abs at hS
          dsimp only at hS
          obtain ⟨Q, hQ⟩ : ∃ Q : Pd, (⟨qn, absL qcs, (qas.set j ({ y with pref := 8 }))⟩ : Pd) = Q := ⟨_, rfl⟩
          rw [hQ] at hS HNE
          by_cases hF : shapeE Q = 0
          · have ht := turned_texts HEP.out hF HNE.out
            have ht2 : ((prodT Q).toList == (prodT P).toList) = false := by simpa [bne] using ht
            rw [hF, show prodTx Q = prodT Q from if_pos hF] at hS
            generalize prodT Q = T at hS ht ht2
            have HSS := Lib.hid hS
            clear hS hF hQ
            refine HSS.out.mono ?_
            rintro e w8 ⟨rfl, b8⟩
            have HB8 := Lib.hid (below_trans HB7.out b8)
            clear b8
            go_wp2_with (go_at_call 32; refine (wakes7_any _).mono ?_; rintro e w9 ⟨rfl, b9⟩)
            go_ret
            exact ⟨rfl, below_trans HB8.out b9⟩
          · rw [prodTx_bad hF] at hS
            have e1 : (shapeE Q != 0) = true := by simp [hF]
            have e0 : (shapeE Q == 0) = false := by simp [hF]
            have hnil : ((⟨#[]⟩ : ByteArray).toList == []) = true := by rw [ByteArray.toList_eq]; rfl
            generalize shapeE Q = F at hS e1 e0
            have HSS := Lib.hid hS
            clear hS hF hQ
            refine HSS.out.mono ?_
            rintro e w8 ⟨rfl, b8⟩
            have HB8 := Lib.hid (below_trans HB7.out b8)
            clear b8
            go_wp2_with (go_at_call 32; refine (wakes7_any _).mono ?_; rintro e w9 ⟨rfl, b9⟩)
            go_ret
            exact ⟨rfl, below_trans HB8.out b9⟩
        · have x0 : wk.cell? ⟨ga, j * 19 + 14, none⟩ = some (.int .i64 8) := HS2'.out.at_ (j := j * 19 + 14) (row_cell ac_len HS4.out HY.out (by show some (Value.int .i64 y.pref) = _; rw [hkp]))
          go_wp2_with (refine wpList_box rfl 3 (.tmp 125) (.tmp 123) rfl ga (j * 19 + 14) _ [.int .i64 9] rfl rfl rfl HS2'.out Try.sz3 (by simp; omega) (by simp [Value.oneCell']) _ rfl ?_; intro w7 B7 g7; have HX7 := Lib.hid (HX5.out.grown g7 (by simp; omega)); obtain ⟨d0, d1, d2⟩ := three_box HX7.out; have HK7 := Lib.hid B7; have HG7 := Lib.hid g7; clear B7 g7 x0)
          have HO7 := Lib.hid (OwnD.poke HOA.out HY.out (x' := ({ y with pref := 9 } : Ac)) (j := 14) (by decide) rfl HS3.out HS4.out HS5.out s6 HS7.out s1 HK7.out HG7.out (fun _ h => (show Ac.Big { y with pref := 9 } from ⟨h.id, h.attr, h.va, h.vb, h.other⟩)) (fun _ h => trivial))
          have HA7 := Lib.hid ((low_conds HOC.out HCI.out hgb).same (sameIn_of_grown HG7.out fun b hb e => by injection e with e; omega))
          have HB7 := Lib.hid (below_grows HB5.out HG7.out (fun b e => by cases e; omega))
          have HMEM := Lib.hid (deep_mem HNM.out HA7.out HO7.out)
          have HN7 : Hid (condsN qcs ≤ 1000000) := Lib.hid (by rw [condsN_abs]; exact HSZ.out)
          have HNE : Hid ((⟨qn, absL qcs, qas.set j ({ y with pref := 9 })⟩ : Pd) ≠ P) := Lib.hid (by rw [← HQA.out]; intro e; injection e with _ _ e; exact set_ne HY.out (fun e => by have e2 : (9 : Int) = 8 := (congrArg Ac.pref e).trans hkp; exact absurd e2 (by decide)) e)
          clear HK7 HG7
          have hS := showProd_any _ w7 HMEM.out HN7.out
          unfold ProdR.val ProdR.abs at hS
          dsimp only at hS
          obtain ⟨Q, hQ⟩ : ∃ Q : Pd, (⟨qn, absL qcs, (qas.set j ({ y with pref := 9 }))⟩ : Pd) = Q := ⟨_, rfl⟩
          rw [hQ] at hS HNE
          by_cases hF : shapeE Q = 0
          · have ht := turned_texts HEP.out hF HNE.out
            have ht2 : ((prodT Q).toList == (prodT P).toList) = false := by simpa [bne] using ht
            rw [hF, show prodTx Q = prodT Q from if_pos hF] at hS
            generalize prodT Q = T at hS ht ht2
            have HSS := Lib.hid hS
            clear hS hF hQ
            refine HSS.out.mono ?_
            rintro e w8 ⟨rfl, b8⟩
            have HB8 := Lib.hid (below_trans HB7.out b8)
            clear b8
            go_wp2_with (go_at_call 32; refine (wakes7_any _).mono ?_; rintro e w9 ⟨rfl, b9⟩)
            go_ret
            exact ⟨rfl, below_trans HB8.out b9⟩
          · rw [prodTx_bad hF] at hS
            have e1 : (shapeE Q != 0) = true := by simp [hF]
            have e0 : (shapeE Q == 0) = false := by simp [hF]
            have hnil : ((⟨#[]⟩ : ByteArray).toList == []) = true := by rw [ByteArray.toList_eq]; rfl
            generalize shapeE Q = F at hS e1 e0
            have HSS := Lib.hid hS
            clear hS hF hQ
            refine HSS.out.mono ?_
            rintro e w8 ⟨rfl, b8⟩
            have HB8 := Lib.hid (below_trans HB7.out b8)
            clear b8
            go_wp2_with (go_at_call 32; refine (wakes7_any _).mono ?_; rintro e w9 ⟨rfl, b9⟩)
            go_ret
            exact ⟨rfl, below_trans HB8.out b9⟩
        · have x0 : wk.cell? ⟨ga, j * 19 + 14, none⟩ = some (.int .i64 9) := HS2'.out.at_ (j := j * 19 + 14) (row_cell ac_len HS4.out HY.out (by show some (Value.int .i64 y.pref) = _; rw [hkp]))
          go_wp2_with (refine wpList_box rfl 3 (.tmp 125) (.tmp 123) rfl ga (j * 19 + 14) _ [.int .i64 10] rfl rfl rfl HS2'.out Try.sz3 (by simp; omega) (by simp [Value.oneCell']) _ rfl ?_; intro w7 B7 g7; have HX7 := Lib.hid (HX5.out.grown g7 (by simp; omega)); obtain ⟨d0, d1, d2⟩ := three_box HX7.out; have HK7 := Lib.hid B7; have HG7 := Lib.hid g7; clear B7 g7 x0)
          have HO7 := Lib.hid (OwnD.poke HOA.out HY.out (x' := ({ y with pref := 10 } : Ac)) (j := 14) (by decide) rfl HS3.out HS4.out HS5.out s6 HS7.out s1 HK7.out HG7.out (fun _ h => (show Ac.Big { y with pref := 10 } from ⟨h.id, h.attr, h.va, h.vb, h.other⟩)) (fun _ h => trivial))
          have HA7 := Lib.hid ((low_conds HOC.out HCI.out hgb).same (sameIn_of_grown HG7.out fun b hb e => by injection e with e; omega))
          have HB7 := Lib.hid (below_grows HB5.out HG7.out (fun b e => by cases e; omega))
          have HMEM := Lib.hid (deep_mem HNM.out HA7.out HO7.out)
          have HN7 : Hid (condsN qcs ≤ 1000000) := Lib.hid (by rw [condsN_abs]; exact HSZ.out)
          have HNE : Hid ((⟨qn, absL qcs, qas.set j ({ y with pref := 10 })⟩ : Pd) ≠ P) := Lib.hid (by rw [← HQA.out]; intro e; injection e with _ _ e; exact set_ne HY.out (fun e => by have e2 : (10 : Int) = 9 := (congrArg Ac.pref e).trans hkp; exact absurd e2 (by decide)) e)
          clear HK7 HG7
          have hS := showProd_any _ w7 HMEM.out HN7.out
          unfold ProdR.val ProdR.abs at hS
          dsimp only at hS
          obtain ⟨Q, hQ⟩ : ∃ Q : Pd, (⟨qn, absL qcs, (qas.set j ({ y with pref := 10 }))⟩ : Pd) = Q := ⟨_, rfl⟩
          rw [hQ] at hS HNE
          by_cases hF : shapeE Q = 0
          · have ht := turned_texts HEP.out hF HNE.out
            have ht2 : ((prodT Q).toList == (prodT P).toList) = false := by simpa [bne] using ht
            rw [hF, show prodTx Q = prodT Q from if_pos hF] at hS
            generalize prodT Q = T at hS ht ht2
            have HSS := Lib.hid hS
            clear hS hF hQ
            refine HSS.out.mono ?_
            rintro e w8 ⟨rfl, b8⟩
            have HB8 := Lib.hid (below_trans HB7.out b8)
            clear b8
            go_wp2_with (go_at_call 32; refine (wakes7_any _).mono ?_; rintro e w9 ⟨rfl, b9⟩)
            go_ret
            exact ⟨rfl, below_trans HB8.out b9⟩
          · rw [prodTx_bad hF] at hS
            have e1 : (shapeE Q != 0) = true := by simp [hF]
            have e0 : (shapeE Q == 0) = false := by simp [hF]
            have hnil : ((⟨#[]⟩ : ByteArray).toList == []) = true := by rw [ByteArray.toList_eq]; rfl
            generalize shapeE Q = F at hS e1 e0
            have HSS := Lib.hid hS
            clear hS hF hQ
            refine HSS.out.mono ?_
            rintro e w8 ⟨rfl, b8⟩
            have HB8 := Lib.hid (below_trans HB7.out b8)
            clear b8
            go_wp2_with (go_at_call 32; refine (wakes7_any _).mono ?_; rintro e w9 ⟨rfl, b9⟩)
            go_ret
            exact ⟨rfl, below_trans HB8.out b9⟩
        · have x0 : wk.cell? ⟨ga, j * 19 + 14, none⟩ = some (.int .i64 10) := HS2'.out.at_ (j := j * 19 + 14) (row_cell ac_len HS4.out HY.out (by show some (Value.int .i64 y.pref) = _; rw [hkp]))
          go_wp2_with (refine wpList_box rfl 3 (.tmp 125) (.tmp 123) rfl ga (j * 19 + 14) _ [.int .i64 1] rfl rfl rfl HS2'.out Try.sz3 (by simp; omega) (by simp [Value.oneCell']) _ rfl ?_; intro w7 B7 g7; have HX7 := Lib.hid (HX5.out.grown g7 (by simp; omega)); obtain ⟨d0, d1, d2⟩ := three_box HX7.out; have HK7 := Lib.hid B7; have HG7 := Lib.hid g7; clear B7 g7 x0)
          have HO7 := Lib.hid (OwnD.poke HOA.out HY.out (x' := ({ y with pref := 1 } : Ac)) (j := 14) (by decide) rfl HS3.out HS4.out HS5.out s6 HS7.out s1 HK7.out HG7.out (fun _ h => (show Ac.Big { y with pref := 1 } from ⟨h.id, h.attr, h.va, h.vb, h.other⟩)) (fun _ h => trivial))
          have HA7 := Lib.hid ((low_conds HOC.out HCI.out hgb).same (sameIn_of_grown HG7.out fun b hb e => by injection e with e; omega))
          have HB7 := Lib.hid (below_grows HB5.out HG7.out (fun b e => by cases e; omega))
          have HMEM := Lib.hid (deep_mem HNM.out HA7.out HO7.out)
          have HN7 : Hid (condsN qcs ≤ 1000000) := Lib.hid (by rw [condsN_abs]; exact HSZ.out)
          have HNE : Hid ((⟨qn, absL qcs, qas.set j ({ y with pref := 1 })⟩ : Pd) ≠ P) := Lib.hid (by rw [← HQA.out]; intro e; injection e with _ _ e; exact set_ne HY.out (fun e => by have e2 : (1 : Int) = 10 := (congrArg Ac.pref e).trans hkp; exact absurd e2 (by decide)) e)
          clear HK7 HG7
          have hS := showProd_any _ w7 HMEM.out HN7.out
          unfold ProdR.val ProdR.abs at hS
          dsimp only at hS
          obtain ⟨Q, hQ⟩ : ∃ Q : Pd, (⟨qn, absL qcs, (qas.set j ({ y with pref := 1 }))⟩ : Pd) = Q := ⟨_, rfl⟩
          rw [hQ] at hS HNE
          by_cases hF : shapeE Q = 0
          · have ht := turned_texts HEP.out hF HNE.out
            have ht2 : ((prodT Q).toList == (prodT P).toList) = false := by simpa [bne] using ht
            rw [hF, show prodTx Q = prodT Q from if_pos hF] at hS
            generalize prodT Q = T at hS ht ht2
            have HSS := Lib.hid hS
            clear hS hF hQ
            refine HSS.out.mono ?_
            rintro e w8 ⟨rfl, b8⟩
            have HB8 := Lib.hid (below_trans HB7.out b8)
            clear b8
            go_wp2_with (go_at_call 32; refine (wakes7_any _).mono ?_; rintro e w9 ⟨rfl, b9⟩)
            go_ret
            exact ⟨rfl, below_trans HB8.out b9⟩
          · rw [prodTx_bad hF] at hS
            have e1 : (shapeE Q != 0) = true := by simp [hF]
            have e0 : (shapeE Q == 0) = false := by simp [hF]
            have hnil : ((⟨#[]⟩ : ByteArray).toList == []) = true := by rw [ByteArray.toList_eq]; rfl
            generalize shapeE Q = F at hS e1 e0
            have HSS := Lib.hid hS
            clear hS hF hQ
            refine HSS.out.mono ?_
            rintro e w8 ⟨rfl, b8⟩
            have HB8 := Lib.hid (below_trans HB7.out b8)
            clear b8
            go_wp2_with (go_at_call 32; refine (wakes7_any _).mono ?_; rintro e w9 ⟨rfl, b9⟩)
            go_ret
            exact ⟨rfl, below_trans HB8.out b9⟩
      · have hyi := HYI.out
        rcases (show y.value.op = 0 ∨ y.value.op = 1 ∨ y.value.op = 2 ∨ y.value.op = 3 by omega) with hkp | hkp | hkp | hkp
        all_goals clear hyi
        · have x0 : wk.cell? ⟨ga, j * 19 + 5, none⟩ = some (.int .i64 0) := HS2'.out.at_ (j := j * 19 + 5) (row_cell ac_len HS4.out HY.out (by show some (Value.int .i64 y.value.op) = _; rw [hkp]))
          go_wp2_with (refine wpList_box rfl 3 (.tmp 138) (.tmp 135) rfl ga (j * 19 + 5) _ [.int .i64 1] rfl rfl rfl HS2'.out Try.sz3 (by simp; omega) (by simp [Value.oneCell']) _ rfl ?_; intro w7 B7 g7; have HX7 := Lib.hid (HX5.out.grown g7 (by simp; omega)); obtain ⟨d0, d1, d2⟩ := three_box HX7.out; have HK7 := Lib.hid B7; have HG7 := Lib.hid g7; clear B7 g7 x0)
          have HO7 := Lib.hid (OwnD.poke HOA.out HY.out (x' := ({ y with value := { y.value with op := 1 } } : Ac)) (j := 5) (by decide) rfl HS3.out HS4.out HS5.out s6 HS7.out s1 HK7.out HG7.out (fun _ h => (show Ac.Big { y with value := { y.value with op := 1 } } from ⟨h.id, h.attr, h.va, h.vb, h.other⟩)) (fun _ h => trivial))
          have HA7 := Lib.hid ((low_conds HOC.out HCI.out hgb).same (sameIn_of_grown HG7.out fun b hb e => by injection e with e; omega))
          have HB7 := Lib.hid (below_grows HB5.out HG7.out (fun b e => by cases e; omega))
          have HMEM := Lib.hid (deep_mem HNM.out HA7.out HO7.out)
          have HN7 : Hid (condsN qcs ≤ 1000000) := Lib.hid (by rw [condsN_abs]; exact HSZ.out)
          have HNE : Hid ((⟨qn, absL qcs, qas.set j ({ y with value := { y.value with op := 1 } })⟩ : Pd) ≠ P) := Lib.hid (by rw [← HQA.out]; intro e; injection e with _ _ e; exact set_ne HY.out (fun e => by have e2 : (1 : Int) = 0 := (congrArg (fun z => z.value.op) e).trans hkp; exact absurd e2 (by decide)) e)
          clear HK7 HG7
          have hS := showProd_any _ w7 HMEM.out HN7.out
          unfold ProdR.val ProdR.abs at hS
          dsimp only at hS
          obtain ⟨Q, hQ⟩ : ∃ Q : Pd, (⟨qn, absL qcs, (qas.set j ({ y with value := { y.value with op := 1 } }))⟩ : Pd) = Q := ⟨_, rfl⟩
          rw [hQ] at hS HNE
          by_cases hF : shapeE Q = 0
          · have ht := turned_texts HEP.out hF HNE.out
            have ht2 : ((prodT Q).toList == (prodT P).toList) = false := by simpa [bne] using ht
            rw [hF, show prodTx Q = prodT Q from if_pos hF] at hS
            generalize prodT Q = T at hS ht ht2
            have HSS := Lib.hid hS
            clear hS hF hQ
            refine HSS.out.mono ?_
            rintro e w8 ⟨rfl, b8⟩
            have HB8 := Lib.hid (below_trans HB7.out b8)
            clear b8
            go_wp2_with (go_at_call 32; refine (wakes7_any _).mono ?_; rintro e w9 ⟨rfl, b9⟩)
            go_ret
            exact ⟨rfl, below_trans HB8.out b9⟩
          · rw [prodTx_bad hF] at hS
            have e1 : (shapeE Q != 0) = true := by simp [hF]
            have e0 : (shapeE Q == 0) = false := by simp [hF]
            have hnil : ((⟨#[]⟩ : ByteArray).toList == []) = true := by rw [ByteArray.toList_eq]; rfl
            generalize shapeE Q = F at hS e1 e0
            have HSS := Lib.hid hS
            clear hS hF hQ
            refine HSS.out.mono ?_
            rintro e w8 ⟨rfl, b8⟩
            have HB8 := Lib.hid (below_trans HB7.out b8)
            clear b8
            go_wp2_with (go_at_call 32; refine (wakes7_any _).mono ?_; rintro e w9 ⟨rfl, b9⟩)
            go_ret
            exact ⟨rfl, below_trans HB8.out b9⟩
        · have x0 : wk.cell? ⟨ga, j * 19 + 5, none⟩ = some (.int .i64 1) := HS2'.out.at_ (j := j * 19 + 5) (row_cell ac_len HS4.out HY.out (by show some (Value.int .i64 y.value.op) = _; rw [hkp]))
          go_wp2_with (refine wpList_box rfl 3 (.tmp 138) (.tmp 135) rfl ga (j * 19 + 5) _ [.int .i64 2] rfl rfl rfl HS2'.out Try.sz3 (by simp; omega) (by simp [Value.oneCell']) _ rfl ?_; intro w7 B7 g7; have HX7 := Lib.hid (HX5.out.grown g7 (by simp; omega)); obtain ⟨d0, d1, d2⟩ := three_box HX7.out; have HK7 := Lib.hid B7; have HG7 := Lib.hid g7; clear B7 g7 x0)
          have HO7 := Lib.hid (OwnD.poke HOA.out HY.out (x' := ({ y with value := { y.value with op := 2 } } : Ac)) (j := 5) (by decide) rfl HS3.out HS4.out HS5.out s6 HS7.out s1 HK7.out HG7.out (fun _ h => (show Ac.Big { y with value := { y.value with op := 2 } } from ⟨h.id, h.attr, h.va, h.vb, h.other⟩)) (fun _ h => trivial))
          have HA7 := Lib.hid ((low_conds HOC.out HCI.out hgb).same (sameIn_of_grown HG7.out fun b hb e => by injection e with e; omega))
          have HB7 := Lib.hid (below_grows HB5.out HG7.out (fun b e => by cases e; omega))
          have HMEM := Lib.hid (deep_mem HNM.out HA7.out HO7.out)
          have HN7 : Hid (condsN qcs ≤ 1000000) := Lib.hid (by rw [condsN_abs]; exact HSZ.out)
          have HNE : Hid ((⟨qn, absL qcs, qas.set j ({ y with value := { y.value with op := 2 } })⟩ : Pd) ≠ P) := Lib.hid (by rw [← HQA.out]; intro e; injection e with _ _ e; exact set_ne HY.out (fun e => by have e2 : (2 : Int) = 1 := (congrArg (fun z => z.value.op) e).trans hkp; exact absurd e2 (by decide)) e)
          clear HK7 HG7
          have hS := showProd_any _ w7 HMEM.out HN7.out
          unfold ProdR.val ProdR.abs at hS
          dsimp only at hS
          obtain ⟨Q, hQ⟩ : ∃ Q : Pd, (⟨qn, absL qcs, (qas.set j ({ y with value := { y.value with op := 2 } }))⟩ : Pd) = Q := ⟨_, rfl⟩
          rw [hQ] at hS HNE
          by_cases hF : shapeE Q = 0
          · have ht := turned_texts HEP.out hF HNE.out
            have ht2 : ((prodT Q).toList == (prodT P).toList) = false := by simpa [bne] using ht
            rw [hF, show prodTx Q = prodT Q from if_pos hF] at hS
            generalize prodT Q = T at hS ht ht2
            have HSS := Lib.hid hS
            clear hS hF hQ
            refine HSS.out.mono ?_
            rintro e w8 ⟨rfl, b8⟩
            have HB8 := Lib.hid (below_trans HB7.out b8)
            clear b8
            go_wp2_with (go_at_call 32; refine (wakes7_any _).mono ?_; rintro e w9 ⟨rfl, b9⟩)
            go_ret
            exact ⟨rfl, below_trans HB8.out b9⟩
          · rw [prodTx_bad hF] at hS
            have e1 : (shapeE Q != 0) = true := by simp [hF]
            have e0 : (shapeE Q == 0) = false := by simp [hF]
            have hnil : ((⟨#[]⟩ : ByteArray).toList == []) = true := by rw [ByteArray.toList_eq]; rfl
            generalize shapeE Q = F at hS e1 e0
            have HSS := Lib.hid hS
            clear hS hF hQ
            refine HSS.out.mono ?_
            rintro e w8 ⟨rfl, b8⟩
            have HB8 := Lib.hid (below_trans HB7.out b8)
            clear b8
            go_wp2_with (go_at_call 32; refine (wakes7_any _).mono ?_; rintro e w9 ⟨rfl, b9⟩)
            go_ret
            exact ⟨rfl, below_trans HB8.out b9⟩
        · have x0 : wk.cell? ⟨ga, j * 19 + 5, none⟩ = some (.int .i64 2) := HS2'.out.at_ (j := j * 19 + 5) (row_cell ac_len HS4.out HY.out (by show some (Value.int .i64 y.value.op) = _; rw [hkp]))
          go_wp2_with (refine wpList_box rfl 3 (.tmp 138) (.tmp 135) rfl ga (j * 19 + 5) _ [.int .i64 3] rfl rfl rfl HS2'.out Try.sz3 (by simp; omega) (by simp [Value.oneCell']) _ rfl ?_; intro w7 B7 g7; have HX7 := Lib.hid (HX5.out.grown g7 (by simp; omega)); obtain ⟨d0, d1, d2⟩ := three_box HX7.out; have HK7 := Lib.hid B7; have HG7 := Lib.hid g7; clear B7 g7 x0)
          have HO7 := Lib.hid (OwnD.poke HOA.out HY.out (x' := ({ y with value := { y.value with op := 3 } } : Ac)) (j := 5) (by decide) rfl HS3.out HS4.out HS5.out s6 HS7.out s1 HK7.out HG7.out (fun _ h => (show Ac.Big { y with value := { y.value with op := 3 } } from ⟨h.id, h.attr, h.va, h.vb, h.other⟩)) (fun _ h => trivial))
          have HA7 := Lib.hid ((low_conds HOC.out HCI.out hgb).same (sameIn_of_grown HG7.out fun b hb e => by injection e with e; omega))
          have HB7 := Lib.hid (below_grows HB5.out HG7.out (fun b e => by cases e; omega))
          have HMEM := Lib.hid (deep_mem HNM.out HA7.out HO7.out)
          have HN7 : Hid (condsN qcs ≤ 1000000) := Lib.hid (by rw [condsN_abs]; exact HSZ.out)
          have HNE : Hid ((⟨qn, absL qcs, qas.set j ({ y with value := { y.value with op := 3 } })⟩ : Pd) ≠ P) := Lib.hid (by rw [← HQA.out]; intro e; injection e with _ _ e; exact set_ne HY.out (fun e => by have e2 : (3 : Int) = 2 := (congrArg (fun z => z.value.op) e).trans hkp; exact absurd e2 (by decide)) e)
          clear HK7 HG7
          have hS := showProd_any _ w7 HMEM.out HN7.out
          unfold ProdR.val ProdR.abs at hS
          dsimp only at hS
          obtain ⟨Q, hQ⟩ : ∃ Q : Pd, (⟨qn, absL qcs, (qas.set j ({ y with value := { y.value with op := 3 } }))⟩ : Pd) = Q := ⟨_, rfl⟩
          rw [hQ] at hS HNE
          by_cases hF : shapeE Q = 0
          · have ht := turned_texts HEP.out hF HNE.out
            have ht2 : ((prodT Q).toList == (prodT P).toList) = false := by simpa [bne] using ht
            rw [hF, show prodTx Q = prodT Q from if_pos hF] at hS
            generalize prodT Q = T at hS ht ht2
            have HSS := Lib.hid hS
            clear hS hF hQ
            refine HSS.out.mono ?_
            rintro e w8 ⟨rfl, b8⟩
            have HB8 := Lib.hid (below_trans HB7.out b8)
            clear b8
            go_wp2_with (go_at_call 32; refine (wakes7_any _).mono ?_; rintro e w9 ⟨rfl, b9⟩)
            go_ret
            exact ⟨rfl, below_trans HB8.out b9⟩
          · rw [prodTx_bad hF] at hS
            have e1 : (shapeE Q != 0) = true := by simp [hF]
            have e0 : (shapeE Q == 0) = false := by simp [hF]
            have hnil : ((⟨#[]⟩ : ByteArray).toList == []) = true := by rw [ByteArray.toList_eq]; rfl
            generalize shapeE Q = F at hS e1 e0
            have HSS := Lib.hid hS
            clear hS hF hQ
            refine HSS.out.mono ?_
            rintro e w8 ⟨rfl, b8⟩
            have HB8 := Lib.hid (below_trans HB7.out b8)
            clear b8
            go_wp2_with (go_at_call 32; refine (wakes7_any _).mono ?_; rintro e w9 ⟨rfl, b9⟩)
            go_ret
            exact ⟨rfl, below_trans HB8.out b9⟩
        · have x0 : wk.cell? ⟨ga, j * 19 + 5, none⟩ = some (.int .i64 3) := HS2'.out.at_ (j := j * 19 + 5) (row_cell ac_len HS4.out HY.out (by show some (Value.int .i64 y.value.op) = _; rw [hkp]))
          go_wp2_with (refine wpList_box rfl 3 (.tmp 138) (.tmp 135) rfl ga (j * 19 + 5) _ [.int .i64 0] rfl rfl rfl HS2'.out Try.sz3 (by simp; omega) (by simp [Value.oneCell']) _ rfl ?_; intro w7 B7 g7; have HX7 := Lib.hid (HX5.out.grown g7 (by simp; omega)); obtain ⟨d0, d1, d2⟩ := three_box HX7.out; have HK7 := Lib.hid B7; have HG7 := Lib.hid g7; clear B7 g7 x0)
          have HO7 := Lib.hid (OwnD.poke HOA.out HY.out (x' := ({ y with value := { y.value with op := 0 } } : Ac)) (j := 5) (by decide) rfl HS3.out HS4.out HS5.out s6 HS7.out s1 HK7.out HG7.out (fun _ h => (show Ac.Big { y with value := { y.value with op := 0 } } from ⟨h.id, h.attr, h.va, h.vb, h.other⟩)) (fun _ h => trivial))
          have HA7 := Lib.hid ((low_conds HOC.out HCI.out hgb).same (sameIn_of_grown HG7.out fun b hb e => by injection e with e; omega))
          have HB7 := Lib.hid (below_grows HB5.out HG7.out (fun b e => by cases e; omega))
          have HMEM := Lib.hid (deep_mem HNM.out HA7.out HO7.out)
          have HN7 : Hid (condsN qcs ≤ 1000000) := Lib.hid (by rw [condsN_abs]; exact HSZ.out)
          have HNE : Hid ((⟨qn, absL qcs, qas.set j ({ y with value := { y.value with op := 0 } })⟩ : Pd) ≠ P) := Lib.hid (by rw [← HQA.out]; intro e; injection e with _ _ e; exact set_ne HY.out (fun e => by have e2 : (0 : Int) = 3 := (congrArg (fun z => z.value.op) e).trans hkp; exact absurd e2 (by decide)) e)
          clear HK7 HG7
          have hS := showProd_any _ w7 HMEM.out HN7.out
          unfold ProdR.val ProdR.abs at hS
          dsimp only at hS
          obtain ⟨Q, hQ⟩ : ∃ Q : Pd, (⟨qn, absL qcs, (qas.set j ({ y with value := { y.value with op := 0 } }))⟩ : Pd) = Q := ⟨_, rfl⟩
          rw [hQ] at hS HNE
          by_cases hF : shapeE Q = 0
          · have ht := turned_texts HEP.out hF HNE.out
            have ht2 : ((prodT Q).toList == (prodT P).toList) = false := by simpa [bne] using ht
            rw [hF, show prodTx Q = prodT Q from if_pos hF] at hS
            generalize prodT Q = T at hS ht ht2
            have HSS := Lib.hid hS
            clear hS hF hQ
            refine HSS.out.mono ?_
            rintro e w8 ⟨rfl, b8⟩
            have HB8 := Lib.hid (below_trans HB7.out b8)
            clear b8
            go_wp2_with (go_at_call 32; refine (wakes7_any _).mono ?_; rintro e w9 ⟨rfl, b9⟩)
            go_ret
            exact ⟨rfl, below_trans HB8.out b9⟩
          · rw [prodTx_bad hF] at hS
            have e1 : (shapeE Q != 0) = true := by simp [hF]
            have e0 : (shapeE Q == 0) = false := by simp [hF]
            have hnil : ((⟨#[]⟩ : ByteArray).toList == []) = true := by rw [ByteArray.toList_eq]; rfl
            generalize shapeE Q = F at hS e1 e0
            have HSS := Lib.hid hS
            clear hS hF hQ
            refine HSS.out.mono ?_
            rintro e w8 ⟨rfl, b8⟩
            have HB8 := Lib.hid (below_trans HB7.out b8)
            clear b8
            go_wp2_with (go_at_call 32; refine (wakes7_any _).mono ?_; rintro e w9 ⟨rfl, b9⟩)
            go_ret
            exact ⟨rfl, below_trans HB8.out b9⟩
      · have hcut := run_cut45 g qcs.length qcc (by omega)
        have HDT := Lib.hid (deep_tail (low_conds HOC.out HCI.out hgb) (show 1 ≤ qcs.length by omega))
        generalize (if qcc = 1 then (⟨g, 0, none⟩ : Addr) else ⟨g, 7, none⟩) = a7 at hcut HDT
        obtain ⟨d0, d1, d2⟩ := three_box HX5.out
        go_wp2_with (refine wpList_box rfl 45 (.tmp 59) (.tmp 58) rfl w4.heap.size 1 _ [.slice (some a7) (qcs.length - 1) (qcc - 1)] rfl rfl rfl HX5.out sz45 (by simp) (by simp [Value.oneCell']) [.string qn, .slice (some a7) (qcs.length - 1) (qcc - 1), .slice (some ⟨ga, 0, none⟩) qas.length qac] rfl ?_; intro w7 B7 g7; clear d0 d1 d2; obtain ⟨d0, d1, d2⟩ := three_box B7; have HG7 := Lib.hid g7; clear B7 g7)
        have HA7 := Lib.hid (HDT.out.same (sameIn_of_grown HG7.out fun b hb e => by injection e with e; omega))
        have HO7 := Lib.hid ((low_acts HOA.out hga).same (sameIn_of_grown HG7.out fun b hb e => by injection e with e; omega))
        have HB7 := Lib.hid (below_grows HB5.out HG7.out (fun b e => by cases e; omega))
        have HMEM := Lib.hid (deep_mem2 HNM.out HA7.out HO7.out)
        have HN7 : Hid (condsN qcs.tail ≤ 1000000) := Lib.hid (Nat.le_trans (condsN_tail qcs) (by rw [condsN_abs]; exact HSZ.out))
        have HNE : Hid ((⟨qn, absL qcs.tail, qas⟩ : Pd) ≠ P) := Lib.hid (by rw [← HQA.out]; intro e; injection e with _ e _; exact absL_tail_ne (by omega) e)
        clear HG7
        have hS := showProd_any _ w7 HMEM.out HN7.out
        unfold ProdR.val ProdR.abs at hS
        dsimp only at hS
        obtain ⟨Q, hQ⟩ : ∃ Q : Pd, (⟨qn, absL qcs.tail, qas⟩ : Pd) = Q := ⟨_, rfl⟩
        rw [hQ] at hS HNE
        by_cases hF : shapeE Q = 0
        · have ht := turned_texts HEP.out hF HNE.out
          have ht2 : ((prodT Q).toList == (prodT P).toList) = false := by simpa [bne] using ht
          rw [hF, show prodTx Q = prodT Q from if_pos hF] at hS
          generalize prodT Q = T at hS ht ht2
          have HSS := Lib.hid hS
          clear hS hF hQ
          refine HSS.out.mono ?_
          rintro e w8 ⟨rfl, b8⟩
          have HB8 := Lib.hid (below_trans HB7.out b8)
          clear b8
          go_wp2_with (go_at_call 32; refine (wakes7_any _).mono ?_; rintro e w9 ⟨rfl, b9⟩)
          go_ret
          exact ⟨rfl, below_trans HB8.out b9⟩
        · rw [prodTx_bad hF] at hS
          have e1 : (shapeE Q != 0) = true := by simp [hF]
          have e0 : (shapeE Q == 0) = false := by simp [hF]
          have hnil : ((⟨#[]⟩ : ByteArray).toList == []) = true := by rw [ByteArray.toList_eq]; rfl
          generalize shapeE Q = F at hS e1 e0
          have HSS := Lib.hid hS
          clear hS hF hQ
          refine HSS.out.mono ?_
          rintro e w8 ⟨rfl, b8⟩
          have HB8 := Lib.hid (below_trans HB7.out b8)
          clear b8
          go_wp2_with (go_at_call 32; refine (wakes7_any _).mono ?_; rintro e w9 ⟨rfl, b9⟩)
          go_ret
          exact ⟨rfl, below_trans HB8.out b9⟩
    · have e1 : (shapeE P != 0) = true := by simp [hE]
      generalize shapeE P = S at *
      generalize prodTx P = T at *
      go_wp2_with (go_at_call 32; refine (wakes7_any _).mono ?_; rintro e w4 ⟨rfl, b4⟩)
      go_ret
      exact ⟨rfl, below_trans HB3.out b4⟩
end Go.Proofs.Ytgeaccoobhigcaa
namespace Go.Proofs.Ytgeaccoobhigcaa
open Go.ChangeShapes Go.WideShapes Go.ChangeAt Go.RowKit
open Go.ChangeMaps (open_string shut_string)

theorem showTurned_own : ownKnob Try.prog.godebug = none := by kernel_rfl
theorem showTurned_laidOut : laidOutB Try.prog = true := by kernel_rfl

set_option maxRecDepth 100000 in
theorem showTurned_lifted (os : Os) (started : os.Started) (H : Type) (enc : TypeId × Value → H) :
    ReturnsInHanded {} Try.checked os 12 .any (Rows.showTurnedSpec.pre6 enc Try.prog Try.f12 Rows.showTurnedRow.domain false) (Rows.showTurnedSpec.post enc Try.prog Try.f12 false true false false) := by
  refine returnsInHanded_of_change (C := Try.checked) showTurned_own started (by kernel_rfl) Try.func12
    (ChangeSpec.witness6 (enc := enc) (C := Try.checked) false ⟨#[], #[.agg #[.string ⟨#[]⟩, .slice none 0 0, .slice none 0 0], .int .i64 0, .int .i64 0], []⟩ 8 (by kernel_rfl) (by kernel_rfl) (by kernel_rfl) (by kernel_rfl)) ?_
  intro W base args ds gs before hval0 hW _ _
  have hval : ∀ (j : Nat) t v, Try.f12.params[j]? = some t → args[j]? = some v → Value.okWide Try.prog W .any base t v := hval0
  have hW' := hW
  obtain ⟨p, q, hA0, hV, rfl, hfz, hnd⟩ := hW
  have hA : DataW.TrodAll enc Try.prog W 0 (fun _ => true) true Try.f12.params.toList args.toList ds p := hA0
  rw [Try.params12] at hA hval
  obtain ⟨v0, vs0, d0, ds0, p0, q0, hargs, rfl, rfl, h0, r0⟩ := trodAll_cons hA
  obtain ⟨v1, vs1, d1, ds1, p1, q1, rfl, rfl, rfl, h1, r1⟩ := trodAll_cons r0
  obtain ⟨v2, vs2, d2, ds2, p2, q2, rfl, rfl, rfl, h2, r2⟩ := trodAll_cons r1
  obtain ⟨rfl, rfl, rfl⟩ := trodAll_nil r2
  obtain rfl : args = #[v0, v1, v2] := by cases args; simp_all
  obtain ⟨rfl, rfl⟩ := trodVars_none hV
  have k0 := h0
  have lt0 : ∀ x ∈ p0, x.block < W.heap.size := by obtain ⟨m, hm⟩ := k0; exact DataW.trod_lt m _ _ _ hm
  obtain ⟨cs0, rfl, _⟩ := okWide_struct und48 (hval 0 48 v0 rfl rfl)
  obtain ⟨a0, ev0, w0⟩ : ∃ p : ProdR, cs0.toList = p.cells ∧ p.Mem W := by
    obtain ⟨fuel, hf⟩ := h0
    exact open_prod hf
  obtain rfl : cs0 = a0.cells.toArray := by rw [← ev0]
  obtain ⟨a1, rfl, rfl, rfl, w1⟩ := open_int Try.underlying3 (hval 1 3 v1 rfl rfl) h1
  obtain ⟨a2, rfl, rfl, rfl, w2⟩ := open_int Try.underlying3 (hval 2 3 v2 rfl rfl) h2
  clear hA0 hval0
  refine (showTurned_walk a0 a1 a2 W w0).mono fun e W' ⟨he, bel⟩ => ?_
  subst he
  exact ⟨_, rfl, _, _, _, [], _, [], hW', trodAll_mk1 (shut_bool Try.underlying4 _), (trodAll_cons_mk (Below.trod showTurned_laidOut (by kernel_rfl) (of_decide_eq_true (by kernel_rfl)) k0 bel lt0) (trodAll_cons_mk (shut_int Try.underlying3 w1) (trodAll_cons_mk (shut_int Try.underlying3 w2) trodAll_mk0))), rfl, bel.frame _, fun h => by cases h⟩

/-- THE GIVEN STATEMENT. -/
theorem showTurned_holds : Rows.ShowTurnedSaid :=
  OpenClaim.holds_of_wide 12 Try.f12 rfl rfl rfl rfl rfl rfl rfl ⟨rfl, rfl, rfl, rfl, rfl⟩ rfl rfl rfl rfl rfl (by kernel_rfl) Try.func12 (by kernel_rfl)
    (of_decide_eq_true (by kernel_rfl)) (by unfold Func.isWrapper; first | (rw [if_pos (by decide +kernel)]; kernel_rfl) | (rw [if_neg (by decide +kernel)]; exact ⟨rfl, rfl⟩))
    (fun os started H enc _ => showTurned_lifted os started H enc)
#print axioms showTurned_holds
end Go.Proofs.Ytgeaccoobhigcaa
