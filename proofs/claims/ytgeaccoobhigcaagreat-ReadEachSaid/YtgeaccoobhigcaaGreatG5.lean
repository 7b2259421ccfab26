/-
  ponderref06.Size and conds. shape.Shape: its error. ponderref06.Shape: its error.
-/
import Derived.Test.YtgeaccoobhigcaaGreatG4
import Derived.Test.YtgeaccoobhigcaaGreatG2
import Derived.Deep.QuietTactic
import Derived.BigQuiet
import Derived.Test.YtgeaccoobhigcaaGreatG3
namespace Go.Proofs.YtgeaccoobhigcaaGreat
open Go Go.RowKit
theorem condsN_snoc {l : List CondR} {i : Nat} {x : CondR} (h : l[i]? = some x) : condsN (l.take (i + 1)) = condsN (l.take i) + condN x := by
  have ap : ∀ (a b : List CondR), condsN (a ++ b) = condsN a + condsN b := by
    intro a b
    induction a with
    | nil => simp [condsN]
    | cons c r ih => simp only [List.cons_append, condsN, ih]; omega
  rw [take_snoc2 h, ap]
  simp [condsN]
set_option maxRecDepth 100000 in
set_option maxHeartbeats 4000000 in
theorem rSize_any : ∀ (n : Nat) (conds : List CondR), condsN conds < n → condsN conds ≤ 1000000 → ∀ (ca : Option Addr) (cn cc : Nat) (w : World), SlR w 7 ca cn cc (conds.flatMap CondR.cells) → (∀ c ∈ conds, c.Mem w) →
    Calls Tryz.prog 43 #[.slice ca cn cc] w fun e w' => e = .returned (.int .i64 (condsN conds)) ∧ w = w' := by
  intro n
  induction n with
  | zero => intro conds h; omega
  | succ n IH =>
    intro conds hn hM ca cn cc w hs hc
    have hcl := condsMem_len hs
    have hcap := hs.2.1
    have hmx := hs.2.2.1
    unfold maxLen at hmx
    have HCL := Lib.hid hcl
    have HIH := Lib.hid IH
    have HC := Lib.hid hc
    have HS := Lib.hid hs
    clear hcl IH hc hs
    go_enter Tryz.func43, Tryz.ntmps43
    go_wp2
    go_loop [3, 4] (fun tn ti => ∃ i : Nat, i ≤ cn ∧ tn = .int .i64 (condsN (conds.take i)) ∧ ti = .int .i64 i) (fun _ ti => cn - (intOf ti).toNat)
    case atStart => exact ⟨0, by omega, by simp [condsN], rfl⟩
    case round =>
      obtain ⟨i, hi, rfl, rfl⟩ := hrel
      by_cases hlt : i < cn
      · obtain ⟨x, hx⟩ : ∃ x, conds[i]? = some x := ⟨_, List.getElem?_eq_getElem (by rw [HCL.out]; exact hlt)⟩
        have hm := List.mem_of_getElem? hx
        have hza := condsN_stop hx
        have hkn := condN_kids x
        obtain ⟨g, o, rfl, hcell⟩ := HS.out.row_at condR_len (by omega) hx
        obtain ⟨xca, xcn, xcc, hx6, hxs, hxc⟩ := (HC.out x hm).kids
        have c6 := hcell 6 _ hx6
        have hI := HIH.out x.kids (by omega) (by omega) xca xcn xcc w hxs hxc
        have HSN := Lib.hid (condsN_snoc hx)
        have HKN := Lib.hid hkn
        have HXX := Lib.hid hx
        generalize condsN x.kids = K at hI hkn HKN
        have HI := Lib.hid hI
        clear hx hm hcell hx6 hxs hxc hI hkn
        have hb1 : condsN (conds.take i) + (1 + K) ≤ 1000000 := by have := HKN.out; omega
        clear hza
        go_wp2_with (go_at_call 43; refine HI.out.mono ?_; rintro e w2 ⟨rfl, rfl⟩)
        go_round
        case rel => exact ⟨i + 1, by omega, by rw [HSN.out, HKN.out]; go_num, by go_num⟩
        case measure => simp [intOf]; omega
      · obtain rfl : i = cn := by omega
        have htk : Hid (conds.take i = conds) := Lib.hid (List.take_of_length_le (by rw [HCL.out]; omega))
        go_wp2
        go_ret
        exact ⟨by rw [htk.out]; rfl, rfl⟩
theorem firstEs_pre {x : CondR} {d : Int} : ∀ (l : List CondR) (r : List CondR), firstEs (absL l) d = 0 → firstEs (absL (l ++ x :: r)) d = if firstE x.abs d = 0 then firstEs (absL r) d else firstE x.abs d
  | [], r, h => by simp only [List.nil_append, absL, firstEs]
  | c :: l, r, h => by
    simp only [List.cons_append, absL, firstEs] at h ⊢
    by_cases hc : firstE c.abs d = 0
    · rw [if_pos hc] at h ⊢
      exact firstEs_pre l r h
    · rw [if_neg hc] at h
      exact absurd h hc
theorem firstEs_take {x : CondR} {d : Int} {l : List CondR} {i : Nat} (hx : l[i]? = some x) (h : firstEs (absL (l.take i)) d = 0) (h2 : firstE x.abs d = 0) : firstEs (absL (l.take (i + 1))) d = 0 := by
  rw [take_snoc2 hx, firstEs_pre _ [] h, if_pos h2]; rfl
theorem firstEs_hit {x : CondR} {d : Int} {l : List CondR} {i : Nat} (hx : l[i]? = some x) (h : firstEs (absL (l.take i)) d = 0) (h2 : firstE x.abs d ≠ 0) : firstEs (absL l) d = firstE x.abs d := by
  rw [take_stop hx, firstEs_pre _ _ h, if_neg h2]
theorem firstE_kids (x : CondR) (d : Int) : firstE x.abs d = if condE x.abs d = 0 then firstEs (absL x.kids) (d + 1) else condE x.abs d := by
  cases x; simp only [CondR.abs, firstE, CondR.kids]; rfl
set_option maxRecDepth 100000 in
set_option maxHeartbeats 8000000 in
theorem rConds_any : ∀ (N : Nat) (conds : List CondR), condsN conds < N → ∀ (ca : Option Addr) (cn cc : Nat) (n d : Int) (w : World), SlR w 7 ca cn cc (conds.flatMap CondR.cells) → (∀ c ∈ conds, c.Mem w) → 0 ≤ n → n + condsN conds ≤ 1000000 → 0 ≤ d → d + condsN conds ≤ 1000000 →
    Calls Tryz.prog 44 #[.slice ca cn cc, .int .i64 n, .int .i64 d] w fun e w' => ErrIs (firstEs (absL conds) d) e ∧ Below w.heap.size w w' := by
  intro N
  induction N with
  | zero => intro conds h; omega
  | succ N IH =>
    intro conds hn ca cn cc n d w hs hc hn0 hnM hd0 hdM
    have hcl := condsMem_len hs
    have hcap := hs.2.1
    have hmx := hs.2.2.1
    unfold maxLen at hmx
    have HCL := Lib.hid hcl
    have HIH := Lib.hid IH
    have HC := Lib.hid hc
    have HS := Lib.hid hs
    clear hcl IH hc hs
    go_enter Tryz.func44, Tryz.ntmps44
    go_wp2
    go_loopw [1, 8] (fun tn ti wr => ∃ (i : Nat) (n1 : Int), i ≤ cn ∧ tn = .int .i64 n1 ∧ ti = .int .i64 i ∧ 0 ≤ n1 ∧ n1 ≤ n + condsN (conds.take i) ∧ Hid (firstEs (absL (conds.take i)) d = 0) ∧ Below w.heap.size w wr) (fun _ ti _ => cn - (intOf ti).toNat)
    case atStart => exact ⟨0, n, by omega, rfl, rfl, by omega, by simp [condsN], Lib.hid (by simp [absL, firstEs]), Below.refl _ _⟩
    case round =>
      obtain ⟨i, n1, hi, rfl, rfl, hn1, hn2, HT, hb⟩ := hrel
      by_cases hlt : i < cn
      · obtain ⟨x, hx⟩ : ∃ x, conds[i]? = some x := ⟨_, List.getElem?_eq_getElem (by rw [HCL.out]; exact hlt)⟩
        have hm := List.mem_of_getElem? hx
        have hza := condsN_stop hx
        have hkn := condN_kids x
        have hsn := condsN_snoc hx
        obtain ⟨g, o, rfl, hcell⟩ := (HS.out.kept hb).row_at condR_len (by omega) hx
        have hxm := (HC.out x hm).kept hb
        obtain ⟨xca, xcn, xcc, hx6, hxs, hxc⟩ := hxm.kids
        have hCE := fun W (hW : Below wr.heap.size wr W) => rCond_any x d W (hxm.kept hW)
        have hI := fun W (hW : Below wr.heap.size wr W) => HIH.out x.kids (by omega) xca xcn xcc (n1 + 1) (d + 1) W (hxs.kept hW) (fun c h => (hxc c h).kept hW) (by omega) (by omega) (by omega) (by omega)
        have hZ := fun W (hW : Below wr.heap.size wr W) => rSize_any (condsN x.kids + 1) x.kids (by omega) (by omega) xca xcn xcc W (hxs.kept hW) (fun c h => (hxc c h).kept hW)
        have HTK := Lib.hid (firstEs_take (d := d) hx HT.out)
        have HHT := Lib.hid (firstEs_hit (d := d) hx HT.out)
        have HFK := Lib.hid (firstE_kids x d)
        have HXX := Lib.hid hx
        have hk1 : 0 ≤ n1 + (1 + (condsN x.kids : Int)) ∧ n1 + (1 + (condsN x.kids : Int)) ≤ n + condsN (conds.take (i + 1)) ∧ n1 + (1 + (condsN x.kids : Int)) ≤ 1000000 := by omega
        obtain ⟨hk1, hk2, hk3⟩ := hk1
        have HK2 := Lib.hid hk2
        generalize condsN x.kids = K at hZ hk1 hk3 HK2
        generalize firstEs (absL x.kids) (d + 1) = F at hI HFK
        generalize condE x.abs d = C at hCE HFK
        generalize firstE x.abs d = X at HTK HHT HFK
        obtain ⟨xk, xg, xi, xaa, xan, xac, xat, xva, xvn, xvc, xvl, xacc, xca', xcn', xcc', xcs⟩ := x
        obtain ⟨c0, c1, c2, c3, c4, c5, c6⟩ := seven_cells hcell
        have hg := World.block_lt_of_cell? wr _ c0
        simp only at hg
        simp only [CondR.cells, List.getElem?_cons_succ, List.getElem?_cons_zero, Option.some.injEq, Value.slice.injEq] at hx6
        obtain ⟨rfl, rfl, rfl⟩ := hx6
        unfold CondR.val at hCE
        simp only at hCE
        have HCE := Lib.hid hCE
        have HI := Lib.hid hI
        have HZ := Lib.hid hZ
        clear hx hm hcell hxs hxc hI hZ hkn hza hsn hk2 hCE hxm
        by_cases hC0 : C = 0
        · have HX : Hid (X = F) := Lib.hid (by rw [HFK.out, if_pos hC0])
          subst hC0
          by_cases hF0 : F = 0
          · subst hF0
            have HTK2 := Lib.hid (HTK.out HX.out)
            clear HTK HHT
            go_wp2_with (first | (go_at_call 69; refine (HCE.out _ (Below.refl _ _)).mono ?_; rintro e w2 ⟨rfl, b2⟩; have d6 := (b2.cell (p := ⟨g, o + i * 7 + 6, none⟩) hg).trans c6; have B2 := Lib.hid b2; clear b2) | (go_at_call 44; refine (HI.out _ B2.out).mono ?_; rintro e w3 ⟨⟨k3, rfl⟩, b3⟩; have B3 := Lib.hid (below_trans B2.out b3); have e6 := (B3.out.cell (p := ⟨g, o + i * 7 + 6, none⟩) hg).trans c6; clear b3) | (go_at_call 43; refine (HZ.out _ B3.out).mono ?_; rintro e w4 ⟨rfl, rfl⟩))
            go_roundw
            case rel => exact ⟨i + 1, _, by omega, rfl, by go_num, hk1, HK2.out, HTK2, hb.trans (B3.out.mono hb.size)⟩
            case measure => simp [intOf]; omega
          · have HR : Hid (firstEs (absL conds) d = F) := Lib.hid (by rw [HHT.out (by rw [HX.out]; exact hF0), HX.out])
            have f1 : (F != 0) = true := by simp [hF0]
            have f0 : (F == 0) = false := by simp [hF0]
            clear hF0
            go_wp2_with (first | (go_at_call 69; refine (HCE.out _ (Below.refl _ _)).mono ?_; rintro e w2 ⟨rfl, b2⟩; have d6 := (b2.cell (p := ⟨g, o + i * 7 + 6, none⟩) hg).trans c6; have B2 := Lib.hid b2; clear b2) | (go_at_call 44; refine (HI.out _ B2.out).mono ?_; rintro e w3 ⟨⟨k3, rfl⟩, b3⟩; have B3 := Lib.hid (below_trans B2.out b3); clear b3))
            go_ret2
            exact ⟨⟨_, by rw [HR.out]; rfl⟩, hb.trans (B3.out.mono hb.size)⟩
        · have HX : Hid (X = C) := Lib.hid (by rw [HFK.out, if_neg hC0])
          have HR : Hid (firstEs (absL conds) d = C) := Lib.hid (by rw [HHT.out (by rw [HX.out]; exact hC0), HX.out])
          have f1 : (C != 0) = true := by simp [hC0]
          have f0 : (C == 0) = false := by simp [hC0]
          clear hC0
          go_wp2_with (go_at_call 69; refine (HCE.out _ (Below.refl _ _)).mono ?_; rintro e w2 ⟨rfl, b2⟩; have B2 := Lib.hid b2; clear b2)
          go_ret2
          exact ⟨⟨_, by rw [HR.out]; rfl⟩, hb.trans (B2.out.mono hb.size)⟩
      · obtain rfl : i = cn := by omega
        have htk : Hid (firstEs (absL conds) d = 0) := Lib.hid (by have := HT.out; rwa [List.take_of_length_le (by rw [HCL.out]; omega)] at this)
        go_wp2
        go_ret2
        exact ⟨⟨_, by rw [htk.out]; rfl⟩, hb⟩
end Go.Proofs.YtgeaccoobhigcaaGreat
namespace Go.Proofs.YtgeaccoobhigcaaGreat
open Go Go.RowKit
theorem past2 (w : World) (o1 o2 : Obj) {b : Nat} (h : b < w.heap.size) (j : Nat) : ((w.alloc o1).alloc o2).cell? ⟨b, j, none⟩ = w.cell? ⟨b, j, none⟩ :=
  (below_trans (below_new w o1) (below_new _ o2)).cell (p := ⟨b, j, none⟩) h
theorem stE_new (w3 : World) : StE w3 (w3.heap.size + 1) w3.heap.size (0, -1) ((w3.alloc (.cells #[.int .i64 (-1)] 3)).alloc (.cells #[.int .i64 0] 27)) := by
  have h1 := Boxed.new w3 3 (.int .i64 (-1))
  have h2 := Boxed.new (w3.alloc (.cells #[.int .i64 (-1)] 3)) 27 (.int .i64 0)
  rw [World.size_alloc] at h2
  exact ⟨below_trans (below_new _ _) (below_new _ _), h2, h1.alloc _, by omega, by omega, Nat.le_refl _⟩
set_option maxRecDepth 100000 in
set_option maxHeartbeats 8000000 in
theorem shShape_bad (p : ProdR) (w : World) (h : p.Mem w) (hn : condsN p.conds ≤ 1000000) (hyp : ¬ (1 ≤ condsN p.conds ∧ condsN p.conds ≤ 16 ∧ 1 ≤ p.an ∧ p.an ≤ 16)) : Calls Tryz.prog 34 #[p.val] w fun e w' => ErrIs (shapeE p.abs) e ∧ Below w.heap.size w w' := by
  obtain ⟨hname, hsc, hco, hsa, hac⟩ := h
  obtain ⟨name, ca, cn, cc, conds, aa, an, ac, acts⟩ := p
  unfold ProdR.val shapeE ProdR.abs
  simp only at hname hsc hco hsa hac hn hyp ⊢
  have hal := actsMem_len hsa
  rw [hal, ← condsN_abs]
  have hW := fun w => word_any name hname w
  generalize wordB name.data.toList = W at hW ⊢
  obtain ⟨E, hE⟩ : ∃ E, E = shapeEq W (condsN conds) an (firstEs (absL conds) 0) (acts.all actB) := ⟨_, rfl⟩
  rw [← hE]
  have hmf : ∀ (fn : Fn) (first cap : Array Value) (w : World), (Instr.makeFunc fn first cap).run Tryz.prog w = .ok (.func fn first cap) w := fun _ _ _ _ => rfl
  have HE := Lib.hid hE
  have HW := Lib.hid hW
  have HAL := Lib.hid hal
  have hb0 := below_new w (.cells #[.string name, .slice ca cn cc, .slice aa an ac] 26)
  have HB0 := Lib.hid hb0
  clear hE hW hal
  rcases W with _ | _
  · obtain rfl : E = 2 := by rw [HE.out]; simp [shapeEq]
    clear HE
    go_enter Tryz.func34, Tryz.ntmps34
    go_wp2_with (go_at_call 54; refine (HW.out _).mono ?_; rintro e w2 ⟨rfl, rfl⟩)
    go_ret2
    exact ⟨⟨_, rfl⟩, HB0.out⟩
  · have hstn : StN (w.alloc (.cells #[.string name, .slice ca cn cc, .slice aa an ac] 26)) (w.heap.size + 1) 0 ((w.alloc (.cells #[.string name, .slice ca cn cc, .slice aa an ac] 26)).alloc (.cells #[.int .i64 0] 3)) := by
      refine ⟨below_new _ _, ?_, by simp⟩
      have := Boxed.new (w.alloc (.cells #[.string name, .slice ca cn cc, .slice aa an ac] 26)) 3 (.int .i64 0)
      rwa [World.size_alloc] at this
    obtain ⟨N, hN1, hN2, r, q, hwk⟩ := walkN (hsc.kept hb0) (fun c hc => (hco c hc).kept hb0) hn (w.heap.size + 1) _ hstn
    have HWK := Lib.hid hwk
    have HN1 := Lib.hid hN1
    have HN2 := Lib.hid hN2
    clear hwk hN1 hN2 hstn hb0
    rcases (show (N < 1) ∨ (¬ N < 1 ∧ 16 < N) ∨ (¬ N < 1 ∧ ¬ 16 < N) by omega) with g1 | ⟨g1, g2⟩ | ⟨g1, g2⟩
    · obtain rfl : E = 7 := by rw [HE.out]; simp [shapeEq, HN1.out.1 g1]
      clear HE
      go_enter Tryz.func34, Tryz.ntmps34
      go_wp2_with (first | (go_at_call 54; refine (HW.out _).mono ?_; rintro e w2 ⟨rfl, rfl⟩) | (go_at_call 55; refine HWK.out.mono ?_; rintro e w3 ⟨rfl, hst3⟩; have x3 := hst3.box.cell; have HST3 := Lib.hid hst3; clear hst3))
      go_ret2
      exact ⟨⟨_, rfl⟩, HB0.out.trans (HST3.out.below.mono HB0.out.size)⟩
    · obtain rfl : E = 7 := by rw [HE.out]; simp [shapeEq, HN2.out.1 g2]
      clear HE
      go_enter Tryz.func34, Tryz.ntmps34
      go_wp2_with (first | (go_at_call 54; refine (HW.out _).mono ?_; rintro e w2 ⟨rfl, rfl⟩) | (go_at_call 55; refine HWK.out.mono ?_; rintro e w3 ⟨rfl, hst3⟩; have x3 := hst3.box.cell; have HST3 := Lib.hid hst3; clear hst3))
      go_ret2
      exact ⟨⟨_, rfl⟩, HB0.out.trans (HST3.out.below.mono HB0.out.size)⟩
    · have hc1 : ¬ condsN conds < 1 := fun h => g1 (HN1.out.2 h)
      have hc2 : ¬ 16 < condsN conds := fun h => g2 (HN2.out.2 h)
      rcases (show ((an : Int) < 1) ∨ (¬ (an : Int) < 1 ∧ 16 < (an : Int)) ∨ (¬ (an : Int) < 1 ∧ ¬ 16 < (an : Int)) by omega) with g3 | ⟨g3, g4⟩ | ⟨g3, g4⟩
      · obtain rfl : E = 7 := by rw [HE.out]; simp [shapeEq]; omega
        clear HE hc1 hc2
        go_enter Tryz.func34, Tryz.ntmps34
        go_wp2_with (first | (go_at_call 54; refine (HW.out _).mono ?_; rintro e w2 ⟨rfl, rfl⟩) | (go_at_call 55; refine HWK.out.mono ?_; rintro e w3 ⟨rfl, hst3⟩; have x3 := hst3.box.cell; have x2 := (BoxC.below (BoxC.new w [.string name, .slice ca cn cc, .slice aa an ac] 26) hst3.below).at_ (j := 2) rfl; have HST3 := Lib.hid hst3; clear hst3))
        go_ret2
        exact ⟨⟨_, rfl⟩, HB0.out.trans (HST3.out.below.mono HB0.out.size)⟩
      · obtain rfl : E = 7 := by rw [HE.out]; simp [shapeEq]; omega
        clear HE hc1 hc2
        go_enter Tryz.func34, Tryz.ntmps34
        go_wp2_with (first | (go_at_call 54; refine (HW.out _).mono ?_; rintro e w2 ⟨rfl, rfl⟩) | (go_at_call 55; refine HWK.out.mono ?_; rintro e w3 ⟨rfl, hst3⟩; have x3 := hst3.box.cell; have x2 := (BoxC.below (BoxC.new w [.string name, .slice ca cn cc, .slice aa an ac] 26) hst3.below).at_ (j := 2) rfl; have HST3 := Lib.hid hst3; clear hst3))
        go_ret2
        exact ⟨⟨_, rfl⟩, HB0.out.trans (HST3.out.below.mono HB0.out.size)⟩
      · exfalso; omega
set_option maxRecDepth 100000 in
set_option maxHeartbeats 8000000 in
theorem shShape_err (p : ProdR) (w : World) (h : p.Mem w) (hn : condsN p.conds ≤ 1000000) (hyp : (1 ≤ condsN p.conds ∧ condsN p.conds ≤ 16 ∧ 1 ≤ p.an ∧ p.an ≤ 16)) (hf : firstEs (absL p.conds) 0 ≠ 0) : Calls Tryz.prog 34 #[p.val] w fun e w' => ErrIs (shapeE p.abs) e ∧ Below w.heap.size w w' := by
  obtain ⟨hname, hsc, hco, hsa, hac⟩ := h
  obtain ⟨name, ca, cn, cc, conds, aa, an, ac, acts⟩ := p
  unfold ProdR.val shapeE ProdR.abs
  simp only at hname hsc hco hsa hac hn hyp hf ⊢
  have hal := actsMem_len hsa
  rw [hal, ← condsN_abs]
  have hW := fun w => word_any name hname w
  generalize wordB name.data.toList = W at hW ⊢
  obtain ⟨E, hE⟩ : ∃ E, E = shapeEq W (condsN conds) an (firstEs (absL conds) 0) (acts.all actB) := ⟨_, rfl⟩
  rw [← hE]
  have hmf : ∀ (fn : Fn) (first cap : Array Value) (w : World), (Instr.makeFunc fn first cap).run Tryz.prog w = .ok (.func fn first cap) w := fun _ _ _ _ => rfl
  have HE := Lib.hid hE
  have HW := Lib.hid hW
  have HAL := Lib.hid hal
  have hb0 := below_new w (.cells #[.string name, .slice ca cn cc, .slice aa an ac] 26)
  have HB0 := Lib.hid hb0
  clear hE hW hal
  rcases W with _ | _
  · obtain rfl : E = 2 := by rw [HE.out]; simp [shapeEq]
    clear HE
    go_enter Tryz.func34, Tryz.ntmps34
    go_wp2_with (go_at_call 54; refine (HW.out _).mono ?_; rintro e w2 ⟨rfl, rfl⟩)
    go_ret2
    exact ⟨⟨_, rfl⟩, HB0.out⟩
  · have hstn : StN (w.alloc (.cells #[.string name, .slice ca cn cc, .slice aa an ac] 26)) (w.heap.size + 1) 0 ((w.alloc (.cells #[.string name, .slice ca cn cc, .slice aa an ac] 26)).alloc (.cells #[.int .i64 0] 3)) := by
      refine ⟨below_new _ _, ?_, by simp⟩
      have := Boxed.new (w.alloc (.cells #[.string name, .slice ca cn cc, .slice aa an ac] 26)) 3 (.int .i64 0)
      rwa [World.size_alloc] at this
    obtain ⟨N, hN1, hN2, r, q, hwk⟩ := walkN (hsc.kept hb0) (fun c hc => (hco c hc).kept hb0) hn (w.heap.size + 1) _ hstn
    have HWK := Lib.hid hwk
    have HN1 := Lib.hid hN1
    have HN2 := Lib.hid hN2
    clear hwk hN1 hN2 hstn hb0
    rcases (show (N < 1) ∨ (¬ N < 1 ∧ 16 < N) ∨ (¬ N < 1 ∧ ¬ 16 < N) by omega) with g1 | ⟨g1, g2⟩ | ⟨g1, g2⟩
    · exact absurd (HN1.out.1 g1) (by omega)
    · exact absurd (HN2.out.1 g2) (by omega)
    · have hc1 : ¬ condsN conds < 1 := fun h => g1 (HN1.out.2 h)
      have hc2 : ¬ 16 < condsN conds := fun h => g2 (HN2.out.2 h)
      have g3 : ¬ (an : Int) < 1 := by omega
      have g4 : ¬ 16 < (an : Int) := by omega
      clear hyp
      have HE2 : Hid (E = if firstEs (absL conds) 0 ≠ 0 then firstEs (absL conds) 0 else if acts.all actB = false then 9 else 0) := Lib.hid (by rw [HE.out]; unfold shapeEq; rw [if_neg (by simp), if_neg (by omega)])
      have HSC := Lib.hid hsc
      have HCO := Lib.hid hco
      have HSA := Lib.hid hsa
      have HAC := Lib.hid hac
      obtain ⟨F, hF⟩ : ∃ F, firstEs (absL conds) 0 = F := ⟨_, rfl⟩
      have hcap := hsa.2.1
      have hmx := hsa.2.2.1
      unfold maxLen at hmx
      rw [hF] at HE2
      clear HE hc1 hc2 hsc hco hsa hac
      have tok : True := trivial
      have hF0 : F ≠ 0 := by rw [← hF]; exact hf
      clear hf
      obtain rfl : E = F := by rw [HE2.out, if_pos hF0]
      have e1 : (E != 0) = true := by simp [hF0]
      have e0 : (E == 0) = false := by simp [hF0]
      clear HE2 hF0
      have HF := Lib.hid hF
      clear hF
      go_enter Tryz.func34, Tryz.ntmps34
      go_wp2_with (first | (go_at_call 54; refine (HW.out _).mono ?_; rintro e w2 ⟨rfl, rfl⟩) | (go_at_call 55; have _t := tok; refine HWK.out.mono ?_; rintro e w3 ⟨rfl, hst3⟩; have x3 := hst3.box.cell; have hz3 : w.heap.size + 1 < w3.heap.size := hst3.box.lt; have hz4 : w.heap.size < w3.heap.size := Nat.lt_trans (Nat.lt_succ_self _) hz3; have u1 := past2 w3 (.cells #[.int .i64 (-1)] 3) (.cells #[.int .i64 0] 27) hz4; have B3 := BoxC.below (BoxC.new w [.string name, .slice ca cn cc, .slice aa an ac] 26) hst3.below; have x1 := B3.at_ (j := 1) rfl; have x2 := B3.at_ (j := 2) rfl; have HB3 := Lib.hid B3; have HBB := Lib.hid (HB0.out.trans (hst3.below.mono HB0.out.size)); obtain ⟨r2, k, q2, hwe⟩ := walkE (HSC.out.kept HBB.out) (fun c hc => (HCO.out c hc).kept HBB.out) hn (w3.heap.size + 1) w3.heap.size _ (stE_new w3); have HWE := Lib.hid hwe; have HST3 := Lib.hid hst3; clear hst3 hwe B3 tok) | (go_at_call 55; refine HWE.out.mono ?_; rintro e w4 ⟨rfl, hst4⟩; rw [HF.out] at hst4; have y1 := hst4.e.cell; have y2 := hst4.p.cell; have z2 := (BoxC.below HB3.out hst4.below).at_ (j := 2) rfl; have z3 := (boxed_below HST3.out.box hst4.below).cell; have HX4 := Lib.hid (boxed_below HST3.out.box hst4.below); have HBB4 := Lib.hid (HBB.out.trans (hst4.below.mono HBB.out.size)); clear hst4))
      go_quiet (fail)
      go_wp2
      go_ret2
      exact ⟨⟨_, rfl⟩, below_drew HBB4.out _⟩
set_option maxRecDepth 100000 in
set_option maxHeartbeats 8000000 in
theorem shShape_fine (p : ProdR) (w : World) (h : p.Mem w) (hn : condsN p.conds ≤ 1000000) (hyp : (1 ≤ condsN p.conds ∧ condsN p.conds ≤ 16 ∧ 1 ≤ p.an ∧ p.an ≤ 16)) (hf : firstEs (absL p.conds) 0 = 0) : Calls Tryz.prog 34 #[p.val] w fun e w' => ErrIs (shapeE p.abs) e ∧ Below w.heap.size w w' := by
  obtain ⟨hname, hsc, hco, hsa, hac⟩ := h
  obtain ⟨name, ca, cn, cc, conds, aa, an, ac, acts⟩ := p
  unfold ProdR.val shapeE ProdR.abs
  simp only at hname hsc hco hsa hac hn hyp hf ⊢
  have hal := actsMem_len hsa
  rw [hal, ← condsN_abs]
  have hW := fun w => word_any name hname w
  generalize wordB name.data.toList = W at hW ⊢
  obtain ⟨E, hE⟩ : ∃ E, E = shapeEq W (condsN conds) an (firstEs (absL conds) 0) (acts.all actB) := ⟨_, rfl⟩
  rw [← hE]
  have hmf : ∀ (fn : Fn) (first cap : Array Value) (w : World), (Instr.makeFunc fn first cap).run Tryz.prog w = .ok (.func fn first cap) w := fun _ _ _ _ => rfl
  have HE := Lib.hid hE
  have HW := Lib.hid hW
  have HAL := Lib.hid hal
  have hb0 := below_new w (.cells #[.string name, .slice ca cn cc, .slice aa an ac] 26)
  have HB0 := Lib.hid hb0
  clear hE hW hal
  rcases W with _ | _
  · obtain rfl : E = 2 := by rw [HE.out]; simp [shapeEq]
    clear HE
    go_enter Tryz.func34, Tryz.ntmps34
    go_wp2_with (go_at_call 54; refine (HW.out _).mono ?_; rintro e w2 ⟨rfl, rfl⟩)
    go_ret2
    exact ⟨⟨_, rfl⟩, HB0.out⟩
  · have hstn : StN (w.alloc (.cells #[.string name, .slice ca cn cc, .slice aa an ac] 26)) (w.heap.size + 1) 0 ((w.alloc (.cells #[.string name, .slice ca cn cc, .slice aa an ac] 26)).alloc (.cells #[.int .i64 0] 3)) := by
      refine ⟨below_new _ _, ?_, by simp⟩
      have := Boxed.new (w.alloc (.cells #[.string name, .slice ca cn cc, .slice aa an ac] 26)) 3 (.int .i64 0)
      rwa [World.size_alloc] at this
    obtain ⟨N, hN1, hN2, r, q, hwk⟩ := walkN (hsc.kept hb0) (fun c hc => (hco c hc).kept hb0) hn (w.heap.size + 1) _ hstn
    have HWK := Lib.hid hwk
    have HN1 := Lib.hid hN1
    have HN2 := Lib.hid hN2
    clear hwk hN1 hN2 hstn hb0
    rcases (show (N < 1) ∨ (¬ N < 1 ∧ 16 < N) ∨ (¬ N < 1 ∧ ¬ 16 < N) by omega) with g1 | ⟨g1, g2⟩ | ⟨g1, g2⟩
    · exact absurd (HN1.out.1 g1) (by omega)
    · exact absurd (HN2.out.1 g2) (by omega)
    · have hc1 : ¬ condsN conds < 1 := fun h => g1 (HN1.out.2 h)
      have hc2 : ¬ 16 < condsN conds := fun h => g2 (HN2.out.2 h)
      have g3 : ¬ (an : Int) < 1 := by omega
      have g4 : ¬ 16 < (an : Int) := by omega
      clear hyp
      have HE2 : Hid (E = if firstEs (absL conds) 0 ≠ 0 then firstEs (absL conds) 0 else if acts.all actB = false then 9 else 0) := Lib.hid (by rw [HE.out]; unfold shapeEq; rw [if_neg (by simp), if_neg (by omega)])
      have HSC := Lib.hid hsc
      have HCO := Lib.hid hco
      have HSA := Lib.hid hsa
      have HAC := Lib.hid hac
      obtain ⟨F, hF⟩ : ∃ F, firstEs (absL conds) 0 = F := ⟨_, rfl⟩
      have hcap := hsa.2.1
      have hmx := hsa.2.2.1
      unfold maxLen at hmx
      rw [hF] at HE2
      clear HE hc1 hc2 hsc hco hsa hac
      have tok : True := trivial
      obtain rfl : F = 0 := by rw [← hF]; exact hf
      clear hf
      have HE3 : Hid (E = if acts.all actB = false then 9 else 0) := Lib.hid (by rw [HE2.out, if_neg (by simp)])
      clear HE2
      have HF := Lib.hid hF
      clear hF
      go_enter Tryz.func34, Tryz.ntmps34
      go_wp2_with (first | (go_at_call 54; refine (HW.out _).mono ?_; rintro e w2 ⟨rfl, rfl⟩) | (go_at_call 55; have _t := tok; refine HWK.out.mono ?_; rintro e w3 ⟨rfl, hst3⟩; have x3 := hst3.box.cell; have hz3 : w.heap.size + 1 < w3.heap.size := hst3.box.lt; have hz4 : w.heap.size < w3.heap.size := Nat.lt_trans (Nat.lt_succ_self _) hz3; have u1 := past2 w3 (.cells #[.int .i64 (-1)] 3) (.cells #[.int .i64 0] 27) hz4; have B3 := BoxC.below (BoxC.new w [.string name, .slice ca cn cc, .slice aa an ac] 26) hst3.below; have x1 := B3.at_ (j := 1) rfl; have x2 := B3.at_ (j := 2) rfl; have HB3 := Lib.hid B3; have HBB := Lib.hid (HB0.out.trans (hst3.below.mono HB0.out.size)); obtain ⟨r2, k, q2, hwe⟩ := walkE (HSC.out.kept HBB.out) (fun c hc => (HCO.out c hc).kept HBB.out) hn (w3.heap.size + 1) w3.heap.size _ (stE_new w3); have HWE := Lib.hid hwe; have HST3 := Lib.hid hst3; clear hst3 hwe B3 tok) | (go_at_call 55; refine HWE.out.mono ?_; rintro e w4 ⟨rfl, hst4⟩; rw [HF.out] at hst4; have y1 := hst4.e.cell; have y2 := hst4.p.cell; have z2 := (BoxC.below HB3.out hst4.below).at_ (j := 2) rfl; have z3 := (boxed_below HST3.out.box hst4.below).cell; have HX4 := Lib.hid (boxed_below HST3.out.box hst4.below); have HBB4 := Lib.hid (HBB.out.trans (hst4.below.mono HBB.out.size)); clear hst4))
      go_loopw [46] (fun ti wr => ∃ i : Nat, i ≤ an ∧ ti = .int .i64 i ∧ Hid ((acts.take i).all actB = true) ∧ Below w.heap.size w wr ∧ Boxed wr (w.heap.size + 1) 3 (.int .i64 N)) (fun ti _ => an - (intOf ti).toNat)
      case atStart => exact ⟨0, by omega, rfl, Lib.hid (by simp), HBB4.out, HX4.out⟩
      case round => as_aux_lemma =>
        obtain ⟨i, hi, rfl, HT, hb, hx⟩ := hrel
        have xn := hx.cell
        have HX := Lib.hid hx
        clear hx
        by_cases hlt : i < an
        · obtain ⟨a, ha⟩ : ∃ a, acts[i]? = some a := ⟨_, List.getElem?_eq_getElem (by rw [HAL.out]; exact hlt)⟩
          have hm := List.mem_of_getElem? ha
          obtain ⟨g, o, rfl, hcell⟩ := (HSA.out.kept hb).row_at ac_len (by omega) ha
          have HAT := Lib.hid (all_take (p := actB) ha)
          have HAF := Lib.hid (all_false (p := actB) ha)
          have hA := fun w => shAct_any a (HAC.out a hm) w
          have hcl : a.cells.length = 19 := rfl
          have hc1 : a.cells.toArray.all (·.oneCell') = true := by simp [Ac.cells, Am.cells, Sm.cells, Tm.cells, Value.oneCell']
          have hcc : ∀ j u, a.cells[j]? = some u → wr.cell? ((⟨g, o + i * 19, none⟩ : Addr).add j) = some u := fun j u h => by rw [addr_add_lit]; exact hcell j u h
          rw [show a.val = .agg a.cells.toArray from rfl] at hA
          generalize a.cells = C at hcl hc1 hcc hA
          have HA := Lib.hid hA
          have HCL := Lib.hid hcl
          have HC1 := Lib.hid hc1
          have HCC := Lib.hid hcc
          have HAA := Lib.hid ha
          have hzr : w.heap.size + 1 < wr.heap.size := HX.out.lt
          clear ha hA hcell hm hcl hc1 hcc
          rcases hB : actB a with _ | _
          · obtain rfl : E = 9 := by rw [HE3.out, HAF.out hB]; rfl
            rw [hB] at HA
            clear hB HE3
            go_wp2_with (first | (refine wpList_load_agg (o := ⟨some 50, _, _, _, _, _⟩) agg69 rfl _ rfl ⟨g, o + i * 19, none⟩ rfl C HCC.out HCL.out ?_) | (refine wpList_load_agg (o := ⟨some 51, _, _, _, _, _⟩) agg69 rfl _ rfl ⟨wr.heap.size, 0, none⟩ rfl C (new_cells wr C 51) HCL.out ?_) | (refine wpList_store_agg (o := ⟨none, .store 51 _ _, _, _, _, _⟩) agg69 rfl _ _ rfl C.toArray 51 _ rfl rfl (by simp [HCL.out]) rfl HC1.out ?_) | (go_at_call 59; refine (HA.out _).mono ?_; rintro e w5 ⟨rfl, b5⟩; have bb : Below wr.heap.size wr w5 := (below_new wr _).trans (b5.mono (by simp)); have xn5 := (boxed_below HX.out bb).cell))
            go_ret2
            exact ⟨⟨_, rfl⟩, hb.trans (bb.mono hb.size)⟩
          · have HAT2 : Hid ((acts.take (i + 1)).all actB = true) := Lib.hid (by rw [HAT.out, HT.out, hB]; rfl)
            rw [hB] at HA
            clear hB
            go_wp2_with (first | (refine wpList_load_agg (o := ⟨some 50, _, _, _, _, _⟩) agg69 rfl _ rfl ⟨g, o + i * 19, none⟩ rfl C HCC.out HCL.out ?_) | (refine wpList_load_agg (o := ⟨some 51, _, _, _, _, _⟩) agg69 rfl _ rfl ⟨wr.heap.size, 0, none⟩ rfl C (new_cells wr C 51) HCL.out ?_) | (refine wpList_store_agg (o := ⟨none, .store 51 _ _, _, _, _, _⟩) agg69 rfl _ _ rfl C.toArray 51 _ rfl rfl (by simp [HCL.out]) rfl HC1.out ?_) | (go_at_call 59; refine (HA.out _).mono ?_; rintro e w5 ⟨rfl, b5⟩; have bb : Below wr.heap.size wr w5 := (below_new wr _).trans (b5.mono (by simp)); have HX5 := Lib.hid (boxed_below HX.out bb)))
            go_roundw
            case rel => exact ⟨i + 1, by omega, by go_num, HAT2, hb.trans (bb.mono hb.size), HX5.out⟩
            case measure => simp [intOf]; omega
        · obtain rfl : i = an := by omega
          obtain rfl : E = 0 := by rw [HE3.out]; have := HT.out; rw [List.take_of_length_le (by rw [HAL.out]; omega)] at this; rw [this]; rfl
          clear HE3
          go_wp2
          go_ret2
          exact ⟨⟨_, rfl⟩, hb⟩
theorem shShape_any (p : ProdR) (w : World) (h : p.Mem w) (hn : condsN p.conds ≤ 1000000) : Calls Tryz.prog 34 #[p.val] w fun e w' => ErrIs (shapeE p.abs) e ∧ Below w.heap.size w w' := by
  by_cases hyp : 1 ≤ condsN p.conds ∧ condsN p.conds ≤ 16 ∧ 1 ≤ p.an ∧ p.an ≤ 16
  · by_cases hf : firstEs (absL p.conds) 0 = 0
    · exact shShape_fine p w h hn hyp hf
    · exact shShape_err p w h hn hyp hf
  · exact shShape_bad p w h hn hyp
end Go.Proofs.YtgeaccoobhigcaaGreat
namespace Go.Proofs.YtgeaccoobhigcaaGreat
open Go Go.RowKit
theorem ac_one (a : Ac) : a.cells.toArray.all (·.oneCell') = true := by simp [Ac.cells, Am.cells, Sm.cells, Tm.cells, Value.oneCell']
set_option maxRecDepth 100000 in
set_option maxHeartbeats 8000000 in
theorem rShape_any (p : ProdR) (w : World) (h : p.Mem w) (hn : condsN p.conds ≤ 1000000) : Calls Tryz.prog 21 #[p.val] w fun e w' => ErrIs (shapeE p.abs) e ∧ Below w.heap.size w w' := by
  obtain ⟨hname, hsc, hco, hsa, hac⟩ := h
  obtain ⟨name, ca, cn, cc, conds, aa, an, ac, acts⟩ := p
  unfold ProdR.val shapeE ProdR.abs
  simp only at hname hsc hco hsa hac hn ⊢
  have hal := actsMem_len hsa
  rw [hal, ← condsN_abs]
  have hW := fun w => rword_any name hname w
  generalize wordB name.data.toList = W at hW ⊢
  obtain ⟨E, hE⟩ : ∃ E, E = shapeEq W (condsN conds) an (firstEs (absL conds) 0) (acts.all actB) := ⟨_, rfl⟩
  rw [← hE]
  have hb0 := below_new w (.cells #[.string name, .slice ca cn cc, .slice aa an ac] 26)
  have hZ := rSize_any (condsN conds + 1) conds (by omega) hn ca cn cc _ (hsc.kept hb0) (fun c h => (hco c h).kept hb0)
  have hI := rConds_any (condsN conds + 1) conds (by omega) ca cn cc 0 0 _ (hsc.kept hb0) (fun c h => (hco c h).kept hb0) (by omega) (by omega) (by omega) (by omega)
  have hbx := BoxC.new w [.string name, .slice ca cn cc, .slice aa an ac] 26
  have hcap := hsa.2.1
  have hmx := hsa.2.2.1
  unfold maxLen at hmx
  generalize firstEs (absL conds) 0 = F at hI hE
  have HE := Lib.hid hE
  have HW := Lib.hid hW
  have HAL := Lib.hid hal
  have HZ := Lib.hid hZ
  have HI := Lib.hid hI
  have HSA := Lib.hid hsa
  have HAC := Lib.hid hac
  have HB0 := Lib.hid hb0
  have HBX : Hid (BoxC (w.alloc (.cells #[.string name, .slice ca cn cc, .slice aa an ac] 26)) w.heap.size 26 [.string name, .slice ca cn cc, .slice aa an ac]) := Lib.hid hbx
  have hlz : w.heap.size < (w.alloc (.cells #[.string name, .slice ca cn cc, .slice aa an ac] 26)).heap.size := by simp
  clear hE hW hal hZ hI hsc hco hsa hac hb0 hbx
  generalize condsN conds = M at HZ HE hn
  rcases W with _ | _
  · obtain rfl : E = 2 := by rw [HE.out]; simp [shapeEq]
    clear HE
    go_enter Tryz.func21, Tryz.ntmps21
    go_wp2_with (go_at_call 42; refine (HW.out _).mono ?_; rintro e w2 ⟨rfl, rfl⟩)
    go_ret2
    exact ⟨⟨_, rfl⟩, HB0.out⟩
  · by_cases hbad : ((M : Int) < 1) ∨ (¬ (M : Int) < 1 ∧ 16 < (M : Int)) ∨ (¬ (M : Int) < 1 ∧ ¬ 16 < (M : Int) ∧ (an : Int) < 1) ∨ (¬ (M : Int) < 1 ∧ ¬ 16 < (M : Int) ∧ ¬ (an : Int) < 1 ∧ 16 < (an : Int))
    · obtain rfl : E = 7 := by rw [HE.out]; unfold shapeEq; rw [if_neg (by simp), if_pos (by omega)]
      clear HE
      rcases hbad with g1 | ⟨g1, g2⟩ | ⟨g1, g2, g3⟩ | ⟨g1, g2, g3, g4⟩
      all_goals
        go_enter Tryz.func21, Tryz.ntmps21
        go_wp2_with (first | (go_at_call 42; refine (HW.out _).mono ?_; rintro e w2 ⟨rfl, rfl⟩) | (go_at_call 43; refine HZ.out.mono ?_; rintro e w3 ⟨rfl, rfl⟩))
        go_ret2
        exact ⟨⟨_, rfl⟩, HB0.out⟩
    · have g1 : ¬ (M : Int) < 1 := by omega
      have g2 : ¬ 16 < (M : Int) := by omega
      have g3 : ¬ (an : Int) < 1 := by omega
      have g4 : ¬ 16 < (an : Int) := by omega
      have HE2 : Hid (E = if F ≠ 0 then F else if acts.all actB = false then 9 else 0) := Lib.hid (by rw [HE.out]; unfold shapeEq; rw [if_neg (by simp), if_neg (by omega)])
      clear HE hbad
      by_cases hF0 : F = 0
      · subst hF0
        have HE3 : Hid (E = if acts.all actB = false then 9 else 0) := Lib.hid (by rw [HE2.out, if_neg (by simp)])
        clear HE2
        go_enter Tryz.func21, Tryz.ntmps21
        go_wp2_with (first | (go_at_call 42; refine (HW.out _).mono ?_; rintro e w2 ⟨rfl, rfl⟩) | (go_at_call 43; refine HZ.out.mono ?_; rintro e w3 ⟨rfl, rfl⟩) | (go_at_call 44; refine HI.out.mono ?_; rintro e w4 ⟨⟨k4, rfl⟩, b4⟩; have HB4 := Lib.hid (below_trans HB0.out b4); have HX4 := Lib.hid (HBX.out.below b4); clear b4))
        go_loopw [7] (fun ti wr => ∃ i : Nat, i ≤ an ∧ ti = .int .i64 i ∧ Hid ((acts.take i).all actB = true) ∧ Below w.heap.size w wr ∧ Hid (BoxC wr w.heap.size 26 [.string name, .slice ca cn cc, .slice aa an ac])) (fun ti _ => an - (intOf ti).toNat)
        case atStart => exact ⟨0, by omega, rfl, Lib.hid (by simp), HB4.out, HX4⟩
        case round => as_aux_lemma =>
          obtain ⟨i, hi, rfl, HT, hb, HX⟩ := hrel
          have x2 := HX.out.at_ (j := 2) rfl
          by_cases hlt : i < an
          · obtain ⟨a, ha⟩ : ∃ a, acts[i]? = some a := ⟨_, List.getElem?_eq_getElem (by rw [HAL.out]; exact hlt)⟩
            have hm := List.mem_of_getElem? ha
            obtain ⟨g, o, rfl, hcell⟩ := (HSA.out.kept hb).row_at ac_len (by omega) ha
            have HAT := Lib.hid (all_take (p := actB) ha)
            have HAF := Lib.hid (all_false (p := actB) ha)
            have hA := fun w => rAct_any a (HAC.out a hm) w
            have hcl : a.cells.length = 19 := rfl
            have hc1 := ac_one a
            have hcc : ∀ j u, a.cells[j]? = some u → wr.cell? ((⟨g, o + i * 19, none⟩ : Addr).add j) = some u := fun j u h => by rw [addr_add_lit]; exact hcell j u h
            rw [show a.val = .agg a.cells.toArray from rfl] at hA
            generalize a.cells = C at hcl hc1 hcc hA
            have HA := Lib.hid hA
            have HCL := Lib.hid hcl
            have HC1 := Lib.hid hc1
            have HCC := Lib.hid hcc
            have HAA := Lib.hid ha
            clear ha hA hcell hm hcl hc1 hcc
            rcases hB : actB a with _ | _
            · obtain rfl : E = 9 := by rw [HE3.out, HAF.out hB]; rfl
              rw [hB] at HA
              clear hB HE3
              go_wp2_with (first | (refine wpList_load_agg (o := ⟨some 54, _, _, _, _, _⟩) agg69 rfl _ rfl ⟨g, o + i * 19, none⟩ rfl C HCC.out HCL.out ?_) | (go_at_call 45; refine (HA.out _).mono ?_; rintro e w5 ⟨rfl, b5⟩))
              go_ret2
              exact ⟨⟨_, rfl⟩, hb.trans (b5.mono hb.size)⟩
            · have HAT2 : Hid ((acts.take (i + 1)).all actB = true) := Lib.hid (by rw [HAT.out, HT.out, hB]; rfl)
              rw [hB] at HA
              clear hB
              go_wp2_with (first | (refine wpList_load_agg (o := ⟨some 54, _, _, _, _, _⟩) agg69 rfl _ rfl ⟨g, o + i * 19, none⟩ rfl C HCC.out HCL.out ?_) | (go_at_call 45; refine (HA.out _).mono ?_; rintro e w5 ⟨rfl, b5⟩))
              go_roundw
              case rel => exact ⟨i + 1, by omega, by go_num, HAT2, hb.trans (b5.mono hb.size), Lib.hid (HX.out.below b5)⟩
              case measure => simp [intOf]; omega
          · obtain rfl : i = an := by omega
            obtain rfl : E = 0 := by rw [HE3.out]; have := HT.out; rw [List.take_of_length_le (by rw [HAL.out]; omega)] at this; rw [this]; rfl
            clear HE3
            go_wp2
            go_ret2
            exact ⟨⟨_, rfl⟩, hb⟩
      · obtain rfl : E = F := by rw [HE2.out, if_pos hF0]
        have e1 : (E != 0) = true := by simp [hF0]
        have e0 : (E == 0) = false := by simp [hF0]
        clear HE2 hF0
        go_enter Tryz.func21, Tryz.ntmps21
        go_wp2_with (first | (go_at_call 42; refine (HW.out _).mono ?_; rintro e w2 ⟨rfl, rfl⟩) | (go_at_call 43; refine HZ.out.mono ?_; rintro e w3 ⟨rfl, rfl⟩) | (go_at_call 44; refine HI.out.mono ?_; rintro e w4 ⟨⟨k4, rfl⟩, b4⟩; have HB4 := Lib.hid (below_trans HB0.out b4); clear b4))
        go_ret2
        exact ⟨⟨_, rfl⟩, HB4.out⟩
end Go.Proofs.YtgeaccoobhigcaaGreat
