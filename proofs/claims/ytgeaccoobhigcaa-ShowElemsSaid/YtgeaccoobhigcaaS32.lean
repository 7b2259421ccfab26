/-
  ponderref06.Size and conds.
-/
import Derived.Test.YtgeaccoobhigcaaS30
namespace Go.Proofs.Ytgeaccoobhigcaa
open Go Go.RowKit

theorem condsN_snoc {l : List CondR} {i : Nat} {x : CondR} (h : l[i]? = some x) : condsN (l.take (i + 1)) = condsN (l.take i) + condN x := by
  have ap : ∀ (a b : List CondR), condsN (a ++ b) = condsN a + condsN b := by
    intro a b
    induction a with
    | nil => simp [condsN]
    | cons c r ih => simp only [List.cons_append, condsN, ih]; omega
  rw [take_snoc2 h, ap]
  simp [condsN]
theorem CondR.cells6 (x : CondR) : ∃ ca cn cc, x.cells = x.cells.take 6 ++ [.slice ca cn cc] := by
  cases x; exact ⟨_, _, _, rfl⟩

set_option maxRecDepth 100000 in
set_option maxHeartbeats 4000000 in
theorem rSize_any : ∀ (n : Nat) (conds : List CondR), condsN conds < n → condsN conds ≤ 1000000 → ∀ (ca : Option Addr) (cn cc : Nat) (w : World), SlR w 7 ca cn cc (conds.flatMap CondR.cells) → (∀ c ∈ conds, c.Mem w) →
    Calls Try.prog 68 #[.slice ca cn cc] w fun e w' => e = .returned (.int .i64 (condsN conds)) ∧ w = w' := by
  intro n
  induction n with
  | zero => intro conds h; omega
  | succ n IH =>
    intro conds hn hM ca cn cc w hs hc
    have hcl := condsMem_len hs
    have hcap := hs.2.1
    have hmx := hs.2.2.1
    unfold maxLen at hmx
    have HCL := Lib.hid hcl
    have HIH := Lib.hid IH
    have HC := Lib.hid hc
    have HS := Lib.hid hs
    clear hcl IH hc hs
    go_enter Try.func68, Try.ntmps68
    go_wp2
    go_loop [3, 4] (fun tn ti => ∃ i : Nat, i ≤ cn ∧ tn = .int .i64 (condsN (conds.take i)) ∧ ti = .int .i64 i) (fun _ ti => cn - (intOf ti).toNat)
    case atStart => exact ⟨0, by omega, by simp [condsN], rfl⟩
    case round =>
      obtain ⟨i, hi, rfl, rfl⟩ := hrel
      by_cases hlt : i < cn
      · obtain ⟨x, hx⟩ : ∃ x, conds[i]? = some x := ⟨_, List.getElem?_eq_getElem (by rw [HCL.out]; exact hlt)⟩
        have hm := List.mem_of_getElem? hx
        have hza := condsN_stop hx
        have hkn := condN_kids x
        obtain ⟨g, o, rfl, hcell⟩ := HS.out.row_at condR_len (by omega) hx
        obtain ⟨xca, xcn, xcc, hx6, hxs, hxc⟩ := (HC.out x hm).kids
        have c6 := hcell 6 _ hx6
        have hI := HIH.out x.kids (by omega) (by omega) xca xcn xcc w hxs hxc
        have HSN := Lib.hid (condsN_snoc hx)
        have HKN := Lib.hid hkn
        have HXX := Lib.hid hx
        generalize condsN x.kids = K at hI hkn HKN
        have HI := Lib.hid hI
        clear hx hm hcell hx6 hxs hxc hI hkn
        have hb1 : condsN (conds.take i) + (1 + K) ≤ 1000000 := by have := HKN.out; omega
        clear hza
        go_wp2_with (go_at_call 68; refine HI.out.mono ?_; rintro e w2 ⟨rfl, rfl⟩)
        go_round
        case rel => exact ⟨i + 1, by omega, by rw [HSN.out, HKN.out]; go_num, by go_num⟩
        case measure => simp [intOf]; omega
      · obtain rfl : i = cn := by omega
        have htk : Hid (conds.take i = conds) := Lib.hid (List.take_of_length_le (by rw [HCL.out]; omega))
        go_wp2
        go_ret
        exact ⟨by rw [htk.out]; rfl, rfl⟩

theorem firstEs_pre {x : CondR} {d : Int} : ∀ (l : List CondR) (r : List CondR), firstEs (absL l) d = 0 → firstEs (absL (l ++ x :: r)) d = if firstE x.abs d = 0 then firstEs (absL r) d else firstE x.abs d
  | [], r, h => by simp only [List.nil_append, absL, firstEs]
  | c :: l, r, h => by
    simp only [List.cons_append, absL, firstEs] at h ⊢
    by_cases hc : firstE c.abs d = 0
    · rw [if_pos hc] at h ⊢
      exact firstEs_pre l r h
    · rw [if_neg hc] at h
      exact absurd h hc
theorem firstEs_take {x : CondR} {d : Int} {l : List CondR} {i : Nat} (hx : l[i]? = some x) (h : firstEs (absL (l.take i)) d = 0) (h2 : firstE x.abs d = 0) : firstEs (absL (l.take (i + 1))) d = 0 := by
  rw [take_snoc2 hx, firstEs_pre _ [] h, if_pos h2]; rfl
theorem firstEs_hit {x : CondR} {d : Int} {l : List CondR} {i : Nat} (hx : l[i]? = some x) (h : firstEs (absL (l.take i)) d = 0) (h2 : firstE x.abs d ≠ 0) : firstEs (absL l) d = firstE x.abs d := by
  rw [take_stop hx, firstEs_pre _ _ h, if_neg h2]
theorem firstE_kids (x : CondR) (d : Int) : firstE x.abs d = if condE x.abs d = 0 then firstEs (absL x.kids) (d + 1) else condE x.abs d := by
  cases x; simp only [CondR.abs, firstE, CondR.kids]; rfl

set_option maxRecDepth 100000 in
set_option maxHeartbeats 8000000 in
theorem rConds_any : ∀ (N : Nat) (conds : List CondR), condsN conds < N → ∀ (ca : Option Addr) (cn cc : Nat) (n d : Int) (w : World), SlR w 7 ca cn cc (conds.flatMap CondR.cells) → (∀ c ∈ conds, c.Mem w) → 0 ≤ n → n + condsN conds ≤ 1000000 → 0 ≤ d → d + condsN conds ≤ 1000000 →
    Calls Try.prog 69 #[.slice ca cn cc, .int .i64 n, .int .i64 d] w fun e w' => ErrIs (firstEs (absL conds) d) e ∧ Below w.heap.size w w' := by
  intro N
  induction N with
  | zero => intro conds h; omega
  | succ N IH =>
    intro conds hn ca cn cc n d w hs hc hn0 hnM hd0 hdM
    have hcl := condsMem_len hs
    have hcap := hs.2.1
    have hmx := hs.2.2.1
    unfold maxLen at hmx
    have HCL := Lib.hid hcl
    have HIH := Lib.hid IH
    have HC := Lib.hid hc
    have HS := Lib.hid hs
    clear hcl IH hc hs
    go_enter Try.func69, Try.ntmps69
    go_wp2
    go_loopw [1, 8] (fun tn ti wr => ∃ (i : Nat) (n1 : Int), i ≤ cn ∧ tn = .int .i64 n1 ∧ ti = .int .i64 i ∧ 0 ≤ n1 ∧ n1 ≤ n + condsN (conds.take i) ∧ Hid (firstEs (absL (conds.take i)) d = 0) ∧ Below w.heap.size w wr) (fun _ ti _ => cn - (intOf ti).toNat)
    case atStart => exact ⟨0, n, by omega, rfl, rfl, by omega, by simp [condsN], Lib.hid (by simp [absL, firstEs]), Below.refl _ _⟩
    case round =>
      obtain ⟨i, n1, hi, rfl, rfl, hn1, hn2, HT, hb⟩ := hrel
      by_cases hlt : i < cn
      · obtain ⟨x, hx⟩ : ∃ x, conds[i]? = some x := ⟨_, List.getElem?_eq_getElem (by rw [HCL.out]; exact hlt)⟩
        have hm := List.mem_of_getElem? hx
        have hza := condsN_stop hx
        have hkn := condN_kids x
        have hsn := condsN_snoc hx
        obtain ⟨g, o, rfl, hcell⟩ := (HS.out.kept hb).row_at condR_len (by omega) hx
        have hxm := (HC.out x hm).kept hb
        obtain ⟨xca, xcn, xcc, hx6, hxs, hxc⟩ := hxm.kids
        have hCE := fun W (hW : Below wr.heap.size wr W) => rCond_any x d W (hxm.kept hW)
        have hI := fun W (hW : Below wr.heap.size wr W) => HIH.out x.kids (by omega) xca xcn xcc (n1 + 1) (d + 1) W (hxs.kept hW) (fun c h => (hxc c h).kept hW) (by omega) (by omega) (by omega) (by omega)
        have hZ := fun W (hW : Below wr.heap.size wr W) => rSize_any (condsN x.kids + 1) x.kids (by omega) (by omega) xca xcn xcc W (hxs.kept hW) (fun c h => (hxc c h).kept hW)
        have HTK := Lib.hid (firstEs_take (d := d) hx HT.out)
        have HHT := Lib.hid (firstEs_hit (d := d) hx HT.out)
        have HFK := Lib.hid (firstE_kids x d)
        have HXX := Lib.hid hx
        have hk1 : 0 ≤ n1 + (1 + (condsN x.kids : Int)) ∧ n1 + (1 + (condsN x.kids : Int)) ≤ n + condsN (conds.take (i + 1)) ∧ n1 + (1 + (condsN x.kids : Int)) ≤ 1000000 := by omega
        obtain ⟨hk1, hk2, hk3⟩ := hk1
        have HK2 := Lib.hid hk2
        generalize condsN x.kids = K at hZ hk1 hk3 HK2
        generalize firstEs (absL x.kids) (d + 1) = F at hI HFK
        generalize condE x.abs d = C at hCE HFK
        generalize firstE x.abs d = X at HTK HHT HFK
        obtain ⟨xk, xg, xi, xaa, xan, xac, xat, xva, xvn, xvc, xvl, xacc, xca', xcn', xcc', xcs⟩ := x
        obtain ⟨c0, c1, c2, c3, c4, c5, c6⟩ := seven_cells hcell
        have hg := World.block_lt_of_cell? wr _ c0
        simp only at hg
        simp only [CondR.cells, List.getElem?_cons_succ, List.getElem?_cons_zero, Option.some.injEq, Value.slice.injEq] at hx6
        obtain ⟨rfl, rfl, rfl⟩ := hx6
        unfold CondR.val at hCE
        simp only at hCE
        have HCE := Lib.hid hCE
        have HI := Lib.hid hI
        have HZ := Lib.hid hZ
        clear hx hm hcell hxs hxc hI hZ hkn hza hsn hk2 hCE hxm
        by_cases hC0 : C = 0
        · have HX : Hid (X = F) := Lib.hid (by rw [HFK.out, if_pos hC0])
          subst hC0
          by_cases hF0 : F = 0
          · subst hF0
            have HTK2 := Lib.hid (HTK.out HX.out)
            clear HTK HHT
            go_wp2_with (first | (go_at_call 108; refine (HCE.out _ (Below.refl _ _)).mono ?_; rintro e w2 ⟨rfl, b2⟩; have d6 := (b2.cell (p := ⟨g, o + i * 7 + 6, none⟩) hg).trans c6; have B2 := Lib.hid b2; clear b2) | (go_at_call 69; refine (HI.out _ B2.out).mono ?_; rintro e w3 ⟨⟨k3, rfl⟩, b3⟩; have B3 := Lib.hid (below_trans B2.out b3); have e6 := (B3.out.cell (p := ⟨g, o + i * 7 + 6, none⟩) hg).trans c6; clear b3) | (go_at_call 68; refine (HZ.out _ B3.out).mono ?_; rintro e w4 ⟨rfl, rfl⟩))
            go_roundw
            case rel => exact ⟨i + 1, _, by omega, rfl, by go_num, hk1, HK2.out, HTK2, hb.trans (B3.out.mono hb.size)⟩
            case measure => simp [intOf]; omega
          · have HR : Hid (firstEs (absL conds) d = F) := Lib.hid (by rw [HHT.out (by rw [HX.out]; exact hF0), HX.out])
            have f1 : (F != 0) = true := by simp [hF0]
            have f0 : (F == 0) = false := by simp [hF0]
            clear hF0
            go_wp2_with (first | (go_at_call 108; refine (HCE.out _ (Below.refl _ _)).mono ?_; rintro e w2 ⟨rfl, b2⟩; have d6 := (b2.cell (p := ⟨g, o + i * 7 + 6, none⟩) hg).trans c6; have B2 := Lib.hid b2; clear b2) | (go_at_call 69; refine (HI.out _ B2.out).mono ?_; rintro e w3 ⟨⟨k3, rfl⟩, b3⟩; have B3 := Lib.hid (below_trans B2.out b3); clear b3))
            go_ret2
            exact ⟨⟨_, by rw [HR.out]; rfl⟩, hb.trans (B3.out.mono hb.size)⟩
        · have HX : Hid (X = C) := Lib.hid (by rw [HFK.out, if_neg hC0])
          have HR : Hid (firstEs (absL conds) d = C) := Lib.hid (by rw [HHT.out (by rw [HX.out]; exact hC0), HX.out])
          have f1 : (C != 0) = true := by simp [hC0]
          have f0 : (C == 0) = false := by simp [hC0]
          clear hC0
          go_wp2_with (go_at_call 108; refine (HCE.out _ (Below.refl _ _)).mono ?_; rintro e w2 ⟨rfl, b2⟩; have B2 := Lib.hid b2; clear b2)
          go_ret2
          exact ⟨⟨_, by rw [HR.out]; rfl⟩, hb.trans (B2.out.mono hb.size)⟩
      · obtain rfl : i = cn := by omega
        have htk : Hid (firstEs (absL conds) d = 0) := Lib.hid (by have := HT.out; rwa [List.take_of_length_le (by rw [HCL.out]; omega)] at this)
        go_wp2
        go_ret2
        exact ⟨⟨_, by rw [htk.out]; rfl⟩, hb⟩
end Go.Proofs.Ytgeaccoobhigcaa
