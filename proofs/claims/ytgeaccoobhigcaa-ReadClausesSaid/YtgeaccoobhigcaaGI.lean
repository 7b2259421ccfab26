/-
  A token as it is written; just blanks and remarks. Slices of ints as they read; what LexSpaces writes. The walk of the law ReadSpaces.
-/
import Derived.Test.YtgeaccoobhigcaaG9
import Derived.Test.YtgeaccoobhigcaaGA
import Derived.Test.YtgeaccoobhigcaaGV
import Derived.Test.YtgeaccoobhigcaaGF
namespace Go.Proofs.Ytgeaccoobhigcaa
open Go Go.RowKit

/-- The bytes that ponderlaw05.text makes of a token. -/
def txtT (t : Tk) : Bs := if t.kind = 3 then 60 :: (t.text ++ [62]) else t.text
theorem str_cat (a b c : Array UInt8) : (⟨a⟩ : ByteArray) ++ ⟨b⟩ ++ ⟨c⟩ = ⟨a ++ b ++ c⟩ := by
  apply ByteArray.ext
  simp

set_option maxHeartbeats 1000000 in
theorem textG_any (t : Tk) (X : ByteArray) (hX : Value.string X = strV (txtT t)) (hl : t.text.length ≤ 1099511627776) (w : World) :
    Calls Try.prog 29 #[.agg #[.int .i64 t.kind, .string ⟨t.text.toArray⟩, .int .i64 t.pos]] w fun e w' => e = .returned (.string X) ∧ Below w.heap.size w w' := by
  obtain ⟨kd, tx, ps⟩ := t
  simp only at hl ⊢
  by_cases h3 : kd = 3
  · have e3 : ((kd : Int) == 3) = true := by simp; omega
    have hX' : Ending.returned (.string X) = .returned (.string ((⟨#[60]⟩ : ByteArray) ++ ⟨tx.toArray⟩ ++ ⟨#[62]⟩)) := by
      rw [hX, str_cat]
      unfold txtT strV
      rw [if_pos h3]
      congr 3
      simp
    rw [hX']
    clear hX hX' h3
    have hz : (ByteArray.mk tx.toArray).size ≤ 1099511627776 := by show tx.toArray.size ≤ _; simpa using hl
    generalize ByteArray.mk tx.toArray = Y at hz ⊢
    go_enter Try.func29, Try.ntmps29
    go_wp2
    go_ret
    exact ⟨rfl, (Below.refl _ _).alloc (Nat.le_refl _) _⟩
  · have e3 : ((kd : Int) == 3) = false := by simp; omega
    have hX' : Ending.returned (.string X) = .returned (.string ⟨tx.toArray⟩) := by
      rw [hX]; unfold txtT strV; rw [if_neg h3]
    rw [hX']
    clear hX hX' h3
    generalize ByteArray.mk tx.toArray = Y
    go_enter Try.func29, Try.ntmps29
    go_wp2
    go_ret
    exact ⟨rfl, (Below.refl _ _).alloc (Nat.le_refl _) _⟩

set_option maxHeartbeats 1000000 in
theorem emptyG_any (s : ByteArray) (hs : s.size ≤ 1099511627776) (he : emptyG s.data.toList = true) (w : World) :
    Calls Try.prog 30 #[.string s] w fun e w' => e = .returned (.bool true) ∧ w' = w := by
  have h0 : skipN false (from_ s 0) = s.size := by
    unfold emptyG at he
    rw [from_zero]
    have := of_decide_eq_true he
    rw [this, size_toList]
  have H0 := Lib.hid h0
  clear h0 he
  go_enter Try.func30, Try.ntmps30
  go_wp2
  go_loop [3] (fun t => ∃ k : Nat, k ≤ s.size + 1 ∧ Hid (k ≤ s.size → skipN false (from_ s k) = s.size - k) ∧ t = .int .i64 k) (fun t => s.size - (intOf t).toNat)
  case atStart => exact ⟨0, by omega, Lib.hid (fun _ => H0.out), rfl⟩
  case round =>
    obtain ⟨k, hk, HK, rfl⟩ := hrel
    by_cases hlt : k < s.size
    · by_cases h35 : s[k].toNat = 35
      · have HY := Lib.hid (skip_mark s k hlt h35)
        have e35 : ((s[k].toNat : Int) == 35) = true := by simp; omega
        have HN := Lib.hid h35
        clear h35
        go_wp2
        go_loop [3] (fun t => ∃ m : Nat, k ≤ m ∧ m ≤ s.size ∧ Hid (skipN true (from_ s m) = s.size - m) ∧ t = .int .i64 m) (fun t => s.size - (intOf t).toNat)
        case atStart => exact ⟨k, Nat.le_refl _, by omega, Lib.hid (by rw [← HY.out]; exact HK.out (by omega)), rfl⟩
        case round =>
          obtain ⟨m, hkm, hm, HM, rfl⟩ := hrel
          by_cases hml : m < s.size
          · by_cases h10 : s[m].toNat = 10
            · have e10 : ((s[m].toNat : Int) != 10) = false := by simp; omega
              have HZ := Lib.hid (skip_out s m hml h10)
              have HB := Lib.hid (skip_blank s m hml (by simp [blankB, h10]))
              clear h10
              go_wp2
              go_round
              case rel => exact ⟨m + 1, by omega, Lib.hid (fun _ => by have := HM.out; have := HZ.out; have := HB.out; omega), by go_num⟩
              case measure => simp [intOf]; omega
            · have e10 : ((s[m].toNat : Int) != 10) = true := by simp; omega
              have HZ := Lib.hid (skip_in s m hml h10)
              clear h10
              go_wp2
              go_round
              case rel => exact ⟨m + 1, by omega, by omega, Lib.hid (by have := HM.out; have := HZ.out; omega), by go_num⟩
              case measure => simp [intOf]; omega
          · go_wp2
            go_round
            case rel => exact ⟨m + 1, by omega, Lib.hid (fun h => by omega), by go_num⟩
            case measure => simp [intOf]; omega
      · have e35 : ((s[k].toNat : Int) == 35) = false := by simp; omega
        have hb : blankB s[k] = true := by
          rcases hb : blankB s[k] with _ | _
          · have := skip_stop s k hlt hb h35
            have := HK.out (by omega)
            omega
          · rfl
        have HB := Lib.hid (skip_blank s k hlt hb)
        simp only [blankB, decide_eq_true_iff] at hb
        have b1 : ((s[k].toNat : Int) != 32) = false ∨ (((s[k].toNat : Int) != 32) = true ∧ ((s[k].toNat : Int) != 9) = false) ∨ (((s[k].toNat : Int) != 32) = true ∧ ((s[k].toNat : Int) != 9) = true ∧ ((s[k].toNat : Int) != 10) = false) ∨
          (((s[k].toNat : Int) != 32) = true ∧ ((s[k].toNat : Int) != 9) = true ∧ ((s[k].toNat : Int) != 10) = true ∧ ((s[k].toNat : Int) != 13) = false) := by simp; omega
        clear hb h35
        rcases b1 with b1 | ⟨b1, b2⟩ | ⟨b1, b2, b3⟩ | ⟨b1, b2, b3, b4⟩
        all_goals
          go_wp2
          go_round
          case rel => exact ⟨k + 1, by omega, Lib.hid (fun _ => by have := HK.out (by omega); have := HB.out; omega), by go_num⟩
          case measure => simp [intOf]; omega
    · go_wp2
      go_ret
      exact ⟨rfl, rfl⟩
end Go.Proofs.Ytgeaccoobhigcaa
namespace Go.Proofs.Ytgeaccoobhigcaa
open Go Go.RowKit

/-- A slice of ints. -/
def IntSl (w : World) (ao : Option Addr) (n cap : Nat) (xs : List Int) : Prop := SlR w 1 ao n cap (xs.map (Value.int .i64))

theorem IntSl.of_cells {w : World} {x : Addr} {len cap : Nat} {zs : List Int} (hl : len ≤ cap) (hm : cap ≤ maxLen) (hz : zs.length = cap)
    (hc : ∀ i, i < zs.length → w.cell? (x.add i) = some (.int .i64 (zs.getD i 0))) : IntSl w (some x) len cap (zs.take len) := by
  refine ⟨by simp; omega, hl, hm, by simp, fun a ha => ?_⟩
  cases ha
  intro j u hj
  rw [List.getElem?_map, List.getElem?_take] at hj
  split at hj
  · have hlt : j < zs.length := by omega
    rw [hc j hlt]
    rw [List.getElem?_eq_getElem hlt] at hj
    simp [List.getD, List.getElem?_eq_getElem hlt] at hj ⊢
    exact hj
  · simp at hj

/-- What stands between tokens, as the law has it. -/
def betw : List Bs := [[32], [10], [9, 32, 13], [32, 35, 32, 60, 120, 62, 32, 40, 10], [32, 32]]
def gapI (gs : List Int) (i : Nat) : Int := gs.getD i 0
def gapK (gs : List Int) (i : Nat) : Nat := (gapI gs i % 5).toNat
theorem gapK_lt (gs : List Int) (i : Nat) : gapK gs i < 5 := by
  unfold gapK
  have h1 := Int.emod_nonneg (gapI gs i) (show (5 : Int) ≠ 0 by omega)
  have h2 := Int.emod_lt_of_pos (gapI gs i) (show (0 : Int) < 5 by omega)
  omega
theorem gapK_eq (gs : List Int) (i : Nat) : gapI gs i % 5 = (gapK gs i : Int) := by
  unfold gapK
  have h1 := Int.emod_nonneg (gapI gs i) (show (5 : Int) ≠ 0 by omega)
  omega
def gapF (gs : List Int) (i : Nat) : Bs := betw.getD (gapK gs i) []
theorem gapF_at (gs : List Int) (i : Nat) : betw[gapK gs i]? = some (gapF gs i) := by
  have h := gapK_lt gs i
  unfold gapF
  rw [List.getD_eq_getElem?_getD, List.getElem?_eq_getElem (show gapK gs i < betw.length from h)]
  rfl
theorem gapF_gap (gs : List Int) (i : Nat) : Gap (gapF gs i) := gap_all _ (List.mem_of_getElem? (gapF_at gs i))
theorem betw_len : ∀ x ∈ betw, x.length ≤ 9 := by decide
theorem gapF_len (gs : List Int) (i : Nat) : (gapF gs i).length ≤ 9 := betw_len _ (List.mem_of_getElem? (gapF_at gs i))

theorem kt_at {M L : List Tk} (h : M.map Tk.kt = L.map Tk.kt) : M.length = L.length ∧ ∀ (i : Nat) (t : Tk), L[i]? = some t → ∃ p, M[i]? = some ⟨t.kind, t.text, p⟩ := by
  refine ⟨by simpa using congrArg List.length h, fun i t hi => ?_⟩
  have h1 := congrArg (fun l => l[i]?) h
  simp only [List.getElem?_map, hi, Option.map_some] at h1
  cases hm : M[i]? with
  | none => rw [hm] at h1; cases h1
  | some u =>
    rw [hm] at h1
    simp only [Option.map_some, Option.some.injEq, Tk.kt, Prod.mk.injEq] at h1
    obtain ⟨k, x, p⟩ := u
    simp only at h1
    obtain ⟨rfl, rfl⟩ := h1
    exact ⟨p, rfl⟩
theorem places_len {S : Bs} : ∀ (L : List Tk) (at_ : Nat), Places S at_ L → ∀ t ∈ L, (textT t).length ≤ S.length
  | [], _, h, _, _ => h.elim
  | u :: r, at_, h, t, ht => by
    obtain ⟨_, h2, _, _, _, h6⟩ := h
    rcases List.mem_cons.1 ht with rfl | ht
    · omega
    · exact places_len r _ (h6 (by rintro rfl; simp at ht)) t ht
theorem toks_len (l : Bs) : ∀ t ∈ toks l, (textT t).length ≤ l.length := places_len _ _ (places_toks l)
end Go.Proofs.Ytgeaccoobhigcaa
namespace Go.Proofs.Ytgeaccoobhigcaa
open Go Go.RowKit

theorem numT_len {l : Bs} (h : numT l = true) : l.length ≤ 11 := by
  unfold numT readOk numForm at h
  simp only [Bool.and_eq_true, decide_eq_true_eq] at h
  have h1 := h.1.1.1.1.2
  unfold bodyT at h1
  split at h1
  · cases l with
    | nil => simp
    | cons c r => simp at h1 ⊢; omega
  · omega
theorem signs_le3 : ∀ s ∈ signs, s.length ≤ 3 := by decide
theorem tok_small {l : Bs} : ∀ t ∈ toks l, t.kind ≠ 6 → (textT t).length ≤ 40 := by
  intro t ht h6
  rcases toksP_of _ (past l) (skipN false l) (Nat.lt_succ_self _) t ht with ⟨h2, h3⟩ | ⟨c, r, h2, h3⟩
  · unfold textT; rw [if_pos h2]; simp
  · obtain ⟨k0, k1, k2, k3⟩ := nextT_good c r
    have k5 := (nextT_text c r 0).2
    rw [← h2, ← h3] at k1 k2 k3
    rw [← h2] at k0 k5
    unfold textT
    rw [if_neg k5]
    by_cases h : t.kind = 3
    · rw [if_pos h]
      have := (word_size (k3 h)).2
      simp; omega
    · rw [if_neg h]
      by_cases h1 : t.kind = 1
      · have := (word_size (k1 h1)).2; omega
      · by_cases hn : t.kind = 2
        · have := numT_len (k2 hn).1; omega
        · have h4 : t.text.length ≤ 3 := by
            rw [h3]
            rw [h2] at h6 h h1 hn k5
            rw [nextT_cons] at h6 h h1 hn k5 ⊢
            by_cases a1 : smallB c = true
            · rw [if_pos a1] at h6 h1
              by_cases a2 : 32 < headN partB (c :: r)
              · rw [if_pos a2] at h6; exact absurd rfl h6
              · rw [if_neg a2] at h1; exact absurd rfl h1
            · rw [if_neg a1] at h6 hn h ⊢
              by_cases a2 : (digitB c || (decide (c.toNat = 45) && headDig r)) = true
              · rw [if_pos a2] at h6 hn
                split at h6
                · rename_i a3; rw [if_pos a3] at hn; exact absurd rfl hn
                · exact absurd rfl h6
              · rw [if_neg a2] at h6 h ⊢
                by_cases a3 : (decide (c.toNat = 60) && headSmall r && headIs 62 (r.drop (headN partB r))) = true
                · rw [if_pos a3] at h6 h
                  split at h6
                  · exact absurd rfl h6
                  · rename_i a4; rw [if_neg a4] at h; exact absurd rfl h
                · rw [if_neg a3] at h6 ⊢
                  unfold signNx at h6 ⊢
                  by_cases a4 : signT (c :: r) = []
                  · rw [if_pos a4] at h6; exact absurd rfl h6
                  · rw [if_neg a4]
                    rcases firstAt_mem (c :: r) signs with a5 | a5
                    · exact absurd a5 a4
                    · exact signs_le3 _ a5
          omega
/-- What stands between words, as the law has it. -/
def gaps8 : List Bs := [[32], [10], [9], [32, 35, 32, 40, 10], [32, 32, 32]]
def gapG (gs : List Int) (i : Nat) : Bs := gaps8.getD (gapK gs i) []
theorem gapG_at (gs : List Int) (i : Nat) : gaps8[gapK gs i]? = some (gapG gs i) := by
  have h := gapK_lt gs i
  unfold gapG
  rw [List.getD_eq_getElem?_getD, List.getElem?_eq_getElem (show gapK gs i < gaps8.length from h)]
  rfl
theorem gaps8_gap : ∀ g ∈ gaps8, Gap g := by
  intro g hg
  simp only [gaps8, List.mem_cons, List.not_mem_nil, or_false] at hg
  rcases hg with rfl | rfl | rfl | rfl | rfl
  all_goals
    refine ⟨⟨_, _, rfl, by decide⟩, fun x => ?_⟩
    simp [skipN, blankB]
    try omega
theorem gapG_gap (gs : List Int) (i : Nat) : Gap (gapG gs i) := gaps8_gap _ (List.mem_of_getElem? (gapG_at gs i))
theorem gaps8_len : ∀ x ∈ gaps8, x.length ≤ 9 := by decide
theorem gapG_len (gs : List Int) (i : Nat) : (gapG gs i).length ≤ 9 := gaps8_len _ (List.mem_of_getElem? (gapG_at gs i))
theorem prodT_size {p : ProdR} {w : World} (h : p.Mem w) (hE : shapeE p.abs = 0) : (prodT p.abs).size ≤ 1099511627776 := by
  obtain ⟨h1, h2, h3, h4, h5, h6, h7⟩ := shapeE_parts hE
  have hok := firstEs_ok (l := p.conds) h.conds h6
  have hsm : ∀ a ∈ p.acts, a.Small := fun a ha => (actB_small (h.acts a ha) (List.all_eq_true.1 h7 a ha)).1
  have hn : condsN p.conds ≤ 16 := by rw [condsN_abs]; exact h3
  have hw := (wordB_size h1).2
  have e1 := linesC_size hok ((⟨#[115, 112, 32, 123]⟩ : ByteArray) ++ p.abs.name ++ ⟨#[10]⟩)
  have e2 := linesA_size hsm (linesC (absL p.conds) ((⟨#[115, 112, 32, 123]⟩ : ByteArray) ++ p.abs.name ++ ⟨#[10]⟩) ++ ⟨#[45, 45, 62, 10]⟩)
  have h5' : p.acts.length ≤ 16 := h5
  unfold prodT
  rw [cat2_size]
  rw [cat2_size] at e2
  rw [cat2_size, cat2_size] at e1
  have z1 : (⟨#[115, 112, 32, 123]⟩ : ByteArray).size = 4 := rfl
  have z2 : (⟨#[10]⟩ : ByteArray).size = 1 := rfl
  have z3 : (⟨#[45, 45, 62, 10]⟩ : ByteArray).size = 4 := rfl
  have z4 : (⟨#[125, 10]⟩ : ByteArray).size = 2 := rfl
  show (linesA p.acts _).size + _ ≤ _
  have e3 : (linesA p.acts (linesC p.abs.conds ((⟨#[115, 112, 32, 123]⟩ : ByteArray) ++ p.abs.name ++ ⟨#[10]⟩) ++ ⟨#[45, 45, 62, 10]⟩)).size ≤ (linesC (absL p.conds) ((⟨#[115, 112, 32, 123]⟩ : ByteArray) ++ p.abs.name ++ ⟨#[10]⟩)).size + 4 + 20000000 * p.acts.length := by rw [← z3]; exact e2
  omega
/-- The tokens written anew, with such gaps, are the same production. -/
theorem one_spaced {p : Pd} (h : shapeE p = 0) (gs : List Int) :
    (∀ t ∈ toks (prodT p).data.toList, t.kind ≠ 6) ∧ oneR (toks (writ (toks (prodT p).data.toList) (gapG gs) ((toks (prodT p).data.toList).length - 1))) = (some p, -1, 0) := by
  have hk := kts_prod [] h
  rw [List.append_nil, kts_nil] at hk
  have hkk : (toks (prodT p).data.toList).map Tk.kt = prodK p ++ [(5, [])] := hk
  have h6 : ∀ t ∈ toks (prodT p).data.toList, t.kind ≠ 6 := by
    have hl : (toks (prodT p).data.toList).length = (prodK p).length + 1 := by have := congrArg List.length hkk; simpa using this
    obtain ⟨t, ht⟩ : ∃ t, (toks (prodT p).data.toList)[(toks (prodT p).data.toList).length - 1]? = some t := ⟨_, List.getElem?_eq_getElem (by omega)⟩
    refine no_bad _ ht ?_
    have := congrArg (fun l => l[(toks (prodT p).data.toList).length - 1]?) hkk
    simp only [List.getElem?_map, ht, Option.map_some] at this
    rw [hl, Nat.add_sub_cancel, List.getElem?_append_right (Nat.le_refl _), Nat.sub_self] at this
    injection this with this
    exact congrArg Prod.fst this
  refine ⟨h6, ?_⟩
  have hs := spaced_toks (prodT p).data.toList (gapG gs) (gapG_gap gs) h6
  rw [hkk] at hs
  obtain ⟨ts', h1, h2⟩ := Reads.prod h _ _ hs trivial
  exact one_of h h1 h2
theorem var_cat (tx : Bs) : ((⟨#[60]⟩ : ByteArray) ++ (⟨tx.toArray⟩ : ByteArray) ++ (⟨#[62]⟩ : ByteArray)).data.toList = 60 :: (tx ++ [62]) := by simp
set_option maxRecDepth 100000 in
set_option maxHeartbeats 4000000 in
theorem readSpaces_walk (p : ProdR) (ao : Option Addr) (gl gc : Nat) (gs : List Int) (w : World) (h : p.Mem w) (hgs : IntSl w ao gl gc gs) :
    Calls Try.prog 18 #[p.val, .slice ao gl gc] w fun e w' => e = .returned (.bool true) ∧ Below w.heap.size w w' := by
  have hH := fun W (hW : Below w.heap.size w W) => heavy_any p W (h.kept hW)
  have hS := fun hn W (hW : Below w.heap.size w W) => showProd_any p W (h.kept hW) hn
  have hlt : p.Light → condsN p.conds ≤ 1000000 := fun hl => by have := hl.n; omega
  have hzz := fun hE => prodT_size h hE
  have HM := Lib.hid h
  obtain ⟨name, ca, cn, cc, conds, aa, an, ac, acts⟩ := p
  have hv : ProdR.val ⟨name, ca, cn, cc, conds, aa, an, ac, acts⟩ = .agg #[.string name, .slice ca cn cc, .slice aa an ac] := rfl
  rw [hv] at hH hS ⊢
  have hbb := below_new w (.cells #[.string name, .slice ca cn cc, .slice aa an ac] 48)
  have hx0 : BoxC (w.alloc (.cells #[.string name, .slice ca cn cc, .slice aa an ac] 48)) w.heap.size 48 [.string name, .slice ca cn cc, .slice aa an ac] := BoxC.new w _ 48
  have HH := Lib.hid hH
  have HS := Lib.hid hS
  have HL := Lib.hid hlt
  have HBB := Lib.hid hbb
  have HX := Lib.hid hx0
  have HGS := Lib.hid hgs
  have hgl : gs.length = gl := by have := hgs.1; simpa using this
  have HGL := Lib.hid hgl
  have hgcap := hgs.2.1
  have hgmx := hgs.2.2.1
  unfold maxLen at hgmx
  clear hH hS hlt hbb hx0 h hv hgs hgl
  go_enter Try.func18, Try.ntmps18
  go_wp2_with fail
  refine (HH.out _ HBB.out).mono ?_
  rintro e w2 ⟨⟨b, rfl, hb⟩, b2⟩
  have HB := Lib.hid hb
  have HBB2 := Lib.hid (below_trans HBB.out b2)
  have HX2 := Lib.hid (HX.out.below b2)
  clear hb b2
  cases b with
  | true =>
    go_wp2_with (go_at_call 49; refine (wakes8_any _).mono ?_; rintro e w3 ⟨rfl, b3⟩)
    go_ret
    exact ⟨rfl, below_trans HBB2.out b3⟩
  | false =>
    have hn := HL.out (HB.out rfl)
    have HS2 := Lib.hid (HS.out hn)
    obtain ⟨x0, x1, x2⟩ := three_box HX2.out
    clear HS HH HB HX hn
    go_wp2_with fail
    refine (HS2.out _ HBB2.out).mono ?_
    rintro e w3 ⟨rfl, b3⟩
    have HX3 := Lib.hid (HX2.out.below b3)
    have HB3 := Lib.hid (below_trans HBB2.out b3)
    clear b3 x0 x1 x2
    obtain ⟨P, hP⟩ : ∃ P, ProdR.abs ⟨name, ca, cn, cc, conds, aa, an, ac, acts⟩ = P := ⟨_, rfl⟩
    rw [hP] at hzz ⊢
    by_cases hE : shapeE P = 0
    · rw [hE, show prodTx P = prodT P from if_pos hE]
      have hT := hzz hE
      obtain ⟨h6, hone⟩ := one_spaced hE gs
      have HP := Lib.hid hP
      generalize prodT P = T at hT h6 hone ⊢
      have hla := fun w => lexAll_any T hT w
      have hlen := toks_length T.data.toList
      rw [size_toList] at hlen
      have hpo : 0 < (toks T.data.toList).length := List.length_pos_iff.2 (by unfold toks; exact toksP_ne _ _)
      have hpl := places_last _ _ (places_toks T.data.toList)
      have hsm := fun t ht => tok_small (l := T.data.toList) t ht
      generalize hL : toks T.data.toList = L at hla hlen hpo h6 hone hpl hsm
      obtain ⟨n, hn⟩ : ∃ n, L.length = n + 1 := ⟨L.length - 1, by omega⟩
      rw [hn] at hla hlen hpo hone
      simp only [Nat.add_sub_cancel] at hone
      have HN := Lib.hid hn
      have HLA := Lib.hid hla
      have HONE := Lib.hid hone
      have HPL := Lib.hid hpl
      have HLE : Hid (∀ t ∈ L, (textT t).length ≤ 40) := Lib.hid fun t ht => hsm t ht (h6 t ht)
      clear hn hla hL hpl hone hsm h6 hzz hE hP
      go_wp2_with fail
      refine (HLA.out _).mono ?_
      rintro e w4 ⟨g1, c1, rfl, hx, _, b4⟩
      have HX4 := Lib.hid ((HX3.out.below b4).alloc (.cells #[.string ⟨#[32]⟩, .string ⟨#[10]⟩, .string ⟨#[9]⟩, .string ⟨#[32, 35, 32, 40, 10]⟩, .string ⟨#[32, 32, 32]⟩] 9))
      have hb4 := below_trans HB3.out b4
      have hbw := below_new w4 (.cells #[.string ⟨#[32]⟩, .string ⟨#[10]⟩, .string ⟨#[9]⟩, .string ⟨#[32, 35, 32, 40, 10]⟩, .string ⟨#[32, 32, 32]⟩] 9)
      have hbt : SlR (w4.alloc (.cells #[.string ⟨#[32]⟩, .string ⟨#[10]⟩, .string ⟨#[9]⟩, .string ⟨#[32, 35, 32, 40, 10]⟩, .string ⟨#[32, 32, 32]⟩] 9)) 1 (some ⟨w4.heap.size, 0, none⟩) 5 5 (gaps8.map strV) := SlR.new w4 (gaps8.map strV) 9 (by simp [gaps8, maxLen])
      have hx2 := hx.kept hbw
      have hg2 : IntSl _ ao gl gc gs := (SlR.kept HGS.out hb4).kept (w := w4) hbw
      have hb5 := below_trans hb4 hbw
      clear b4 hx hb4 hbw HX3 HX2 HBB2 HB3 HBB HS2 HGS HLA
      go_wp2_with fail
      generalize w4.heap.size = G at hbt ⊢
      generalize w4.alloc (.cells #[.string ⟨#[32]⟩, .string ⟨#[10]⟩, .string ⟨#[9]⟩, .string ⟨#[32, 35, 32, 40, 10]⟩, .string ⟨#[32, 32, 32]⟩] 9) = w5 at hbt hx2 hg2 hb5 HX4 ⊢
      go_loopw [9, 10] (fun tu ti wr => ∃ (i : Nat) (U : ByteArray), i ≤ n ∧ tu = .string U ∧ ti = .int .i64 i ∧ Hid (U.data.toList = writ L (gapG gs) i) ∧ U.size ≤ i * 49 ∧ SlR wr 3 g1 (n + 1) c1 (cellsT L) ∧ SlR wr 1 (some ⟨G, 0, none⟩) 5 5 (gaps8.map strV) ∧ IntSl wr ao gl gc gs ∧ Hid (BoxC wr w.heap.size 48 [.string name, .slice ca cn cc, .slice aa an ac]) ∧ Below w.heap.size w wr) (fun _ ti _ => n - (intOf ti).toNat)
      case atStart => exact ⟨0, ⟨#[]⟩, by omega, rfl, rfl, Lib.hid rfl, Nat.le_of_eq rfl, hx2, hbt, hg2, HX4, hb5⟩
      case round =>
        clear hx2 hbt hg2 hb5 HX4
        obtain ⟨i, U, hi, rfl, rfl, HU, hUz, hx, hbt, hg, HXr, hb⟩ := hrel
        by_cases hlt : i < n
        · have hil : i < L.length := by rw [HN.out]; omega
          obtain ⟨u, hu⟩ : ∃ u, L[i]? = some u := ⟨_, List.getElem?_eq_getElem hil⟩
          have hk5 : u.kind ≠ 5 := fun h => by
            have := (HPL.out i u hu).1 (.inl h)
            rw [HN.out] at this; omega
          have hlu := HLE.out u (List.mem_of_getElem? hu)
          have hwr := writ_succ L (gapG gs) i
          rw [List.getD_eq_getElem?_getD, hu, Option.getD_some] at hwr
          obtain ⟨g', o', e, y0, y1, y2⟩ := hx.tok hu
          have hW := fun w => within_any (gapI gs i) 5 w (by omega) (by omega)
          rw [gapK_eq] at hW
          have hkl := gapK_lt gs i
          have hbk : (gaps8.map strV)[gapK gs i]? = some (strV (gapG gs i)) := by rw [List.getElem?_map, gapG_at]; rfl
          have hgz := gapG_len gs i
          have hgv : (i < gl ∧ (gs.map (Value.int .i64))[i]? = some (.int .i64 (gapI gs i))) ∨ (gl ≤ i ∧ gapI gs i = 0) := by
            by_cases h : i < gl
            · refine .inl ⟨h, ?_⟩
              rw [List.getElem?_map, List.getElem?_eq_getElem (by rw [HGL.out]; exact h)]
              simp [gapI, List.getD_eq_getElem?_getD, List.getElem?_eq_getElem (show i < gs.length by rw [HGL.out]; exact h)]
            · refine .inr ⟨by omega, ?_⟩
              unfold gapI
              rw [List.getD_eq_getElem?_getD, List.getElem?_eq_none (by rw [HGL.out]; omega)]; rfl
          obtain ⟨gb, ob, eb, hcb, _, _⟩ := hbt.at hbk
          cases eb
          rw [Nat.zero_add] at hcb
          subst e
          obtain ⟨kd', tx', ps'⟩ := u
          unfold textT at hlu hwr
          simp only at hk5 hlu hwr y0 y1
          rw [if_neg hk5] at hlu hwr
          unfold strV at y1 hcb
          have hYz : (⟨(gapG gs i).toArray⟩ : ByteArray).size ≤ 9 := by rw [mk_list_size]; omega
          have hYl : (⟨(gapG gs i).toArray⟩ : ByteArray).data.toList = gapG gs i := by simp
          generalize (⟨(gapG gs i).toArray⟩ : ByteArray) = Y at hcb hYz hYl
          have e1 : ∀ a b : ByteArray, (a ++ b).size = a.size + b.size := fun a b => by simp
          have HW := Lib.hid hW
          have hil' : (i : Int) + 1 < (n : Int) + 1 := by omega
          have hil2 : (i : Int) < (n : Int) + 1 := by omega
          have hUzz : U.size ≤ 49 * 1099511627777 := by omega
          have HUU := Lib.hid hu
          have HWR := Lib.hid hwr
          have HYL := Lib.hid hYl
          clear hW hu hbk hwr hYl y2
          generalize gapI gs i = gv at hgv HW
          generalize gapK gs i = gk at HW hkl hcb
          have hkl' : (gk : Int) < 5 := by omega
          by_cases hk3 : kd' = 3
          · subst hk3
            rw [if_pos rfl] at hlu HWR
            have hTz : (⟨tx'.toArray⟩ : ByteArray).size ≤ 38 := by rw [mk_list_size]; simp at hlu; omega
            have HC : Hid ((U ++ (((⟨#[60]⟩ : ByteArray) ++ (⟨tx'.toArray⟩ : ByteArray) ++ (⟨#[62]⟩ : ByteArray)) ++ Y)).data.toList = writ L (gapG gs) (i + 1)) := Lib.hid (by rw [data_cat, data_cat, var_cat, HYL.out, HU.out, HWR.out])
            have hCz : (U ++ (((⟨#[60]⟩ : ByteArray) ++ (⟨tx'.toArray⟩ : ByteArray) ++ (⟨#[62]⟩ : ByteArray)) ++ Y)).size ≤ (i + 1) * 49 := by
              rw [e1, e1, e1, e1]
              show _ + (1 + _ + 1 + _) ≤ _
              omega
            generalize (⟨tx'.toArray⟩ : ByteArray) = X at *
            clear hlu HWR HUU HYL
            rcases hgv with ⟨hgl, hgv⟩ | ⟨hgl, hgv⟩
            · obtain ⟨ga, go, rfl, hgc, _, _⟩ := hg.at hgv
              have hgl' : (i : Int) < (gl : Int) := by omega
              clear hgv
              go_wp2_with (go_at_call 27; refine (HW.out _).mono ?_; rintro e w6 ⟨rfl, rfl⟩)
              go_roundw
              case rel => exact ⟨i + 1, _, by omega, rfl, by go_num, HC, hCz, hx, hbt, hg, HXr, hb⟩
              case measure => simp [intOf]; omega
            · have hgl' : ¬ (i : Int) < (gl : Int) := by omega
              subst hgv
              go_wp2_with (go_at_call 27; refine (HW.out _).mono ?_; rintro e w6 ⟨rfl, rfl⟩)
              go_roundw
              case rel => exact ⟨i + 1, _, by omega, rfl, by go_num, HC, hCz, hx, hbt, hg, HXr, hb⟩
              case measure => simp [intOf]; omega
          · rw [if_neg hk3] at hlu HWR
            have ek3 : ((kd' : Int) == 3) = false := by simp; omega
            have hTz : (⟨tx'.toArray⟩ : ByteArray).size ≤ 40 := by rw [mk_list_size]; omega
            have HC : Hid ((U ++ ((⟨tx'.toArray⟩ : ByteArray) ++ Y)).data.toList = writ L (gapG gs) (i + 1)) := Lib.hid (by rw [data_cat, data_cat, HYL.out, HU.out, HWR.out])
            have hCz : (U ++ ((⟨tx'.toArray⟩ : ByteArray) ++ Y)).size ≤ (i + 1) * 49 := by
              rw [e1, e1]
              omega
            generalize (⟨tx'.toArray⟩ : ByteArray) = X at *
            clear hlu HWR HUU HYL
            rcases hgv with ⟨hgl, hgv⟩ | ⟨hgl, hgv⟩
            · obtain ⟨ga, go, rfl, hgc, _, _⟩ := hg.at hgv
              have hgl' : (i : Int) < (gl : Int) := by omega
              clear hgv
              go_wp2_with (go_at_call 27; refine (HW.out _).mono ?_; rintro e w6 ⟨rfl, rfl⟩)
              go_roundw
              case rel => exact ⟨i + 1, _, by omega, rfl, by go_num, HC, hCz, hx, hbt, hg, HXr, hb⟩
              case measure => simp [intOf]; omega
            · have hgl' : ¬ (i : Int) < (gl : Int) := by omega
              subst hgv
              go_wp2_with (go_at_call 27; refine (HW.out _).mono ?_; rintro e w6 ⟨rfl, rfl⟩)
              go_roundw
              case rel => exact ⟨i + 1, _, by omega, rfl, by go_num, HC, hCz, hx, hbt, hg, HXr, hb⟩
              case measure => simp [intOf]; omega
        · obtain rfl : i = n := by omega
          have hil' : ¬ (i : Int) + 1 < (i : Int) + 1 := by omega
          by_cases hz : U.size ≤ 32768
          · have hz' : ¬ (32768 : Int) < (U.size : Int) := by omega
            have hO := fun w => rone_any U hz w
            rw [HU.out, HONE.out] at hO
            have HO := Lib.hid hO
            obtain ⟨x0, x1, x2⟩ := three_box HXr.out
            have HBr := Lib.hid hb
            clear hO hz hx hbt hg hb
            go_wp2_with fail
            refine (HO.out _).mono ?_
            rintro e w4 ⟨h1, b4⟩
            obtain ⟨v, rfl, q, hv, habs, hmem, _, _⟩ := h1
            injection hv with hv
            subst hv
            have hK := fun W (hW : Below w4.heap.size w4 W) => kProd_any ⟨name, ca, cn, cc, conds, aa, an, ac, acts⟩ q W (HM.out.kept ((below_trans HBr.out b4).trans (hW.mono (below_trans HBr.out b4).size))) (hmem.kept hW)
            rw [habs, HP.out, show pdEq P P = true from pdEq_iff.2 rfl] at hK
            obtain ⟨qn, qca, qcn, qcc, qcs, qaa, qan, qac, qas⟩ := q
            have hv2 : ProdR.val ⟨qn, qca, qcn, qcc, qcs, qaa, qan, qac, qas⟩ = .agg #[.string qn, .slice qca qcn qcc, .slice qaa qan qac] := rfl
            have hv : ProdR.val ⟨name, ca, cn, cc, conds, aa, an, ac, acts⟩ = .agg #[.string name, .slice ca cn cc, .slice aa an ac] := rfl
            rw [hv2] at hK ⊢
            rw [hv] at hK
            have HK := Lib.hid hK
            have HB4 := Lib.hid (below_trans HBr.out b4)
            have HX4 := Lib.hid ((HXr.out.below b4).alloc (.cells #[.string qn, .slice qca qcn qcc, .slice qaa qan qac] 48))
            have HY4 := Lib.hid (BoxC.new w4 [.string qn, .slice qca qcn qcc, .slice qaa qan qac] 48)
            have HN4 := Lib.hid (below_new w4 (.cells #[.string qn, .slice qca qcn qcc, .slice qaa qan qac] 48))
            clear hK hv hv2 habs hmem b4 x0 x1 x2 HP HN
            obtain ⟨x0, x1, x2⟩ := three_box HX4.out
            obtain ⟨y0, y1, y2⟩ := three_box HY4.out
            go_wp2_with fail
            refine (HK.out _ HN4.out).mono ?_
            rintro e w5 ⟨rfl, b5⟩
            have HB5 := Lib.hid (below_trans (below_trans HB4.out HN4.out) b5)
            clear b5
            go_wp2_with (go_at_call 49; refine (wakes8_any _).mono ?_; rintro e w6 ⟨rfl, b6⟩)
            go_ret
            exact ⟨rfl, below_trans HB5.out b6⟩
          · have hz' : (32768 : Int) < (U.size : Int) := by omega
            clear hz hx hbt hg
            go_wp2_with (go_at_call 49; refine (wakes8_any _).mono ?_; rintro e w6 ⟨rfl, b6⟩)
            go_ret
            exact ⟨rfl, below_trans hb b6⟩
    · have e1 : (shapeE P != 0) = true := by simp [hE]
      generalize shapeE P = S at *
      generalize prodTx P = T at *
      go_wp2_with (go_at_call 49; refine (wakes8_any _).mono ?_; rintro e w4 ⟨rfl, b4⟩)
      go_ret
      exact ⟨rfl, below_trans HB3.out b4⟩
end Go.Proofs.Ytgeaccoobhigcaa
