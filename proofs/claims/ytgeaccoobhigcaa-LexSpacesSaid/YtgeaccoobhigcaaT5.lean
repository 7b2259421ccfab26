/-
  The walk of the law LexSpaces.
-/
import Derived.Test.YtgeaccoobhigcaaT1
import Derived.Test.YtgeaccoobhigcaaC2
import Derived.Deep.QuietTactic
import Derived.BigQuiet
namespace Go.Proofs.Ytgeaccoobhigcaa
open Go Go.RowKit

theorem cat_mk (U : ByteArray) (a b : Bs) : (U ++ ((⟨a.toArray⟩ : ByteArray) ++ (⟨b.toArray⟩ : ByteArray))).data.toList = U.data.toList ++ (a ++ b) := by simp
theorem mk_size (a : Bs) : (⟨a.toArray⟩ : ByteArray).size = a.length := by show a.toArray.size = _; simp
theorem list_size (U : ByteArray) : U.size = U.data.toList.length := by simp

set_option maxRecDepth 100000 in
set_option maxHeartbeats 4000000 in
theorem lexSpaces_walk (s : ByteArray) (ao : Option Addr) (gl gc : Nat) (gs : List Int) (w : World) (_ : s.size ≤ maxLen) (hgs : IntSl w ao gl gc gs) :
    Calls Try.prog 5 #[.string s, .slice ao gl gc] w fun e w' => e = .returned (.bool true) ∧ Below w.heap.size w w' := by
  by_cases h3 : s.size ≤ 1000
  · have h3' : ¬ (1000 : Int) < (s.size : Int) := by omega
    have hla := fun w => lexAll_any s (by omega) w
    have hlen := toks_length s.data.toList
    have hle := toks_len s.data.toList
    rw [size_toList] at hlen hle
    have hpo : 0 < (toks s.data.toList).length := List.length_pos_iff.2 (by unfold toks; exact toksP_ne _ _)
    have hsp := fun h => spaced_toks s.data.toList (gapF gs) (gapF_gap gs) h
    have hnb := fun t => no_bad (t := t) s.data.toList
    have hpl := places_last _ _ (places_toks s.data.toList)
    generalize hL : toks s.data.toList = L at hla hlen hpo hsp hnb hpl hle
    obtain ⟨n, hn⟩ : ∃ n, L.length = n + 1 := ⟨L.length - 1, by omega⟩
    rw [hn] at hla hlen hpo hsp hnb
    simp only [Nat.add_sub_cancel] at hsp hnb
    obtain ⟨t, ht⟩ : ∃ t, L[n]? = some t := ⟨_, List.getElem?_eq_getElem (by omega)⟩
    have HN := Lib.hid hn
    have HLA := Lib.hid hla
    have HT := Lib.hid ht
    have hne : (((n : Int) + 1) == 0) = false := by simp; omega
    have hlt1 : (n : Int) < (n : Int) + 1 := by omega
    have hgl : gs.length = gl := by have := hgs.1; simpa using this
    have HGL := Lib.hid hgl
    have hgcap := hgs.2.1
    have hgmx := hgs.2.2.1
    unfold maxLen at hgmx
    by_cases h5 : t.kind = 5
    · have hno := hnb t ht h5
      have hsp := hsp hno
      have HSP := Lib.hid hsp
      have HLE := Lib.hid hle
      have HPL := Lib.hid hpl
      have HNO := Lib.hid hno
      obtain ⟨kd, tx, ps⟩ := t
      simp only at h5
      have e5 : ((kd : Int) != 5) = false := by simp; omega
      clear hn hla hL ht hsp hle hpl hno hnb h5 hgl
      go_enter Try.func5, Try.ntmps5
      go_wp2_with (go_at_call 24; refine (HLA.out _).mono ?_; rintro e w1 ⟨g1, c1, rfl, hx, _, b1⟩; obtain ⟨g, o, rfl, x0, x1, x2⟩ := hx.tok HT.out; simp only at x0 x1 x2; unfold strV at x1)
      have hbw : Below w1.heap.size w1 (w1.alloc (.cells #[.string ⟨#[32]⟩, .string ⟨#[10]⟩, .string ⟨#[9, 32, 13]⟩, .string ⟨#[32, 35, 32, 60, 120, 62, 32, 40, 10]⟩, .string ⟨#[32, 32]⟩] 9)) := (Below.refl _ _).alloc (Nat.le_refl _) _
      have hbt : SlR (w1.alloc (.cells #[.string ⟨#[32]⟩, .string ⟨#[10]⟩, .string ⟨#[9, 32, 13]⟩, .string ⟨#[32, 35, 32, 60, 120, 62, 32, 40, 10]⟩, .string ⟨#[32, 32]⟩] 9)) 1 (some ⟨w1.heap.size, 0, none⟩) 5 5 (betw.map strV) := SlR.new w1 (betw.map strV) 9 (by simp [betw, maxLen])
      have hx2 := hx.kept hbw
      have hg2 : IntSl _ ao gl gc gs := (hgs.kept b1).kept (w := w1) hbw
      have b2 := b1.trans (hbw.mono b1.size)
      clear x0 x1 x2 hx b1 hbw
      generalize w1.heap.size = G at hbt ⊢
      generalize w1.alloc (.cells #[.string ⟨#[32]⟩, .string ⟨#[10]⟩, .string ⟨#[9, 32, 13]⟩, .string ⟨#[32, 35, 32, 60, 120, 62, 32, 40, 10]⟩, .string ⟨#[32, 32]⟩] 9) = w2 at hbt hx2 hg2 b2 ⊢
      go_loopw [7, 8] (fun tu ti wr => ∃ (i : Nat) (U : ByteArray), i ≤ n ∧ tu = .string U ∧ ti = .int .i64 i ∧ Hid (U.data.toList = writ L (gapF gs) i) ∧ U.size ≤ i * 1009 ∧ SlR wr 3 (some ⟨g, o, none⟩) (n + 1) c1 (cellsT L) ∧ SlR wr 1 (some ⟨G, 0, none⟩) 5 5 (betw.map strV) ∧ IntSl wr ao gl gc gs ∧ Below w.heap.size w wr) (fun _ ti _ => n - (intOf ti).toNat)
      case atStart => exact ⟨0, ⟨#[]⟩, by omega, rfl, rfl, Lib.hid rfl, Nat.le_of_eq rfl, hx2, hbt, hg2, b2⟩
      case round =>
        clear hx2 hbt hg2 b2
        obtain ⟨i, U, hi, rfl, rfl, HU, hUz, hx, hbt, hg, hb⟩ := hrel
        by_cases hlt : i < n
        · have hil : i < L.length := by rw [HN.out]; omega
          obtain ⟨u, hu⟩ : ∃ u, L[i]? = some u := ⟨_, List.getElem?_eq_getElem hil⟩
          have hk5 : u.kind ≠ 5 := fun h => by
            have := (HPL.out i u hu).1 (.inl h)
            rw [HN.out] at this; omega
          have hlu := HLE.out u (List.mem_of_getElem? hu)
          have htx : textT u = txtT u := by unfold textT txtT; rw [if_neg hk5]
          have hwr := writ_succ L (gapF gs) i
          rw [List.getD_eq_getElem?_getD, hu, Option.getD_some, htx] at hwr
          rw [htx] at hlu
          have htl : u.text.length ≤ 1099511627776 := by
            have : u.text.length ≤ (txtT u).length := by
              unfold txtT; split
              · simp; omega
              · exact Nat.le_refl _
            omega
          have hTX := fun w => text_any u ⟨(txtT u).toArray⟩ rfl htl w
          obtain ⟨g', o', e, y0, y1, y2⟩ := hx.tok hu
          cases e
          have hW := fun w => within_any (gapI gs i) 5 w (by omega) (by omega)
          rw [gapK_eq] at hW
          have hkl := gapK_lt gs i
          have hbk : (betw.map strV)[gapK gs i]? = some (strV (gapF gs i)) := by rw [List.getElem?_map, gapF_at]; rfl
          have hgz := gapF_len gs i
          have hgv : (i < gl ∧ (gs.map (Value.int .i64))[i]? = some (.int .i64 (gapI gs i))) ∨ (gl ≤ i ∧ gapI gs i = 0) := by
            by_cases h : i < gl
            · refine .inl ⟨h, ?_⟩
              rw [List.getElem?_map, List.getElem?_eq_getElem (by rw [HGL.out]; exact h)]
              simp [gapI, List.getD_eq_getElem?_getD, List.getElem?_eq_getElem (show i < gs.length by rw [HGL.out]; exact h)]
            · refine .inr ⟨by omega, ?_⟩
              unfold gapI
              rw [List.getD_eq_getElem?_getD, List.getElem?_eq_none (by rw [HGL.out]; omega)]; rfl
          have hXz : (⟨(txtT u).toArray⟩ : ByteArray).size ≤ 1000 := by rw [mk_size]; omega
          have hYz : (⟨(gapF gs i).toArray⟩ : ByteArray).size ≤ 9 := by rw [mk_size]; omega
          have hcat : Hid ((U ++ ((⟨(txtT u).toArray⟩ : ByteArray) ++ (⟨(gapF gs i).toArray⟩ : ByteArray))).data.toList = writ L (gapF gs) (i + 1)) := Lib.hid (by rw [cat_mk, HU.out, hwr])
          have hUz' : (U ++ ((⟨(txtT u).toArray⟩ : ByteArray) ++ (⟨(gapF gs i).toArray⟩ : ByteArray))).size ≤ (i + 1) * 1009 := by
            have e1 : ∀ a b : ByteArray, (a ++ b).size = a.size + b.size := fun a b => by simp
            rw [e1, e1]; omega
          unfold strV at hbk
          generalize (⟨(txtT u).toArray⟩ : ByteArray) = X at hTX hXz hcat hUz'
          generalize (⟨(gapF gs i).toArray⟩ : ByteArray) = Y at hbk hYz hcat hUz'
          obtain ⟨kd', tx', ps'⟩ := u
          simp only at y0 y1 y2 hTX
          unfold strV at y1
          have HTX := Lib.hid hTX
          have HW := Lib.hid hW
          have HUU := Lib.hid hu
          have HBK := Lib.hid hbk
          have hil' : (i : Int) + 1 < (n : Int) + 1 := by omega
          have hil2 : (i : Int) < (n : Int) + 1 := by omega
          have hUzz : U.size ≤ 1009 * 1001 := by omega
          clear hTX hW hu hbk hk5 htx hlu htl hwr
          generalize gapI gs i = gv at hgv HW
          generalize gapK gs i = gk at HW HBK hkl
          have hkl' : (gk : Int) < 5 := by omega
          rcases hgv with ⟨hgl, hgv⟩ | ⟨hgl, hgv⟩
          · obtain ⟨ga, go, rfl, hgc, _, _⟩ := hg.at hgv
            have HGV := Lib.hid hgv
            have hgl' : (i : Int) < (gl : Int) := by omega
            clear hgv
            go_wp2_with (first
              | (go_at_call 29; refine (HTX.out _).mono ?_; rintro e w5 ⟨rfl, b5⟩; replace hx := hx.kept b5; replace hbt := hbt.kept b5; replace hg : IntSl w5 _ gl gc gs := SlR.kept hg b5; replace hb := hb.trans (b5.mono hb.size); obtain ⟨gb, ob, eb, hcb, _, _⟩ := hbt.at HBK.out; cases eb; rw [Nat.zero_add] at hcb)
              | (go_at_call 27; refine (HW.out _).mono ?_; rintro e w6 ⟨rfl, rfl⟩))
            go_roundw
            case rel => exact ⟨i + 1, _, by omega, rfl, by go_num, hcat, hUz', hx, hbt, hg, hb⟩
            case measure => simp [intOf]; omega
          · have hgl' : ¬ (i : Int) < (gl : Int) := by omega
            subst hgv
            go_wp2_with (first
              | (go_at_call 29; refine (HTX.out _).mono ?_; rintro e w5 ⟨rfl, b5⟩; replace hx := hx.kept b5; replace hbt := hbt.kept b5; replace hg : IntSl w5 _ gl gc gs := SlR.kept hg b5; replace hb := hb.trans (b5.mono hb.size); obtain ⟨gb, ob, eb, hcb, _, _⟩ := hbt.at HBK.out; cases eb; rw [Nat.zero_add] at hcb)
              | (go_at_call 27; refine (HW.out _).mono ?_; rintro e w6 ⟨rfl, rfl⟩))
            go_roundw
            case rel => exact ⟨i + 1, _, by omega, rfl, by go_num, hcat, hUz', hx, hbt, hg, hb⟩
            case measure => simp [intOf]; omega
        · obtain rfl : i = n := by omega
          have hil' : ¬ (i : Int) + 1 < (i : Int) + 1 := by omega
          have hmm := fun w => lexAll_any U (by omega) w
          rw [HU.out] at hmm
          obtain ⟨k1, k2⟩ := kt_at HSP.out
          rw [HN.out] at k1
          generalize toks (writ L (gapF gs) i) = M at hmm k1 k2
          rw [k1] at hmm
          have HMM := Lib.hid hmm
          have HK := Lib.hid k2
          clear hmm k1 k2
          have hii : ((i : Int) + 1 != (i : Int) + 1) = false := by simp
          go_wp2_with (go_at_call 24; refine (HMM.out _).mono ?_; rintro e w6 ⟨gm, cm, rfl, hm, _, b6⟩; replace hx := hx.kept b6; replace hb := hb.trans (b6.mono hb.size))
          go_loopw [11] (fun tj wr => ∃ j : Nat, j ≤ i + 1 ∧ tj = .int .i64 j ∧ SlR wr 3 (some ⟨g, o, none⟩) (i + 1) c1 (cellsT L) ∧ SlR wr 3 gm (i + 1) cm (cellsT M) ∧ Below w.heap.size w wr) (fun tj _ => i + 1 - (intOf tj).toNat)
          case atStart => exact ⟨0, by omega, rfl, hx, hm, hb⟩
          case round =>
            clear hx hm hb hbt hg
            obtain ⟨j, hj, rfl, hx, hm, hb⟩ := hrel
            by_cases hlj : j < i + 1
            · obtain ⟨u, hu⟩ : ∃ u, L[j]? = some u := ⟨_, List.getElem?_eq_getElem (by rw [HN.out]; exact hlj)⟩
              obtain ⟨p, hp⟩ := HK.out j u hu
              obtain ⟨g', o', e, x0, x1, x2⟩ := hx.tok hu
              cases e
              obtain ⟨g', o', rfl, z0, z1, z2⟩ := hm.tok hp
              obtain ⟨kd', tx', ps'⟩ := u
              simp only at x0 x1 x2 z0 z1 z2
              unfold strV at x1 z1
              have X0 : ∀ q, (wr.drewN q).cell? _ = _ := fun _ => x0
              have X1 : ∀ q, (wr.drewN q).cell? _ = _ := fun _ => x1
              have Z0 : ∀ q, (wr.drewN q).cell? _ = _ := fun _ => z0
              have Z1 : ∀ q, (wr.drewN q).cell? _ = _ := fun _ => z1
              have hlj' : (j : Int) < (i : Int) + 1 := by omega
              have HU2 := Lib.hid hu
              have HP2 := Lib.hid hp
              clear hu hp x2 z2
              go_wp2
              go_quiet (fail)
              go_wp2
              go_roundw
              case rel => exact ⟨j + 1, by omega, by go_num, hx.drewN _, hm.drewN _, below_drew hb _⟩
              case measure => simp [intOf]; omega
            · have hje : j = i + 1 := by omega
              have hlj' : ¬ (j : Int) < (i : Int) + 1 := by omega
              clear hje
              go_wp2_with (go_at_call 21; refine (wakes_any _).mono ?_; rintro e w7 ⟨rfl, b7⟩)
              go_ret
              exact ⟨rfl, hb.trans (b7.mono hb.size)⟩
    · obtain ⟨kd, tx, ps⟩ := t
      simp only at h5
      have e5 : ((kd : Int) != 5) = true := by simp; omega
      clear hn hla hL ht hsp hle hpl hnb h5 hgl
      go_enter Try.func5, Try.ntmps5
      go_wp2_with (first
        | (go_at_call 24; refine (HLA.out _).mono ?_; rintro e w1 ⟨g1, c1, rfl, hx, _, b1⟩; obtain ⟨g, o, rfl, x0, x1, x2⟩ := hx.tok HT.out; simp only at x0 x1 x2; unfold strV at x1)
        | (go_at_call 21; refine (wakes_any _).mono ?_; rintro e w7 ⟨rfl, b7⟩))
      go_ret
      exact ⟨rfl, b1.trans (b7.mono b1.size)⟩
  · have h3' : (1000 : Int) < (s.size : Int) := by omega
    clear h3
    go_enter Try.func5, Try.ntmps5
    go_wp2_with (go_at_call 21; refine (wakes_any _).mono ?_; rintro e w7 ⟨rfl, b7⟩)
    go_ret
    exact ⟨rfl, b7⟩
end Go.Proofs.Ytgeaccoobhigcaa
