/-
  The walk of the law LexPlaces.
-/
import Derived.Test.YtgeaccoobhigcaaT1
import Derived.Test.YtgeaccoobhigcaaC1
import Derived.Deep.QuietTactic
import Derived.BigQuiet
import Derived.IntWalk
namespace Go.Proofs.Ytgeaccoobhigcaa
open Go Go.RowKit

theorem toksP_end : ∀ (n : Nat) (l : Bs) (p : Nat), l.length < n → ∀ t ∈ toksP l p, t.kind = 5 → t.text = []
  | 0, _, _, h => by omega
  | n + 1, [], p, _ => by
    rw [toksP_nil]
    intro t ht _
    simp at ht
    subst ht
    rfl
  | n + 1, c :: r, p, h => by
    have hl := nextT_len c r
    have hp := past_len ((c :: r).drop (nextT (c :: r)).len)
    rw [List.length_drop] at hp
    have hk := (nextT_text c r p).2
    rw [toksP_cons]
    intro t ht h5
    rcases List.mem_cons.1 ht with rfl | ht
    · exact absurd h5 hk
    · split at ht
      · simp at ht
      · exact toksP_end n _ _ (by omega) t ht h5
theorem toks_end (l : Bs) : ∀ t ∈ toks l, t.kind = 5 → t.text = [] := toksP_end _ _ _ (Nat.lt_succ_self _)

theorem skey {S : Bs} {s : ByteArray} (h : S = s.data.toList) (i : Nat) : S.drop i = from_ s i := by rw [h]; rfl

set_option maxRecDepth 100000 in
set_option maxHeartbeats 4000000 in
theorem lexPlaces_walk (s : ByteArray) (w : World) (_ : s.size ≤ maxLen) :
    Calls Try.prog 6 #[.string s] w fun e w' => e = .returned (.bool true) ∧ Below w.heap.size w w' := by
  by_cases h3 : s.size ≤ 3000
  · have h3' : ¬ (3000 : Int) < (s.size : Int) := by omega
    have hla := fun w => lexAll_any s (by omega) w
    have hlen := toks_length s.data.toList
    rw [size_toList] at hlen
    have hpl := places_toks s.data.toList
    have hte := toks_end s.data.toList
    have hpo : 0 < (toks s.data.toList).length := List.length_pos_iff.2 (by unfold toks; exact toksP_ne _ _)
    obtain ⟨S, hS⟩ : ∃ S, S = s.data.toList := ⟨_, rfl⟩
    rw [← hS] at hla hlen hpl hpo hte
    generalize hL : toks S = L at hla hlen hpl hpo hte
    obtain ⟨n, hn⟩ : ∃ n, n = L.length := ⟨_, rfl⟩
    rw [← hn] at hla hlen hpo
    have HNL := Lib.hid hn
    have HS := Lib.hid hS
    have HLA := Lib.hid hla
    have HPL := Lib.hid hpl
    have HTE := Lib.hid hte
    have hmix : Try.prog.follows .mixedOrders = true := by kernel_rfl
    have hne : ((n : Int) == 0) = false := by simp; omega
    clear hla hL hn hpl hS hte
    go_enter Try.func6, Try.ntmps6
    go_wp2_with (go_at_call 24; refine (HLA.out _).mono ?_; rintro e w1 ⟨go, c, rfl, hsl, _, b1⟩)
    go_loopw [4, 5] (fun ta ti wr => ∃ a i : Nat, a ≤ s.size ∧ i ≤ n ∧ ta = .int .i64 a ∧ ti = .int .i64 i ∧ Hid (i < n → Places S a (L.drop i)) ∧ SlR wr 3 go n c (cellsT L) ∧ Below w.heap.size w wr) (fun _ ti _ => n - (intOf ti).toNat)
    case atStart => exact ⟨0, 0, by omega, by omega, rfl, rfl, Lib.hid (fun _ => HPL.out), hsl, b1⟩
    case round =>
      obtain ⟨a, i, ha, hi, rfl, rfl, HP, hsl, hb⟩ := hrel
      by_cases hlt : i < n
      · obtain ⟨t, ht⟩ : ∃ t, L[i]? = some t := ⟨_, List.getElem?_eq_getElem (by rw [← HNL.out]; exact hlt)⟩
        have hdr : L.drop i = t :: L.drop (i + 1) := by
          obtain ⟨h1, h2⟩ := List.getElem?_eq_some_iff.1 ht
          rw [← h2]; exact List.drop_eq_getElem_cons h1
        have hp := HP.out hlt
        rw [hdr] at hp
        obtain ⟨p1, p2, p3, p4, p5, p6⟩ := hp
        obtain ⟨g, o, rfl, x0, x1, x2⟩ := hsl.tok ht
        have hSl : S.length = s.size := by rw [HS.out, size_toList]
        rw [hSl] at p2
        have hE := fun w => empty_any (s.extract a t.pos) (by simp; omega) (by
          have := ext_toList s a t.pos
          rw [ByteArray.toList_eq] at this
          rw [this, ← skey HS.out]; exact p4) w
        have hX := ext_mk s t.pos (t.pos + (textT t).length)
        rw [← skey HS.out, Nat.add_sub_cancel_left, p3] at hX
        have hXz : (s.extract t.pos (t.pos + (textT t).length)).size = (textT t).length := by simp; omega
        have hlast : (i + 1 = n) ↔ (t.kind = 5 ∨ t.kind = 6) := by
          rw [p5, ← List.length_eq_zero_iff, List.length_drop, ← HNL.out]; omega
        have hnx : i + 1 < n → Places S (t.pos + (textT t).length) (L.drop (i + 1)) := fun h => p6 (by
          intro e; have := congrArg List.length e; rw [List.length_drop, ← HNL.out] at this; simp at this; omega)
        have hte := HTE.out t (List.mem_of_getElem? ht)
        have htl : t.text.length ≤ 1099511627776 := by
          by_cases h5 : t.kind = 5
          · rw [hte h5]; simp
          · have : t.text.length ≤ (textT t).length := by
              unfold textT
              rw [if_neg h5]
              split
              · simp; omega
              · exact Nat.le_refl _
            omega
        have HT := Lib.hid ht
        have HE := Lib.hid hE
        have HNX := Lib.hid hnx
        clear hdr p3 p4 p5 p6 ht hE hnx HP
        obtain ⟨kd, tx, ps⟩ := t
        simp only at x0 x1 x2 p1 p2 hX hXz hlast htl HE HNX hte
        unfold strV at x1
        rcases (show (kd = 5 ∧ i + 1 = n) ∨ (kd ≠ 5 ∧ ((kd = 6 ∧ i + 1 = n) ∨ (kd ≠ 6 ∧ i + 1 ≠ n))) by omega) with ⟨h5, hil⟩ | ⟨h5, hk⟩
        · obtain rfl := hte h5
          have hTX := fun w => text_any ⟨kd, [], ps⟩ ⟨#[]⟩ (by unfold txtT; rw [if_neg (by simp; omega)]; rfl) htl w
          have hm0 : (textT ⟨kd, [], ps⟩).length = 0 := by unfold textT; rw [if_pos h5]; rfl
          rw [hm0] at p2 HNX
          have HTX := Lib.hid hTX
          have hXB : ((s.extract ps ps).toList == []) = true := by rw [ByteArray.toList_eq]; simp
          have e5 : ((kd : Int) == 5) = true := by simp; omega
          have hb1 : decide ((ps : Int) < (a : Int)) = false := by simp; omega
          have ei : ((i : Int) == (n : Int) - 1) = true := by simp; omega
          have HLA := Lib.hid hlast
          clear hX htl hTX hlast h5 hXz hm0 hte
          go_wp2_with (go_at_call 29; refine (HTX.out _).mono ?_; rintro e w5 ⟨rfl, b5⟩; have hsl5 := hsl.kept b5; have hb5 := hb.trans (b5.mono hb.size); obtain ⟨g', o', eg, y0, y1, y2⟩ := hsl5.tok HT.out; cases eg; simp only at y0 y1 y2; unfold strV at y1; have Y0 : ∀ q, (w5.drewN q).cell? ⟨g, o + i * 3, none⟩ = some (.int .i64 kd) := (fun _ => y0); have Y2 : ∀ q, (w5.drewN q).cell? ⟨g, o + i * 3 + 2, none⟩ = some (.int .i64 ps) := (fun _ => y2))
          have hbs : decide ((s.size : Int) < (ps : Int)) = false := by simp; omega
          have hbs' : decide (s.size < ps) = false := by simp; omega
          have hb1' : decide (ps < a) = false := by simp; omega
          have hwr : IntKind.i64.wrap (ps : Int) = (ps : Int) := IntWalk.i64_in _ (by omega)
          go_quiet ((go_at_call 30; exact Calls.quiet_of_same (HE.out _)))
          clear hwr
          go_wp2
          go_roundw
          case rel => exact ⟨ps, i + 1, by omega, by omega, by go_num, by go_num, Lib.hid (fun h => by omega), hsl5.drewN _, below_drew hb5 _⟩
          case measure => simp [intOf]; omega
        · have htxt : textT ⟨kd, tx, ps⟩ = txtT ⟨kd, tx, ps⟩ := by unfold textT txtT; rw [if_neg h5]
          have hTX := fun w => text_any ⟨kd, tx, ps⟩ (s.extract ps (ps + (textT ⟨kd, tx, ps⟩).length)) (by rw [hX, htxt]) htl w
          generalize hm : (textT ⟨kd, tx, ps⟩).length = m at *
          generalize hXX : s.extract ps (ps + m) = X at *
          have hXB : ((s.extract ps (ps + m)).toList == X.toList) = true := by rw [hXX]; simp
          have HTX := Lib.hid hTX
          have HXX := Lib.hid hXX
          simp only at HTX
          have e5 : ((kd : Int) == 5) = false := by simp; omega
          have hb1 : decide ((ps : Int) < (a : Int)) = false := by simp; omega
          have hb1' : decide (ps < a) = false := by simp; omega
          have hke : (((kd : Int) == 6) = true ∧ ((i : Int) == (n : Int) - 1) = true) ∨ (((kd : Int) == 6) = false ∧ ((i : Int) == (n : Int) - 1) = false) := by
            rcases hk with ⟨h6, h7⟩ | ⟨h6, h7⟩
            · exact .inl ⟨by simp; omega, by simp; omega⟩
            · exact .inr ⟨by simp; omega, by simp; omega⟩
          have HLA := Lib.hid hlast
          have HK := Lib.hid hk
          clear hX htl hTX hXX hm hlast h5 hk htxt
          rcases hke with ⟨e6, ei⟩ | ⟨e6, ei⟩
          all_goals
            go_wp2_with (go_at_call 29; refine (HTX.out _).mono ?_; rintro e w5 ⟨rfl, b5⟩; have hsl5 := hsl.kept b5; have hb5 := hb.trans (b5.mono hb.size); obtain ⟨g', o', eg, y0, y1, y2⟩ := hsl5.tok HT.out; cases eg; simp only at y0 y1 y2; unfold strV at y1; have Y0 : ∀ q, (w5.drewN q).cell? ⟨g, o + i * 3, none⟩ = some (.int .i64 kd) := (fun _ => y0); have Y2 : ∀ q, (w5.drewN q).cell? ⟨g, o + i * 3 + 2, none⟩ = some (.int .i64 ps) := (fun _ => y2))
            have hbs : decide ((s.size : Int) < (ps : Int) + (m : Int)) = false := by simp; omega
            have hnn : (0 : Int) ≤ (ps : Int) + (m : Int) := by omega
            have hnt : ((ps : Int) + (m : Int)).toNat = ps + m := by omega
            have hwr : IntKind.i64.wrap ((ps : Int) + (m : Int)) = (ps : Int) + (m : Int) := IntWalk.i64_in _ (by omega)
            go_quiet ((go_at_call 30; exact Calls.quiet_of_same (HE.out _)))
            clear hwr hnt hbs
            go_wp2
            go_roundw
            case rel => exact ⟨ps + m, i + 1, by omega, by omega, by go_num, by go_num, Lib.hid (fun h => HNX.out h), hsl5.drewN _, below_drew hb5 _⟩
            case measure => simp [intOf]; omega
      · obtain rfl : i = n := by omega
        go_wp2_with (go_at_call 21; refine (wakes_any _).mono ?_; rintro e w7 ⟨rfl, b7⟩)
        go_ret
        exact ⟨rfl, hb.trans (b7.mono hb.size)⟩
  · have h3' : (3000 : Int) < (s.size : Int) := by omega
    clear h3
    go_enter Try.func6, Try.ntmps6
    go_wp2_with (go_at_call 21; refine (wakes_any _).mono ?_; rintro e w7 ⟨rfl, b7⟩)
    go_ret
    exact ⟨rfl, b7⟩
end Go.Proofs.Ytgeaccoobhigcaa
