/-
  The walk of the law RowPlays: it returns true and leaves what was there as it was, at every argument.
-/
import Derived.Test.YtkogdiglpncolaaPs
namespace Go.Proofs.Ytkogdiglpncolaa
open Go Go.RowKit

set_option maxRecDepth 100000 in
set_option maxHeartbeats 8000000 in
theorem rowPlays_walk (room : Int) (ao : Option Addr) (len cap : Nat) (acts : List ActR) (w : World) (hz : Acts w ao len cap acts) :
    Calls Try.prog 6 #[.int .i64 room, .slice ao len cap] w fun e w' => e = .returned (.bool true) ∧ Below w.heap.size w w' := by
  have HL : Hid (acts.length = len) := Lib.hid (by have := hz.1.1; rw [acts_length] at this; omega)
  have hcap : (len : Int) ≤ cap := by have := hz.1.2.1; omega
  have bl : len ≤ 9223372036854775807 := by have := hz.1.2.1; have := hz.1.2.2.1; unfold maxLen at this; omega
  by_cases hroom : room < 1 ∨ 65536 < room
  · rcases hroom with h | h
    · go_enter Try.func6, Try.ntmps6
      go_wp2_with (first | (go_at_call 24; refine (new_err_int room _ (.inl h)).mono ?_; rintro e w1 ⟨rfl, rfl⟩) | (go_at_call 14; refine (wakes_any _).mono ?_; rintro e w2 ⟨rfl, hg⟩))
      go_ret
      exact ⟨rfl, below_of_grown hg (Nat.le_refl _)⟩
    · have h' : ¬ room < 1 := by omega
      go_enter Try.func6, Try.ntmps6
      go_wp2_with (first | (go_at_call 24; refine (new_err_int room _ (.inr h)).mono ?_; rintro e w1 ⟨rfl, rfl⟩) | (go_at_call 14; refine (wakes_any _).mono ?_; rintro e w2 ⟨rfl, hg⟩))
      go_ret
      exact ⟨rfl, below_of_grown hg (Nat.le_refl _)⟩
  · have h1 : ¬ room < 1 := fun h => hroom (.inl h)
    have h2 : ¬ 65536 < room := fun h => hroom (.inr h)
    clear hroom
    by_cases hbig : 200 < len
    · go_enter Try.func6, Try.ntmps6
      go_wp2_with (first | (go_at_call 24; refine (new_ok_int room _ (by omega) (by omega)).mono ?_; rintro e w1 ⟨rfl, hb1, hg1⟩) | (go_at_call 14; refine (wakes_any _).mono ?_; rintro e w2 ⟨rfl, hg⟩))
      go_ret
      exact ⟨rfl, below_of_grown (grownBy_trans hg1 hg) (Nat.le_refl _)⟩
    · go_enter Try.func6, Try.ntmps6
      go_wp2_with (go_at_call 24; refine (new_ok_int room _ (by omega) (by omega)).mono ?_; rintro e w1 ⟨rfl, hb1, hg1⟩)
      have hst : PlSt w w.heap.size room [] [] none 0 w1 := ⟨below_of_grown hg1 (Nat.le_refl _), Nat.le_refl _, RS.nil _ _, (by intro a e; cases e), by simp; omega, none, 0, hb1, SlR.nil _ _, (by intro a e; cases e), (by intro a e; cases e)⟩
      clear hb1 hg1
      have hbB : w.heap.size ≤ w.heap.size := Nat.le_refl _
      generalize hb : w.heap.size = b at hst ⊢
      have HB := Lib.hid hb
      clear hb hbB
      go_loopw [7, 8] (fun tr ti wr => ∃ (i : Nat) (r : List Int) (ra : Option Addr) (rcap : Nat), i ≤ len ∧ tr = .slice ra r.length rcap ∧ ti = .int .i64 i ∧ PlSt w b room r r ra rcap wr) (fun _ ti _ => len - (intOf ti).toNat)
      case atStart => exact ⟨0, [], none, 0, by omega, rfl, rfl, hst⟩
      case round =>
        clear hst
        obtain ⟨i, r, ra, rcap, hi, rfl, rfl, hs⟩ := hrel
        by_cases hlt : i < len
        · obtain ⟨t, ht⟩ : ∃ t, acts[i]? = some t := ⟨_, List.getElem?_eq_getElem (by rw [HL.out]; exact hlt)⟩
          obtain ⟨g, o, rfl, x0, x1, x2, hxs⟩ := (hz.kept hs.bel).at ht
          obtain ⟨d, n, la, ln, lc, xs⟩ := t
          simp only at x0 x1 x2 hxs
          have HT := Lib.hid ht
          clear ht
          by_cases hln : 100 < ln
          · go_wp2_with (go_at_call 14; refine (wakes_any _).mono ?_; rintro e w2 ⟨rfl, hg⟩)
            go_ret
            exact ⟨rfl, hs.bel.trans (below_of_grown hg hs.bel.size)⟩
          · have hW := fun w => within_any d 4 w (by omega) (by omega)
            have k0 : 0 ≤ d % 4 := Int.emod_nonneg _ (by omega)
            have k1 : d % 4 < 4 := Int.emod_lt_of_pos _ (by omega)
            generalize d % 4 = k at hW k0 k1
            have HW := Lib.hid hW
            have hql := hs.qlen
            have hll : ((r ++ xs).length : Int) = (r.length : Int) + (ln : Int) := by
              have := hxs.1; rw [List.length_map, Nat.mul_one] at this
              rw [List.length_append, this]; omega
            have hll' : (r ++ xs).length = r.length + ln := by omega
            have HLL := Lib.hid hll
            have HLL' := Lib.hid hll'
            clear hW hll hll'
            rcases (show k = 0 ∨ k = 1 ∨ k = 2 ∨ k = 3 by omega) with rfl | rfl | rfl | rfl
            · by_cases hfit : (ln : Int) ≤ room - (r.length : Int)
              · go_wp2_with (first
                  | (go_at_call 9; refine (HW.out _).mono ?_; rintro e w2 ⟨rfl, rfl⟩)
                  | (go_at_call 22; refine (hs.push_yes (by omega) (by omega) la ln lc xs hxs hfit).mono ?_; rintro e w3 ⟨rfl, hs3⟩; obtain ⟨g', o', eg, y0, y1, y2, hys⟩ := (hz.kept hs3.bel).at HT.out; cases eg; simp only at y0 y1 y2 hys)
                  | (at_builtin; refine wpList_append_rs rfl _ _ rfl w.heap.size hs3.bel.size ra la r.length rcap ln lc r xs rfl rfl hs3.rs hys (by omega) ?_; intro ra' rcap' w4 row hrs hg hrow hat; rw [← HLL'.out] at hrs; have hs4 := hs3.appended hrs hg hrow hat)
                  | (go_at_call 23; refine (hs4.len_).mono ?_; rintro e w5 ⟨he, rfl⟩; rw [HLL.out] at he; subst he))
                go_roundw
                case rel => exact ⟨i + 1, r ++ xs, ra', rcap', by omega, by rw [HLL'.out], by go_num, hs4⟩
                case measure => simp [intOf]; omega
              · have hfit' : room - (r.length : Int) < (ln : Int) := by omega
                go_wp2_with (first
                  | (go_at_call 9; refine (HW.out _).mono ?_; rintro e w2 ⟨rfl, rfl⟩)
                  | (go_at_call 22; refine (hs.push_no (by omega) (by omega) la ln lc (by omega) hfit').mono ?_; rintro e w3 ⟨rfl, hs3⟩)
                  | (go_at_call 23; refine (hs3.len_).mono ?_; rintro e w5 ⟨rfl, rfl⟩))
                go_roundw
                case rel => exact ⟨i + 1, r, ra, rcap, by omega, rfl, by go_num, hs3⟩
                case measure => simp [intOf]; omega
            · by_cases hfit : (ln : Int) ≤ room - (r.length : Int)
              · go_wp2_with (first
                  | (go_at_call 9; refine (HW.out _).mono ?_; rintro e w2 ⟨rfl, rfl⟩)
                  | (go_at_call 22; refine (hs.push_yes (by omega) (by omega) la ln lc xs hxs hfit).mono ?_; rintro e w3 ⟨rfl, hs3⟩; obtain ⟨g', o', eg, y0, y1, y2, hys⟩ := (hz.kept hs3.bel).at HT.out; cases eg; simp only at y0 y1 y2 hys)
                  | (at_builtin; refine wpList_append_rs rfl _ _ rfl w.heap.size hs3.bel.size ra la r.length rcap ln lc r xs rfl rfl hs3.rs hys (by omega) ?_; intro ra' rcap' w4 row hrs hg hrow hat; rw [← HLL'.out] at hrs; have hs4 := hs3.appended hrs hg hrow hat)
                  | (go_at_call 23; refine (hs4.len_).mono ?_; rintro e w5 ⟨he, rfl⟩; rw [HLL.out] at he; subst he))
                go_roundw
                case rel => exact ⟨i + 1, r ++ xs, ra', rcap', by omega, by rw [HLL'.out], by go_num, hs4⟩
                case measure => simp [intOf]; omega
              · have hfit' : room - (r.length : Int) < (ln : Int) := by omega
                go_wp2_with (first
                  | (go_at_call 9; refine (HW.out _).mono ?_; rintro e w2 ⟨rfl, rfl⟩)
                  | (go_at_call 22; refine (hs.push_no (by omega) (by omega) la ln lc (by omega) hfit').mono ?_; rintro e w3 ⟨rfl, hs3⟩)
                  | (go_at_call 23; refine (hs3.len_).mono ?_; rintro e w5 ⟨rfl, rfl⟩))
                go_roundw
                case rel => exact ⟨i + 1, r, ra, rcap, by omega, rfl, by go_num, hs3⟩
                case measure => simp [intOf]; omega
            · rcases r with _ | ⟨x, r⟩
              · simp only [List.length_nil]
                go_wp2_with (first
                  | (go_at_call 9; refine (HW.out _).mono ?_; rintro e w2 ⟨rfl, rfl⟩)
                  | (go_at_call 21; refine (hs.pop_none).mono ?_; rintro e w3 ⟨rfl, hs3⟩)
                  | (go_at_call 23; refine (hs3.len_).mono ?_; rintro e w5 ⟨he, rfl⟩; rw [List.length_nil] at he; subst he))
                go_roundw
                case rel => exact ⟨i + 1, [], ra, rcap, by omega, rfl, by go_num, hs3⟩
                case measure => simp [intOf]; omega
              · simp only [List.length_cons]
                clear hql
                obtain ⟨g5, o5, rfl, _, _, _⟩ := hs.rs.1.at (k := 0) (c := .int .i64 x) rfl
                have hle5 := hs.rs.1.2.1
                have hmx5 := hs.rs.1.2.2.1
                unfold maxLen at hmx5
                simp only [List.length_cons] at hle5
                go_wp2_with (first
                  | (go_at_call 9; refine (HW.out _).mono ?_; rintro e w2 ⟨rfl, rfl⟩)
                  | (go_at_call 21; refine (hs.pop_some (by omega)).mono ?_; rintro e w3 ⟨rfl, hs3⟩; obtain ⟨g6, o6, e6, hc6, _, _⟩ := hs3.rs.1.at (k := 0) (c := .int .i64 x) rfl; cases e6; rw [Nat.add_zero] at hc6; obtain ⟨go, hcut, hs4⟩ := hs3.cut; have hrun := (fun W => run_cutl (some ⟨g5, o5, none⟩) (r.length + 1) rcap 1 (by omega) W); rw [hcut] at hrun; simp only [Int.cast_ofNat_Int] at hrun; clear hcut)
                  | (go_at_call 23; refine (hs4.len_).mono ?_; rintro e w5 ⟨rfl, rfl⟩))
                go_roundw
                case rel => exact ⟨i + 1, r, go, rcap - 1, by omega, rfl, by go_num, hs4⟩
                case measure => simp [intOf]; omega
            · rcases (show n < 0 ∨ (0 ≤ n ∧ (r.length : Int) ≤ n) ∨ (0 ≤ n ∧ n < (r.length : Int)) by omega) with hn | ⟨hn, hn2⟩ | ⟨hn, hn2⟩
              · have hnn : ¬ 0 ≤ n := by omega
                go_wp2_with (first
                  | (go_at_call 9; refine (HW.out _).mono ?_; rintro e w2 ⟨rfl, rfl⟩)
                  | (go_at_call 25; refine (hs.at_out n (.inl hn)).mono ?_; rintro e w3 ⟨rfl, rfl⟩)
                  | (go_at_call 23; refine (hs.len_).mono ?_; rintro e w5 ⟨rfl, rfl⟩))
                go_roundw
                case rel => exact ⟨i + 1, r, ra, rcap, by omega, rfl, by go_num, hs⟩
                case measure => simp [intOf]; omega
              · have hnn : ¬ n < (r.length : Int) := by omega
                go_wp2_with (first
                  | (go_at_call 9; refine (HW.out _).mono ?_; rintro e w2 ⟨rfl, rfl⟩)
                  | (go_at_call 25; refine (hs.at_out n (.inr hn2)).mono ?_; rintro e w3 ⟨rfl, rfl⟩)
                  | (go_at_call 23; refine (hs.len_).mono ?_; rintro e w5 ⟨rfl, rfl⟩))
                go_roundw
                case rel => exact ⟨i + 1, r, ra, rcap, by omega, rfl, by go_num, hs⟩
                case measure => simp [intOf]; omega
              · obtain ⟨kk, rfl⟩ : ∃ kk : Nat, n = (kk : Int) := ⟨n.toNat, by omega⟩
                have hkk : kk < r.length := by omega
                have hx : r[kk]? = some r[kk] := List.getElem?_eq_getElem hkk
                generalize r[kk] = x at hx
                obtain ⟨g5, o5, rfl, hc5, _, hle5⟩ := hs.rs.1.at (k := kk) (c := .int .i64 x) (by rw [List.getElem?_map, hx]; rfl)
                have HAT := Lib.hid (hs.at_in kk x hx)
                have hmx5 := hs.rs.1.2.2.1
                unfold maxLen at hmx5
                clear hx
                go_wp2_with (first
                  | (go_at_call 9; refine (HW.out _).mono ?_; rintro e w2 ⟨rfl, rfl⟩)
                  | (go_at_call 25; refine (HAT.out).mono ?_; rintro e w3 ⟨rfl, rfl⟩)
                  | (go_at_call 23; refine (hs.len_).mono ?_; rintro e w5 ⟨rfl, rfl⟩))
                go_roundw
                case rel => exact ⟨i + 1, r, some ⟨g5, o5, none⟩, rcap, by omega, rfl, by go_num, hs⟩
                case measure => simp [intOf]; omega
        · obtain rfl : i = len := by omega
          obtain ⟨gq, cq, hq1, hq2, hq3, hq4⟩ := hs.que
          have hql := hs.qlen
          have hbox := Boxed.new wr 41 (.pointer (some ⟨b, 0, none⟩))
          have hbl := lt_of_block hq1
          have hq1' := (Below.heap_alloc wr (.cells #[.pointer (some ⟨b, 0, none⟩)] 41) b hbl).trans hq1
          have HQ := Lib.hid hq1
          have HQ' := Lib.hid hq1'
          have hls : ∀ w', w' = wr.alloc (.cells #[.pointer (some ⟨b, 0, none⟩)] 41) → Calls Try.prog 26 #[.func (.func 30) #[] #[.pointer (some ⟨wr.heap.size, 0, none⟩)]] w' fun e w' => ∃ go c', e = .returned (.slice go r.length c') ∧ IntSl w' go r.length c' r ∧ wr.grownBy w' none := by
            rintro w' rfl
            refine (all_list wr.heap.size b room r.length cq gq r _ hbox hq1' (SlR.grown hq2 (World.grownBy_alloc wr _ none) (by simp)) (by omega)).mono ?_
            rintro e w' ⟨go, c', h1, h2, h3⟩
            exact ⟨go, c', h1, h2, grownBy_trans (World.grownBy_alloc wr _ none) h3⟩
          clear hq1 hq1' hq2 hq4 hbox
          have HLS := Lib.hid hls
          clear hls
          go_wp2_with (first
            | (go_at_call 20; refine (all_mk (some ⟨b, 0, none⟩) _).mono ?_; rintro e w3 ⟨rfl, rfl⟩)
            | (go_at_call 26; refine (HLS.out _ rfl).mono ?_; rintro e w4 ⟨go, c', rfl, hsl4, hg4⟩; have hs4 := hs.grown hg4)
            | (go_at_call 17; refine (ints_any go ra r.length c' r.length rcap r r w4 hsl4 hs4.rs.1).mono ?_; rintro e w5 ⟨rfl, j, rfl⟩; rw [decide_eq_true rfl])
            | (go_at_call 14; refine (wakes_any _).mono ?_; rintro e w6 ⟨rfl, hg6⟩))
          go_ret
          exact ⟨rfl, hs4.bel.trans (below_of_grown (grownBy_of_drewN hg6) hs4.bel.size)⟩
end Go.Proofs.Ytkogdiglpncolaa
