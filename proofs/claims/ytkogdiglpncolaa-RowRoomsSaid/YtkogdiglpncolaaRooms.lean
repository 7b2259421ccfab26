/-
  The walk of the law RowRooms: it returns true and leaves what was there as it was, at every argument.
-/
import Derived.Test.YtkogdiglpncolaaMk
import Derived.Test.YtkogdiglpncolaaQ2
import Derived.Test.YtkogdiglpncolaaP2
namespace Go.Proofs.Ytkogdiglpncolaa
open Go Go.RowKit

/-- One-byte strings. -/
def Ones (vs : List Value) : Prop := ∀ v ∈ vs, ∃ s : ByteArray, v = .string s ∧ s.size = 1

/-- The queue of the law: its block, its room, what it holds. -/
def QS (w0 : World) (b : Nat) (room : Int) (wr : World) : Prop :=
  ∃ n c go vs, wr.heap[b]? = some (.cells #[.int .i64 room, .slice go n c] 60 (0, 0)) ∧ SlR wr 1 go n c vs ∧ Ones vs ∧ (n : Int) ≤ room ∧ InB (fun k => w0.heap.size ≤ k ∧ k ≠ b) go n ∧ Below w0.heap.size w0 wr

theorem conv_one (wx : World) (q : Int) :
    (convert 29 9 (.slice (some ⟨wx.heap.size, 0, none⟩) 1 1)).run Try.prog (wx.alloc (.cells #[.int .u8 q] 5)) = .ok (.string (strOfNums [q])) (wx.alloc (.cells #[.int .u8 q] 5)) := by
  refine run_convert_bytes_arg (P := Try.prog) (wx.alloc (.cells #[.int .u8 q] 5)) 29 5 Try.underlying29 Try.underlying5 wx.heap.size 0 1 1 [q] rfl ?_ 9 Try.underlying9
  intro i hi
  obtain rfl : i = 0 := by omega
  simp

theorem block_setCell {w : World} {b j : Nat} {cs : Array Value} {v : Value} {t : TypeId} {fz : Nat × Nat} (h : w.heap[b]? = some (.cells cs t fz)) : (w.setCell ⟨b, j, none⟩ v).heap[b]? = some (.cells (cs.setIfInBounds j v) t fz) := by
  have hlt := lt_of_block h
  have h' : w.heap[b] = .cells cs t fz := by simpa [Array.getElem?_eq_getElem hlt] using h
  show (w.heap.modify b _)[b]? = _
  rw [Array.getElem?_eq_getElem (by simpa using hlt), Array.getElem_modify_self, h']
  rfl

/-- The law's own list: a block of m strings, the first j of one byte each. -/
def LS (wr : World) (L m j : Nat) (wi : World) : Prop :=
  ∃ cs : Array Value, wi.heap[L]? = some (.cells cs 9 (0, 0)) ∧ cs.size = m ∧ (∀ t, t < j → ∃ s : ByteArray, cs[t]? = some (.string s) ∧ s.size = 1) ∧ (∀ t, t < m → ∃ s : ByteArray, cs[t]? = some (.string s)) ∧ Below L wr wi

set_option maxRecDepth 100000 in
set_option maxHeartbeats 2000000 in
theorem rowRooms_walk (room : Int) (ao : Option Addr) (len cap : Nat) (zs : List Int) (w : World) (hz : IntSl w ao len cap zs) :
    Calls Try.prog 3 #[.int .i64 room, .slice ao len cap] w fun e w' => e = .returned (.bool true) ∧ Below w.heap.size w w' := by
  have bl : len ≤ 9223372036854775807 := by have := hz.2.1; have := hz.2.2.1; unfold maxLen at this; omega
  have hin := SlR.inB hz (by omega)
  have HL : Hid (zs.length = len) := Lib.hid (by have := hz.1; simpa using this)
  obtain ⟨i0, hi, hz0, hz1, hz2⟩ := info_parts Try.info9
  have r0 : 0 ≤ room % 300 := Int.emod_nonneg _ (by omega)
  have r1 : room % 300 < 300 := Int.emod_lt_of_pos _ (by omega)
  go_enter Try.func3, Try.ntmps3
  go_wp2_with fail
  refine (within_any room 300 w (by omega) (by omega)).mono ?_
  rintro e w' ⟨rfl, rfl⟩
  generalize room % 300 = r at *
  go_wp2_with fail
  refine (new_ok_str _ w (by omega) (by omega)).mono ?_
  rintro e w1 ⟨rfl, hb1, hg1⟩
  have hbel : Below w.heap.size w w1 := below_of_grown hg1 (Nat.le_refl _)
  have hQ : QS w w.heap.size (1 + r) w1 := ⟨0, 0, none, [], hb1, SlR.nil _ _, (by intro v hv; simp at hv), by omega, (by intro a h; cases h), hbel⟩
  clear hg1
  generalize hB : w.heap.size = B at *
  go_wp2_with fail
  go_loopw [7] (fun i wr => ∃ k : Nat, k ≤ len ∧ k ≤ 50 ∧ i = .int .i64 k ∧ QS w B (1 + r) wr) (fun i _ => 50 - (intOf i).toNat)
  case atStart => exact ⟨0, by omega, by omega, rfl, hQ⟩
  case round =>
    obtain ⟨k, hk, hk50, rfl, n, c, go, vs, hb, hsl, hones, hnr, hing, hbl⟩ := hrel
    by_cases hgo : k < len ∧ k < 50
    · obtain ⟨h1, h2⟩ := hgo
      have hxk : zs[k]? = some (zs[k]'(by rw [HL.out]; exact h1)) := by simp
      generalize zs[k]'(by rw [HL.out]; exact h1) = x at hxk
      obtain ⟨g1, o1, rfl, hc1, _, h3⟩ := (SlR.below hz hbl (by rw [hB]; exact hin)).at (k := k) (c := .int .i64 x) (by simp [hxk])
      have HXK := Lib.hid hxk; clear hxk
      have m0 : 0 ≤ x % 120 := Int.emod_nonneg _ (by omega)
      have m1 : x % 120 < 120 := Int.emod_lt_of_pos _ (by omega)
      have HB := Lib.hid hb; clear hb
      have HBB := Lib.hid hB; clear hB
      clear hb1 hQ
      go_wp2_with fail
      refine (within_any x 120 wr (by omega) (by omega)).mono ?_
      rintro e w' ⟨rfl, rfl⟩
      obtain ⟨m, hm⟩ : ∃ m : Nat, x % 120 = (m : Int) := ⟨(x % 120).toNat, by omega⟩
      rw [hm] at m0 m1 ⊢
      clear hm
      go_wp2_with (at_make; refine wpList_make_full _ rfl _ _ 28 rfl wr.heap.size 9 i0 _ 1 Try.underlying28 hi hz0 hz1 .i64 .i64 m m m rfl rfl rfl rfl (by rw [hz2]; omega) (by unfold maxLen; omega) (Nat.le_refl _) ?_; intro w2 hown hg2)
      obtain ⟨L, hL⟩ : ∃ L, wr.heap.size = L := ⟨_, rfl⟩
      rw [hL] at hown ⊢
      have hLS : LS wr L m 0 w2 := by
        rcases hown.2 with ⟨e, _⟩ | ⟨g, cap, cur, e, _, hgg, _, _, hsz, htk⟩
        · cases e
        · cases e
          refine ⟨cur, hgg, by omega, by intro t ht; omega, ?_, below_of_grown hg2 (by omega)⟩
          intro t ht
          have ht2 : cur.toList[t]? = (madeCells (Value.string ⟨#[]⟩).cells (m * 1)).toList[t]? := by rw [← htk, List.getElem?_take, if_pos (by omega)]
          refine ⟨⟨#[]⟩, ?_⟩
          rw [← Array.getElem?_toList, ht2]
          rw [show (Value.string ⟨#[]⟩).cells = #[Value.string ⟨#[]⟩] from rfl, Nat.mul_one, toList_madeCells_one, List.getElem?_replicate, if_pos ht]
      have HLL := Lib.hid hL; clear hL
      clear hown hg2
      obtain ⟨wo, rfl⟩ : ∃ wo : World, wo = wr := ⟨_, rfl⟩
      go_loopw [10] (fun i wi => ∃ j : Nat, j ≤ m ∧ i = .int .i64 j ∧ LS wo L m j wi) (fun i _ => m - (intOf i).toNat)
      case atStart => exact ⟨0, by omega, rfl, hLS⟩
      case round =>
        obtain ⟨j, hj, rfl, cs, hcs, hsz, hone, hall, hbw⟩ := hrel
        by_cases hlt : j < m
        · have hkc := conv_one wr
          obtain ⟨s0, hs0⟩ := hall j hlt
          have j0 : (0 : Int) ≤ (j : Int) := by omega
          have j1 : (j : Int) < (m : Int) := by omega
          have hl1 : wr.cell? ⟨L, j, none⟩ = some (.string s0) := by rw [cell_of_row wr L j cs 9 (0, 0) hcs]; exact hs0
          have hl2 : wr.frozen? ⟨L, j, none⟩ = false := by simp [World.frozen?, hcs]
          have HS0 := Lib.hid hs0; clear hs0
          have HCS := Lib.hid hcs; clear hcs
          have HSZ := Lib.hid hsz; clear hsz
          have HONE := Lib.hid hone; clear hone
          have HALL := Lib.hid hall; clear hall
          have hlL := lt_of_block HCS.out
          have hl1a := (World.cell?_of_block (a := ⟨L, j, none⟩) (Below.heap_alloc wr (.cells #[.int .u8 (97 + (j : Int) % 26)] 5) L hlL)).trans hl1
          have hl2a := (World.frozen?_of_block (a := ⟨L, j, none⟩) (Below.heap_alloc wr (.cells #[.int .u8 (97 + (j : Int) % 26)] 5) L hlL)).trans hl2
          go_wp2
          go_roundw
          case rel =>
            refine ⟨j + 1, by omega, by go_num, _, (Below.heap_alloc _ _ L (by simp [World.setCell]; exact hlL)).trans (block_setCell HCS.out), by simp [HSZ.out], ?_, ?_, (hbw.setCell (p := ⟨L, j, none⟩) (Nat.le_refl _) _).alloc (by simp [World.setCell]; omega) _⟩
            · intro t ht
              rcases Nat.lt_or_ge t j with h | h
              · obtain ⟨s, h1, h2⟩ := HONE.out t h
                exact ⟨s, by rw [Array.getElem?_setIfInBounds_ne (by omega)]; exact h1, h2⟩
              · obtain rfl : t = j := by omega
                exact ⟨strOfNums [97 + (t : Int) % 26], by rw [Array.getElem?_setIfInBounds_self_of_lt (by rw [HSZ.out]; omega)], rfl⟩
            · intro t ht
              rcases Decidable.em (t = j) with h | h
              · subst h
                exact ⟨strOfNums [97 + (t : Int) % 26], by rw [Array.getElem?_setIfInBounds_self_of_lt (by rw [HSZ.out]; omega)]⟩
              · obtain ⟨s, h1⟩ := HALL.out t ht
                exact ⟨s, by rw [Array.getElem?_setIfInBounds_ne (by omega)]; exact h1⟩
          case measure => simp [intOf]; omega
        · obtain rfl : j = m := by omega
          have hLw : wo.heap.size = L := HLL.out
          have hBL : B < L := by rw [← hLw]; exact lt_of_block HB.out
          have hsl1 := SlR.below hsl hbw (by rw [← hLw]; exact SlR.inB hsl (by omega))
          have hb1 := (hbw.block B hBL).trans HB.out
          have hin1 : InB (fun k => w.heap.size ≤ k ∧ k ≠ B ∧ k ≠ L) go n := fun a ha hn => ⟨(hing a ha hn).1, (hing a ha hn).2, by have := SlR.inB hsl (by omega) a ha hn; omega⟩
          have hll : SlR wr 1 (some ⟨L, 0, none⟩) j j cs.toList := ⟨by simp [hsz], Nat.le_refl _, by unfold maxLen; omega, by simp, fun a ha => by cases ha; exact CellsAt.of_block hcs 0 _ (fun t u ht => by rw [Nat.zero_add]; simpa using ht)⟩
          have hones1 : Ones cs.toList := by
            intro v hv
            obtain ⟨t, ht, rfl⟩ := List.getElem_of_mem hv
            simp at ht
            obtain ⟨s, h1, h2⟩ := hone t (by omega)
            exact ⟨s, by simpa [Array.getElem?_eq_getElem ht] using h1, h2⟩
          have hbelw : Below w.heap.size w wr := hbl.trans (hbw.mono (by have := hbl.size; omega))
          have hlen := len_str B (1 + r) n c go wr hb1
          have hpush : Calls Try.prog 12 #[.pointer (some ⟨B, 0, none⟩), .slice (some ⟨L, 0, none⟩) j j] wr fun e w' => ∃ (n' : Nat) (c' : Nat) (go' : Option Addr) (vs' : List Value),
              e = .returned (.bool (decide ((n : Int) + j ≤ 1 + r))) ∧ (if (n : Int) + j ≤ 1 + r then n' = n + j else n' = n) ∧ w'.heap[B]? = some (.cells #[.int .i64 (1 + r), .slice go' n' c'] 60 (0, 0)) ∧
              SlR w' 1 go' n' c' vs' ∧ Ones vs' ∧ InB (fun k => w.heap.size ≤ k ∧ k ≠ B ∧ k ≠ L) go' n' ∧ wr.grownBy w' (some B) := by
            have hlt := lt_of_block hb1
            have hltL := lt_of_block hcs
            by_cases hfit : (n : Int) + j ≤ 1 + r
            · refine (push_yes_str B (1 + r) n c j j go _ wr vs cs.toList hb1 (by omega) (by omega) hsl1 (fun a ha hn => (hin1 a ha hn).2.1) hll (by omega)).mono ?_
              rintro e w' ⟨rfl, go', c', h1, h2, h3, h4⟩
              exact ⟨n + j, c', go', _, by simp [hfit], by simp [hfit], h1, h2, by intro v hv; rcases List.mem_append.1 hv with h | h; exact hones v h; exact hones1 v h, h3 _ hin1 ⟨hbelw.size, by omega, by omega⟩, h4⟩
            · refine (push_no_str B (1 + r) n c j j go _ wr hb1 (by omega) (by omega) (by omega) (by unfold maxLen; omega) (by omega)).mono ?_
              rintro e w' ⟨rfl, h4⟩
              exact ⟨n, c, go, vs, by simp [hfit], by simp [hfit], (h4.block B hlt (by simp)).trans hb1, SlR.grown hsl1 h4 (by simp), hones, hin1, grownBy_some _ h4⟩
          have HCS := Lib.hid hcs; clear hcs
          have HSZ := Lib.hid hsz; clear hsz
          have HB1 := Lib.hid hb1; clear hb1
          have HBW := hbw.size
          have hltL := lt_of_block HCS.out
          have HLW := Lib.hid hLw; clear hLw
          have HALL := Lib.hid hall; clear hall
          clear hone hll hones1
          go_wp2_with fail
          refine hlen.mono ?_
          rintro e w' ⟨rfl, rfl⟩
          go_wp2_with fail
          refine hpush.mono ?_
          rintro e w3 ⟨n3, c3, go3, vs3, rfl, hn3, hb3, hsl3, hones3, hin3, hg3⟩
          have hlen3 := len_str B (1 + r) n3 c3 go3 w3 hb3
          have hn3r : (n3 : Int) ≤ 1 + r := by split at hn3 <;> omega
          have hn3c : n3 = n ∨ (n3 = n + j ∧ 0 < j) := by split at hn3 <;> omega
          have hcs3 := (hg3.block L hltL (by simp; omega)).trans HCS.out
          have hsz3 := HSZ.out
          have hall3 : ∀ t, t < j → ∃ s : ByteArray, cs[t]? = some (.string s) := HALL.out
          have hbel3 : Below w.heap.size w w3 := ⟨hg3.os.trans hbelw.os, hg3.tape.trans hbelw.tape, hg3.output.trans hbelw.output, Nat.le_trans hbelw.size hg3.size, fun i hi => (hg3.block i (by have := hbelw.size; omega) (by have := HBB.out; simp; omega)).trans (hbelw.block i hi)⟩
          have HB3 := Lib.hid hb3; clear hb3
          have HCS3 := Lib.hid hcs3; clear hcs3
          have HSZ3 := Lib.hid hsz3; clear hsz3
          have HALL3 := Lib.hid hall3; clear hall3
          clear hpush hn3 hlen HCS HSZ HALL hsl hsl1 hin1 hing hbw hbl hbelw hg3 hones HB1 HLW
          go_wp2_with fail
          refine hlen3.mono ?_
          rintro e w' ⟨rfl, rfl⟩
          go_wp2_with fail
          refine hlen3.mono ?_
          rintro e w' ⟨rfl, rfl⟩
          rcases hn3c with h | ⟨h, hj0⟩
          focus
            subst h
            have hne : ((n3 : Int) != n3) = false := by simp
            go_wp2_with fail
          rotate_left
          focus
            subst h
            have hne : ((n : Int) + j != n) = true := by simp; omega
            have hne2 : ((n : Int) + j != (n : Int) + j) = false := by simp
            go_wp2_with fail
            refine hlen3.mono ?_
            rintro e w' ⟨rfl, rfl⟩
            go_wp2_with fail
          all_goals
            obtain ⟨N, hN1, hN2, hN3, hN4⟩ : ∃ N : Nat, Hid (w3.heap[B]? = some (.cells #[.int .i64 (1 + r), .slice go3 N c3] 60 (0, 0))) ∧ SlR w3 1 go3 N c3 vs3 ∧ (N : Int) ≤ 1 + r ∧ InB (fun k => w.heap.size ≤ k ∧ k ≠ B ∧ k ≠ L) go3 N := ⟨_, HB3, hsl3, hn3r, hin3⟩
            clear HB3 hsl3 hn3r hin3 hlen3
            have hL3 := lt_of_block HCS3.out
            go_loopw [12] (fun i wi => ∃ t : Nat, t ≤ j ∧ i = .int .i64 t ∧ w3.grownBy wi (some L) ∧ ∃ ds : Array Value, Hid (wi.heap[L]? = some (.cells ds 9 (0, 0))) ∧ Hid (ds.size = j) ∧ ∀ t, t < j → ∃ s : ByteArray, ds[t]? = some (.string s)) (fun i _ => j - (intOf i).toNat)
            case atStart => exact ⟨0, by omega, rfl, grownBy_refl _ _, cs, HCS3, HSZ3, HALL3.out⟩
            case round =>
              obtain ⟨t, ht, rfl, hgi, ds, HDS, HDZ, hdall⟩ := hrel
              have hb3' := (hgi.block B (lt_of_block hN1.out) (by simp; omega)).trans hN1.out
              by_cases hlt : t < j
              · obtain ⟨s0, hs0⟩ := hdall t hlt
                have hl1 : wr.cell? ⟨L, t, none⟩ = some (.string s0) := by rw [cell_of_row wr L t ds 9 (0, 0) HDS.out]; exact hs0
                have hl2 : wr.frozen? ⟨L, t, none⟩ = false := by simp [World.frozen?, HDS.out]
                have t0 : (0 : Int) ≤ (t : Int) := by omega
                have t1 : (t : Int) < (j : Int) := by omega
                have HDA := Lib.hid hdall; clear hdall
                have HB3 := Lib.hid hb3'; clear hb3'
                have HS0 := Lib.hid hs0; clear hs0
                go_wp2
                go_roundw
                case rel =>
                  refine ⟨t + 1, by omega, by go_num, grownBy_trans hgi (grownBy_setCell _ ⟨L, t, none⟩ _), _, Lib.hid (block_setCell HDS.out), Lib.hid (by simp [HDZ.out]), ?_⟩
                  intro q hq
                  rcases Decidable.em (q = t) with h | h
                  · subst h
                    exact ⟨_, by rw [Array.getElem?_setIfInBounds_self_of_lt (by rw [HDZ.out]; omega)]⟩
                  · obtain ⟨s, h1⟩ := HDA.out q hq
                    exact ⟨s, by rw [Array.getElem?_setIfInBounds_ne (by omega)]; exact h1⟩
                case measure => simp [intOf]; omega
              · obtain rfl : t = j := by omega
                have hsl4 := SlR.grown hN2 hgi (fun b e => by cases e; exact fun a ha hn => (hN4 a ha hn).2.2)
                have hb4 : Below w.heap.size w wr := ⟨hgi.os.trans hbel3.os, hgi.tape.trans hbel3.tape, hgi.output.trans hbel3.output, Nat.le_trans hbel3.size hgi.size, fun i hi => (hgi.block i (by have := hbel3.size; omega) (by have := HBB.out; simp; omega)).trans (hbel3.block i hi)⟩
                have hN5 : InB (fun k => w.heap.size ≤ k ∧ k ≠ B) go3 N := fun a ha hn => ⟨(hN4 a ha hn).1, (hN4 a ha hn).2.1⟩
                by_cases hk3 : (k : Int) % 3 = 2
                · have hk3' : ((k : Int) % 3 == 2) = true := by simp [hk3]
                  have HK3 := Lib.hid hk3; clear hk3
                  rcases Nat.eq_zero_or_pos N with h0 | h0
                  · subst h0
                    have hpop := pop_none_str B (1 + r) c3 go3 wr hb3'
                    have hq : QS w B (1 + r) wr := ⟨0, c3, go3, vs3, hb3', hsl4, hones3, hN3, hN5, hb4⟩
                    clear hb3' hdall
                    go_wp2_with fail
                    refine hpop.mono ?_
                    rintro e w' ⟨rfl, rfl⟩
                    go_wp2_with fail
                    exact ⟨⟨k + 1, by omega, by omega, by go_num, hq⟩, by simp [intOf]; omega⟩
                  · obtain ⟨N', rfl⟩ : ∃ N', N = N' + 1 := ⟨N - 1, by omega⟩
                    obtain ⟨v, vr, rfl⟩ : ∃ v vr, vs3 = v :: vr := by
                      cases vs3 with
                      | nil => have := hsl4.1; simp at this
                      | cons v vr => exact ⟨v, vr, rfl⟩
                    obtain ⟨s, rfl, hs1⟩ := hones3 v (by simp)
                    have hpop := pop_some_str B (1 + r) N' c3 go3 wr s vr hb3' hsl4 (fun a ha hn => (hN5 a ha hn).2) (by omega)
                    have hs2 : ((s.size : Int) != 1) = false := by simp [hs1]
                    have HS1 := Lib.hid hs1; clear hs1
                    clear hb3' hdall
                    go_wp2_with fail
                    refine hpop.mono ?_
                    rintro e w' ⟨rfl, go4, c4, hb5, hsl5, hin5, hg5⟩
                    have hb6 : Below w.heap.size w w' := ⟨hg5.os.trans hb4.os, hg5.tape.trans hb4.tape, hg5.output.trans hb4.output, Nat.le_trans hb4.size hg5.size, fun i hi => (hg5.block i (by have := hb4.size; omega) (by have := HBB.out; simp; omega)).trans (hb4.block i hi)⟩
                    have hq : QS w B (1 + r) w' := ⟨N', c4, go4, vr, hb5, hsl5, fun v hv => hones3 v (by simp [hv]), by omega, hin5 _ hN5, hb6⟩
                    clear hb5
                    go_wp2_with fail
                    exact ⟨⟨k + 1, by omega, by omega, by go_num, hq⟩, by simp [intOf]; omega⟩
                · have hk3' : ((k : Int) % 3 == 2) = false := by simp [hk3]
                  have hq : QS w B (1 + r) wr := ⟨N, c3, go3, vs3, hb3', hsl4, hones3, hN3, hN5, hb4⟩
                  clear hb3' hdall
                  go_wp2_with fail
                  exact ⟨⟨k + 1, by omega, by omega, by go_num, hq⟩, by simp [intOf]; omega⟩
    · have hw : (wakes_any wr) = (wakes_any wr) := rfl
      clear hb1 hQ hw
      have HB := Lib.hid hb; clear hb
      have HBB := Lib.hid hB; clear hB
      by_cases h1 : k < len
      · have h2 : ¬ k < 50 := fun h => hgo ⟨h1, h⟩
        go_wp2_with fail
        refine (wakes_any wr).mono ?_
        rintro e w' ⟨rfl, hg⟩
        go_wp2_with fail
        go_ret
        exact ⟨rfl, hbl.trans (below_of_grown hg hbl.size)⟩
      · go_wp2_with fail
        refine (wakes_any wr).mono ?_
        rintro e w' ⟨rfl, hg⟩
        go_wp2_with fail
        go_ret
        exact ⟨rfl, hbl.trans (below_of_grown hg hbl.size)⟩
end Go.Proofs.Ytkogdiglpncolaa
