/-
  The iterators of All, of Drain and of a law: what each tells, whatever the loop body does that keeps what the iterator needs.
-/
import Derived.Test.YtkogdiglpncolaaRf
import Derived.Test.YtkogdiglpncolaaQ1
import Derived.Test.YtkogdiglpncolaaKp
namespace Go.Proofs.Ytkogdiglpncolaa
open Go Go.RowKit
attribute [local go_sem] Oper.semAt_some

/-- AN ITERATOR that tells the values 'vals': 'Need k' is what it needs (and has made) when k are told; it writes block 'row' alone, and makes blocks. -/
def IterG (P : Program) (gf : Nat) (lb : Array Value) (vals : List Value) (Need : Nat → World → Prop) (row : Option Nat) : Prop :=
  ∀ (m l : Nat) (J J1 Jx : Nat → World → Prop) (W : World),
    (∀ k A, J k A → Need k A) →
    (∀ k A B, k < vals.length → J k A → Need (k + 1) B → A.grownBy B row → J1 k B) →
    (∀ k A B, J k A → A.grownBy B none → J k B) →
    (∀ k A B, Jx k A → A.grownBy B none → Jx k B) →
    (∀ k x A, vals[k]? = some x → J1 k A → YieldAt Fence.wide m P l #[x] A fun e B => (e = .returned (.bool true) ∧ J (k + 1) B) ∨ (e = .returned (.bool false) ∧ Jx (k + 1) B)) →
    J 0 W →
    Calls P gf (#[.func (.yield l) #[] #[]] ++ lb) W fun e B => (∃ v, e = .returned v) ∧ (J vals.length B ∨ ∃ k, k ≤ vals.length ∧ Jx k B)

set_option maxHeartbeats 1000000 in
theorem all_iter (Bq b : Nat) (room : Int) (n c : Nat) (ao : Option Addr) (xs : List Int) :
    IterG Try.prog 30 #[.pointer (some ⟨Bq, 0, none⟩)] (xs.map (Value.int .i64))
      (fun k W => (k = 0 → W.cell? ⟨Bq, 0, none⟩ = some (.pointer (some ⟨b, 0, none⟩)) ∧ W.heap[b]? = some (.cells #[.int .i64 room, .slice ao n c] 62 (0, 0))) ∧ IntSl W ao n c xs) none := by
  intro m l J J1 Jx W hN hS hg hgx hY h0
  obtain ⟨hq, hsl⟩ := hN 0 W h0
  obtain ⟨hq, hb⟩ := hq rfl
  obtain ⟨h1, h2, h3, h4⟩ := two_cells hb
  have HL : Hid (xs.length = n) := by have := hsl.1; simp at this; exact this
  have bn : n ≤ 9223372036854775807 := by have := hsl.2.1; have := hsl.2.2.1; unfold maxLen at this; omega
  clear hb
  refine (callsIn_wide (n := m + 1)).1 ?_
  refine callsIn_of_wp Try.func30 rfl trivial ?_
  simp only [Try.ntmps30, List.size_toArray, List.length_cons, List.length_nil, Nat.reduceAdd, Nat.reduceSub, Array.replicate_succ, Array.replicate_zero, List.push_toArray, List.append_toArray, List.nil_append, List.cons_append]
  gi_wp2
  gi_loopw [4] (fun i wr => ∃ k : Nat, k ≤ n ∧ i = .int .i64 k ∧ J k wr) (fun i _ => n - (intOf i).toNat)
  case atStart => exact ⟨0, by omega, rfl, h0⟩
  case round =>
    obtain ⟨k, hk, rfl, hJ⟩ := hrel
    by_cases hlt : k < n
    · have hxk : xs[k]? = some (xs[k]'(by rw [HL.out]; exact hlt)) := by simp
      generalize xs[k]'(by rw [HL.out]; exact hlt) = x at hxk
      obtain ⟨g1, o1, rfl, hc1, _, hle1⟩ := (hN k wr hJ).2.at (k := k) (c := .int .i64 x) (by simp [hxk])
      have hJ1 := hS k wr wr (by simp [HL.out]; exact hlt) hJ ⟨by simp, (hN k wr hJ).2⟩ (grownBy_refl _ _)
      obtain ⟨fn, tmps, assign, body, hy, hR⟩ := hY k (.int .i64 x) wr (by simp [hxk]) hJ1
      have HXK := Lib.hid hxk; clear hxk
      clear hN hS
      gi_wp2
      refine hR.mono ?_
      rintro e W' (⟨rfl, hJ'⟩ | ⟨rfl, hJx'⟩)
      · gi_wp2
        go_roundw
        case rel => exact ⟨k + 1, by omega, by go_num, hJ'⟩
        case measure => simp [intOf]; omega
      · gi_wp2
        refine bodyPost_ret (results_none rfl _ _ _) rfl ?_
        exact ⟨⟨_, rfl⟩, .inr ⟨k + 1, by rw [List.length_map, HL.out]; omega, hJx'⟩⟩
    · obtain rfl : k = n := by omega
      clear hN hS
      gi_wp2
      go_end0
      exact ⟨⟨_, rfl⟩, .inl (by rw [List.length_map, HL.out]; exact hJ)⟩
set_option maxHeartbeats 1000000 in
theorem collects_iter (Bl Ba : Nat) (n c : Nat) (ao : Option Addr) (xs : List Int) (hne : Bl ≠ Ba) (hoff : OffB Ba ao n) :
    IterG Try.prog 15 #[.pointer (some ⟨Bl, 0, none⟩), .pointer (some ⟨Ba, 0, none⟩)] (xs.map (Value.int .i64))
      (fun k W => W.heap[Bl]? = some (.cells #[.slice ao n c] 22 (0, 0)) ∧ IntSl W ao n c xs ∧ W.heap[Ba]? = some (.cells #[.int .i64 k] 3 (0, 0))) (some Ba) := by
  intro m l J J1 Jx W hN hS hg hgx hY h0
  have HL : Hid (xs.length = n) := by have := (hN 0 W h0).2.1.1; simp at this; exact this
  have bn : n ≤ 9223372036854775807 := by have := (hN 0 W h0).2.1.2.1; have := (hN 0 W h0).2.1.2.2.1; unfold maxLen at this; omega
  refine (callsIn_wide (n := m + 1)).1 ?_
  refine callsIn_of_wp Try.func15 rfl trivial ?_
  simp only [Try.ntmps15, List.size_toArray, List.length_cons, List.length_nil, Nat.reduceAdd, Nat.reduceSub, Array.replicate_succ, Array.replicate_zero, List.push_toArray, List.append_toArray, List.nil_append, List.cons_append]
  gi_wp2
  gi_loopw [4] (fun i wr => ∃ k : Nat, k ≤ n ∧ i = .int .i64 k ∧ J k wr) (fun i _ => n - (intOf i).toNat)
  case atStart => exact ⟨0, by omega, rfl, h0⟩
  case round =>
    obtain ⟨k, hk, rfl, hJ⟩ := hrel
    obtain ⟨hbl, hsl, hba⟩ := hN k wr hJ
    have hl1 := cell_of_one hbl
    have ha1 := cell_of_one hba
    have ha2 := free_of_one hba
    by_cases hlt : k < n
    · have hxk : xs[k]? = some (xs[k]'(by rw [HL.out]; exact hlt)) := by simp
      generalize xs[k]'(by rw [HL.out]; exact hlt) = x at hxk
      obtain ⟨g1, o1, rfl, hc1, _, hle1⟩ := hsl.at (k := k) (c := .int .i64 x) (by simp [hxk])
      have hg1 : g1 ≠ Ba := hoff _ rfl (by omega)
      have hba' := one_setCell (u := .int .i64 ((k : Int) + 1)) hba
      have hJ1 := hS k wr (wr.setCell ⟨Ba, 0, none⟩ (.int .i64 ((k : Int) + 1))) (by simp [HL.out]; exact hlt) hJ
        ⟨(Below.heap_setCell _ _ _ _ hne).trans hbl, SlR.grown hsl (grownBy_setCell _ _ _) (fun b e => by cases e; exact hoff), hba'⟩ (grownBy_setCell _ _ _)
      obtain ⟨fn, tmps, assign, body, hy, hR⟩ := hY k (.int .i64 x) _ (by simp [hxk]) hJ1
      have HXK := Lib.hid hxk; clear hxk
      have hl2 : (wr.setCell ⟨Ba, 0, none⟩ (.int .i64 ((k : Int) + 1))).cell? ⟨Bl, 0, none⟩ = some (.slice (some ⟨g1, o1, none⟩) n c) := cell_of_one ((Below.heap_setCell _ _ _ _ hne).trans hbl)
      have hc2 : (wr.setCell ⟨Ba, 0, none⟩ (.int .i64 ((k : Int) + 1))).cell? ⟨g1, o1 + k, none⟩ = some (.int .i64 x) := (World.cell?_of_block (Below.heap_setCell wr ⟨Ba, 0, none⟩ _ g1 hg1)).trans hc1
      clear hN hS hbl hba hba' hoff
      gi_wp2
      refine hR.mono ?_
      rintro e W' (⟨rfl, hJ'⟩ | ⟨rfl, hJx'⟩)
      · gi_wp2
        go_roundw
        case rel => exact ⟨k + 1, by omega, by go_num, hJ'⟩
        case measure => simp [intOf]; omega
      · gi_wp2
        refine bodyPost_ret (results_none rfl _ _ _) rfl ?_
        exact ⟨⟨_, rfl⟩, .inr ⟨k + 1, by rw [List.length_map, HL.out]; omega, hJx'⟩⟩
    · obtain rfl : k = n := by omega
      clear hN hS hbl hba hoff
      gi_wp2
      go_end0
      exact ⟨⟨_, rfl⟩, .inl (by rw [List.length_map, HL.out]; exact hJ)⟩

/-- How many things lie in the queue at block b. -/
def qLen (b : Nat) (w : World) : Nat :=
  match w.heap[b]? with
  | some (.cells cs _ _) => (match (cs.getD 1 undef : Value) with | .slice _ n _ => n | _ => 0)
  | _ => 0
theorem qLen_eq {b : Nat} {w : World} {r : Value} {ao : Option Addr} {n c : Nat} {t : TypeId} (h : w.heap[b]? = some (.cells #[r, .slice ao n c] t (0, 0))) : qLen b w = n := by
  simp [qLen, h]

set_option maxHeartbeats 1000000 in
theorem drain_iter (Bq b n₀ : Nat) (room : Int) (xs : List Int) (hlen : xs.length ≤ 65536) (hne : Bq ≠ b) :
    IterG Try.prog 31 #[.pointer (some ⟨Bq, 0, none⟩)] (xs.map (Value.int .i64))
      (fun k W => W.heap[Bq]? = some (.cells #[.pointer (some ⟨b, 0, none⟩)] 41 (0, 0)) ∧ ∃ go c, W.heap[b]? = some (.cells #[.int .i64 room, .slice go (xs.length - k) c] 62 (0, 0)) ∧ IntSl W go (xs.length - k) c (xs.drop k) ∧ OffB b go (xs.length - k) ∧ InB (fun j => j < n₀) go (xs.length - k)) (some b) := by
  intro m l J J1 Jx W hN hS hg hgx hY h0
  have HN := Lib.hid hN
  refine (callsIn_wide (n := m + 1)).1 ?_
  refine callsIn_of_wp Try.func31 rfl trivial ?_
  simp only [Try.ntmps31, List.size_toArray, List.length_cons, List.length_nil, Nat.reduceAdd, Nat.reduceSub, Array.replicate_succ, Array.replicate_zero, List.push_toArray, List.append_toArray, List.nil_append, List.cons_append]
  gi_wp2
  gi_loopw [4] (fun _ wr => ∃ k : Nat, k ≤ xs.length ∧ J k wr) (fun _ wr => qLen b wr)
  case atStart => exact ⟨0, by omega, h0⟩
  case round =>
    obtain ⟨k, hk, hJ⟩ := hrel
    obtain ⟨hbq, go, c, hb, hsl, hoff, hin⟩ := hN k wr hJ
    have hq1 := cell_of_one hbq
    by_cases hlt : k < xs.length
    · have hxk : xs[k]? = some (xs[k]) := by simp
      have hdr : xs.drop k = xs[k] :: xs.drop (k + 1) := List.drop_eq_getElem_cons hlt
      generalize xs[k] = x at hxk hdr
      obtain ⟨j, hj⟩ : ∃ j, xs.length - k = j + 1 := ⟨xs.length - k - 1, by omega⟩
      rw [hdr, hj] at hsl
      rw [hj] at hb hoff hin
      have hm0 := qLen_eq hb
      have hpop := pop_some_int b room j c go wr x ((xs.drop (k + 1)).map (Value.int .i64)) hb hsl hoff (by omega)
      have HXK := Lib.hid hxk; clear hxk
      have HDR := Lib.hid hdr; clear hdr
      have HJ := Lib.hid hj; clear hj
      have HM := Lib.hid hm0; clear hm0
      have HB := Lib.hid hb; clear hb
      gi_wp2_with (refine ⟨trivial, ?_⟩; gi_at_call 21; refine (callsIn_wide.2 hpop).mono ?_; rintro e W1 ⟨rfl, go1, c1, hb1, hsl1, hin1, hg1⟩; have ej : xs.length - (k + 1) = j := (by have := HJ.out; omega); have hJ1 := hS k wr W1 (by simp; exact hlt) hJ ⟨(hg1.block Bq (lt_of_block hbq) (fun e => hne (by cases e; rfl))).trans hbq, go1, c1, by rw [ej]; exact hb1, by rw [ej]; exact hsl1, by rw [ej]; exact hin1 (fun k => k ≠ b) hoff, by rw [ej]; exact hin1 _ hin⟩ hg1; obtain ⟨fn, tmps, assign, body, hy, hR⟩ := hY k (.int .i64 x) W1 (by simp [HXK.out]) hJ1; clear hb1 hbq ej hN hS)
      refine hR.mono ?_
      rintro e W' (⟨rfl, hJ'⟩ | ⟨rfl, hJx'⟩)
      · gi_wp2
        obtain ⟨_, go2, c2, hb2, _⟩ := HN.out (k + 1) W' hJ'
        exact ⟨⟨k + 1, by omega, hJ'⟩, by rw [qLen_eq hb2, HM.out]; have := HJ.out; omega⟩
      · gi_wp2
        refine bodyPost_ret (results_none rfl _ _ _) rfl ?_
        exact ⟨⟨_, rfl⟩, .inr ⟨k + 1, by simp; omega, hJx'⟩⟩
    · obtain rfl : k = xs.length := by omega
      rw [Nat.sub_self] at hb
      have HB := Lib.hid hb
      have hpop := pop_none_int b room c go wr hb
      clear hb hN hS
      gi_wp2_with (refine ⟨trivial, ?_⟩; gi_at_call 21; refine (callsIn_wide.2 hpop).mono ?_; rintro e W1 ⟨rfl, rfl⟩)
      refine ⟨fun _ h => (by cases h), ?_⟩
      gi_wp2
      refine bodyPost_ret (results_none rfl _ _ _) rfl ?_
      exact ⟨⟨_, rfl⟩, .inl (by simpa using hJ)⟩
end Go.Proofs.Ytkogdiglpncolaa
