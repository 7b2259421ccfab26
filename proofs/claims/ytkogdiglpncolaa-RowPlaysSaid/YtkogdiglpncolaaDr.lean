/-
  The iterator of Drain over a queue that the loop's body may fill again.
-/
import Derived.Test.YtkogdiglpncolaaIt
import Derived.Sort.LoopGhostIn
namespace Go.Proofs.Ytkogdiglpncolaa
open Go Go.RowKit
attribute [local go_sem] Oper.semAt_some

/-- The queue at block b holds xs, that lie at g. -/
def QAt (Bq b : Nat) (room : Int) (xs : List Int) (g : Option Addr) (c : Nat) (W : World) : Prop :=
  W.heap[Bq]? = some (.cells #[.pointer (some ⟨b, 0, none⟩)] 41 (0, 0)) ∧ W.heap[b]? = some (.cells #[.int .i64 room, .slice g xs.length c] 62 (0, 0)) ∧ IntSl W g xs.length c xs ∧ OffB b g xs.length

set_option maxHeartbeats 1000000 in
theorem drain_iterQ (Bq b N : Nat) (room : Int) (q : Nat → List Int) (x : Nat → Int) (r : Nat → List Int) (hq : ∀ k, k < N → q k = x k :: r k) (hN : q N = []) (hlen : ∀ k, k ≤ N → (q k).length ≤ 65536) (hne : Bq ≠ b)
    (m l : Nat) (J J1 Jx : Nat → World → Prop) (W : World)
    (hJ : ∀ k A, J k A → ∃ g c, QAt Bq b room (q k) g c A)
    (hS : ∀ k A B g c g' c', k < N → J k A → QAt Bq b room (q k) g c A → QAt Bq b room (r k) g' c' B → (∀ K : Nat → Prop, InB K g (q k).length → InB K g' (r k).length) → A.grownBy B (some b) → J1 k B)
    (hY : ∀ k A, k < N → J1 k A → YieldAt Fence.wide m Try.prog l #[.int .i64 (x k)] A fun e B => (e = .returned (.bool true) ∧ J (k + 1) B) ∨ (e = .returned (.bool false) ∧ Jx (k + 1) B))
    (h0 : J 0 W) :
    Calls Try.prog 31 (#[.func (.yield l) #[] #[]] ++ #[.pointer (some ⟨Bq, 0, none⟩)]) W fun e B => (∃ v, e = .returned v) ∧ (J N B ∨ ∃ k, k ≤ N ∧ Jx k B) := by
  have HJ0 := Lib.hid hJ
  have HSS := Lib.hid hS
  have HYY := Lib.hid hY
  have HQ := Lib.hid hq
  have HQN := Lib.hid hN
  have HLN := Lib.hid hlen
  clear hJ hS hY hq hN hlen
  refine (callsIn_wide (n := m + 1)).1 ?_
  refine callsIn_of_wp Try.func31 rfl trivial ?_
  simp only [Try.ntmps31, List.size_toArray, List.length_cons, List.length_nil, Nat.reduceAdd, Nat.reduceSub, Array.replicate_succ, Array.replicate_zero, List.push_toArray, List.append_toArray, List.nil_append, List.cons_append]
  gi_wp2
  gi_loopg [4] N (fun gk _ wr => ∃ k : Nat, k ≤ N ∧ gk = N - k ∧ J k wr)
  case atStart => exact ⟨0, by omega, by omega, h0⟩
  case round =>
    obtain ⟨k, hk, hgk, hJ⟩ := hrel
    obtain ⟨go, c, hqa⟩ := HJ0.out k wr hJ
    have HQA := Lib.hid hqa
    obtain ⟨hbq, hb, hsl, hoff⟩ := hqa
    have hq1 := cell_of_one hbq
    have HGK := Lib.hid hgk
    clear hgk
    by_cases hlt : k < N
    · have hqk := HQ.out k hlt
      have hln := HLN.out k (by omega)
      rw [hqk] at hb hsl hoff hln
      have HQK := Lib.hid hqk
      simp only [List.length_cons] at hb hsl hoff hln
      have hpop := pop_some_int b room (r k).length c go wr (x k) ((r k).map (Value.int .i64)) hb hsl hoff (by omega)
      have HB := Lib.hid hb; clear hb hqk
      gi_wp2_with (refine ⟨trivial, ?_⟩; gi_at_call 21; refine (callsIn_wide.2 hpop).mono ?_; rintro e W1 ⟨rfl, go1, c1, hb1, hsl1, hin1, hg1⟩; have hJ1 := HSS.out k wr W1 go c go1 c1 hlt hJ HQA.out ⟨(hg1.block Bq (lt_of_block hbq) (fun e => hne (by cases e; rfl))).trans hbq, hb1, hsl1, hin1 (fun k => k ≠ b) hoff⟩ (by rw [HQK.out, List.length_cons]; exact hin1) hg1; obtain ⟨fn, tmps, assign, body, hy, hR⟩ := HYY.out k W1 hlt hJ1; clear hb1 hbq)
      refine hR.mono ?_
      rintro e W' (⟨rfl, hJ'⟩ | ⟨rfl, hJx'⟩)
      · gi_wp2
        gi_roundg (N - (k + 1))
        case rel => exact ⟨k + 1, by omega, rfl, hJ'⟩
        case measure => have := HGK.out; omega
      · gi_wp2
        refine bodyPost_ret (results_none rfl _ _ _) rfl ?_
        exact ⟨⟨_, rfl⟩, .inr ⟨k + 1, by omega, hJx'⟩⟩
    · obtain rfl : k = N := by omega
      rw [HQN.out] at hb
      have HB := Lib.hid hb
      have hpop := pop_none_int b room c go wr hb
      clear hb
      gi_wp2_with (refine ⟨trivial, ?_⟩; gi_at_call 21; refine (callsIn_wide.2 hpop).mono ?_; rintro e W1 ⟨rfl, rfl⟩)
      refine ⟨fun _ h => (by cases h), ?_⟩
      gi_wp2
      refine bodyPost_ret (results_none rfl _ _ _) rfl ?_
      exact ⟨⟨_, rfl⟩, .inl hJ⟩
end Go.Proofs.Ytkogdiglpncolaa
