/-
  The iterator of lex.Tokens: the tokens one by one, whatever the loop's body does that keeps what the iterator needs.
-/
import Derived.Test.YtgeaccoobhigcaaRf
import Derived.Test.YtgeaccoobhigcaaA9
namespace Go.Proofs.Ytgeaccoobhigcaa
open Go Go.RowKit
attribute [local go_sem] Oper.semAt_some

/-- A block that the iterator has made, and that the loop's body leaves alone. -/
def Shut (p : Option (Nat × Obj)) (W : World) : Prop := ∀ g o, p = some (g, o) → W.heap[g]? = some o

/-- AN ITERATOR that tells the values 'vals' and writes blocks of its own alone. 'Need' is what it needs. -/
def IterT (P : Program) (gf : Nat) (lb : Array Value) (vals : List Value) (Need : World → Prop) : Prop :=
  ∀ (m l : Nat) (J : Nat → World → Prop) (J1 : Nat → Option (Nat × Obj) → World → Prop) (Jx : Nat → World → Prop) (W : World),
    (∀ k A, J k A → Need A) →
    (∀ k A B p, k < vals.length → J k A → A.grownBy B none → (∀ g o, p = some (g, o) → A.heap.size ≤ g ∧ B.heap[g]? = some o) → J1 k p B) →
    (∀ k A B, J k A → A.grownBy B none → J k B) →
    (∀ k A B, Jx k A → A.grownBy B none → Jx k B) →
    (∀ k p x A, vals[k]? = some x → J1 k p A → YieldAt Fence.wide m P l #[x] A fun e B => ((e = .returned (.bool true) ∧ J (k + 1) B) ∨ (e = .returned (.bool false) ∧ Jx (k + 1) B)) ∧ Shut p B) →
    J 0 W →
    Calls P gf (#[.func (.yield l) #[] #[]] ++ lb) W fun e B => (∃ v, e = .returned v) ∧ (J vals.length B ∨ ∃ k, k ≤ vals.length ∧ Jx k B)

theorem grown_of_below {A B : World} (h : Below A.heap.size A B) : A.grownBy B none := ⟨h.os, h.tape, h.output, h.size, fun k hk _ => h.block k hk⟩

theorem from_all (s : ByteArray) : from_ s 0 = s.data.toList := from_zero s

set_option maxHeartbeats 2000000 in
theorem tokens_iter (Bt : Nat) (s : ByteArray) (hs : s.size ≤ 1099511627776) :
    IterT Try.prog 56 #[.pointer (some ⟨Bt, 0, none⟩)] ((toks s.data.toList).map Tk.val) (fun W => W.cell? ⟨Bt, 0, none⟩ = some (.string s)) := by
  intro m l J J1 Jx W hN hS hg hgx hY h0
  have hc := hN 0 W h0
  refine (callsIn_wide (n := m + 1)).1 ?_
  refine callsIn_of_wp Try.func56 rfl trivial ?_
  simp only [Try.ntmps56, List.size_toArray, List.length_cons, List.length_nil, Nat.reduceAdd, Nat.reduceSub, Array.replicate_succ, Array.replicate_zero, List.push_toArray, List.append_toArray, List.nil_append, List.cons_append]
  have hb0 := fun w => blanks_any s 0 (by omega) (by unfold maxLen; omega) w
  have HB0 := Lib.hid hb0
  generalize hL : toks s.data.toList = L at *
  have hL0 : L = toksP (from_ s (0 + skipN false (from_ s 0))) (0 + skipN false (from_ s 0)) := by
    rw [← hL]; unfold toks; rw [← from_all, past_from, Nat.zero_add]
  have HL0 := Lib.hid hL0
  have hq0 : 0 + skipN false (from_ s 0) ≤ s.size := by have := skipN_le false (from_ s 0); rw [from_length] at this; omega
  generalize 0 + skipN false (from_ s 0) = q0 at *
  clear hL hL0
  clear hb0
  have HN := Lib.hid hN
  have HS := Lib.hid hS
  have HGR := Lib.hid hg
  have HY := Lib.hid hY
  clear hN hS hg hY hgx
  gi_wp2_with (refine ⟨trivial, ?_⟩; gi_at_call 57; refine (callsIn_wide.2 (HB0.out _)).mono ?_; rintro e W1 ⟨rfl, rfl⟩)
  gi_loopw [3] (fun t wr => ∃ k q : Nat, q ≤ s.size ∧ t = .int .i64 q ∧ Hid (L.drop k = toksP (from_ s q) q) ∧ J k wr) (fun t _ => s.size - (intOf t).toNat)
  case atStart => exact ⟨0, q0, hq0, rfl, Lib.hid (by rw [List.drop_zero]; exact HL0.out), h0⟩
  case round =>
    obtain ⟨k, q, hq, rfl, HK, hJ⟩ := hrel
    have hc := HN.out k wr hJ
    by_cases hlt : q < s.size
    · have hcons := from_lt s q hlt
      have HKC : Hid (L.drop k = ⟨(nextT (from_ s q)).kind, (nextT (from_ s q)).text, q⟩ :: if (nextT (from_ s q)).kind = 6 then [] else toksP (from_ s (q + (nextT (from_ s q)).len + skipN false (from_ s (q + (nextT (from_ s q)).len)))) (q + (nextT (from_ s q)).len + skipN false (from_ s (q + (nextT (from_ s q)).len)))) := Lib.hid (by
        rw [HK.out, hcons, toksP_cons, ← hcons, from_drop, past_from])
      have hnl : 1 ≤ (nextT (from_ s q)).len ∧ (nextT (from_ s q)).len ≤ s.size - q := by
        rw [← from_length, hcons]; exact nextT_len _ _
      have hnx := fun w => next_any s q hlt hs w
      generalize nextT (from_ s q) = N at HKC hnl hnx
      obtain ⟨kd, tx, ln⟩ := N
      simp only at HKC hnl hnx
      unfold tokV strV at hnx
      have HNX := Lib.hid hnx
      have hkl : k < L.length := by
        rcases Nat.lt_or_ge k L.length with h | h
        · exact h
        · have := HKC.out; rw [List.drop_eq_nil_of_le h] at this; cases this
      have hLk : L[k]? = some ⟨kd, tx, q⟩ := by
        have := HKC.out
        rw [List.drop_eq_getElem_cons hkl] at this
        rw [List.getElem?_eq_getElem hkl]
        injection this with h1 _
        rw [h1]
      have HLK := Lib.hid hLk
      have hbl := fun w => blanks_any s (q + ln) (by omega) (by unfold maxLen; omega) w
      have HBL := Lib.hid hbl
      clear hcons hnx hLk hbl
      gi_wp2_with (refine ⟨trivial, ?_⟩; gi_at_call 58; refine (callsIn_wide.2 (HNX.out _)).mono ?_; rintro e W2 ⟨rfl, hb2⟩; have hx1 := HS.out k wr (W2.alloc (.cells #[.int .i64 kd, .string ⟨tx.toArray⟩, .int .i64 q] 30)) (some (W2.heap.size, .cells #[.int .i64 kd, .string ⟨tx.toArray⟩, .int .i64 q] 30)) (by rw [List.length_map]; exact hkl) hJ (grownBy_trans (grown_of_below hb2) (World.grownBy_alloc W2 _ none)) (by rintro g o e; cases e; exact ⟨hb2.size, heap_alloc_new W2 _⟩); obtain ⟨fn, tmps, assign, body, hy, hR⟩ := HY.out k _ (Tk.val ⟨kd, tx, q⟩) _ (by rw [List.getElem?_map, HLK.out]; rfl) hx1; rw [show Tk.val ⟨kd, tx, q⟩ = .agg #[.int .i64 kd, .string ⟨tx.toArray⟩, .int .i64 q] from rfl] at hy)
      have HKD : Hid (L.drop (k + 1) = if kd = 6 then [] else toksP (from_ s (q + ln + skipN false (from_ s (q + ln)))) (q + ln + skipN false (from_ s (q + ln)))) := Lib.hid (by
        have := HKC.out
        rw [← List.tail_drop, this]; rfl)
      have hq2 : q + ln + skipN false (from_ s (q + ln)) ≤ s.size := by have := skipN_le false (from_ s (q + ln)); rw [from_length] at this; omega
      have hq3 : q < q + ln + skipN false (from_ s (q + ln)) := by omega
      generalize q + ln + skipN false (from_ s (q + ln)) = q2 at HBL HKD hq2 hq3
      refine hR.mono ?_
      rintro e W' ⟨⟨rfl, hJ'⟩ | ⟨rfl, hJx'⟩, hsh⟩
      · have hG := hsh _ _ rfl
        have hg0 : W'.cell? ⟨W2.heap.size, 0, none⟩ = some (.int .i64 kd) := by rw [cell_of_row _ _ _ _ _ _ hG]; rfl
        have hc' := HN.out _ _ hJ'
        clear hsh hG
        by_cases h6 : kd = 6
        · have hl : L.length = k + 1 := by
            have := HKD.out
            rw [if_pos h6] at this
            have := congrArg List.length this
            rw [List.length_drop] at this
            simp at this
            omega
          have HLL := Lib.hid hl
          have e6 : ((kd : Int) == 6) = true := by simp; omega
          clear h6 hl
          gi_wp2
          refine bodyPost_ret (results_none rfl _ _ _) rfl ?_
          exact ⟨⟨_, rfl⟩, .inl (by rw [List.length_map, HLL.out]; exact hJ')⟩
        · have e6 : ((kd : Int) == 6) = false := by simp; omega
          have HKE : Hid (L.drop (k + 1) = toksP (from_ s q2) q2) := Lib.hid (by rw [HKD.out, if_neg h6])
          clear h6
          gi_wp2_with (refine ⟨trivial, ?_⟩; gi_at_call 57; refine (callsIn_wide.2 (HBL.out _)).mono ?_; rintro e W3 ⟨rfl, rfl⟩)
          go_roundw
          case rel => exact ⟨k + 1, q2, hq2, rfl, HKE, hJ'⟩
          case measure => simp [intOf]; omega
      · gi_wp2
        refine bodyPost_ret (results_none rfl _ _ _) rfl ?_
        exact ⟨⟨_, rfl⟩, .inr ⟨k + 1, by rw [List.length_map]; omega, hJx'⟩⟩
    · have hqe : q = s.size := by omega
      have hend : from_ s q = [] := from_ge s q (by omega)
      have HKC : Hid (L.drop k = [⟨5, [], q⟩]) := Lib.hid (by rw [HK.out, hend, toksP_nil])
      have hkl : k < L.length := by
        rcases Nat.lt_or_ge k L.length with h | h
        · exact h
        · have := HKC.out; rw [List.drop_eq_nil_of_le h] at this; cases this
      have hll : L.length = k + 1 := by
        have := congrArg List.length HKC.out
        rw [List.length_drop] at this
        simp at this
        omega
      have hLk : L[k]? = some ⟨5, [], q⟩ := by
        have := HKC.out
        rw [List.drop_eq_getElem_cons hkl] at this
        rw [List.getElem?_eq_getElem hkl]
        injection this with h1 _
        rw [h1]
      have HLK := Lib.hid hLk
      have HLL := Lib.hid hll
      have hx1 := HS.out k wr wr none (by rw [List.length_map]; exact hkl) hJ (grownBy_refl _ _) (by rintro g o e; cases e)
      obtain ⟨fn, tmps, assign, body, hy, hR⟩ := HY.out k _ (Tk.val ⟨5, [], q⟩) _ (by rw [List.getElem?_map, HLK.out]; rfl) hx1
      rw [show Tk.val ⟨5, [], q⟩ = .agg #[.int .i64 5, .string ⟨#[]⟩, .int .i64 q] from rfl, hqe] at hy
      clear hqe hend hLk hll
      gi_wp2
      refine hR.mono ?_
      rintro e W' ⟨⟨rfl, hJ'⟩ | ⟨rfl, hJx'⟩, _⟩
      · gi_wp2
        go_end0
        exact ⟨⟨_, rfl⟩, .inl (by rw [List.length_map, HLL.out]; exact hJ')⟩
      · gi_wp2
        go_end0
        exact ⟨⟨_, rfl⟩, .inr ⟨k + 1, by rw [List.length_map]; omega, hJx'⟩⟩
end Go.Proofs.Ytgeaccoobhigcaa
