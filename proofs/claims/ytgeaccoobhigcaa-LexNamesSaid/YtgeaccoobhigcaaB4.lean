/-
  ponderref05.All: the document's tokens in a slice.
-/
import Derived.Test.YtgeaccoobhigcaaB3
import Derived.Test.YtgeaccoobhigcaaAl
namespace Go.Proofs.Ytgeaccoobhigcaa
open Go Go.RowKit

theorem Try.info99 : (Try.prog.info? 99).map (fun i => (i.zero, i.size, i.bytes)) = some (some (.agg #[.int .i64 0, .string ⟨#[]⟩, .int .i64 0]), 3, 32) := by kernel_rfl

theorem own_below {W W' : World} {base : Nat} {e : TypeId} {size n : Nat} {v : Value} {xs : List Value} (h : W.ownsRow base e size v n xs) (hb : Below W.heap.size W W') : W'.ownsRow base e size v n xs := by
  refine h.kept (grown_of_below hb) ?_
  cases v.ownBlock <;> simp

theorem hrow3 (W : World) (a b c : Value) (o : Obj) (t : TypeId) : ∀ j u, [a, b, c][j]? = some u → ((W.alloc o).alloc (.cells #[a, b, c] t)).cell? ((⟨W.heap.size + 1, 0, none⟩ : Addr).add j) = some u := by
  have := row3_new (W.alloc o) a b c t
  rwa [World.size_alloc] at this

theorem cells_full {L : List Tk} {k : Nat} {x : Tk} (h : L.length = k + 1) (hx : L[k]? = some x) : cellsT (L.take k) ++ x.cells = cellsT L := by
  rw [← cellsT_snoc, ← take_snoc' hx, List.take_of_length_le (Nat.le_of_eq h)]

set_option maxHeartbeats 2000000 in
set_option maxRecDepth 100000 in
theorem refAll_any (s : ByteArray) (hs : s.size ≤ 1099511627776) (w : World) :
    Calls Try.prog 22 #[.string s] w fun e w' => ∃ go c, e = .returned (.slice go (toks s.data.toList).length c) ∧ SlR w' 3 go (toks s.data.toList).length c (cellsT (toks s.data.toList)) ∧
      (∀ a, go = some a → w.heap.size ≤ a.block) ∧ Below w.heap.size w w' := by
  obtain ⟨i0, hi, hz0, hz1, hz2⟩ := info_parts Try.info99
  have hlen := toks_length s.data.toList
  rw [size_toList] at hlen
  have hL0 : toks s.data.toList = toksP (from_ s (0 + skipN false (from_ s 0))) (0 + skipN false (from_ s 0)) := by
    unfold toks; rw [← from_all, past_from, Nat.zero_add]
  generalize toks s.data.toList = L at hlen hL0 ⊢
  have HL0 := Lib.hid hL0
  have hq0 : 0 + skipN false (from_ s 0) ≤ s.size := by have := skipN_le false (from_ s 0); rw [from_length] at this; omega
  have hb0 := fun w => skip_any s 0 (by omega) (by unfold maxLen; omega) w
  generalize 0 + skipN false (from_ s 0) = q0 at *
  have HB0 := Lib.hid hb0
  clear hL0 hb0
  go_enter Try.func22, Try.ntmps22
  go_wp2_with (go_at_call 54; refine (HB0.out _).mono ?_; rintro e w ⟨rfl, rfl⟩)
  go_loopw [3, 4] (fun v t wr => ∃ k q : Nat, q ≤ s.size ∧ t = .int .i64 q ∧ k ≤ L.length ∧ Hid (L.drop k = toksP (from_ s q) q) ∧ wr.ownsRow w.heap.size 99 3 v k (cellsT (L.take k)) ∧ Below w.heap.size w wr) (fun _ t _ => s.size - (intOf t).toNat)
  case atStart => exact ⟨0, q0, hq0, rfl, by omega, Lib.hid (by rw [List.drop_zero]; exact HL0.out), World.ownsRow_nil _ _ _ _, Below.refl _ _⟩
  case round =>
    obtain ⟨k, q, hq, rfl, hkL, HK, ho, hbl⟩ := hrel
    by_cases hlt : q < s.size
    · have hcons := from_lt s q hlt
      have HKC : Hid (L.drop k = ⟨(nextT (from_ s q)).kind, (nextT (from_ s q)).text, q⟩ :: if (nextT (from_ s q)).kind = 6 then [] else toksP (from_ s (q + (nextT (from_ s q)).len + skipN false (from_ s (q + (nextT (from_ s q)).len)))) (q + (nextT (from_ s q)).len + skipN false (from_ s (q + (nextT (from_ s q)).len)))) := Lib.hid (by
        rw [HK.out, hcons, toksP_cons, ← hcons, from_drop, past_from])
      have hnl : 1 ≤ (nextT (from_ s q)).len ∧ (nextT (from_ s q)).len ≤ s.size - q := by
        rw [← from_length, hcons]; exact nextT_len _ _
      have hnx := fun w => one_any s q hlt hs w
      generalize nextT (from_ s q) = N at HKC hnl hnx
      obtain ⟨kd, tx, ln⟩ := N
      simp only at HKC hnl hnx
      unfold tokV strV at hnx
      have HNX := Lib.hid hnx
      have hkl : k < L.length := by
        rcases Nat.lt_or_ge k L.length with h | h
        · exact h
        · have := HKC.out; rw [List.drop_eq_nil_of_le h] at this; cases this
      have hLk : L[k]? = some ⟨kd, tx, q⟩ := by
        have := HKC.out
        rw [List.drop_eq_getElem_cons hkl] at this
        rw [List.getElem?_eq_getElem hkl]
        injection this with h1 _
        rw [h1]
      have HLK := Lib.hid hLk
      have hbk := fun w => skip_any s (q + ln) (by omega) (by unfold maxLen; omega) w
      have HBL := Lib.hid hbk
      have HKD : Hid (L.drop (k + 1) = if kd = 6 then [] else toksP (from_ s (q + ln + skipN false (from_ s (q + ln)))) (q + ln + skipN false (from_ s (q + ln)))) := Lib.hid (by
        have := HKC.out
        rw [← List.tail_drop, this]; rfl)
      have hq2 : q + ln + skipN false (from_ s (q + ln)) ≤ s.size := by have := skipN_le false (from_ s (q + ln)); rw [from_length] at this; omega
      have hq3 : q < q + ln + skipN false (from_ s (q + ln)) := by omega
      generalize q + ln + skipN false (from_ s (q + ln)) = q2 at HBL HKD hq2 hq3
      clear hcons hnx hLk hbk
      have hnl2 := hbl.size
      by_cases h6 : kd = 6
      · have e6 : ((kd : Int) == 6) = true := by simp; omega
        have hl : L.length = k + 1 := by
          have := HKD.out
          rw [if_pos h6] at this
          have := congrArg List.length this
          rw [List.length_drop] at this
          simp at this
          omega
        have HLL := Lib.hid hl
        clear h6 hl
        go_wp2_with (first | (go_at_call 55; refine (HNX.out _).mono ?_; rintro e W2 ⟨rfl, hb2⟩; have ho2 := own_below ho hb2; have hbl2 := hbl.trans (hb2.mono hbl.size); have hnl3 : w.heap.size ≤ W2.heap.size := hbl2.size; clear ho hbl hb2) | (at_builtin; refine wpList_append_own _ rfl _ _ 23 rfl w.heap.size 99 i0 (.agg #[.int .i64 0, .string ⟨#[]⟩, .int .i64 0]) 3 32 Try.underlying23 hi hz0 hz1 hz2 rfl (by decide) _ _ _ rfl ((ho2.alloc _).alloc _) ⟨W2.heap.size + 1, 0, none⟩ 1 1 [.int .i64 kd, .string ⟨tx.toArray⟩, .int .i64 q] rfl rfl (hrow3 W2 _ _ _ _ _) (by simp [Value.oneCell']) (by unfold maxLen; omega) (by omega) (by simp; omega) ?_; intro v' w1 hown' hgrow _; obtain ⟨g', cap', rfl⟩ := ownsRow_succ hown'; have hown2 := fun g (e : _ = some g) => own_lt ho2 e; have hbl3 : Below w.heap.size w w1 := (((hbl2.alloc hnl3 _).alloc (by simp; omega) _).grown hgrow (by simp; omega) (fun g e => (hown2 g e).1)); have ht1 : w1.heap[W2.heap.size]? = some (.cells #[.int .i64 kd, .string ⟨tx.toArray⟩, .int .i64 q] 99 (0, 0)) := (hgrow.block W2.heap.size (by simp; omega) (fun e => by have := (hown2 _ e.symm).2; omega)).trans ((Below.heap_alloc _ _ _ (by simp)).trans (heap_alloc_new W2 _)); have hk0 : w1.cell? ⟨W2.heap.size, 0, none⟩ = some (.int .i64 kd) := (by rw [cell_of_row _ _ _ _ _ _ ht1]; rfl); clear ho2 hbl2 hgrow ht1 hown2))
        go_ret
        obtain ⟨go, c, hv, hsl, hbk⟩ := SlR.of_owns hown'
        rw [show [Value.int .i64 kd, .string ⟨tx.toArray⟩, .int .i64 q] = Tk.cells ⟨kd, tx, q⟩ from rfl, cells_full HLL.out HLK.out] at hsl
        rw [HLL.out]
        cases hv
        exact ⟨_, _, rfl, hsl, hbk, hbl3⟩
      · have e6 : ((kd : Int) == 6) = false := by simp; omega
        have HKE : Hid (L.drop (k + 1) = toksP (from_ s q2) q2) := Lib.hid (by rw [HKD.out, if_neg h6])
        clear h6
        go_wp2_with (first | (go_at_call 54; refine (HBL.out _).mono ?_; rintro e w' ⟨rfl, rfl⟩) | (go_at_call 55; refine (HNX.out _).mono ?_; rintro e W2 ⟨rfl, hb2⟩; have ho2 := own_below ho hb2; have hbl2 := hbl.trans (hb2.mono hbl.size); have hnl3 : w.heap.size ≤ W2.heap.size := hbl2.size; clear ho hbl hb2) | (at_builtin; refine wpList_append_own _ rfl _ _ 23 rfl w.heap.size 99 i0 (.agg #[.int .i64 0, .string ⟨#[]⟩, .int .i64 0]) 3 32 Try.underlying23 hi hz0 hz1 hz2 rfl (by decide) _ _ _ rfl ((ho2.alloc _).alloc _) ⟨W2.heap.size + 1, 0, none⟩ 1 1 [.int .i64 kd, .string ⟨tx.toArray⟩, .int .i64 q] rfl rfl (hrow3 W2 _ _ _ _ _) (by simp [Value.oneCell']) (by unfold maxLen; omega) (by omega) (by simp; omega) ?_; intro v' w1 hown' hgrow _; obtain ⟨g', cap', rfl⟩ := ownsRow_succ hown'; have hown2 := fun g (e : _ = some g) => own_lt ho2 e; have hbl3 : Below w.heap.size w w1 := (((hbl2.alloc hnl3 _).alloc (by simp; omega) _).grown hgrow (by simp; omega) (fun g e => (hown2 g e).1)); have ht1 : w1.heap[W2.heap.size]? = some (.cells #[.int .i64 kd, .string ⟨tx.toArray⟩, .int .i64 q] 99 (0, 0)) := (hgrow.block W2.heap.size (by simp; omega) (fun e => by have := (hown2 _ e.symm).2; omega)).trans ((Below.heap_alloc _ _ _ (by simp)).trans (heap_alloc_new W2 _)); have hk0 : w1.cell? ⟨W2.heap.size, 0, none⟩ = some (.int .i64 kd) := (by rw [cell_of_row _ _ _ _ _ _ ht1]; rfl); clear ho2 hbl2 hgrow ht1 hown2))
        go_roundw
        case rel => exact ⟨k + 1, q2, hq2, rfl, by omega, HKE, by rw [take_snoc' HLK.out, cellsT_snoc]; exact hown', hbl3⟩
        case measure => simp [intOf]; omega
    · have hqe : q = s.size := by omega
      have hend : from_ s q = [] := from_ge s q (by omega)
      have HKC : Hid (L.drop k = [⟨5, [], q⟩]) := Lib.hid (by rw [HK.out, hend, toksP_nil])
      have hkl : k < L.length := by
        rcases Nat.lt_or_ge k L.length with h | h
        · exact h
        · have := HKC.out; rw [List.drop_eq_nil_of_le h] at this; cases this
      have hll : L.length = k + 1 := by
        have := congrArg List.length HKC.out
        rw [List.length_drop] at this
        simp at this
        omega
      have hLk : L[k]? = some ⟨5, [], q⟩ := by
        have := HKC.out
        rw [List.drop_eq_getElem_cons hkl] at this
        rw [List.getElem?_eq_getElem hkl]
        injection this with h1 _
        rw [h1]
      have HLK := Lib.hid hLk
      have HLL := Lib.hid hll
      have HQE := Lib.hid hqe
      have hnl2 := hbl.size
      have hkk : k ≤ s.size := by omega
      clear hqe hend hLk hll hkl
      go_wp2_with (at_builtin; refine wpList_append_own _ rfl _ _ 23 rfl w.heap.size 99 i0 (.agg #[.int .i64 0, .string ⟨#[]⟩, .int .i64 0]) 3 32 Try.underlying23 hi hz0 hz1 hz2 rfl (by decide) _ _ _ rfl (ho.alloc _) ⟨wr.heap.size, 0, none⟩ 1 1 [.int .i64 5, .string ⟨#[]⟩, .int .i64 s.size] rfl rfl (row3_new _ _ _ _ _) (by simp [Value.oneCell']) (by unfold maxLen; omega) (by omega) (by simp; omega) ?_; intro v' w1 hown' hgrow _; obtain ⟨g', cap', rfl⟩ := ownsRow_succ hown'; have hown2 := fun g (e : _ = some g) => own_lt ho e; have hbl3 : Below w.heap.size w w1 := ((hbl.alloc hnl2 _).grown hgrow (by simp; omega) (fun g e => (hown2 g e).1)); clear ho hbl hgrow hown2)
      go_ret
      obtain ⟨go, c, hv, hsl, hbk⟩ := SlR.of_owns hown'
      rw [show [Value.int .i64 5, .string ⟨#[]⟩, .int .i64 s.size] = Tk.cells ⟨5, [], q⟩ by rw [HQE.out]; rfl, cells_full HLL.out HLK.out] at hsl
      rw [HLL.out]
      cases hv
      exact ⟨_, _, rfl, hsl, hbk, hbl3⟩
end Go.Proofs.Ytgeaccoobhigcaa
