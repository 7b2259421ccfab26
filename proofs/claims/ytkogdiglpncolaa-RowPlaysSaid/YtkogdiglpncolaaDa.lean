/-
  'First(q.Drain(), k)'; a slice that is cut at its head. The premises are their conditions.
-/
import Derived.Test.YtkogdiglpncolaaUs
import Derived.Test.YtkogdiglpncolaaDr
namespace Go.Proofs.Ytkogdiglpncolaa
open Go Go.RowKit

section
attribute [local go_sem] Oper.semAt_some
set_option maxHeartbeats 1000000 in
theorem drain_iterK (Bq b : Nat) (K : Nat → Prop) (room : Int) (xs : List Int) (hlen : xs.length ≤ 65536) (hne : Bq ≠ b) :
    IterG Try.prog 31 #[.pointer (some ⟨Bq, 0, none⟩)] (xs.map (Value.int .i64))
      (fun k W => W.heap[Bq]? = some (.cells #[.pointer (some ⟨b, 0, none⟩)] 41 (0, 0)) ∧ ∃ go c, W.heap[b]? = some (.cells #[.int .i64 room, .slice go (xs.length - k) c] 62 (0, 0)) ∧ IntSl W go (xs.length - k) c (xs.drop k) ∧ OffB b go (xs.length - k) ∧ InB K go (xs.length - k)) (some b) := by
  intro m l J J1 Jx W hN hS hg hgx hY h0
  have HN := Lib.hid hN
  refine (callsIn_wide (n := m + 1)).1 ?_
  refine callsIn_of_wp Try.func31 rfl trivial ?_
  simp only [Try.ntmps31, List.size_toArray, List.length_cons, List.length_nil, Nat.reduceAdd, Nat.reduceSub, Array.replicate_succ, Array.replicate_zero, List.push_toArray, List.append_toArray, List.nil_append, List.cons_append]
  gi_wp2
  gi_loopw [4] (fun _ wr => ∃ k : Nat, k ≤ xs.length ∧ J k wr) (fun _ wr => qLen b wr)
  case atStart => exact ⟨0, by omega, h0⟩
  case round =>
    obtain ⟨k, hk, hJ⟩ := hrel
    obtain ⟨hbq, go, c, hb, hsl, hoff, hin⟩ := hN k wr hJ
    have hq1 := cell_of_one hbq
    by_cases hlt : k < xs.length
    · have hxk : xs[k]? = some (xs[k]) := by simp
      have hdr : xs.drop k = xs[k] :: xs.drop (k + 1) := List.drop_eq_getElem_cons hlt
      generalize xs[k] = x at hxk hdr
      obtain ⟨j, hj⟩ : ∃ j, xs.length - k = j + 1 := ⟨xs.length - k - 1, by omega⟩
      rw [hdr, hj] at hsl
      rw [hj] at hb hoff hin
      have hm0 := qLen_eq hb
      have hpop := pop_some_int b room j c go wr x ((xs.drop (k + 1)).map (Value.int .i64)) hb hsl hoff (by omega)
      have HXK := Lib.hid hxk; clear hxk
      have HDR := Lib.hid hdr; clear hdr
      have HJ := Lib.hid hj; clear hj
      have HM := Lib.hid hm0; clear hm0
      have HB := Lib.hid hb; clear hb
      gi_wp2_with (refine ⟨trivial, ?_⟩; gi_at_call 21; refine (callsIn_wide.2 hpop).mono ?_; rintro e W1 ⟨rfl, go1, c1, hb1, hsl1, hin1, hg1⟩; have ej : xs.length - (k + 1) = j := (by have := HJ.out; omega); have hJ1 := hS k wr W1 (by simp; exact hlt) hJ ⟨(hg1.block Bq (lt_of_block hbq) (fun e => hne (by cases e; rfl))).trans hbq, go1, c1, by rw [ej]; exact hb1, by rw [ej]; exact hsl1, by rw [ej]; exact hin1 (fun k => k ≠ b) hoff, by rw [ej]; exact hin1 _ hin⟩ hg1; obtain ⟨fn, tmps, assign, body, hy, hR⟩ := hY k (.int .i64 x) W1 (by simp [HXK.out]) hJ1; clear hb1 hbq ej hN hS)
      refine hR.mono ?_
      rintro e W' (⟨rfl, hJ'⟩ | ⟨rfl, hJx'⟩)
      · gi_wp2
        obtain ⟨_, go2, c2, hb2, _⟩ := HN.out (k + 1) W' hJ'
        exact ⟨⟨k + 1, by omega, hJ'⟩, by rw [qLen_eq hb2, HM.out]; have := HJ.out; omega⟩
      · gi_wp2
        refine bodyPost_ret (results_none rfl _ _ _) rfl ?_
        exact ⟨⟨_, rfl⟩, .inr ⟨k + 1, by simp; omega, hJx'⟩⟩
    · obtain rfl : k = xs.length := by omega
      rw [Nat.sub_self] at hb
      have HB := Lib.hid hb
      have hpop := pop_none_int b room c go wr hb
      clear hb hN hS
      gi_wp2_with (refine ⟨trivial, ?_⟩; gi_at_call 21; refine (callsIn_wide.2 hpop).mono ?_; rintro e W1 ⟨rfl, rfl⟩)
      refine ⟨fun _ h => (by cases h), ?_⟩
      gi_wp2
      refine bodyPost_ret (results_none rfl _ _ _) rfl ?_
      exact ⟨⟨_, rfl⟩, .inl (by simpa using hJ)⟩
end

theorem drain_first (Bq b : Nat) (room k : Int) (n c : Nat) (ao : Option Addr) (xs : List Int) (w : World) (hq : Boxed w Bq 41 (.pointer (some ⟨b, 0, none⟩)))
    (hb : w.heap[b]? = some (.cells #[.int .i64 room, .slice ao n c] 62 (0, 0))) (hx : IntSl w ao n c xs) (hoff : OffB b ao n) (hn : xs.length ≤ 65536) (hne : Bq ≠ b) (K : Nat → Prop) (hK : InB K ao n) :
    Calls Try.prog 19 #[.func (.func 31) #[] #[.pointer (some ⟨Bq, 0, none⟩)], .int .i64 k] w fun e w' => ∃ go c', e = .returned (.slice go (min k.toNat xs.length) c') ∧ IntSl w' go (min k.toNat xs.length) c' (xs.take k.toNat) ∧ w.grownBy w' (some b) ∧
      ∃ g c2, w'.heap[b]? = some (.cells #[.int .i64 room, .slice g (xs.length - min k.toNat xs.length) c2] 62 (0, 0)) ∧ IntSl w' g (xs.length - min k.toNat xs.length) c2 (xs.drop (min k.toNat xs.length)) ∧ OffB b g (xs.length - min k.toNat xs.length) ∧ InB K g (xs.length - min k.toNat xs.length) := by
  have hin := SlR.inB hx (by omega)
  have hl : xs.length = n := by have := hx.1; simpa using this
  subst hl
  have hbl := lt_of_block hb
  refine (first_any 31 _ xs k _ (some b) w (drain_iterK Bq b (fun i => i < w.heap.size ∧ K i) room xs hn hne) (fun _ _ => rfl)
    ⟨hq, ao, c, by simpa using hb, by simpa using hx, by simpa using hoff, by rw [Nat.sub_zero]; exact fun a ha hp => ⟨hin a ha hp, hK a ha hp⟩⟩
    (fun k A B h hbw => ?_) (fun r h => by cases h; exact hbl) hn).mono ?_
  · obtain ⟨h1, go, c', h2, h3, h4, h5⟩ := h
    exact ⟨(hbw.block Bq hq.lt).trans h1, go, c', (hbw.block b hbl).trans h2, SlR.below h3 hbw (fun a ha hp => (h5 a ha hp).1), h4, h5⟩
  · rintro e w' ⟨go, c', h1, h2, h3, _, g, c2, h4, h5, h6, h7⟩
    exact ⟨go, c', h1, h2, h3, g, c2, h4, h5, h6, fun a ha hp => (h7 a ha hp).2⟩

theorem SlR.cutl {w : World} {ao : Option Addr} {n cap k : Nat} {xs : List Int} (h : IntSl w ao n cap xs) (hk : k ≤ n) :
    ∃ go, sliced ao k n cap 1 = .slice go (n - k) (cap - k) ∧ ∀ w', IntSl w' ao n cap xs → IntSl w' go (n - k) (cap - k) (xs.drop k) := by
  refine ⟨_, rfl, fun w' h' => ?_⟩
  have h1 := h'.1
  rw [List.length_map] at h1
  refine ⟨by simp; omega, by have := h'.2.1; omega, by have := h'.2.2.1; omega, ?_, ?_⟩
  · intro e
    split at e
    · omega
    · cases ao with
      | none => have := h'.2.2.2.1 rfl; omega
      | some a => simp at e
  · intro a ha j u hj
    rw [List.map_drop, List.getElem?_drop] at hj
    have hkl : k + j < (xs.map (Value.int .i64)).length := (List.getElem?_eq_some_iff.1 hj).1
    rw [List.length_map] at hkl
    have hlc := h'.2.1
    rw [if_neg (by omega)] at ha
    cases ao with
    | none => simp at ha
    | some a0 =>
      simp only [Option.map_some, Nat.mul_one, Option.some.injEq] at ha
      subst ha
      have := h'.2.2.2.2 a0 rfl (k + j) u hj
      rw [← this]
      congr 1
      unfold Addr.add
      by_cases hk0 : k = 0 <;> by_cases hj0 : j = 0 <;> simp [hk0, hj0, Nat.add_assoc]

theorem run_cutl (ao : Option Addr) (len cap k : Nat) (hk : k ≤ len) (w : World) : (Instr.slice 22 (.slice ao len cap) (some (.int .i64 (k : Int))) none none).run Try.prog w = .ok (sliced ao k len cap 1) w := by
  obtain ⟨i0, hi, hz0, hz1, hz2⟩ := info_parts Try.info3
  rw [run_slice_l w 22 ao len cap Try.underlying22 .i64 k (by omega) (by omega)]
  have : Try.prog.elem 22 = 3 := by kernel_rfl
  rw [this]
  simp [sizeOf, typeInfo, hi, hz1, Result.andThen]
end Go.Proofs.Ytkogdiglpncolaa
