/-
  ponderlaw05.same over equal tokens.
-/
import Derived.Test.YtgeaccoobhigcaaCo
import Derived.Deep.QuietTactic
import Derived.BigQuiet
namespace Go.Proofs.Ytgeaccoobhigcaa
open Go Go.RowKit

theorem cellsT_length (L : List Tk) : (cellsT L).length = L.length * 3 := by
  induction L with
  | nil => rfl
  | cons x r ih => simp only [cellsT, List.flatMap_cons, List.length_append, List.length_cons] at ih ⊢; rw [ih]; simp [Tk.cells]; omega
theorem cellsT_at {L : List Tk} {k : Nat} {t : Tk} (h : L[k]? = some t) : (cellsT L)[k * 3]? = some (.int .i64 t.kind) ∧ (cellsT L)[k * 3 + 1]? = some (strV t.text) ∧ (cellsT L)[k * 3 + 2]? = some (.int .i64 t.pos) := by
  have hk : k < L.length := (List.getElem?_eq_some_iff.1 h).1
  have e : cellsT L = cellsT (L.take k) ++ (t.cells ++ cellsT (L.drop (k + 1))) := by
    have h1 : L = L.take k ++ t :: L.drop (k + 1) := by
      have h2 := List.getElem?_eq_some_iff.1 h
      obtain ⟨h3, h4⟩ := h2
      rw [← h4, ← List.drop_eq_getElem_cons h3, List.take_append_drop]
    conv => lhs; rw [h1]
    simp [cellsT]
  have hl : (cellsT (L.take k)).length = k * 3 := by rw [cellsT_length, List.length_take, Nat.min_eq_left (by omega)]
  rw [e]
  refine ⟨?_, ?_, ?_⟩
  · rw [List.getElem?_append_right (by omega), hl, Nat.sub_self]; rfl
  · rw [List.getElem?_append_right (by omega), hl, show k * 3 + 1 - k * 3 = 1 by omega]; rfl
  · rw [List.getElem?_append_right (by omega), hl, show k * 3 + 2 - k * 3 = 2 by omega]; rfl

/-- A token's cells in a slice that reads them. -/
theorem SlR.tok {w : World} {ao : Option Addr} {n c : Nat} {L : List Tk} {k : Nat} {t : Tk} (h : SlR w 3 ao n c (cellsT L)) (hk : L[k]? = some t) :
    ∃ g o, ao = some ⟨g, o, none⟩ ∧ w.cell? ⟨g, o + k * 3, none⟩ = some (.int .i64 t.kind) ∧ w.cell? ⟨g, o + k * 3 + 1, none⟩ = some (strV t.text) ∧ w.cell? ⟨g, o + k * 3 + 2, none⟩ = some (.int .i64 t.pos) := by
  obtain ⟨h0, h1, h2⟩ := cellsT_at hk
  have hn : 0 < n := by
    have hk' : k < L.length := (List.getElem?_eq_some_iff.1 hk).1
    have := h.1
    rw [cellsT_length] at this
    omega
  cases ao with
  | none => have := h.2.2.2.1 rfl; have := h.2.1; omega
  | some a =>
    have ha := h.2.2.2.2 a rfl
    have c0 := ha _ _ h0
    have hs : a.spot = none := by
      have hl : 0 < (cellsT L).length := by rw [h.1]; omega
      have h00 := ha 0 _ (List.getElem?_eq_getElem hl)
      rw [addr_add_zero] at h00
      exact World.cell?_spot h00
    obtain ⟨g, o, sp⟩ := a
    simp only at hs
    subst hs
    have c1 := ha _ _ h1
    have c2 := ha _ _ h2
    rw [addr_add_lit] at c0 c1 c2
    exact ⟨g, o, rfl, c0, by rw [Nat.add_assoc]; exact c1, by rw [Nat.add_assoc]; exact c2⟩

set_option maxHeartbeats 2000000 in
set_option maxRecDepth 100000 in
theorem same_eq (L : List Tk) (a1 a2 : Option Addr) (c1 c2 : Nat) (w : World) (h1 : SlR w 3 a1 L.length c1 (cellsT L)) (h2 : SlR w 3 a2 L.length c2 (cellsT L)) :
    Calls Try.prog 23 #[.slice a1 L.length c1, .slice a2 L.length c2] w fun e w' => e = .returned (.bool true) ∧ ∃ q, w' = w.drewN q := by
  have hlm : L.length ≤ 9223372036854775807 := by have := h1.2.1; have := h1.2.2.1; unfold maxLen at this; omega
  obtain ⟨n, hn⟩ : ∃ n, n = L.length := ⟨_, rfl⟩
  rw [← hn] at h1 h2 hlm ⊢
  have HN := Lib.hid hn
  clear hn
  go_enter Try.func23, Try.ntmps23
  go_wp2
  go_loopw [5] (fun t wr => ∃ k q : Nat, k ≤ n ∧ t = .int .i64 k ∧ wr = w.drewN q) (fun t _ => n - (intOf t).toNat)
  case atStart => exact ⟨0, 0, by omega, rfl, rfl⟩
  case round =>
    obtain ⟨k, q, hk, rfl, rfl⟩ := hrel
    by_cases hlt : k < n
    · have hLk : L[k]? = some (L[k]'(by rw [← HN.out]; exact hlt)) := List.getElem?_eq_getElem _
      generalize L[k]'(by rw [← HN.out]; exact hlt) = t at hLk
      obtain ⟨g1, o1, rfl, x0, x1, x2⟩ := h1.tok hLk
      obtain ⟨g2, o2, rfl, y0, y1, y2⟩ := h2.tok hLk
      obtain ⟨kd, tx, ps⟩ := t
      unfold strV at x1 y1
      simp only at x0 x1 x2 y0 y1 y2
      have X0 : ∀ q, (w.drewN q).cell? ⟨g1, o1 + k * 3, none⟩ = some (.int .i64 kd) := fun _ => x0
      have X1 : ∀ q, (w.drewN q).cell? ⟨g1, o1 + k * 3 + 1, none⟩ = some (.string ⟨tx.toArray⟩) := fun _ => x1
      have X2 : ∀ q, (w.drewN q).cell? ⟨g1, o1 + k * 3 + 2, none⟩ = some (.int .i64 ps) := fun _ => x2
      have Y0 : ∀ q, (w.drewN q).cell? ⟨g2, o2 + k * 3, none⟩ = some (.int .i64 kd) := fun _ => y0
      have Y1 : ∀ q, (w.drewN q).cell? ⟨g2, o2 + k * 3 + 1, none⟩ = some (.string ⟨tx.toArray⟩) := fun _ => y1
      have Y2 : ∀ q, (w.drewN q).cell? ⟨g2, o2 + k * 3 + 2, none⟩ = some (.int .i64 ps) := fun _ => y2
      have b1 : ((kd : Int) != kd) = false := by simp
      have b2 : ((ps : Int) != ps) = false := by simp
      clear hLk x0 x1 x2 y0 y1 y2
      go_wp2
      go_quiet (fail)
      go_wp2
      go_roundw
      case rel => exact ⟨k + 1, _, by omega, by go_num, rfl⟩
      case measure => simp [intOf]; omega
    · go_wp2
      go_ret
      exact ⟨rfl, _, rfl⟩
end Go.Proofs.Ytgeaccoobhigcaa
