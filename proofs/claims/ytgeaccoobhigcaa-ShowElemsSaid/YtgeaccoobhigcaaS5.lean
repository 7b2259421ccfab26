/-
  The texts of atoms; the signs of tests and of preferences.
-/
import Derived.Test.YtgeaccoobhigcaaS4
namespace Go.Proofs.Ytgeaccoobhigcaa
open Go Go.RowKit

/-- An atom. -/
structure Am where
  v : ByteArray
  s : Sm
def Am.cells (a : Am) : List Value := .string a.v :: a.s.cells
def Am.val (a : Am) : Value := .agg #[.string a.v, .int .i64 a.s.k, .string a.s.t, .int .i64 a.s.n]
def atomS (a : Am) : ByteArray := if a.v.size = 0 then symS a.s else (⟨#[60]⟩ : ByteArray) ++ a.v ++ (⟨#[62]⟩ : ByteArray)
theorem atomS_size (a : Am) (h : a.v.size ≤ 1000000) : (atomS a).size ≤ 1000002 := by
  unfold atomS
  split
  · have := symS_size a.s; omega
  · rw [cat2_size, cat2_size]
    show 1 + _ + 1 ≤ _
    omega

set_option maxRecDepth 100000 in
set_option maxHeartbeats 1000000 in
theorem showAtom_any (a : Am) (hv : a.v.size ≤ 1000000) (hs : a.s.t.size ≤ 9223372036854775807) (w : World) :
    Calls Try.prog 73 #[.string a.v, a.s.val] w fun e w' => e = .returned (.string (atomS a)) ∧ Below w.heap.size w w' := by
  have hT := fun w => symText_any a.s hs w
  obtain ⟨v, k, t, n⟩ := a
  simp only at hv hs hT ⊢
  unfold atomS
  simp only
  generalize symS ⟨k, t, n⟩ = T at hT ⊢
  unfold Sm.val at hT ⊢
  simp only at hT ⊢
  have HT := Lib.hid hT
  clear hT
  by_cases h0 : v.size = 0
  · rw [if_pos h0]
    have e0 := str_nil h0
    clear h0
    go_enter Try.func73, Try.ntmps73
    go_wp2_with (go_at_call 78; refine (HT.out _).mono ?_; rintro e w2 ⟨rfl, b2⟩)
    go_ret
    exact ⟨rfl, ((Below.refl _ w).alloc (Nat.le_refl _) _).trans (b2.mono (by simp))⟩
  · rw [if_neg h0]
    have e0 := str_cons h0
    clear h0
    go_enter Try.func73, Try.ntmps73
    go_wp2
    go_ret
    exact ⟨rfl, (Below.refl _ _).alloc (Nat.le_refl _) _⟩

set_option maxRecDepth 100000 in
set_option maxHeartbeats 1000000 in
theorem refAtom_any (a : Am) (hv : a.v.size ≤ 1000000) (hs : a.s.t.size ≤ 9223372036854775807) (w : World) :
    Calls Try.prog 76 #[a.val] w fun e w' => e = .returned (.string (atomS a)) ∧ Below w.heap.size w w' := by
  have hT := fun w => refText_any a.s hs w
  obtain ⟨v, k, t, n⟩ := a
  simp only at hv hs hT ⊢
  unfold atomS Am.val
  simp only
  generalize symS ⟨k, t, n⟩ = T at hT ⊢
  unfold Sm.val at hT
  simp only at hT ⊢
  have HT := Lib.hid hT
  clear hT
  by_cases h0 : v.size = 0
  · rw [if_pos h0]
    have e0 := str_nil h0
    clear h0
    go_enter Try.func76, Try.ntmps76
    go_wp2_with (go_at_call 79; refine (HT.out _).mono ?_; rintro e w2 ⟨rfl, b2⟩)
    go_ret
    exact ⟨rfl, ((Below.refl _ w).alloc (Nat.le_refl _) _).trans (b2.mono (by simp))⟩
  · rw [if_neg h0]
    have e0 := str_cons h0
    clear h0
    go_enter Try.func76, Try.ntmps76
    go_wp2
    go_ret
    exact ⟨rfl, (Below.refl _ _).alloc (Nat.le_refl _) _⟩

/-- The sign of a test's kind. -/
def relL (k : Int) : Array UInt8 :=
  if k = 2 then #[60, 62] else if k = 3 then #[60] else if k = 4 then #[60, 61] else if k = 5 then #[62] else if k = 6 then #[62, 61] else if k = 7 then #[60, 61, 62] else #[]
set_option maxHeartbeats 1000000 in
theorem rel_any (k : Int) (w : World) : Calls Try.prog 138 #[.int .i64 k] w fun e w' => e = .returned (.string ⟨relL k⟩) ∧ w' = w := by
  rcases (show k = 2 ∨ k = 3 ∨ k = 4 ∨ k = 5 ∨ k = 6 ∨ k = 7 ∨ (k ≠ 2 ∧ k ≠ 3 ∧ k ≠ 4 ∧ k ≠ 5 ∧ k ≠ 6 ∧ k ≠ 7) by omega) with rfl | rfl | rfl | rfl | rfl | rfl | ⟨h2, h3, h4, h5, h6, h7⟩
  all_goals first
    | (have e2 : (k == 2) = false := by simp [h2]
       have e3 : (k == 3) = false := by simp [h3]
       have e4 : (k == 4) = false := by simp [h4]
       have e5 : (k == 5) = false := by simp [h5]
       have e6 : (k == 6) = false := by simp [h6]
       have e7 : (k == 7) = false := by simp [h7]
       have hr : relL k = #[] := by unfold relL; rw [if_neg h2, if_neg h3, if_neg h4, if_neg h5, if_neg h6, if_neg h7]
       rw [hr]
       clear hr h2 h3 h4 h5 h6 h7
       go_enter Try.func138, Try.ntmps138
       go_wp2
       go_ret
       exact ⟨rfl, rfl⟩)
    | (go_enter Try.func138, Try.ntmps138
       go_wp2
       go_ret
       exact ⟨rfl, rfl⟩)

/-- The sign of a kind of preferences. -/
def signL (k : Int) : Array UInt8 :=
  if k = 1 then #[43] else if k = 2 then #[45] else if k = 3 then #[33] else if k = 4 then #[126] else if k = 5 then #[62] else if k = 8 then #[62] else if k = 6 then #[60] else if k = 9 then #[60] else #[61]
end Go.Proofs.Ytgeaccoobhigcaa
