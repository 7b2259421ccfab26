/-
  Slices of ints as they read; what LexSpaces writes.
-/
import Derived.Test.YtgeaccoobhigcaaC1
import Derived.Test.YtgeaccoobhigcaaB9
namespace Go.Proofs.Ytgeaccoobhigcaa
open Go Go.RowKit

/-- A slice of ints. -/
def IntSl (w : World) (ao : Option Addr) (n cap : Nat) (xs : List Int) : Prop := SlR w 1 ao n cap (xs.map (Value.int .i64))

theorem IntSl.of_cells {w : World} {x : Addr} {len cap : Nat} {zs : List Int} (hl : len ≤ cap) (hm : cap ≤ maxLen) (hz : zs.length = cap)
    (hc : ∀ i, i < zs.length → w.cell? (x.add i) = some (.int .i64 (zs.getD i 0))) : IntSl w (some x) len cap (zs.take len) := by
  refine ⟨by simp; omega, hl, hm, by simp, fun a ha => ?_⟩
  cases ha
  intro j u hj
  rw [List.getElem?_map, List.getElem?_take] at hj
  split at hj
  · have hlt : j < zs.length := by omega
    rw [hc j hlt]
    rw [List.getElem?_eq_getElem hlt] at hj
    simp [List.getD, List.getElem?_eq_getElem hlt] at hj ⊢
    exact hj
  · simp at hj

/-- What stands between tokens, as the law has it. -/
def betw : List Bs := [[32], [10], [9, 32, 13], [32, 35, 32, 60, 120, 62, 32, 40, 10], [32, 32]]
def gapI (gs : List Int) (i : Nat) : Int := gs.getD i 0
def gapK (gs : List Int) (i : Nat) : Nat := (gapI gs i % 5).toNat
theorem gapK_lt (gs : List Int) (i : Nat) : gapK gs i < 5 := by
  unfold gapK
  have h1 := Int.emod_nonneg (gapI gs i) (show (5 : Int) ≠ 0 by omega)
  have h2 := Int.emod_lt_of_pos (gapI gs i) (show (0 : Int) < 5 by omega)
  omega
theorem gapK_eq (gs : List Int) (i : Nat) : gapI gs i % 5 = (gapK gs i : Int) := by
  unfold gapK
  have h1 := Int.emod_nonneg (gapI gs i) (show (5 : Int) ≠ 0 by omega)
  omega
def gapF (gs : List Int) (i : Nat) : Bs := betw.getD (gapK gs i) []
theorem gapF_at (gs : List Int) (i : Nat) : betw[gapK gs i]? = some (gapF gs i) := by
  have h := gapK_lt gs i
  unfold gapF
  rw [List.getD_eq_getElem?_getD, List.getElem?_eq_getElem (show gapK gs i < betw.length from h)]
  rfl
theorem gapF_gap (gs : List Int) (i : Nat) : Gap (gapF gs i) := gap_all _ (List.mem_of_getElem? (gapF_at gs i))
theorem betw_len : ∀ x ∈ betw, x.length ≤ 9 := by decide
theorem gapF_len (gs : List Int) (i : Nat) : (gapF gs i).length ≤ 9 := betw_len _ (List.mem_of_getElem? (gapF_at gs i))

theorem kt_at {M L : List Tk} (h : M.map Tk.kt = L.map Tk.kt) : M.length = L.length ∧ ∀ (i : Nat) (t : Tk), L[i]? = some t → ∃ p, M[i]? = some ⟨t.kind, t.text, p⟩ := by
  refine ⟨by simpa using congrArg List.length h, fun i t hi => ?_⟩
  have h1 := congrArg (fun l => l[i]?) h
  simp only [List.getElem?_map, hi, Option.map_some] at h1
  cases hm : M[i]? with
  | none => rw [hm] at h1; cases h1
  | some u =>
    rw [hm] at h1
    simp only [Option.map_some, Option.some.injEq, Tk.kt, Prod.mk.injEq] at h1
    obtain ⟨k, x, p⟩ := u
    simp only at h1
    obtain ⟨rfl, rfl⟩ := h1
    exact ⟨p, rfl⟩
theorem places_len {S : Bs} : ∀ (L : List Tk) (at_ : Nat), Places S at_ L → ∀ t ∈ L, (textT t).length ≤ S.length
  | [], _, h, _, _ => h.elim
  | u :: r, at_, h, t, ht => by
    obtain ⟨_, h2, _, _, _, h6⟩ := h
    rcases List.mem_cons.1 ht with rfl | ht
    · omega
    · exact places_len r _ (h6 (by rintro rfl; simp at ht)) t ht
theorem toks_len (l : Bs) : ∀ t ∈ toks l, (textT t).length ≤ l.length := places_len _ _ (places_toks l)
end Go.Proofs.Ytgeaccoobhigcaa
