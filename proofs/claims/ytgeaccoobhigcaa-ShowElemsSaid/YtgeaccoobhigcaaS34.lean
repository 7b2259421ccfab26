/-
  What is of its form is small; the texts by what is said, not by where it lies.
-/
import Derived.Test.YtgeaccoobhigcaaS30
import Derived.Test.YtgeaccoobhigcaaS17
import Derived.Test.YtgeaccoobhigcaaS8
namespace Go.Proofs.Ytgeaccoobhigcaa
open Go Go.RowKit

theorem wordB_size {s : ByteArray} (h : wordB s.data.toList = true) : 1 ≤ s.size ∧ s.size ≤ 32 := by
  have := word_size h
  rwa [size_toList] at this
theorem atomB_size {a : Am} (h : atomB a = true) : a.v.size ≤ 32 := by
  unfold atomB at h
  split at h
  · omega
  · simp only [Bool.and_eq_true] at h
    exact (wordB_size h.1).2
theorem testB_ok {w : World} {t : TestR} (hm : t.Mem w) (h : testB t.abs = true) : t.Ok w := by
  have hl := hm.len
  unfold testB TestR.abs at h
  simp only at h
  refine ⟨hm.sl, ?_, ?_, hm.s, hm.list⟩
  · split at h
    · simp only [Bool.and_eq_true, decide_eq_true_eq] at h; omega
    · simp only [Bool.and_eq_true, decide_eq_true_eq] at h; omega
  · split at h
    · simp only [Bool.and_eq_true, decide_eq_true_eq] at h; omega
    · simp only [Bool.and_eq_true, decide_eq_true_eq] at h
      have := atomB_size h.2
      simp only at this
      omega
theorem testsB_ok {w : World} {ao : Option Addr} {n c : Nat} {l : List TestR} (hm : TestsMem w ao n c l) (h : testsB l = true) : TestsIn w ao n c l :=
  ⟨hm.sl, fun t ht => testB_ok (hm.ok t ht) (by unfold testsB at h; exact List.all_eq_true.1 h t ht)⟩
theorem testsNil_ok {w : World} {ao : Option Addr} {n c : Nat} {l : List TestR} (hm : TestsMem w ao n c l) (h : l.length = 0) : TestsIn w ao n c l :=
  ⟨hm.sl, fun t ht => by rw [List.eq_nil_of_length_eq_zero h] at ht; cases ht⟩
theorem condE_zero {kind : Int} {goal : Bool} {id : ByteArray} {attr value : List Ts} {acc : Bool} {conds : List Cd} {d : Int} (h : condE (.mk kind goal id attr value acc conds) d = 0) :
    (kind = 3 ∧ goal = false ∧ id.size = 0 ∧ attr.length = 0 ∧ value.length = 0 ∧ acc = false ∧ conds.length ≠ 0 ∧ d < 3) ∨
    ((kind = 1 ∨ kind = 2) ∧ conds.length = 0 ∧ wordB id.data.toList = true ∧ 1 ≤ attr.length ∧ attr.length ≤ 4 ∧ value.length ≤ 4 ∧ attr.all testB = true ∧ value.all testB = true) := by
  simp only [condE] at h
  unfold condEq at h
  by_cases hk : kind = 3
  · rw [if_pos hk] at h
    by_cases h1 : goal = true ∨ id.size ≠ 0 ∨ 0 < attr.length ∨ 0 < value.length ∨ acc = true ∨ conds.length = 0
    · rw [if_pos h1] at h; cases h
    · rw [if_neg h1] at h
      by_cases h2 : 3 ≤ d
      · rw [if_pos h2] at h; cases h
      · simp only [not_or] at h1
        obtain ⟨a1, a2, a3, a4, a5, a6⟩ := h1
        exact .inl ⟨hk, by simpa using a1, by omega, by omega, by omega, by simpa using a5, a6, by omega⟩
  · rw [if_neg hk] at h
    by_cases hk2 : kind = 1 ∨ kind = 2
    · rw [if_pos hk2] at h
      by_cases h1 : 0 < conds.length ∨ wordB id.data.toList = false ∨ attr.length = 0
      · rw [if_pos h1] at h; cases h
      · rw [if_neg h1] at h
        by_cases h2 : 4 < attr.length ∨ 4 < value.length
        · rw [if_pos h2] at h; cases h
        · rw [if_neg h2] at h
          by_cases h3 : attr.all testB = false ∨ value.all testB = false
          · rw [if_pos h3] at h; cases h
          · simp only [not_or] at h1 h2 h3
            obtain ⟨a1, a2, a3⟩ := h1
            exact .inr ⟨hk2, by omega, by simpa using a2, by omega, by omega, by omega, by simpa using h3.1, by simpa using h3.2⟩
    · rw [if_neg hk2] at h; cases h
theorem firstEs_mem {x : Cd} {d : Int} : ∀ {l : List Cd}, firstEs l d = 0 → x ∈ l → firstE x d = 0
  | [], _, hm => by cases hm
  | c :: r, h, hm => by
    simp only [firstEs] at h
    by_cases hc : firstE c d = 0
    · rw [if_pos hc] at h
      rcases List.mem_cons.1 hm with rfl | hm
      · exact hc
      · exact firstEs_mem h hm
    · rw [if_neg hc] at h
      exact absurd h hc
theorem firstE_zero {kind : Int} {goal : Bool} {id : ByteArray} {attr value : List Ts} {acc : Bool} {conds : List Cd} {d : Int} (h : firstE (.mk kind goal id attr value acc conds) d = 0) : condE (.mk kind goal id attr value acc conds) d = 0 ∧ firstEs conds (d + 1) = 0 := by
  simp only [firstE] at h
  by_cases hc : condE (.mk kind goal id attr value acc conds) d = 0
  · rw [if_pos hc] at h; exact ⟨hc, h⟩
  · rw [if_neg hc] at h; exact absurd h hc
theorem abs_mem {x : CondR} {l : List CondR} (h : x ∈ l) : x.abs ∈ absL l := by rw [absL_map]; exact List.mem_map_of_mem h
theorem firstE_ok {w : World} {c : CondR} (hm : c.Mem w) : ∀ d : Int, firstE c.abs d = 0 → c.Ok w ∧ c.Fit ∧ c.Has := by
  induction hm with
  | @mk kind goal id aa an ac attr va vn vc value acc ca cn cc conds hi ha hv hs hc ih =>
    intro d h
    simp only [CondR.abs] at h
    obtain ⟨h1, h2⟩ := firstE_zero h
    have hk : ∀ c ∈ conds, c.Ok w ∧ c.Fit ∧ c.Has := fun c hcm => ih c hcm (d + 1) (firstEs_mem h2 (abs_mem hcm))
    have hal := ha.len
    have hvl := hv.len
    rcases condE_zero h1 with ⟨k, _, i, a, v, _, _, _⟩ | ⟨k, _, i, a1, a2, v, ta, tv⟩
    · rw [List.length_map] at a v
      exact ⟨.mk (testsNil_ok ha a) (testsNil_ok hv v) hs (fun c hcm => (hk c hcm).1), .mk (by omega) (by omega) (by omega) (fun c hcm => (hk c hcm).2.1), .mk (fun h => absurd k h) (fun c hcm => (hk c hcm).2.2)⟩
    · rw [List.length_map] at a1 a2 v
      rw [testsB_abs] at ta tv
      have := (wordB_size i).2
      exact ⟨.mk (testsB_ok ha ta) (testsB_ok hv tv) hs (fun c hcm => (hk c hcm).1), .mk (by omega) (by omega) (by omega) (fun c hcm => (hk c hcm).2.1), .mk (fun _ => by omega) (fun c hcm => (hk c hcm).2.2)⟩
theorem firstEs_ok {w : World} {l : List CondR} {d : Int} (hm : ∀ c ∈ l, c.Mem w) (h : firstEs (absL l) d = 0) : ∀ c ∈ l, c.Ok w ∧ c.Fit ∧ c.Has :=
  fun c hc => firstE_ok (hm c hc) d (firstEs_mem h (abs_mem hc))
theorem emptyB_size {a : Am} (h : emptyB a = true) : a.v.size ≤ 32 := by
  unfold emptyB at h
  simp only [Bool.and_eq_true, decide_eq_true_eq] at h
  omega
theorem actB_small {a : Ac} (hb : a.Big) (h : actB a = true) : a.Small ∧ 0 ≤ a.value.op ∧ a.value.op ≤ 3 ∧ 1 ≤ a.pref ∧ a.pref ≤ 10 := by
  unfold actB termB at h
  simp only [Bool.and_eq_true, decide_eq_true_eq] at h
  obtain ⟨⟨⟨⟨h1, h2⟩, ⟨h3, h4⟩, h5⟩, h6⟩, h7⟩ := h
  have z1 := (wordB_size h1).2
  have z2 := atomB_size h2
  have z4 := atomB_size h4
  have z5 : a.value.b.v.size ≤ 32 := by
    split at h5
    · exact emptyB_size h5
    · simp only [Bool.and_eq_true] at h5
      exact atomB_size h5.1.1
  have z7 : a.other.v.size ≤ 32 := by
    split at h7
    · exact atomB_size h7
    · exact emptyB_size h7
  exact ⟨⟨by omega, ⟨by omega, hb.attr.s⟩, ⟨by omega, hb.va.s⟩, ⟨by omega, hb.vb.s⟩, ⟨by omega, hb.other.s⟩⟩, h3.1, h3.2, h6.1, h6.2⟩
end Go.Proofs.Ytgeaccoobhigcaa
