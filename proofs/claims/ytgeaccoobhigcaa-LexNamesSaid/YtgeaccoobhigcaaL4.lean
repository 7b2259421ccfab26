/-
  Words, variables and numbers that stand alone.
-/
import Derived.Test.YtgeaccoobhigcaaL3
namespace Go.Proofs.Ytgeaccoobhigcaa

theorem toks_one {c : UInt8} {r : Bs} {k : Nat} {t : Bs} (h0 : skipN false (c :: r) = 0) (h : nextT (c :: r) = ⟨k, t, (c :: r).length⟩) :
    toks (c :: r) = ⟨k, t, 0⟩ :: if k = 6 then [] else [⟨5, [], (c :: r).length⟩] := by
  unfold toks
  rw [show past (c :: r) = c :: r by unfold past; rw [h0]; rfl, h0, toksP_cons, h]
  simp only
  rw [List.drop_eq_nil_of_le (Nat.le_refl _)]
  rw [show past [] = [] from rfl, toksP_nil]
  simp [skipN]

/-- Letters. -/
def letN (n : Nat) : Bs := (List.range n).map fun i => UInt8.ofNat (97 + i % 26)
theorem letN_succ (n : Nat) : letN (n + 1) = letN n ++ [UInt8.ofNat (97 + n % 26)] := by
  unfold letN; rw [List.range_succ, List.map_append]; rfl
theorem letN_length (n : Nat) : (letN n).length = n := by simp [letN]
theorem letN_small (n : Nat) : ∀ c ∈ letN n, smallB c = true := by
  intro c hc
  simp only [letN, List.mem_map, List.mem_range] at hc
  obtain ⟨i, _, rfl⟩ := hc
  have : i % 26 < 26 := Nat.mod_lt _ (by omega)
  have e : (UInt8.ofNat (97 + i % 26)).toNat = 97 + i % 26 := by rw [UInt8.toNat_ofNat']; exact Nat.mod_eq_of_lt (by omega)
  unfold smallB
  rw [e]
  simp
  omega
theorem headN_all {p : UInt8 → Bool} : ∀ (l b : Bs), (∀ c ∈ l, p c = true) → headN p (l ++ b) = l.length + headN p b
  | [], _, _ => by simp
  | c :: r, b, h => by
    have ih := headN_all r b (fun x hx => h x (by simp [hx]))
    have hc := h c (by simp)
    rw [List.cons_append, show headN p (c :: (r ++ b)) = headN p (r ++ b) + 1 by simp [headN, hc], ih]
    simp only [List.length_cons]; omega
theorem small_part {c : UInt8} (h : smallB c = true) : partB c = true := by simp [partB, h]

theorem names_word (n : Nat) (h : 1 ≤ n) : toks (letN n) = ⟨if 32 < n then 6 else 1, letN n, 0⟩ :: if (if 32 < n then 6 else 1) = 6 then [] else [⟨5, [], n⟩] := by
  have hs := letN_small n
  have hl := letN_length n
  generalize letN n = w at hs hl ⊢
  cases w with
  | nil => simp at hl; omega
  | cons c r =>
    have hc := hs c (by simp)
    have hN : headN partB (c :: r) = n := by
      have := headN_all (p := partB) (c :: r) [] (fun x hx => small_part (hs x hx))
      rw [List.append_nil] at this
      rw [this, hl]; rfl
    have h0 : skipN false (c :: r) = 0 := by
      have : blankB c = false := by unfold smallB at hc; simp [blankB] at hc ⊢; omega
      have : c.toNat ≠ 35 := by unfold smallB at hc; simp at hc; omega
      simp [skipN, *]
    have := toks_one (k := if 32 < n then 6 else 1) (t := c :: r) h0 (by
      rw [nextT_cons, if_pos hc, hN, hl, List.take_of_length_le (by omega)])
    rw [this, hl]

theorem names_var (n : Nat) (h : 1 ≤ n) : toks (60 :: (letN n ++ [62])) = ⟨if 32 < n then 6 else 3, if 32 < n then 60 :: (letN n ++ [62]) else letN n, 0⟩ :: if (if 32 < n then 6 else 3) = 6 then [] else [⟨5, [], n + 2⟩] := by
  have hs := letN_small n
  have hl := letN_length n
  generalize letN n = w at hs hl ⊢
  have hN : headN partB (w ++ [62]) = n := by
    rw [headN_all w [62] (fun x hx => small_part (hs x hx)), hl]; rfl
  have hsm : headSmall (w ++ [62]) = true := by
    cases w with
    | nil => simp at hl; omega
    | cons c r => exact hs c (by simp)
  have h62 : headIs 62 ((w ++ [62]).drop n) = true := by rw [List.drop_left' hl]; rfl
  have hlen : (60 :: (w ++ [62])).length = n + 2 := by simp; omega
  have := toks_one (c := 60) (r := w ++ [62]) (k := if 32 < n then 6 else 3) (t := if 32 < n then 60 :: (w ++ [62]) else w) rfl (by
      rw [nextT_cons, if_neg (by decide), if_neg (by simp [digitB]), hN, hsm, h62, if_pos (by decide), hlen]
      by_cases h32 : 32 < n
      · rw [if_pos h32, if_pos h32, if_pos h32, List.take_of_length_le (by omega)]
      · rw [if_neg h32, if_neg h32, if_neg h32, List.take_left' hl])
  rw [this, hlen]

theorem nines_val : ∀ n, n ≤ 9 → valN 0 (List.replicate n 57) ≤ 2147483647 := by decide
theorem names_num (n : Nat) (h : 1 ≤ n) : toks (45 :: List.replicate n 57) = ⟨if 9 < n then 6 else 2, 45 :: List.replicate n 57, 0⟩ :: if (if 9 < n then 6 else 2) = 6 then [] else [⟨5, [], n + 1⟩] := by
  have hN : headN digitB (List.replicate n 57) = n := by
    have := headN_all (p := digitB) (List.replicate n 57) [] (fun x hx => by rw [List.eq_of_mem_replicate hx]; decide)
    rw [List.append_nil] at this
    rw [this]; simp [headN]
  have hlen : (45 :: List.replicate n (57 : UInt8)).length = n + 1 := by simp
  have hd : headDig (List.replicate n 57) = true := by cases n with
    | zero => omega
    | succ m => rfl
  have hnt : numT (45 :: List.replicate n 57) = decide (n ≤ 9) := by
    unfold numT readOk numForm
    rw [show bodyT (45 :: List.replicate n 57) = List.replicate n 57 from rfl]
    by_cases h9 : n ≤ 9
    · have hv := nines_val n h9
      have h48 : headIs 48 (List.replicate n 57) = false := by cases n <;> rfl
      have hall : (List.replicate n (57 : UInt8)).all digitB = true := by
        rw [List.all_eq_true]; intro x hx; rw [List.eq_of_mem_replicate hx]; decide
      rw [h48, hall]
      simp [hv, h9, h]
      omega
    · by_cases h10 : n = 10
      · subst h10; decide
      · simp [h9]
        intro hh
        omega
  have := toks_one (c := 45) (r := List.replicate n 57) (k := if 9 < n then 6 else 2) (t := 45 :: List.replicate n 57) rfl (by
      rw [nextT_cons, if_neg (by decide), hd, if_pos (by decide), hN, hlen, List.take_of_length_le (by rw [hlen]; omega), hnt, Nat.add_comm 1]
      by_cases h9 : n ≤ 9
      · rw [if_pos (by simpa using h9), if_neg (by omega)]
      · rw [if_neg (by simpa using h9), if_pos (by omega)])
  rw [this, hlen]
end Go.Proofs.Ytgeaccoobhigcaa
