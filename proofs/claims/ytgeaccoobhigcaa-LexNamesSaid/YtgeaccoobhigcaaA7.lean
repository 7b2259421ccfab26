/-
  The token that stands at a place, and the walk of lex.next.
-/
import Derived.Test.YtgeaccoobhigcaaA6
import Derived.WalkLawsBesides
namespace Go.Proofs.Ytgeaccoobhigcaa
open Go.RowKit

def headDig : Bs → Bool
  | [] => false
  | c :: _ => digitB c
/-- A token's kind, its text, and how many bytes it takes. -/
structure Nx where
  kind : Nat
  text : Bs
  len : Nat
def signNx (c : UInt8) (l : Bs) : Nx := if signT l = [] then ⟨6, [c], 1⟩ else ⟨4, signT l, (signT l).length⟩
def nextT : Bs → Nx
  | [] => ⟨6, [], 0⟩
  | c :: r =>
    if smallB c then ⟨if 32 < headN partB (c :: r) then 6 else 1, (c :: r).take (headN partB (c :: r)), headN partB (c :: r)⟩
    else if digitB c || (decide (c.toNat = 45) && headDig r) then
      ⟨if numT ((c :: r).take (1 + headN digitB r)) then 2 else 6, (c :: r).take (1 + headN digitB r), 1 + headN digitB r⟩
    else if decide (c.toNat = 60) && headSmall r && headIs 62 (r.drop (headN partB r)) then
      if 32 < headN partB r then ⟨6, (c :: r).take (headN partB r + 2), headN partB r + 2⟩ else ⟨3, r.take (headN partB r), headN partB r + 2⟩
    else signNx c (c :: r)

def tokV (k : Nat) (t : Bs) (at_ : Nat) : Value := .agg #[.int .i64 k, strV t, .int .i64 at_]
theorem ext_mk (s : ByteArray) (i j : Nat) : Value.string (s.extract i j) = strV ((from_ s i).take (j - i)) := by
  have h := ext_toList s i j
  rw [ByteArray.toList_eq] at h
  rw [← h]
  unfold strV
  congr 1

theorem set3 {W : World} {g : Nat} {t : TypeId} {a b c : Value} (hG : W.heap[g]? = some (.cells #[a, b, c] t (0, 0))) (v0 v1 v2 : Value) :
    (((W.setCell ⟨g, 0, none⟩ v0).setCell ⟨g, 1, none⟩ v1).setCell ⟨g, 2, none⟩ v2).heap[g]? = some (.cells #[v0, v1, v2] t (0, 0)) := by
  simp [World.setCell, Array.getElem?_modify, hG]
theorem set3_alloc {W : World} {g : Nat} {t : TypeId} {a b c : Value} (hG : W.heap[g]? = some (.cells #[a, b, c] t (0, 0))) (v0 v1 v2 : Value) (o : Obj) :
    ((((W.setCell ⟨g, 0, none⟩ v0).setCell ⟨g, 1, none⟩ v1).setCell ⟨g, 2, none⟩ v2).alloc o).cell? ⟨g, 0, none⟩ = some v0 ∧
    ((((W.setCell ⟨g, 0, none⟩ v0).setCell ⟨g, 1, none⟩ v1).setCell ⟨g, 2, none⟩ v2).alloc o).cell? ⟨g, 1, none⟩ = some v1 ∧
    ((((W.setCell ⟨g, 0, none⟩ v0).setCell ⟨g, 1, none⟩ v1).setCell ⟨g, 2, none⟩ v2).alloc o).cell? ⟨g, 2, none⟩ = some v2 := by
  have h3 := set3 hG v0 v1 v2
  generalize (((W.setCell ⟨g, 0, none⟩ v0).setCell ⟨g, 1, none⟩ v1).setCell ⟨g, 2, none⟩ v2) = F at h3 ⊢
  have hlt : g < F.heap.size := by
    rcases Nat.lt_or_ge g F.heap.size with h | h
    · exact h
    · rw [Array.getElem?_eq_none h] at h3; cases h3
  have h4 := (Below.heap_alloc F o g hlt).trans h3
  refine ⟨?_, ?_, ?_⟩ <;> rw [cell_of_row _ _ _ _ _ _ h4] <;> rfl
theorem ret_tok {k i m : Nat} {T : Bs} {x : ByteArray} {v : Value} (h : Value.string x = strV T) (hv : v = .int .i64 m) :
    Ending.returned (.tuple #[.agg #[.int .i64 k, .string x, .int .i64 i], v]) = .returned (.tuple #[tokV k T i, .int .i64 m]) := by
  rw [hv, h]; rfl

set_option maxHeartbeats 2000000 in
set_option maxRecDepth 100000 in
theorem next_word (s : ByteArray) (i : Nat) (hi : i < s.size) (hs : s.size ≤ 1099511627776) (hsm : smallB s[i] = true) (w : World) :
    Calls Try.prog 58 #[.string s, .int .i64 i] w fun e w' =>
      e = .returned (.tuple #[tokV (if 32 < headN partB (from_ s i) then 6 else 1) ((from_ s i).take (headN partB (from_ s i))) i, .int .i64 ((i + headN partB (from_ s i) : Nat) : Int)]) ∧ Below w.heap.size w w' := by
  have hle := headN_le partB (from_ s i)
  rw [from_length] at hle
  have hn := fun w => name_any s i (by omega) (by unfold maxLen; omega) w
  have hx := ext_mk s i (i + headN partB (from_ s i))
  rw [show i + headN partB (from_ s i) - i = headN partB (from_ s i) by omega] at hx
  generalize headN partB (from_ s i) = n at hle hn hx ⊢
  generalize List.take n (from_ s i) = T at hx ⊢
  have HN := Lib.hid hn
  have HX := Lib.hid hx
  unfold smallB at hsm
  clear hn hx
  by_cases h32 : 32 < n
  · rw [if_pos h32]
    have h32' : (32 : Int) < (i : Int) + (n : Int) - (i : Int) := by omega
    go_enter Try.func58, Try.ntmps58
    go_wp2_with (first | (go_at_call 91; refine (small_any _ _).mono ?_; rintro e w' ⟨rfl, rfl⟩) | (go_at_call 92; refine (HN.out _).mono ?_; rintro e w' ⟨rfl, rfl⟩))
    exact bodyPost_ret (v := .tuple #[.agg #[.int .i64 (6 : Nat), .string (s.extract i (i + n)), .int .i64 i], .int .i64 ((i : Int) + (n : Int))]) (by simp [results, Try.results58, go_sem]) rfl ⟨ret_tok HX.out (by simp), (Below.refl _ _).alloc (Nat.le_refl _) _⟩
  · rw [if_neg h32]
    have h32' : ¬ (32 : Int) < (i : Int) + (n : Int) - (i : Int) := by omega
    go_enter Try.func58, Try.ntmps58
    go_wp2_with (first | (go_at_call 91; refine (small_any _ _).mono ?_; rintro e w' ⟨rfl, rfl⟩) | (go_at_call 92; refine (HN.out _).mono ?_; rintro e w' ⟨rfl, rfl⟩))
    exact bodyPost_ret (v := .tuple #[.agg #[.int .i64 (1 : Nat), .string (s.extract i (i + n)), .int .i64 i], .int .i64 ((i : Int) + (n : Int))]) (by simp [results, Try.results58, go_sem]) rfl ⟨ret_tok HX.out (by simp), (Below.refl _ _).alloc (Nat.le_refl _) _⟩

set_option maxHeartbeats 2000000 in
set_option maxRecDepth 100000 in
theorem next_num (s : ByteArray) (i n : Nat) (hi : i < s.size) (hs : s.size ≤ 1099511627776) (hsm : smallB s[i] = false) (hn : n = 1 + headN digitB (from_ s (i + 1)))
    (hd : digitB s[i] = true ∨ (s[i].toNat = 45 ∧ ∃ h : i + 1 < s.size, digitB s[i + 1] = true)) (w : World) :
    Calls Try.prog 58 #[.string s, .int .i64 i] w fun e w' =>
      e = .returned (.tuple #[tokV (if numT ((from_ s i).take n) then 2 else 6) ((from_ s i).take n) i, .int .i64 ((i + n : Nat) : Int)]) ∧ Below w.heap.size w w' := by
  have hle := headN_le digitB (from_ s (i + 1))
  rw [from_length] at hle
  have hx := ext_mk s i (i + n)
  rw [show i + n - i = n by omega] at hx
  have hz : (s.extract i (i + n)).size = n := by simp; omega
  have hp := parse_num (s.extract i (i + n)) (by omega) (by omega) (by
    have e0 : (s.extract i (i + n))[0]'(by omega) = s[i] := by simp [ByteArray.getElem_extract]
    rw [e0]
    rcases hd with h | ⟨h, _⟩
    · exact .inl h
    · exact .inr h)
  have hl : (s.extract i (i + n)).data.toList = (from_ s i).take n := by
    have := ext_toList s i (i + n)
    rw [ByteArray.toList_eq, show i + n - i = n by omega] at this
    exact this
  rw [hl] at hp
  generalize List.take n (from_ s i) = T at hx hp ⊢
  have HP := Lib.hid hp
  have HX := Lib.hid hx
  have HE := Lib.hid hn
  have hnb : 1 ≤ n ∧ i + n ≤ s.size := by omega
  unfold smallB at hsm
  unfold digitB at hd
  clear hp hx hz hl hn hle
  have hd' : decide (48 ≤ s[i].toNat ∧ s[i].toNat ≤ 57) = true ∨ (decide (48 ≤ s[i].toNat ∧ s[i].toNat ≤ 57) = false ∧ ((s[i].toNat : Int) == 45) = true ∧ ∃ h : i + 1 < s.size, decide (48 ≤ s[i + 1].toNat ∧ s[i + 1].toNat ≤ 57) = true) := by
    rcases hd with h | ⟨h, h2⟩
    · exact .inl h
    · exact .inr ⟨by simp; omega, by simp; omega, h2⟩
  clear hd
  have hpok : ∀ ok, parsed ok 2 [] (readV T) = .tuple #[.agg #[.int .i64 (if ok then 2 else 0), .string ⟨#[]⟩, .int .i64 (if ok then readV T else 0)], .bool ok] := by
    intro ok; cases ok <;> rfl
  have HPK : Hid (∀ w, Calls Try.prog 94 #[.string (s.extract i (i + n))] w fun e w' => e = .returned (.tuple #[.agg #[.int .i64 (if numT T then 2 else 0), .string ⟨#[]⟩, .int .i64 (if numT T then readV T else 0)], .bool (numT T)]) ∧ Below w.heap.size w w') :=
    Lib.hid fun w => (HP.out w).mono fun e w' ⟨h, h2⟩ => ⟨by rw [h, hpok], h2⟩
  clear hpok HP
  generalize readV T = RV at HPK
  generalize numT T = ok at HPK ⊢
  obtain ⟨kd, hkd⟩ : ∃ kd : Nat, kd = if ok = true then 2 else 6 := ⟨_, rfl⟩
  rw [← hkd]
  have HKD := Lib.hid hkd
  clear hkd
  generalize (if ok = true then (2 : Int) else 0) = q0 at HPK
  generalize (if ok = true then RV else (0 : Int)) = q2 at HPK
  rcases hd' with hd | ⟨hd, h45, hlt, hd2⟩
  all_goals
    go_enter Try.func58, Try.ntmps58
    go_wp2_with (first | (go_at_call 91; refine (small_any _ _).mono ?_; rintro e w' ⟨rfl, rfl⟩) | (go_at_call 93; refine (digit_any _ _).mono ?_; rintro e w' ⟨rfl, rfl⟩))
    go_loop [8] (fun t => ∃ k : Nat, i + 1 ≤ k ∧ k ≤ s.size ∧ Hid (k + headN digitB (from_ s k) = i + n) ∧ t = .int .i64 k) (fun t => s.size - (intOf t).toNat)
    case atStart => exact ⟨i + 1, by omega, by omega, Lib.hid (by have := HE.out; omega), by go_num⟩
    case round =>
      obtain ⟨k, hk1, hk, HK, rfl⟩ := hrel
      by_cases hlk : k < s.size ∧ digitB s[k]! = true
      · obtain ⟨hlk, hdk⟩ := hlk
        rw [getElem!_pos s k hlk] at hdk
        have HY := Lib.hid (headN_yes (p := digitB) s k hlk hdk)
        unfold digitB at hdk
        go_wp2_with (go_at_call 93; refine (digit_any _ _).mono ?_; rintro e w' ⟨rfl, rfl⟩)
        go_round
        case rel => exact ⟨k + 1, by omega, by omega, Lib.hid (by have := HK.out; have := HY.out; omega), by go_num⟩
        case measure => simp [intOf]; omega
      · have HKN : k = i + n := by
          have := HK.out
          by_cases h : k < s.size
          · have hdk : digitB s[k] = false := by
              rw [Bool.eq_false_iff]; intro hh; exact hlk ⟨h, by rw [getElem!_pos s k h]; exact hh⟩
            have := headN_no (p := digitB) s k h hdk
            omega
          · have := headN_end (p := digitB) s k (by omega)
            omega
        have hend : k < s.size → ∀ h : k < s.size, decide (48 ≤ s[k].toNat ∧ s[k].toNat ≤ 57) = false := by
          intro h _
          have hdk : digitB s[k] = false := by
            rw [Bool.eq_false_iff]; intro hh; exact hlk ⟨h, by rw [getElem!_pos s k h]; exact hh⟩
          unfold digitB at hdk
          exact hdk
        have hcase : ¬ k < s.size ∨ ∃ h : k < s.size, decide (48 ≤ s[k].toNat ∧ s[k].toNat ≤ 57) = false := by
          by_cases h : k < s.size
          · exact .inr ⟨h, hend h h⟩
          · exact .inl h
        clear hend hlk
        subst HKN
        have hsl : (i : Int) ≤ (i : Int) + (n : Int) := by omega
        rcases ok with _ | _
        · rcases hcase with hc | ⟨hc, hdc⟩
          all_goals
            go_wp2_with (first | (go_at_call 93; refine (digit_any _ _).mono ?_; rintro e w' ⟨rfl, rfl⟩) | (go_at_call 94; refine (HPK.out _).mono ?_; rintro e W1 ⟨rfl, hb1⟩; have hlt1 : w.heap.size < W1.heap.size := (by have := hb1.size; simp at this; omega); have hG : W1.heap[w.heap.size]? = some (.cells #[.int .i64 0, .string ⟨#[]⟩, .int .i64 0] 30 (0, 0)) := (hb1.block w.heap.size (by simp)).trans (heap_alloc_new w _); have hc0 : W1.cell? ⟨w.heap.size, 0, none⟩ = some (.int .i64 0) := (by rw [cell_of_row W1 _ _ _ _ _ hG]; rfl); have hc1 : W1.cell? ⟨w.heap.size, 1, none⟩ = some (.string ⟨#[]⟩) := (by rw [cell_of_row W1 _ _ _ _ _ hG]; rfl); have hc2 : W1.cell? ⟨w.heap.size, 2, none⟩ = some (.int .i64 0) := (by rw [cell_of_row W1 _ _ _ _ _ hG]; rfl); have hf : ∀ j, W1.frozen? ⟨w.heap.size, j, none⟩ = false := (by intro j; simp [World.frozen?, hG]); have HB := Lib.hid hb1; have HG := Lib.hid hG; clear hb1 hG))
            have hBB : Below w.heap.size w W1 := ((Below.refl _ _).alloc (Nat.le_refl _) _).trans (HB.out.mono (by simp))
            have hk2 : kd = 6 := by rw [HKD.out]; rfl
            rw [hk2]
            clear hk2
            refine bodyPost_ret (v := .tuple #[.agg #[.int .i64 (6 : Nat), .string (s.extract i (i + n)), .int .i64 i], .int .i64 ((i : Int) + (n : Int))]) ?_ rfl ⟨ret_tok HX.out (by simp), ?_⟩
            · obtain ⟨f0, f1, f2⟩ := set3_alloc HG.out (.int .i64 6) (.string (s.extract i (i + n))) (.int .i64 i) (.cells #[.int .i64 q0, .string ⟨#[]⟩, .int .i64 q2] 63)
              simp [results, Try.results58, go_sem, f0, f1, f2]
            · exact (((hBB.setCell (p := ⟨w.heap.size, 0, none⟩) (Nat.le_refl _) _).setCell (p := ⟨w.heap.size, 1, none⟩) (Nat.le_refl _) _).setCell (p := ⟨w.heap.size, 2, none⟩) (Nat.le_refl _) _).alloc (by simp; omega) _
        · rcases hcase with hc | ⟨hc, hdc⟩
          all_goals
            go_wp2_with (first | (go_at_call 93; refine (digit_any _ _).mono ?_; rintro e w' ⟨rfl, rfl⟩) | (go_at_call 94; refine (HPK.out _).mono ?_; rintro e W1 ⟨rfl, hb1⟩; have hlt1 : w.heap.size < W1.heap.size := (by have := hb1.size; simp at this; omega); have hG : W1.heap[w.heap.size]? = some (.cells #[.int .i64 0, .string ⟨#[]⟩, .int .i64 0] 30 (0, 0)) := (hb1.block w.heap.size (by simp)).trans (heap_alloc_new w _); have hc0 : W1.cell? ⟨w.heap.size, 0, none⟩ = some (.int .i64 0) := (by rw [cell_of_row W1 _ _ _ _ _ hG]; rfl); have hc1 : W1.cell? ⟨w.heap.size, 1, none⟩ = some (.string ⟨#[]⟩) := (by rw [cell_of_row W1 _ _ _ _ _ hG]; rfl); have hc2 : W1.cell? ⟨w.heap.size, 2, none⟩ = some (.int .i64 0) := (by rw [cell_of_row W1 _ _ _ _ _ hG]; rfl); have hf : ∀ j, W1.frozen? ⟨w.heap.size, j, none⟩ = false := (by intro j; simp [World.frozen?, hG]); have HB := Lib.hid hb1; have HG := Lib.hid hG; clear hb1 hG))
            have hBB : Below w.heap.size w W1 := ((Below.refl _ _).alloc (Nat.le_refl _) _).trans (HB.out.mono (by simp))
            have hk2 : kd = 2 := by rw [HKD.out]; rfl
            rw [hk2]
            clear hk2
            refine bodyPost_ret (v := .tuple #[.agg #[.int .i64 (2 : Nat), .string (s.extract i (i + n)), .int .i64 i], .int .i64 ((i : Int) + (n : Int))]) ?_ rfl ⟨ret_tok HX.out (by simp), ?_⟩
            · obtain ⟨f0, f1, f2⟩ := set3_alloc HG.out (.int .i64 2) (.string (s.extract i (i + n))) (.int .i64 i) (.cells #[.int .i64 q0, .string ⟨#[]⟩, .int .i64 q2] 63)
              simp [results, Try.results58, go_sem, f0, f1, f2]
            · exact (((hBB.setCell (p := ⟨w.heap.size, 0, none⟩) (Nat.le_refl _) _).setCell (p := ⟨w.heap.size, 1, none⟩) (Nat.le_refl _) _).setCell (p := ⟨w.heap.size, 2, none⟩) (Nat.le_refl _) _).alloc (by simp; omega) _
end Go.Proofs.Ytgeaccoobhigcaa
