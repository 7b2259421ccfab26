/-
  The tokens of a text are as a reader wants them. A reader at a text's first token. read.One. The example of chapter 8, in plain Lean. The example of chapter 8 holds.
-/
import Derived.Test.YtgeaccoobhigcaaGreatGB
import Derived.Test.YtgeaccoobhigcaaGreatGA
import Derived.Test.YtgeaccoobhigcaaGreatG9
import Derived.Test.YtgeaccoobhigcaaGreatGD
namespace Go.Proofs.YtgeaccoobhigcaaGreat
open Go Go.RowKit
theorem toksP_of : ∀ (n : Nat) (l : Bs) (p : Nat), l.length < n → ∀ t ∈ toksP l p, (t.kind = 5 ∧ t.text = []) ∨ ∃ c r, t.kind = (nextT (c :: r)).kind ∧ t.text = (nextT (c :: r)).text
  | 0, _, _, h => by omega
  | n + 1, [], p, _ => by
    rw [toksP_nil]
    intro t ht
    simp only [List.mem_cons, List.not_mem_nil, or_false] at ht
    subst ht
    exact .inl ⟨rfl, rfl⟩
  | n + 1, c :: r, p, h => by
    have hl := nextT_len c r
    have hp := past_len ((c :: r).drop (nextT (c :: r)).len)
    rw [List.length_drop] at hp
    rw [toksP_cons]
    intro t ht
    rcases List.mem_cons.1 ht with rfl | ht
    · exact .inr ⟨c, r, rfl, rfl⟩
    · split at ht
      · cases ht
      · exact toksP_of n _ _ (by omega) t ht
theorem headN_all_take {p : UInt8 → Bool} : ∀ (l : Bs), (l.take (headN p l)).all p = true
  | [] => by simp
  | c :: r => by
    unfold headN
    split
    · rename_i h
      rw [List.take_succ_cons, List.all_cons, h, headN_all_take r]; rfl
    · simp
theorem nextT_good (c : UInt8) (r : Bs) : (nextT (c :: r)).kind ≤ 6 ∧ ((nextT (c :: r)).kind = 1 → wordB (nextT (c :: r)).text = true) ∧ ((nextT (c :: r)).kind = 2 → numT (nextT (c :: r)).text = true ∧ ∃ d s, (nextT (c :: r)).text = d :: s ∧ (digitB d = true ∨ d.toNat = 45)) ∧ ((nextT (c :: r)).kind = 3 → wordB (nextT (c :: r)).text = true) := by
  rw [nextT_cons]
  by_cases h1 : smallB c = true
  · rw [if_pos h1]
    have hp := headN_pos (p := partB) (c := c) (r := r) (by simp [partB, h1])
    have ha := headN_all_take (p := partB) (c :: r)
    have hl := headN_le partB (c :: r)
    generalize headN partB (c :: r) = N at hp ha hl
    by_cases h2 : 32 < N
    · rw [if_pos h2]; exact ⟨by simp, by simp, by simp, by simp⟩
    · rw [if_neg h2]
      refine ⟨by simp, fun _ => ?_, by simp, by simp⟩
      obtain ⟨m, rfl⟩ : ∃ m, N = m + 1 := ⟨N - 1, by omega⟩
      unfold wordB
      rw [ha]
      have h4 : ((c :: r).take (m + 1)).length = m + 1 := by rw [List.length_take]; omega
      rw [h4]
      have h3 : headSmall ((c :: r).take (m + 1)) = true := h1
      rw [h3]
      simp
      omega
  · rw [if_neg h1]
    by_cases h2 : (digitB c || (decide (c.toNat = 45) && headDig r)) = true
    · rw [if_pos h2]
      by_cases h3 : numT ((c :: r).take (1 + headN digitB r)) = true
      · rw [if_pos h3]
        refine ⟨by simp, by simp, fun _ => ⟨h3, c, r.take (headN digitB r), ?_, ?_⟩, by simp⟩
        · rw [Nat.add_comm, List.take_succ_cons]
        · simp only [Bool.or_eq_true, Bool.and_eq_true, decide_eq_true_eq] at h2
          rcases h2 with h2 | h2
          · exact .inl h2
          · exact .inr h2.1
      · rw [if_neg h3]; exact ⟨by simp, by simp, by simp, by simp⟩
    · rw [if_neg h2]
      by_cases h3 : (decide (c.toNat = 60) && headSmall r && headIs 62 (r.drop (headN partB r))) = true
      · rw [if_pos h3]
        have ha := headN_all_take (p := partB) r
        have hl := headN_le partB r
        by_cases h4 : 32 < headN partB r
        · rw [if_pos h4]; exact ⟨by simp, by simp, by simp, by simp⟩
        · rw [if_neg h4]
          refine ⟨by simp, by simp, by simp, fun _ => ?_⟩
          simp only [Bool.and_eq_true] at h3
          cases r with
          | nil => simp [headSmall] at h3
          | cons d s =>
            have h5 : smallB d = true := h3.1.2
            have hp := headN_pos (p := partB) (c := d) (r := s) (by simp [partB, h5])
            generalize headN partB (d :: s) = N at hp ha hl h4
            obtain ⟨m, rfl⟩ : ∃ m, N = m + 1 := ⟨N - 1, by omega⟩
            unfold wordB
            rw [ha]
            have h6 : ((d :: s).take (m + 1)).length = m + 1 := by rw [List.length_take]; omega
            rw [h6]
            have h7 : headSmall ((d :: s).take (m + 1)) = true := h5
            rw [h7]
            simp
            omega
      · rw [if_neg h3]
        unfold signNx
        split
        · exact ⟨by simp, by simp, by simp, by simp⟩
        · exact ⟨by simp, by simp, by simp, by simp⟩
theorem places_text (S : Bs) : ∀ (L : List Tk) (at_ : Nat), Places S at_ L → ∀ t ∈ L, (textT t).length ≤ S.length
  | [], _, h, _, _ => h.elim
  | u :: r, at_, h, t, ht => by
    obtain ⟨_, h2, _, _, _, h6⟩ := h
    rcases List.mem_cons.1 ht with rfl | ht
    · omega
    · exact places_text S r _ (h6 (by rintro rfl; cases ht)) t ht
theorem good_toks {l : Bs} (h : l.length ≤ 999999) : Good (toks l) := by
  have hof := toksP_of _ (past l) (skipN false l) (Nat.lt_succ_self _)
  have hpl := places_toks l
  refine ⟨toksP_ne _ _, fun k t hk => places_last _ 0 hpl k t hk, by have := toks_length l; omega, fun t ht => ?_, fun t ht hk => ?_, fun t ht hk => ?_, fun t ht => ?_⟩
  · have h1 := places_text l _ 0 hpl t ht
    unfold textT at h1
    rcases hof t ht with ⟨h2, h3⟩ | ⟨c, r, h2, h3⟩
    · rw [h3]; simp
    · split at h1
      · rename_i h5
        have := (nextT_text c r 0).2
        omega
      · split at h1
        · simp at h1; omega
        · omega
  · rcases hof t ht with ⟨h2, h3⟩ | ⟨c, r, h2, h3⟩
    · omega
    · rw [h3]; exact (nextT_good c r).2.1 (by omega)
  · rcases hof t ht with ⟨h2, h3⟩ | ⟨c, r, h2, h3⟩
    · omega
    · rw [h3]; exact (nextT_good c r).2.2.1 (by omega)
  · rcases hof t ht with ⟨h2, h3⟩ | ⟨c, r, h2, h3⟩
    · omega
    · have := (nextT_good c r).1; omega
end Go.Proofs.YtgeaccoobhigcaaGreat
namespace Go.Proofs.YtgeaccoobhigcaaGreat
open Go Go.RowKit
theorem Tryz.sz56 : (Tryz.prog.info? 56).map (·.size) = some 1 := by kernel_rfl
theorem below_grows {w A B : World} {row : Option Nat} (h : Below w.heap.size w A) (g : A.grownBy B row) (hr : ∀ b, row = some b → w.heap.size ≤ b) : Below w.heap.size w B :=
  ⟨g.os.trans h.os, g.tape.trans h.tape, g.output.trans h.output, Nat.le_trans h.size g.size, fun b hb => (g.block b (Nat.lt_of_lt_of_le hb h.size) (fun e => by have := hr b e.symm; omega)).trans (h.block b hb)⟩
set_option maxRecDepth 100000 in
set_option maxHeartbeats 2000000 in
theorem reader_any (s : ByteArray) (hs : s.size ≤ 32768) (w : World) :
    Calls Tryz.prog 16 #[.string s] w fun x w' => ∃ E : Env, x = .returned (.tuple #[E.ptr, .bool true]) ∧ Below w.heap.size w w' ∧ Rd E w' (toks s.data.toList) (-1) 0 ∧ (∀ b, E.Blk b → w.heap.size ≤ b) ∧ E.L = toks s.data.toList := by
  have hla := fun w => lexAll_any s (by omega) w
  have hgood := good_toks (l := s.data.toList) (by rw [size_toList]; omega)
  obtain ⟨L, hL⟩ : ∃ L, toks s.data.toList = L := ⟨_, rfl⟩
  rw [hL] at hla hgood ⊢
  have HLA := Lib.hid hla
  have HG := Lib.hid hgood
  obtain ⟨t0, r0, rfl⟩ : ∃ t r, L = t :: r := by
    cases L with
    | nil => exact absurd rfl hgood.ne
    | cons t r => exact ⟨t, r, rfl⟩
  clear hla hgood hL
  go_enter Tryz.func16, Tryz.ntmps16
  go_wp2_with fail
  refine (HLA.out _).mono ?_
  rintro x w1 ⟨go, c, rfl, hsl, hlow, hb1⟩
  obtain ⟨n, hn⟩ : ∃ n, n = (t0 :: r0).length := ⟨_, rfl⟩
  rw [← hn] at hsl ⊢
  have hsz := hb1.size
  have HSL := Lib.hid hsl
  have HLOW := Lib.hid hlow
  have HB1 := Lib.hid hb1
  have HN := Lib.hid hn
  have hg0 : w1.grownBy (((w1.alloc (.cells #[.slice go n c] 75)).alloc (.cells #[.int .i64 0] 3)).alloc (.cells #[.nilFunc, .int .i64 0, .string ⟨#[]⟩, .int .i64 0, .int .i64 (-1), .int .i64 0] 60)) none := grownBy_trans (grownBy_trans (World.grownBy_alloc _ _ _) (World.grownBy_alloc _ _ _)) (World.grownBy_alloc _ _ _)
  have hbl : BoxC (((w1.alloc (.cells #[.slice go n c] 75)).alloc (.cells #[.int .i64 0] 3)).alloc (.cells #[.nilFunc, .int .i64 0, .string ⟨#[]⟩, .int .i64 0, .int .i64 (-1), .int .i64 0] 60)) w1.heap.size 75 [.slice go n c] := ((BoxC.new w1 _ 75).alloc _).alloc _
  have hbi : BoxC (((w1.alloc (.cells #[.slice go n c] 75)).alloc (.cells #[.int .i64 0] 3)).alloc (.cells #[.nilFunc, .int .i64 0, .string ⟨#[]⟩, .int .i64 0, .int .i64 (-1), .int .i64 0] 60)) (w1.heap.size + 1) 3 [.int .i64 0] := (BoxC.new_at' (by simp)).alloc _
  have hbr : BoxC (((w1.alloc (.cells #[.slice go n c] 75)).alloc (.cells #[.int .i64 0] 3)).alloc (.cells #[.nilFunc, .int .i64 0, .string ⟨#[]⟩, .int .i64 0, .int .i64 (-1), .int .i64 0] 60)) (w1.heap.size + 1 + 1) 60 [.nilFunc, .int .i64 0, .string ⟨#[]⟩, .int .i64 0, .int .i64 (-1), .int .i64 0] := BoxC.new_at' (by simp)
  have HG0 := Lib.hid hg0
  have HBL := Lib.hid hbl
  have HBI := Lib.hid hbi
  have HBR := Lib.hid hbr
  clear hsl hlow hb1 hn HLA hg0 hbl hbi hbr
  go_wp2_with (first | (refine wpList_box rfl 56 (.tmp 17) (.tmp 15) rfl (w1.heap.size + 1 + 1) 0 _ [.func (.func 27) #[] #[.pointer (some ⟨w1.heap.size, 0, none⟩), .pointer (some ⟨w1.heap.size + 1, 0, none⟩)]] rfl rfl rfl HBR.out Tryz.sz56 (by simp) (by simp [Value.oneCell']) _ rfl ?_; intro w2 B2 g2; have HB2 := Lib.hid B2; have HG2 := Lib.hid g2; have x0 : w2.cell? ⟨w1.heap.size + 1 + 1, 0, none⟩ = some (.func (.func 27) #[] #[.pointer (some ⟨w1.heap.size, 0, none⟩), .pointer (some ⟨w1.heap.size + 1, 0, none⟩)]) := B2.at_ rfl; clear B2 g2))
  have hl2 := HBL.out.grown HG2.out (by simp; omega)
  have hi2 := HBI.out.grown HG2.out (by simp)
  have hin : ∀ a, go = some a → 0 < n → a.block < w1.heap.size := HSL.out.inB (by omega)
  have hd2 := (HSL.out.grown HG0.out (by simp)).grown HG2.out (by intro b e a ha hn hab; cases e; have := hin a ha hn; omega)
  have hN := nextTok_any (E := ⟨w1.heap.size + 1 + 1, w1.heap.size, w1.heap.size + 1, go, n, c, t0 :: r0⟩) (t := t0) w2 0 hl2 hi2 hd2 HG.out rfl (by simp)
  dsimp only at hN
  have HL2 := Lib.hid hl2
  have HD2 := Lib.hid hd2
  have HIN := Lib.hid hin
  clear hl2 hi2 hin hd2
  refine hN.mono ?_
  rintro x w3 ⟨rfl, g3, b3⟩
  have HB3 := Lib.hid (HB2.out.grown g3 (by simp))
  have HL3 := Lib.hid (HL2.out.grown g3 (by simp))
  have HI3 := Lib.hid b3
  have HD3 := Lib.hid (HD2.out.grown g3 (by intro b e a ha hn hab; cases e; have := HIN.out a ha hn; omega))
  have HG3 := Lib.hid g3
  clear g3 b3 x0 hN
  obtain ⟨kd, tx, ps⟩ := t0
  go_wp2_with (refine wpList_box rfl 58 (.tmp 25) (.tmp 23) rfl (w1.heap.size + 1 + 1) 1 _ [.int .i64 kd, .string ⟨tx.toArray⟩, .int .i64 ps] rfl rfl rfl HB3.out Tryz.sz58 (by simp) (by simp [Value.oneCell']) _ rfl ?_; intro w4 B4 g4; have HB4 := Lib.hid B4; have HG4 := Lib.hid g4; clear B4 g4)
  go_ret2
  have hb4 : Below w.heap.size w w4 := below_grows (below_grows (below_grows (below_grows HB1.out HG0.out (by simp)) HG2.out (by intro b e; cases e; omega)) HG3.out (by intro b e; cases e; omega)) HG4.out (by intro b e; cases e; omega)
  refine ⟨⟨w1.heap.size + 1 + 1, w1.heap.size, w1.heap.size + 1, go, n, c, ⟨kd, tx, ps⟩ :: r0⟩, rfl, hb4, ⟨HB4.out, HL3.out.grown HG4.out (by simp; omega), ⟨0, HI3.out.grown HG4.out (by simp), rfl⟩, by simp, HD3.out.grown HG4.out (by intro b e a ha hn hab; cases e; have := HIN.out a ha hn; omega), fun a ha hn => by have := HIN.out a ha hn; simp only; omega, by simp only [ne_eq]; omega, HG.out⟩, ?_, rfl⟩
  rintro b (rfl | rfl | rfl | ⟨a, ha, _, rfl⟩)
  · simp only; omega
  · exact hsz
  · simp only; omega
  · exact HLOW.out a ha
end Go.Proofs.YtgeaccoobhigcaaGreat
namespace Go.Proofs.YtgeaccoobhigcaaGreat
open Go Go.RowKit
/-- The one production of tokens; else where and why there is none. -/
def oneR (ts : List Tk) : Option Pd × Int × Int :=
  match pProd ts with
  | .bad q => (none, q, 5)
  | .ok p ts' => if shapeE p = 0 then (if (headT ts').kind = 5 then (some p, -1, 0) else (none, (headT ts').pos, 5)) else (none, (headT ts).pos, shapeE p)
def OneOut (base : Nat) (w' : World) (r : Option Pd × Int × Int) (x : Ending) : Prop :=
  ∃ v : Value, x = .returned (.tuple #[v, .int .i64 r.2.1, .int .i64 r.2.2]) ∧ match r.1 with
    | none => v = zeroProd
    | some p => ProdIs base w' p (.returned v)
theorem unD {B : Nat} {a w : World} (h : Below B a w) : Below B a w.drew := ⟨h.os, h.tape, h.output, h.size, h.block⟩
theorem below_mv {E : Env} {w A B : World} (h : Below w.heap.size w A) (m : Mv E A B) (h1 : w.heap.size ≤ E.r) (h2 : w.heap.size ≤ E.ib) : Below w.heap.size w B :=
  ⟨m.os.trans h.os, m.tape.trans h.tape, m.output.trans h.output, Nat.le_trans h.size m.size, fun b hb => (m.block b (Nat.lt_of_lt_of_le hb h.size) (by omega) (by omega)).trans (h.block b hb)⟩
set_option maxRecDepth 100000 in
set_option maxHeartbeats 4000000 in
theorem rone_any (s : ByteArray) (hs : s.size ≤ 32768) (w : World) :
    Calls Tryz.prog 7 #[.string s] w fun x w' => OneOut w.heap.size w' (oneR (toks s.data.toList)) x ∧ Below w.heap.size w w' := by
  have HBG := Lib.hid (reader_any s hs (w.alloc (.cells #[.string ⟨#[]⟩, .slice none 0 0, .slice none 0 0] 26)))
  have HB0 := Lib.hid (BoxC.new w [.string ⟨#[]⟩, .slice none 0 0, .slice none 0 0] 26)
  have HW0 := Lib.hid (below_new w (.cells #[.string ⟨#[]⟩, .slice none 0 0, .slice none 0 0] 26))
  generalize toks s.data.toList = ts at HBG ⊢
  go_enter Tryz.func7, Tryz.ntmps7
  go_wp2_with fail
  refine HBG.out.mono ?_
  rintro x w1 ⟨E, rfl, hb1, hr1, hlow, _⟩
  have hl1 : w.heap.size + 1 ≤ E.r := by have := hlow E.r (.inl rfl); simpa using this
  have hl2 : w.heap.size + 1 ≤ E.ib := by have := hlow E.ib (.inr (.inr (.inl rfl))); simpa using this
  have hnb : ¬ E.Blk w.heap.size := fun hc => by have := hlow _ hc; rw [World.size_alloc] at this; omega
  have hP := prod_any w1 hr1
  have HB1 := Lib.hid (HB0.out.below hb1)
  have HW1 := Lib.hid (HW0.out.trans (hb1.mono (by simp)))
  have hsz1 : w.heap.size + 1 ≤ w1.heap.size := by have := hb1.size; simpa using this
  unfold Env.ptr at hP ⊢
  have HP := Lib.hid hP
  clear hP hr1 hb1 hlow
  go_wp2_with fail
  refine HP.out.mono ?_
  rintro x w2 ⟨hm2, ho2⟩
  have HB2 := Lib.hid (hm2.box HB1.out (by omega) (by omega))
  have HW2 := Lib.hid (below_mv HW1.out hm2 (by omega) (by omega))
  have hsz2 := HW2.out.size
  clear hm2 HB1 HB0 HW1 HW0 HP HBG
  cases hp : pProd ts with
  | bad q =>
    rw [hp] at ho2
    have HR : Hid (oneR ts = (none, (q : Int), 5)) := Lib.hid (by unfold oneR; rw [hp])
    obtain ⟨rfl, ts', hr⟩ := ho2
    have hra := hr.alloc (.cells #[.string ⟨#[]⟩, .slice none 0 0, .slice none 0 0] 26)
    obtain ⟨c0, c1, c2, c3, c4, c5⟩ := six_boxR hra.box
    have HBA := Lib.hid (HB2.out.alloc (.cells #[.string ⟨#[]⟩, .slice none 0 0, .slice none 0 0] 26))
    have HWA := Lib.hid (HW2.out.alloc hsz2 (.cells #[.string ⟨#[]⟩, .slice none 0 0, .slice none 0 0] 26))
    clear hr hra hp
    unfold zeroProd
    go_wp2_with fail
    obtain ⟨z0, z1, z2⟩ := three_box HBA.out
    have y0 := free_box HBA.out 0
    have y1 := free_box HBA.out 1
    have y2 := free_box HBA.out 2
    have n1 : E.r ≠ w.heap.size := by omega
    have n2 : w.heap.size ≠ E.r := by omega
    have HBz : Hid (BoxC (((((w2.alloc (.cells #[.string ⟨#[]⟩, .slice none 0 0, .slice none 0 0] 26)).setCell ⟨w.heap.size, 0, none⟩ (.string ⟨#[]⟩)).setCell ⟨w.heap.size, 1, none⟩ (.slice none 0 0)).setCell ⟨w.heap.size, 2, none⟩ (.slice none 0 0)).drew) w.heap.size 26 [.string ⟨#[]⟩, .slice none 0 0, .slice none 0 0]) := Lib.hid (set3 HBA.out _ _ _)
    have HWz : Hid (Below w.heap.size w (((((w2.alloc (.cells #[.string ⟨#[]⟩, .slice none 0 0, .slice none 0 0] 26)).setCell ⟨w.heap.size, 0, none⟩ (.string ⟨#[]⟩)).setCell ⟨w.heap.size, 1, none⟩ (.slice none 0 0)).setCell ⟨w.heap.size, 2, none⟩ (.slice none 0 0)).drew)) := Lib.hid (unD (((HWA.out.setCell (p := ⟨w.heap.size, 0, none⟩) (Nat.le_refl _) _).setCell (p := ⟨w.heap.size, 1, none⟩) (Nat.le_refl _) _).setCell (p := ⟨w.heap.size, 2, none⟩) (Nat.le_refl _) _))
    go_region
    all_goals
      go_wp2
      obtain ⟨d0, d1, d2⟩ := three_box HBz.out
      exact bodyPost_ret (v := .tuple #[.agg #[.string ⟨#[]⟩, .slice none 0 0, .slice none 0 0], .int .i64 q, .int .i64 5]) (by simp [results, Tryz.results7, go_sem, d0, d1, d2]) rfl ⟨by rw [HR.out]; exact ⟨zeroProd, rfl, rfl⟩, HWz.out⟩
  | ok p ts' =>
    rw [hp] at ho2
    rcases ho2 with ⟨hs0, ⟨p', rfl', habs, hmem, hdc, hda⟩, hr⟩ | ⟨hs0, rfl, ts2, hr⟩
    · have HR : Hid (oneR ts = if (headT ts').kind = 5 then (some p, -1, 0) else (none, ((headT ts').pos : Int), 5)) := Lib.hid (by unfold oneR; rw [hp]; simp only; rw [if_pos hs0])
      obtain ⟨nm, ca, cn, cc, cl, aa, an, ac, al⟩ := p'
      unfold ProdR.val at rfl'
      dsimp only at rfl' hdc hda
      subst rfl'
      have hra := hr.alloc (.cells #[.string nm, .slice ca cn cc, .slice aa an ac] 26)
      obtain ⟨c0, c1, c2, c3, c4, c5⟩ := six_boxR hra.box
      have HBA := Lib.hid (HB2.out.alloc (.cells #[.string nm, .slice ca cn cc, .slice aa an ac] 26))
      have HPA := Lib.hid (BoxC.new w2 [.string nm, .slice ca cn cc, .slice aa an ac] 26)
      have HWA := Lib.hid (HW2.out.alloc hsz2 (.cells #[.string nm, .slice ca cn cc, .slice aa an ac] 26))
      have HMEM := Lib.hid (hmem.kept (below_new w2 (.cells #[.string nm, .slice ca cn cc, .slice aa an ac] 26)))
      have HDC := Lib.hid (hdc.kept (below_new w2 (.cells #[.string nm, .slice ca cn cc, .slice aa an ac] 26)))
      have HDA := Lib.hid (hda.kept (below_new w2 (.cells #[.string nm, .slice ca cn cc, .slice aa an ac] 26)))
      have HAB := Lib.hid habs
      by_cases hk : (headT ts').kind = 5
      · rw [if_pos hk] at HR
        have e5 : (((headT ts').kind : Int) != 5) = false := by simp [hk]
        clear hr hra hp hmem hdc hda habs hk
        go_wp2_with (refine wpList_box rfl 26 (.tmp 2) (.tmp 47) rfl w.heap.size 0 _ [.string nm, .slice ca cn cc, .slice aa an ac] rfl rfl rfl HBA.out Tryz.sz26 (by simp) (by simp [Value.oneCell']) _ rfl ?_; intro wz Bz gz; have HBz := Lib.hid Bz; have HGz := Lib.hid gz; clear Bz gz)
        obtain ⟨d0, d1, d2⟩ := three_box HBz.out
        have hdc := HDC.out.same (sameIn_of_grown HGz.out fun b hb e => by injection e with e; omega)
        have hda := HDA.out.same (sameIn_of_grown HGz.out fun b hb e => by injection e with e; omega)
        exact bodyPost_ret (v := .tuple #[.agg #[.string nm, .slice ca cn cc, .slice aa an ac], .int .i64 (-1), .int .i64 0]) (by simp [results, Tryz.results7, go_sem, d0, d1, d2]) rfl ⟨by rw [HR.out]; exact ⟨_, rfl, ⟨nm, ca, cn, cc, cl, aa, an, ac, al⟩, rfl, HAB.out, ⟨HMEM.out.name, hdc.sl, hdc.ok, hda.sl, hda.ok⟩, hdc.mono fun b hb => by omega, hda.mono fun b hb => by omega⟩, below_grows HWA.out HGz.out (by intro b e; cases e; exact Nat.le_refl _)⟩
      · rw [if_neg hk] at HR
        have e5 : (((headT ts').kind : Int) != 5) = true := by simp; omega
        have HBD := Lib.hid (bad_ok _ hra)
        unfold Env.ptr at HBD
        clear hr hra hp hmem hdc hda habs hk
        go_wp2_with fail
        refine HBD.out.mono ?_
        rintro x w3 ⟨⟨_, rfl⟩, hm3, hr3⟩
        have HB3 := Lib.hid (hm3.box HBA.out (by omega) (by omega))
        have HW3 := Lib.hid (below_mv HWA.out hm3 (by omega) (by omega))
        clear c0 c1 c2 c3 c4 c5
        obtain ⟨c0, c1, c2, c3, c4, c5⟩ := six_boxR hr3.box
        clear hm3 hr3
        go_wp2_with fail
        obtain ⟨z0, z1, z2⟩ := three_box HB3.out
        have y0 := free_box HB3.out 0
        have y1 := free_box HB3.out 1
        have y2 := free_box HB3.out 2
        have n1 : E.r ≠ w.heap.size := by omega
        have n2 : w.heap.size ≠ E.r := by omega
        have HBz : Hid (BoxC (((((w3).setCell ⟨w.heap.size, 0, none⟩ (.string ⟨#[]⟩)).setCell ⟨w.heap.size, 1, none⟩ (.slice none 0 0)).setCell ⟨w.heap.size, 2, none⟩ (.slice none 0 0)).drew) w.heap.size 26 [.string ⟨#[]⟩, .slice none 0 0, .slice none 0 0]) := Lib.hid (set3 HB3.out _ _ _)
        have HWz : Hid (Below w.heap.size w (((((w3).setCell ⟨w.heap.size, 0, none⟩ (.string ⟨#[]⟩)).setCell ⟨w.heap.size, 1, none⟩ (.slice none 0 0)).setCell ⟨w.heap.size, 2, none⟩ (.slice none 0 0)).drew)) := Lib.hid (unD (((HW3.out.setCell (p := ⟨w.heap.size, 0, none⟩) (Nat.le_refl _) _).setCell (p := ⟨w.heap.size, 1, none⟩) (Nat.le_refl _) _).setCell (p := ⟨w.heap.size, 2, none⟩) (Nat.le_refl _) _))
        go_region
        all_goals
          go_wp2
          obtain ⟨d0, d1, d2⟩ := three_box HBz.out
          exact bodyPost_ret (v := .tuple #[.agg #[.string ⟨#[]⟩, .slice none 0 0, .slice none 0 0], .int .i64 (headT ts').pos, .int .i64 5]) (by simp [results, Tryz.results7, go_sem, d0, d1, d2]) rfl ⟨by rw [HR.out]; exact ⟨zeroProd, rfl, rfl⟩, HWz.out⟩
    · have HR : Hid (oneR ts = (none, ((headT ts).pos : Int), shapeE p)) := Lib.hid (by unfold oneR; rw [hp]; simp only; rw [if_neg hs0])
      have e1 : (shapeE p != 0) = true := by simp [hs0]
      have e0 : (shapeE p == 0) = false := by simp [hs0]
      generalize shapeE p = S at *
      have hra := hr.alloc (.cells #[.string ⟨#[]⟩, .slice none 0 0, .slice none 0 0] 26)
      obtain ⟨c0, c1, c2, c3, c4, c5⟩ := six_boxR hra.box
      have HBA := Lib.hid (HB2.out.alloc (.cells #[.string ⟨#[]⟩, .slice none 0 0, .slice none 0 0] 26))
      have HWA := Lib.hid (HW2.out.alloc hsz2 (.cells #[.string ⟨#[]⟩, .slice none 0 0, .slice none 0 0] 26))
      clear hr hra hp hs0
      unfold zeroProd
      go_wp2_with fail
      obtain ⟨z0, z1, z2⟩ := three_box HBA.out
      have y0 := free_box HBA.out 0
      have y1 := free_box HBA.out 1
      have y2 := free_box HBA.out 2
      have n1 : E.r ≠ w.heap.size := by omega
      have n2 : w.heap.size ≠ E.r := by omega
      have HBz : Hid (BoxC (((((w2.alloc (.cells #[.string ⟨#[]⟩, .slice none 0 0, .slice none 0 0] 26)).setCell ⟨w.heap.size, 0, none⟩ (.string ⟨#[]⟩)).setCell ⟨w.heap.size, 1, none⟩ (.slice none 0 0)).setCell ⟨w.heap.size, 2, none⟩ (.slice none 0 0)).drew) w.heap.size 26 [.string ⟨#[]⟩, .slice none 0 0, .slice none 0 0]) := Lib.hid (set3 HBA.out _ _ _)
      have HWz : Hid (Below w.heap.size w (((((w2.alloc (.cells #[.string ⟨#[]⟩, .slice none 0 0, .slice none 0 0] 26)).setCell ⟨w.heap.size, 0, none⟩ (.string ⟨#[]⟩)).setCell ⟨w.heap.size, 1, none⟩ (.slice none 0 0)).setCell ⟨w.heap.size, 2, none⟩ (.slice none 0 0)).drew)) := Lib.hid (unD (((HWA.out.setCell (p := ⟨w.heap.size, 0, none⟩) (Nat.le_refl _) _).setCell (p := ⟨w.heap.size, 1, none⟩) (Nat.le_refl _) _).setCell (p := ⟨w.heap.size, 2, none⟩) (Nat.le_refl _) _))
      go_region
      all_goals
        go_wp2
        obtain ⟨d0, d1, d2⟩ := three_box HBz.out
        exact bodyPost_ret (v := .tuple #[.agg #[.string ⟨#[]⟩, .slice none 0 0, .slice none 0 0], .int .i64 (headT ts).pos, .int .i64 S]) (by simp [results, Tryz.results7, go_sem, d0, d1, d2]) rfl ⟨by rw [HR.out]; exact ⟨zeroProd, rfl, rfl⟩, HWz.out⟩
end Go.Proofs.YtgeaccoobhigcaaGreat
namespace Go.Proofs.YtgeaccoobhigcaaGreat
open Go Go.RowKit
def wakeT : Bs := [115, 112, 32, 123, 97, 32, 40, 115, 116, 97, 116, 101, 32, 60, 115, 62, 32, 94, 120, 32, 60, 118, 62, 32, 45, 94, 121, 32, 51, 41, 32, 45, 45, 62, 32, 40, 60, 115, 62, 32, 94, 122, 32, 60, 118, 62, 41, 125]
def wakeAt (v : UInt8) : Am := ⟨⟨#[v]⟩, nilSm⟩
def wakeTs (a : Sm) : Ts := ⟨1, ⟨#[]⟩, a, []⟩
def wakeP : Pd := ⟨⟨#[97]⟩, [.mk 1 true ⟨#[115]⟩ [wakeTs ⟨3, ⟨#[120]⟩, 0⟩] [⟨1, ⟨#[118]⟩, nilSm, []⟩] false [], .mk 2 true ⟨#[115]⟩ [wakeTs ⟨3, ⟨#[121]⟩, 0⟩] [wakeTs ⟨2, ⟨#[]⟩, 3⟩] false []], [⟨⟨#[115]⟩, ⟨⟨#[]⟩, ⟨3, ⟨#[122]⟩, 0⟩⟩, ⟨0, wakeAt 118, nilAm⟩, 1, nilAm⟩]⟩
set_option maxRecDepth 100000 in
theorem wake_one : oneR (toks wakeT) = (some wakeP, -1, 0) := by
  kernel_rfl
end Go.Proofs.YtgeaccoobhigcaaGreat
namespace Go.Proofs.YtgeaccoobhigcaaGreat
open Go Go.RowKit
def wakeS : ByteArray := ⟨#[115, 112, 32, 123, 97, 32, 40, 115, 116, 97, 116, 101, 32, 60, 115, 62, 32, 94, 120, 32, 60, 118, 62, 32, 45, 94, 121, 32, 51, 41, 32, 45, 45, 62, 32, 40, 60, 115, 62, 32, 94, 122, 32, 60, 118, 62, 41, 125]⟩
/-- What the example asks for. -/
theorem wake_call (w : World) : Calls Tryz.prog 7 #[.string wakeS] w fun x w' => (∃ (nm : ByteArray) (g o cc g2 o2 ac : Nat), x = .returned (.tuple #[.agg #[.string nm, .slice (some ⟨g, o, none⟩) 2 cc, .slice (some ⟨g2, o2, none⟩) 1 ac], .int .i64 (-1), .int .i64 0]) ∧ g < w'.heap.size ∧ g2 < w'.heap.size ∧
    w'.cell? ⟨g, o + 7, none⟩ = some (.int .i64 2) ∧ w'.cell? ⟨g2, o2 + 14, none⟩ = some (.int .i64 1)) ∧ Below w.heap.size w w' := by
  refine (rone_any wakeS (by decide) w).mono fun x w' ⟨h1, h2⟩ => ⟨?_, h2⟩
  rw [show wakeS.data.toList = wakeT from rfl, wake_one] at h1
  obtain ⟨v, rfl, ⟨nm, ca, cn, cc, cl, aa, an, ac, al⟩, hv, habs, ⟨_, hsc, _, hsa, _⟩, _, _⟩ := h1
  injection hv with hv
  subst hv
  unfold ProdR.abs at habs
  simp only at habs hsc hsa
  have e1 : absL cl = wakeP.conds := congrArg Pd.conds habs
  have e2 : al = wakeP.acts := congrArg Pd.acts habs
  rw [absL_map] at e1
  have hcl := condsMem_len hsc
  have hal := actsMem_len hsa
  have hc2 : cl.length = 2 := by have := congrArg List.length e1; rw [List.length_map] at this; exact this
  have ha1 : al.length = 1 := by rw [e2]; rfl
  obtain rfl : cn = 2 := by omega
  obtain rfl : an = 1 := by omega
  obtain ⟨c, hc⟩ : ∃ c, cl[1]? = some c := ⟨_, List.getElem?_eq_getElem (by omega)⟩
  obtain ⟨a, ha⟩ : ∃ a, al[0]? = some a := ⟨_, List.getElem?_eq_getElem (by omega)⟩
  have hk : c.abs = (.mk 2 true ⟨#[115]⟩ [wakeTs ⟨3, ⟨#[121]⟩, 0⟩] [wakeTs ⟨2, ⟨#[]⟩, 3⟩] false []) := by
    have h := congrArg (fun l => l[1]?) e1
    simp only [List.getElem?_map, hc, Option.map_some] at h
    injection h
  have hp : a.pref = 1 := by
    rw [e2] at ha
    injection ha with ha
    rw [← ha]
  obtain ⟨g, o, rfl, hg⟩ := hsc.row_at condR_len (by omega) hc
  obtain ⟨g2, o2, rfl, hg2⟩ := hsa.row_at ac_len (by omega) ha
  have x1 : w'.cell? ⟨g, o + 7, none⟩ = some (.int .i64 2) := by
    have := hg 0
    obtain ⟨kind, goal, id, aa, an, ac', attr, va, vn, vc, value, acc, ca', cn', cc', conds⟩ := c
    simp only [CondR.abs, Cd.mk.injEq] at hk
    rw [hk.1] at this
    exact this _ rfl
  have x2 : w'.cell? ⟨g2, o2 + 14, none⟩ = some (.int .i64 1) := by
    have := hg2 14 (.int .i64 a.pref) rfl
    rw [hp] at this
    simpa using this
  exact ⟨nm, g, o, cc, g2, o2, ac, rfl, World.block_lt_of_cell? w' _ x1, World.block_lt_of_cell? w' _ x2, x1, x2⟩
set_option maxRecDepth 100000 in
set_option maxHeartbeats 4000000 in
theorem wakes8_any (w : World) : Calls Tryz.prog 6 #[] w fun e w' => e = .returned (.bool true) ∧ Below w.heap.size w w' := by
  have HC := Lib.hid (wake_call w)
  unfold wakeS at HC
  go_enter Tryz.func6, Tryz.ntmps6
  go_wp2_with fail
  refine HC.out.mono ?_
  rintro x w1 ⟨⟨nm, g, o, cc, g2, o2, ac, rfl, g1, gg, x1, x2⟩, b1⟩
  go_wp2
  go_ret
  exact ⟨rfl, b1.alloc b1.size _⟩
end Go.Proofs.YtgeaccoobhigcaaGreat
