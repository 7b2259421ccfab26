/-
  The walk of the law LexJoins.
-/
import Derived.Test.YtgeaccoobhigcaaT1
import Derived.Test.YtgeaccoobhigcaaC1
import Derived.Deep.QuietTactic
import Derived.BigQuiet
import Derived.Deep.RegionWith
import Derived.StillTailTactics
namespace Go.Proofs.Ytgeaccoobhigcaa
open Go Go.RowKit

theorem places_pos {S : Bs} : ∀ (L : List Tk) (at_ : Nat), Places S at_ L → ∀ t ∈ L, t.pos ≤ S.length
  | [], _, h, _, _ => h.elim
  | u :: r, at_, h, t, ht => by
    obtain ⟨_, h2, _, _, _, h6⟩ := h
    rcases List.mem_cons.1 ht with rfl | ht
    · omega
    · exact places_pos r _ (h6 (by rintro rfl; simp at ht)) t ht
theorem toks_pos (l : Bs) : ∀ t ∈ toks l, t.pos ≤ l.length := places_pos _ _ (places_toks l)
theorem cat_list (a b : ByteArray) : (a ++ b).data.toList = a.data.toList ++ b.data.toList := by simp
theorem cat_nl (a : ByteArray) : (a ++ (⟨#[10]⟩ : ByteArray)).data.toList = a.data.toList ++ [10] := cat_list _ _

set_option maxRecDepth 100000 in
set_option maxHeartbeats 4000000 in
theorem lexJoins_walk (a b : ByteArray) (w : World) (_ : a.size ≤ maxLen) (_ : b.size ≤ maxLen) :
    Calls Try.prog 7 #[.string a, .string b] w fun e w' => e = .returned (.bool true) ∧ Below w.heap.size w w' := by
  by_cases h3 : a.size ≤ 1000
  · have h3' : ¬ (1000 : Int) < (a.size : Int) := by omega
    by_cases h4 : b.size ≤ 1000
    · have h4' : ¬ (1000 : Int) < (b.size : Int) := by omega
      have hz1 : (a ++ (⟨#[10]⟩ : ByteArray)).size = a.size + 1 := by simp; rfl
      have hz3 : (a ++ (⟨#[10]⟩ : ByteArray) ++ b).size = a.size + 1 + b.size := by simp; rfl
      have hlx := fun w => lexAll_any (a ++ (⟨#[10]⟩ : ByteArray)) (by rw [hz1]; omega) w
      have hly := fun w => lexAll_any b (by omega) w
      have hlz := fun w => lexAll_any (a ++ (⟨#[10]⟩ : ByteArray) ++ b) (by rw [hz3]; omega) w
      have hj := joined_toks a.data.toList b.data.toList
      rw [cat_nl] at hlx
      rw [cat_list, cat_nl, List.append_assoc, List.singleton_append] at hlz
      have hny : 0 < (toks b.data.toList).length := List.length_pos_iff.2 (by unfold toks; exact toksP_ne _ _)
      have hll := toks_length b.data.toList
      have hlxl := toks_length (a.data.toList ++ [10])
      rw [List.length_append, size_toList] at hlxl
      have hyp := toks_pos b.data.toList
      rw [size_toList] at hll hj hyp
      simp only [List.length_cons, List.length_nil] at hlxl
      generalize toks (a.data.toList ++ [10]) = x at hlx hj hlxl
      generalize toks b.data.toList = y at hly hj hny hll hyp
      have HYP := Lib.hid hyp
      clear hyp
      generalize toks (a.data.toList ++ 10 :: b.data.toList) = z at hlz hj
      obtain ⟨xs, t, rfl, hj⟩ := hj
      rw [List.length_append, List.length_singleton] at hlx hlxl
      have hmix : Try.prog.follows .mixedOrders = true := by kernel_rfl
      obtain ⟨n, hn⟩ : ∃ n, xs.length = n := ⟨_, rfl⟩
      rw [hn] at hlx hlxl
      have HN := Lib.hid hn
      have HLX := Lib.hid hlx
      have HLY := Lib.hid hly
      obtain ⟨m, hm⟩ : ∃ m, y.length = m := ⟨_, rfl⟩
      rw [hm] at hly hny hll
      have HM := Lib.hid hm
      have HLY := Lib.hid hly
      clear hz1 hz3 hn hlx hly hm
      have htx : (xs ++ [t])[n]? = some t := by rw [← HN.out]; simp
      have e0 : (((n : Int) + 1) == 0) = false := by simp; omega
      have e1 : ((m : Int) == 0) = false := by simp; omega
      have hlt1 : (n : Int) < (n : Int) + 1 := by omega
      rcases hj with ⟨h6, hz⟩ | ⟨h6, hz⟩
      · subst hz
        rw [List.length_append, List.length_singleton, HN.out] at hlz
        have HLZ := Lib.hid hlz
        have HT := Lib.hid htx
        clear hlz htx
        obtain ⟨kd, tx, ps⟩ := t
        simp only at h6
        have e6 : ((kd : Int) == 6) = true := by simp; omega
        go_enter Try.func7, Try.ntmps7
        go_wp2_with (first
          | (go_at_call_of 24 (Value.string (a ++ (⟨#[10]⟩ : ByteArray))); refine (HLX.out _).mono ?_; rintro e w1 ⟨g1, c1, rfl, hx, _, b1⟩)
          | (go_at_call_of 24 (Value.string b); refine (HLY.out _).mono ?_; rintro e w2 ⟨g2, c2, rfl, hy, _, b2⟩; replace hx := hx.kept b2; replace b1 := b1.trans (b2.mono b1.size))
          | (go_at_call 24; refine (HLZ.out _).mono ?_; rintro e w3 ⟨g3, c3, rfl, hz, _, b3⟩; replace hx := hx.kept b3; replace hy := hy.kept b3; replace b1 := b1.trans (b3.mono b1.size); obtain ⟨g, o, rfl, x0, x1, x2⟩ := hx.tok HT.out; obtain ⟨g', o', rfl, z0, z1, z2⟩ := hz.tok HT.out; simp only at x0 x1 x2 z0 z1 z2; unfold strV at x1 z1))
        clear hx hy hz
        clear HLX HLY HLZ
        go_still_tail 17, (by kernel_rfl)
        change wpList _ _ _ _ _ w3.drew
        have b4 : Below w.heap.size w w3.drew := below_drew b1 1
        generalize w3.drew = w4 at b4 ⊢
        go_wp2_with (go_at_call 21; refine (wakes_any _).mono ?_; rintro e w7 ⟨rfl, b7⟩)
        go_ret
        exact ⟨rfl, b4.trans (b7.mono b4.size)⟩
      · subst hz
        rw [List.length_append, List.length_map, HN.out, HM.out] at hlz
        have HLZ := Lib.hid hlz
        have HT := Lib.hid htx
        clear hlz htx
        have hzl : ∀ i u, i < n → (xs ++ [t])[i]? = some u → (xs ++ y.map (Tk.on (a.size + 1)))[i]? = some u := fun i u h hu => by
          rw [List.getElem?_append_left (by rw [HN.out]; exact h)] at hu ⊢
          exact hu
        have hzr : ∀ i u, y[i]? = some u → (xs ++ y.map (Tk.on (a.size + 1)))[n + i]? = some (u.on (a.size + 1)) := fun i u hu => by
          rw [← HN.out, List.getElem?_append_right (by omega), Nat.add_sub_cancel_left, List.getElem?_map, hu]; rfl
        have hxi : ∀ i, i < n → ∃ u, (xs ++ [t])[i]? = some u := fun i h => ⟨_, List.getElem?_eq_getElem (by rw [List.length_append, HN.out]; omega)⟩
        have hyi : ∀ i, i < m → ∃ u, y[i]? = some u := fun i h => ⟨_, List.getElem?_eq_getElem (by rw [HM.out]; exact h)⟩
        generalize xs ++ y.map (Tk.on (a.size + 1)) = z at HLZ hzl hzr
        generalize xs ++ [t] = x at HLX HT hzl hxi
        have HZL := Lib.hid hzl
        have HZR := Lib.hid hzr
        have HXI := Lib.hid hxi
        have HYI := Lib.hid hyi
        have hnm : ((n : Int) + (m : Int) != (n : Int) + (m : Int)) = false := by simp
        obtain ⟨kd, tx, ps⟩ := t
        simp only at h6
        have e6 : ((kd : Int) == 6) = false := by simp; omega
        clear hzl hzr hxi hyi h6
        go_enter Try.func7, Try.ntmps7
        go_wp2_with (first
          | (go_at_call_of 24 (Value.string (a ++ (⟨#[10]⟩ : ByteArray))); refine (HLX.out _).mono ?_; rintro e w1 ⟨g1, c1, rfl, hx, _, b1⟩)
          | (go_at_call_of 24 (Value.string b); refine (HLY.out _).mono ?_; rintro e w2 ⟨g2, c2, rfl, hy, _, b2⟩; replace hx := hx.kept b2; replace b1 := b1.trans (b2.mono b1.size))
          | (go_at_call 24; refine (HLZ.out _).mono ?_; rintro e w3 ⟨g3, c3, rfl, hz, _, b3⟩; replace hx := hx.kept b3; replace hy := hy.kept b3; replace b1 := b1.trans (b3.mono b1.size); obtain ⟨g, o, rfl, x0, x1, x2⟩ := hx.tok HT.out; simp only at x0 x1 x2; unfold strV at x1))
        go_loopw [9] (fun ti wr => ∃ i : Nat, i ≤ n + m ∧ ti = .int .i64 i ∧ SlR wr 3 (some ⟨g, o, none⟩) (n + 1) c1 (cellsT x) ∧ SlR wr 3 g2 m c2 (cellsT y) ∧ SlR wr 3 g3 (n + m) c3 (cellsT z) ∧ Below w.heap.size w wr) (fun ti _ => n + m - (intOf ti).toNat)
        case atStart => exact ⟨0, by omega, rfl, hx, hy, hz, b1⟩
        case round =>
          clear hx hy hz b1 x0 x1 x2
          obtain ⟨i, hi, rfl, hx, hy, hz, b1⟩ := hrel
          by_cases hlt : i < n
          · obtain ⟨u, hu⟩ := HXI.out i hlt
            obtain ⟨g', o', e, x0, x1, x2⟩ := hx.tok hu
            cases e
            obtain ⟨g', o', rfl, z0, z1, z2⟩ := hz.tok (HZL.out i u hlt hu)
            obtain ⟨kd', tx', ps'⟩ := u
            simp only at x0 x1 x2 z0 z1 z2
            unfold strV at x1 z1
            have X0 : ∀ q, (wr.drewN q).cell? _ = _ := fun _ => x0
            have X1 : ∀ q, (wr.drewN q).cell? _ = _ := fun _ => x1
            have X2 : ∀ q, (wr.drewN q).cell? _ = _ := fun _ => x2
            have Z0 : ∀ q, (wr.drewN q).cell? _ = _ := fun _ => z0
            have Z1 : ∀ q, (wr.drewN q).cell? _ = _ := fun _ => z1
            have Z2 : ∀ q, (wr.drewN q).cell? _ = _ := fun _ => z2
            have hin : (i : Int) < (n : Int) + 1 := by omega
            have hinm : (i : Int) < (n : Int) + (m : Int) := by omega
            have HU := Lib.hid hu
            clear hu
            go_wp2
            go_quiet (fail)
            go_wp2
            go_roundw
            case rel => exact ⟨i + 1, by omega, by go_num, hx.drewN _, hy.drewN _, hz.drewN _, below_drew b1 _⟩
            case measure => simp [intOf]; omega
          · by_cases hlm : i < n + m
            · obtain ⟨j, rfl⟩ : ∃ j, i = n + j := ⟨i - n, by omega⟩
              obtain ⟨u, hu⟩ := HYI.out j (by omega)
              have hup := HYP.out u (List.mem_of_getElem? hu)
              obtain ⟨g', o', rfl, y0, y1, y2⟩ := hy.tok hu
              obtain ⟨g', o', rfl, z0, z1, z2⟩ := hz.tok (HZR.out j u hu)
              obtain ⟨kd', tx', ps'⟩ := u
              simp only [Tk.on] at y0 y1 y2 z0 z1 z2 hup
              unfold strV at y1 z1
              have hjm : (j : Int) < (m : Int) := by omega
              have hinm : (n : Int) + (j : Int) < (n : Int) + (m : Int) := by omega
              have hnlt : ¬ (n : Int) + (j : Int) < (n : Int) := by omega
              have hsub : (n : Int) + (j : Int) - (n : Int) = (j : Int) := by omega
              have HU := Lib.hid hu
              clear hu
              simp only [Int.natCast_add]
              go_wp2
              have hbw : Below wr.heap.size wr (wr.alloc (.cells #[.int .i64 (kd' : Int), .string ⟨tx'.toArray⟩, .int .i64 ((ps' : Int) + ((a.size : Int) + 1))] 30)) := (Below.refl _ _).alloc (Nat.le_refl _) _
              have hnb := heap_alloc_new wr (.cells #[.int .i64 (kd' : Int), .string ⟨tx'.toArray⟩, .int .i64 ((ps' : Int) + ((a.size : Int) + 1))] 30)
              have hz4 := hz.kept hbw
              have hx4 := hx.kept hbw
              have hy4 := hy.kept hbw
              have hb4 := b1.trans (hbw.mono b1.size)
              obtain ⟨g5, o5, e5, z0, z1, z2⟩ := hz4.tok (HZR.out j _ HU.out)
              cases e5
              simp only [Tk.on, Int.natCast_add, Int.cast_ofNat_Int] at z0 z1 z2
              unfold strV at z1
              generalize wr.heap.size = G at hnb ⊢
              generalize wr.alloc (.cells #[.int .i64 (kd' : Int), .string ⟨tx'.toArray⟩, .int .i64 ((ps' : Int) + ((a.size : Int) + 1))] 30) = W4 at hnb hz4 hx4 hy4 hb4 z0 z1 z2 ⊢
              have v0 : W4.cell? ⟨G, 0, none⟩ = some (.int .i64 (kd' : Int)) := by rw [cell_of_row _ _ _ _ _ _ hnb]; rfl
              have v1 : W4.cell? ⟨G, 1, none⟩ = some (.string ⟨tx'.toArray⟩) := by rw [cell_of_row _ _ _ _ _ _ hnb]; rfl
              have v2 : W4.cell? ⟨G, 2, none⟩ = some (.int .i64 ((ps' : Int) + ((a.size : Int) + 1))) := by rw [cell_of_row _ _ _ _ _ _ hnb]; rfl
              have X0 : ∀ q, (W4.drewN q).cell? _ = _ := fun _ => v0
              have X1 : ∀ q, (W4.drewN q).cell? _ = _ := fun _ => v1
              have X2 : ∀ q, (W4.drewN q).cell? _ = _ := fun _ => v2
              have Z0 : ∀ q, (W4.drewN q).cell? _ = _ := fun _ => z0
              have Z1 : ∀ q, (W4.drewN q).cell? _ = _ := fun _ => z1
              have Z2 : ∀ q, (W4.drewN q).cell? _ = _ := fun _ => z2
              clear hnb hbw
              go_quiet (fail)
              go_wp2
              go_roundw
              case rel => exact ⟨n + j + 1, by omega, by go_num, hx4.drewN _, hy4.drewN _, hz4.drewN _, below_drew hb4 _⟩
              case measure => simp [intOf]; omega
            · obtain rfl : i = n + m := by omega
              have hinm : ¬ (n : Int) + (m : Int) < (n : Int) + (m : Int) := by omega
              simp only [Int.natCast_add]
              go_wp2_with (go_at_call 21; refine (wakes_any _).mono ?_; rintro e w7 ⟨rfl, b7⟩)
              go_ret
              exact ⟨rfl, b1.trans (b7.mono b1.size)⟩
    · have h4' : (1000 : Int) < (b.size : Int) := by omega
      clear h3 h4
      go_enter Try.func7, Try.ntmps7
      go_wp2_with (go_at_call 21; refine (wakes_any _).mono ?_; rintro e w7 ⟨rfl, b7⟩)
      go_ret
      exact ⟨rfl, b7⟩
  · have h3' : (1000 : Int) < (a.size : Int) := by omega
    clear h3
    go_enter Try.func7, Try.ntmps7
    go_wp2_with (go_at_call 21; refine (wakes_any _).mono ?_; rintro e w7 ⟨rfl, b7⟩)
    go_ret
    exact ⟨rfl, b7⟩
end Go.Proofs.Ytgeaccoobhigcaa
