/-
  What Drain tells while the loop's body pushes: plain lists; a copy that the call owns.
-/
import Derived.Test.YtkogdiglpncolaaDa
namespace Go.Proofs.Ytkogdiglpncolaa
open Go Go.RowKit

def pushes (mo : Nat) : List Int := (List.range mo).map fun (i : Nat) => (1000 + (i : Int))
theorem pushes_len (mo : Nat) : (pushes mo).length = mo := by simp [pushes]
theorem pushes_succ (mo : Nat) : pushes (mo + 1) = pushes mo ++ [1000 + (mo : Int)] := by simp [pushes, List.range_succ]
theorem pushes_at {mo i : Nat} (h : i < mo) : (pushes mo)[i]? = some (1000 + (i : Int)) := by simp [pushes, List.getElem?_range h]
theorem pushes_take {mo i : Nat} (h : i ≤ mo) : (pushes mo).take i = pushes i := by
  unfold pushes; rw [← List.map_take, List.take_range, Nat.min_eq_left h]

def wantL (left : List Int) (mo : Nat) : List Int := left ++ pushes mo
theorem wantL_len (left : List Int) (mo : Nat) : (wantL left mo).length = left.length + mo := by simp [wantL, pushes_len]
def drN (left : List Int) (mo : Nat) : Nat := if left = [] then 0 else left.length + mo
def drQ (left : List Int) (mo j : Nat) : List Int := ((wantL left mo).take (left.length + min j mo)).drop j
def drX (left : List Int) (mo j : Nat) : Int := (wantL left mo).getD j 0
def drR (left : List Int) (mo j : Nat) : List Int := ((wantL left mo).take (left.length + min j mo)).drop (j + 1)
theorem drN_le (left : List Int) (mo : Nat) : drN left mo ≤ left.length + mo := by unfold drN; split <;> omega
theorem drQ_cons (left : List Int) (mo k : Nat) (h : k < drN left mo) : drQ left mo k = drX left mo k :: drR left mo k := by
  unfold drN at h
  split at h
  · omega
  · rename_i hne
    have hl : 0 < left.length := List.length_pos_iff.2 hne
    have hlt : k < ((wantL left mo).take (left.length + min k mo)).length := by rw [List.length_take, wantL_len]; omega
    unfold drQ drX drR
    rw [List.drop_eq_getElem_cons hlt]
    congr 1
    rw [List.getElem_take, List.getD_eq_getElem?_getD, List.getElem?_eq_getElem (by rw [wantL_len]; omega)]
    rfl
theorem drQ_end (left : List Int) (mo : Nat) : drQ left mo (drN left mo) = [] := by
  unfold drQ
  refine List.drop_eq_nil_of_le ?_
  rw [List.length_take, wantL_len]
  unfold drN
  split
  · rename_i h; subst h; simp
  · omega
theorem drQ_len (left : List Int) (mo k : Nat) : (drQ left mo k).length ≤ left.length + mo := by
  unfold drQ; rw [List.length_drop, List.length_take, wantL_len]; omega
theorem drQ_zero (left : List Int) (mo : Nat) : drQ left mo 0 = left := by
  unfold drQ wantL
  rw [Nat.zero_min, Nat.add_zero, List.drop_zero, List.take_left]
theorem drX_at (left : List Int) (mo k : Nat) (h : k < drN left mo) : (wantL left mo)[k]? = some (drX left mo k) := by
  have := drN_le left mo
  unfold drX
  rw [List.getD_eq_getElem?_getD, List.getElem?_eq_getElem (by rw [wantL_len]; omega)]
  rfl
theorem drR_push (left : List Int) (mo k : Nat) (hl : left ≠ []) (h : k < mo) : drR left mo k ++ [1000 + (k : Int)] = drQ left mo (k + 1) := by
  have hl' : 0 < left.length := List.length_pos_iff.2 hl
  unfold drR drQ
  rw [Nat.min_eq_left (by omega), Nat.min_eq_left (by omega), ← Nat.add_assoc, List.take_add_one]
  have : (wantL left mo)[left.length + k]? = some (1000 + (k : Int)) := by
    unfold wantL
    rw [List.getElem?_append_right (by omega), Nat.add_sub_cancel_left, pushes_at h]
  rw [this, Option.toList_some, List.drop_append_of_le_length]
  rw [List.length_take, wantL_len]
  omega
theorem drR_same (left : List Int) (mo k : Nat) (h : mo ≤ k) : drR left mo k = drQ left mo (k + 1) := by
  unfold drR drQ
  rw [Nat.min_eq_right h, Nat.min_eq_right (by omega)]

set_option maxHeartbeats 400000 in
theorem copy_own (ao : Option Addr) (n c : Nat) (xs : List Int) (w : World) (hx : IntSl w ao n c xs) (hn : n ≤ 65536) (h0 : 0 < n) :
    Calls Try.prog 29 #[.slice ao n c] w fun e w' => ∃ v, e = .returned v ∧ w'.ownsRow w.heap.size 3 1 v n (xs.map (Value.int .i64)) ∧ w.grownBy w' none := by
  obtain ⟨i0, hi, hz0, hz1, hz2⟩ := info_parts Try.info3
  have hm := hx.2.2.1
  obtain ⟨a, rfl⟩ : ∃ a, ao = some a := by
    cases ao with
    | none => have := hx.2.2.2.1 rfl; have := hx.2.1; omega
    | some a => exact ⟨a, rfl⟩
  have hc := hx.2.2.2.2 a rfl
  have hl := hx.1
  have HX := Lib.hid hl; clear hl
  have H1 : ∀ u ∈ xs.map (Value.int .i64), u.oneCell' = true := by
    intro u hu
    obtain ⟨x, _, rfl⟩ := List.mem_map.1 hu
    rfl
  have HC := Lib.hid hc; clear hc
  go_enter Try.func29, Try.ntmps29
  go_wp2_with (at_builtin; refine wpList_append_own _ rfl _ _ 22 rfl w.heap.size 3 i0 (.int .i64 0) 1 8 Try.underlying22 hi hz0 hz1 hz2 rfl (by decide) (.slice none 0 0) 0 [] rfl (World.ownsRow_nil _ _ _ _) a n c _ rfl HX.out HC.out H1 (by unfold maxLen; omega) (by omega) (Nat.le_refl _) ?_; intro v' w' hown hg _)
  go_ret
  rw [Nat.zero_add, List.nil_append] at hown
  exact ⟨_, rfl, hown, hg⟩

theorem all_list_new (b : Nat) (room : Int) (n c : Nat) (ao : Option Addr) (xs : List Int) (w : World) (j : Nat)
    (hb : w.heap[b]? = some (.cells #[.int .i64 room, .slice ao n c] 62 (0, 0))) (hx : IntSl w ao n c xs) (hn : n ≤ 65536) :
    Calls Try.prog 26 #[.func (.func 30) #[] #[.pointer (some ⟨w.heap.size, 0, none⟩)]] ((w.drewN j).alloc (.cells #[.pointer (some ⟨b, 0, none⟩)] 41)) fun e w' => ∃ go c', e = .returned (.slice go n c') ∧ IntSl w' go n c' xs ∧ w.grownBy w' none := by
  have hl : xs.length = n := by have := hx.1; simpa using this
  subst hl
  refine (all_list w.heap.size b room xs.length c ao xs ((w.drewN j).alloc (.cells #[.pointer (some ⟨b, 0, none⟩)] 41)) (Boxed.new (w.drewN j) 41 _) ((Below.heap_alloc (w.drewN j) _ b (lt_of_block hb)).trans hb) (SlR.grown (SlR.drewN hx j) (World.grownBy_alloc (w.drewN j) _ none) (by simp)) hn).mono ?_
  rintro e w' ⟨go, c', h1, h2, h3⟩
  exact ⟨go, c', h1, h2, grownBy_of_drewN (grownBy_trans (World.grownBy_alloc (w.drewN j) _ none) h3)⟩
set_option maxHeartbeats 1000000 in
theorem made_new (ao : Option Addr) (n c : Nat) (xs : List Int) (w : World) (hx : IntSl w ao n c xs) (hn : n ≤ 1000) :
    Calls Try.prog 18 #[.slice ao n c] w fun e w' => ∃ b, e = .returned (.pointer (some ⟨b, 0, none⟩)) ∧ w.heap.size ≤ b ∧ w.grownBy w' none ∧
      ∃ go c', w'.heap[b]? = some (.cells #[.int .i64 1000, .slice go n c'] 62 (0, 0)) ∧ IntSl w' go n c' xs ∧ OffB b go n ∧ InB (fun i => w.heap.size ≤ i) go n := by
  go_enter Try.func18, Try.ntmps18
  go_wp2_with fail
  refine (new_ok_int 1000 _ (by omega) (by omega)).mono ?_
  rintro e w1 ⟨rfl, hb1, hg1⟩
  have hx1 := SlR.grown hx hg1 (by simp)
  have hgs := hg1.size
  generalize hB : w.heap.size = B at *
  go_wp2_with fail
  refine (push_yes_int B 1000 0 0 n c none ao w1 [] (xs.map (Value.int .i64)) hb1 (by omega) (by omega) (SlR.nil _ _) (by intro a h; cases h) hx1 (by omega)).mono ?_
  rintro e w2 ⟨rfl, go, c', hb2, hsl, hin, hg2⟩
  go_wp2_with fail
  go_ret
  rw [Nat.zero_add] at hsl hb2
  refine ⟨B, rfl, by rw [hB]; exact Nat.le_refl _, grownBy_new hg1 hg2 (.inl (by rw [hB]; exact Nat.le_refl _)), go, c', hb2, hsl, ?_, ?_⟩
  · have := hin (fun k => k ≠ B) (by intro a h; cases h) (Nat.ne_of_gt (lt_of_block hb1))
    rwa [Nat.zero_add] at this
  · have := hin (fun k => w.heap.size ≤ k) (by intro a h; cases h) (by rw [hB]; exact hgs)
    rw [Nat.zero_add, hB] at this
    rw [hB]
    exact this

end Go.Proofs.Ytkogdiglpncolaa
