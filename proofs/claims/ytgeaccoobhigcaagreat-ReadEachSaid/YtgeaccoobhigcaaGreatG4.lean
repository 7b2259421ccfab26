/-
  Conditions: what is wrong with one, as shape tells it and as the document does. shape.walk, whatever is done at each condition. What shape.Shape does at each condition: counting, and the first error. shape.Shape. What is of its form is small; the texts by what is said, not by where it lies.
-/
import Derived.Test.YtgeaccoobhigcaaGreatG3
import Derived.Test.YtgeaccoobhigcaaGreatG2
import Derived.RangeFuncNested
import Derived.Test.YtgeaccoobhigcaaGreatG1
namespace Go.Proofs.YtgeaccoobhigcaaGreat
open Go Go.RowKit
/-- A condition. -/
inductive Cd where
  | mk (kind : Int) (goal : Bool) (id : ByteArray) (attr value : List Ts) (acc : Bool) (conds : List Cd)
mutual
def CondR.abs : CondR → Cd
  | .mk kind goal id _ _ _ attr _ _ _ value acc _ _ _ conds => .mk kind goal id (attr.map TestR.abs) (value.map TestR.abs) acc (absL conds)
def absL : List CondR → List Cd
  | [] => []
  | c :: r => c.abs :: absL r
end
theorem absL_map : ∀ l : List CondR, absL l = l.map CondR.abs
  | [] => rfl
  | c :: r => by simp only [absL, List.map_cons]; rw [absL_map r]
/-- The tree lies in memory, whatever it is. -/
inductive CondR.Mem (w : World) : CondR → Prop
  | mk {kind : Int} {goal : Bool} {id : ByteArray} {aa : Option Addr} {an ac : Nat} {attr : List TestR} {va : Option Addr} {vn vc : Nat} {value : List TestR} {acc : Bool} {ca : Option Addr} {cn cc : Nat} {conds : List CondR}
      (hi : id.size ≤ 9223372036854775807) (ha : TestsMem w aa an ac attr) (hv : TestsMem w va vn vc value) (hs : SlR w 7 ca cn cc (conds.flatMap CondR.cells)) (hc : ∀ c ∈ conds, CondR.Mem w c) :
      CondR.Mem w (.mk kind goal id aa an ac attr va vn vc value acc ca cn cc conds)
theorem CondR.Mem.kept {w w' : World} (hb : Below w.heap.size w w') : ∀ {c : CondR}, c.Mem w → c.Mem w' := by
  intro c h
  induction h with
  | mk hi ha hv hs hc ih => exact .mk hi (ha.kept hb) (hv.kept hb) (hs.kept hb) ih
def condEq (kind : Int) (goal : Bool) (idl : Nat) (W : Bool) (an vn : Nat) (TA TV acc : Bool) (cn : Nat) (deep : Int) : Int :=
  if kind = 3 then (if goal = true ∨ idl ≠ 0 ∨ 0 < an ∨ 0 < vn ∨ acc = true ∨ cn = 0 then 9 else if 3 ≤ deep then 8 else 0)
  else if kind = 1 ∨ kind = 2 then (if 0 < cn ∨ W = false ∨ an = 0 then 9 else if 4 < an ∨ 4 < vn then 7 else if TA = false ∨ TV = false then 9 else 0) else 9
def condE : Cd → Int → Int
  | .mk kind goal id attr value acc conds, deep => condEq kind goal id.size (wordB id.data.toList) attr.length value.length (attr.all testB) (value.all testB) acc conds.length deep
theorem testsB_abs (l : List TestR) : (l.map TestR.abs).all testB = testsB l := by unfold testsB; rw [List.all_map]; rfl
theorem condsMem_len {w : World} {ca : Option Addr} {cn cc : Nat} {conds : List CondR} (h : SlR w 7 ca cn cc (conds.flatMap CondR.cells)) : conds.length = cn := by
  have := h.1
  rw [rows_length condR_len] at this
  omega
set_option maxRecDepth 100000 in
set_option maxHeartbeats 8000000 in
theorem shCond_any (c : CondR) (deep : Int) (w : World) (h : c.Mem w) : Calls Tryz.prog 58 #[c.val, .int .i64 deep] w fun e w' => e = .returned (.int .i64 (condE c.abs deep)) ∧ Below w.heap.size w w' := by
  cases h with
  | @mk kind goal id aa an ac attr va vn vc value acc ca cn cc conds hi ha hv hs hc =>
    unfold CondR.val CondR.abs condE
    simp only
    rw [testsB_abs, testsB_abs, List.length_map, List.length_map, absL_map, List.length_map, ha.len, hv.len, condsMem_len hs]
    have hW := fun w => word_any id hi w
    have hA := fun W (hb : Below w.heap.size w W) => shTests_any aa an ac attr W (ha.kept hb)
    have hV := fun W (hb : Below w.heap.size w W) => shTests_any va vn vc value W (hv.kept hb)
    generalize wordB id.data.toList = W at hW ⊢
    generalize testsB attr = TA at hA ⊢
    generalize testsB value = TV at hV ⊢
    obtain ⟨E, hE⟩ : ∃ E, E = condEq kind goal id.size W an vn TA TV acc cn deep := ⟨_, rfl⟩
    rw [← hE]
    have HE := Lib.hid hE
    have HW := Lib.hid hW
    have HA := Lib.hid hA
    have HV := Lib.hid hV
    clear hE hW hA hV ha hv hs hc hi
    by_cases hk : kind = 3
    · have e3 : (kind == 3) = true := by simp [hk]
      have k1 : ¬ kind < 1 := by omega
      have k3 : ¬ 3 < kind := by omega
      rcases goal with _ | _
      rotate_left
      · have hE := HE.out
        obtain rfl : E = 9 := by rw [hE]; simp [condEq, hk]
        clear hE HE
        clear hk
        have acc0 := below_new w (.cells #[.int .i64 kind, .bool true, .string id, .slice aa an ac, .slice va vn vc, .bool acc, .slice ca cn cc] 43)
        have hlt : w.heap.size < (w.alloc (.cells #[.int .i64 kind, .bool true, .string id, .slice aa an ac, .slice va vn vc, .bool acc, .slice ca cn cc] 43)).heap.size := by simp
        have tok : True := trivial
        go_enter Tryz.func58, Tryz.ntmps58
        go_wp2
        go_ret
        exact ⟨rfl, acc0⟩
      by_cases hid : id.size = 0
      rotate_left
      · have e1 := str_cons hid
        have hE := HE.out
        obtain rfl : E = 9 := by rw [hE]; simp [condEq, hk, hid]
        clear hE HE
        clear hk hid
        have acc0 := below_new w (.cells #[.int .i64 kind, .bool false, .string id, .slice aa an ac, .slice va vn vc, .bool acc, .slice ca cn cc] 43)
        have hlt : w.heap.size < (w.alloc (.cells #[.int .i64 kind, .bool false, .string id, .slice aa an ac, .slice va vn vc, .bool acc, .slice ca cn cc] 43)).heap.size := by simp
        have tok : True := trivial
        go_enter Tryz.func58, Tryz.ntmps58
        go_wp2
        go_ret
        exact ⟨rfl, acc0⟩
      have e1 := str_nil hid
      by_cases han : (0 : Int) < (an : Int)
      · have han2 : 0 < an := by omega
        have hE := HE.out
        obtain rfl : E = 9 := by rw [hE]; simp [condEq, hk, hid, han2]
        clear hE HE
        clear hk hid han2
        have acc0 := below_new w (.cells #[.int .i64 kind, .bool false, .string id, .slice aa an ac, .slice va vn vc, .bool acc, .slice ca cn cc] 43)
        have hlt : w.heap.size < (w.alloc (.cells #[.int .i64 kind, .bool false, .string id, .slice aa an ac, .slice va vn vc, .bool acc, .slice ca cn cc] 43)).heap.size := by simp
        have tok : True := trivial
        go_enter Tryz.func58, Tryz.ntmps58
        go_wp2
        go_ret
        exact ⟨rfl, acc0⟩
      obtain rfl : an = 0 := by omega
      by_cases hvn : (0 : Int) < (vn : Int)
      · have hvn2 : 0 < vn := by omega
        have hE := HE.out
        obtain rfl : E = 9 := by rw [hE]; simp [condEq, hk, hid, hvn2]
        clear hE HE
        clear hk hid hvn2
        have acc0 := below_new w (.cells #[.int .i64 kind, .bool false, .string id, .slice aa 0 ac, .slice va vn vc, .bool acc, .slice ca cn cc] 43)
        have hlt : w.heap.size < (w.alloc (.cells #[.int .i64 kind, .bool false, .string id, .slice aa 0 ac, .slice va vn vc, .bool acc, .slice ca cn cc] 43)).heap.size := by simp
        have tok : True := trivial
        go_enter Tryz.func58, Tryz.ntmps58
        go_wp2
        go_ret
        exact ⟨rfl, acc0⟩
      obtain rfl : vn = 0 := by omega
      rcases acc with _ | _
      rotate_left
      · have hE := HE.out
        obtain rfl : E = 9 := by rw [hE]; simp [condEq, hk, hid]
        clear hE HE
        clear hk hid
        have acc0 := below_new w (.cells #[.int .i64 kind, .bool false, .string id, .slice aa 0 ac, .slice va 0 vc, .bool true, .slice ca cn cc] 43)
        have hlt : w.heap.size < (w.alloc (.cells #[.int .i64 kind, .bool false, .string id, .slice aa 0 ac, .slice va 0 vc, .bool true, .slice ca cn cc] 43)).heap.size := by simp
        have tok : True := trivial
        go_enter Tryz.func58, Tryz.ntmps58
        go_wp2
        go_ret
        exact ⟨rfl, acc0⟩
      by_cases hcn : cn = 0
      · subst hcn
        have hE := HE.out
        obtain rfl : E = 9 := by rw [hE]; simp [condEq, hk, hid]
        clear hE HE
        clear hk hid
        have acc0 := below_new w (.cells #[.int .i64 kind, .bool false, .string id, .slice aa 0 ac, .slice va 0 vc, .bool false, .slice ca 0 cc] 43)
        have hlt : w.heap.size < (w.alloc (.cells #[.int .i64 kind, .bool false, .string id, .slice aa 0 ac, .slice va 0 vc, .bool false, .slice ca 0 cc] 43)).heap.size := by simp
        have tok : True := trivial
        go_enter Tryz.func58, Tryz.ntmps58
        go_wp2
        go_ret
        exact ⟨rfl, acc0⟩
      have ec : ((cn : Int) == 0) = false := by simp [hcn]
      by_cases hd : (3 : Int) ≤ deep
      · have hE := HE.out
        obtain rfl : E = 8 := by rw [hE]; simp [condEq, hk, hid, hcn, hd]
        clear hE HE
        clear hk hid hcn
        have acc0 := below_new w (.cells #[.int .i64 kind, .bool false, .string id, .slice aa 0 ac, .slice va 0 vc, .bool false, .slice ca cn cc] 43)
        have hlt : w.heap.size < (w.alloc (.cells #[.int .i64 kind, .bool false, .string id, .slice aa 0 ac, .slice va 0 vc, .bool false, .slice ca cn cc] 43)).heap.size := by simp
        have tok : True := trivial
        go_enter Tryz.func58, Tryz.ntmps58
        go_wp2
        go_ret
        exact ⟨rfl, acc0⟩
      · have hE := HE.out
        obtain rfl : E = 0 := by rw [hE]; simp [condEq, hk, hid, hcn, hd]
        clear hE HE
        clear hk hid hcn
        have acc0 := below_new w (.cells #[.int .i64 kind, .bool false, .string id, .slice aa 0 ac, .slice va 0 vc, .bool false, .slice ca cn cc] 43)
        have hlt : w.heap.size < (w.alloc (.cells #[.int .i64 kind, .bool false, .string id, .slice aa 0 ac, .slice va 0 vc, .bool false, .slice ca cn cc] 43)).heap.size := by simp
        have tok : True := trivial
        go_enter Tryz.func58, Tryz.ntmps58
        go_wp2
        go_ret
        exact ⟨rfl, acc0⟩
    have e3 : (kind == 3) = false := by simp [hk]
    by_cases hk12 : kind = 1 ∨ kind = 2
    rotate_left
    · have e1 : (kind == 1) = false := by simp; omega
      have e2 : (kind == 2) = false := by simp; omega
      have hE := HE.out
      obtain rfl : E = 9 := by rw [hE]; simp [condEq, hk, hk12]
      clear hE HE
      clear hk12 hk
      have acc0 := below_new w (.cells #[.int .i64 kind, .bool goal, .string id, .slice aa an ac, .slice va vn vc, .bool acc, .slice ca cn cc] 43)
      have hlt : w.heap.size < (w.alloc (.cells #[.int .i64 kind, .bool goal, .string id, .slice aa an ac, .slice va vn vc, .bool acc, .slice ca cn cc] 43)).heap.size := by simp
      have tok : True := trivial
      go_enter Tryz.func58, Tryz.ntmps58
      go_wp2
      go_ret
      exact ⟨rfl, acc0⟩
    rcases (show ((kind == 1) = true) ∨ ((kind == 1) = false ∧ (kind == 2) = true) by simp; omega) with e1 | ⟨e1, e2⟩
    all_goals
      by_cases hcn : (0 : Int) < (cn : Int)
      · have hcn2 : 0 < cn := by omega
        have hE := HE.out
        obtain rfl : E = 9 := by rw [hE]; simp [condEq, hk, hk12, hcn2]
        clear hE HE
        clear hk hk12 hcn2
        have acc0 := below_new w (.cells #[.int .i64 kind, .bool goal, .string id, .slice aa an ac, .slice va vn vc, .bool acc, .slice ca cn cc] 43)
        have hlt : w.heap.size < (w.alloc (.cells #[.int .i64 kind, .bool goal, .string id, .slice aa an ac, .slice va vn vc, .bool acc, .slice ca cn cc] 43)).heap.size := by simp
        have tok : True := trivial
        go_enter Tryz.func58, Tryz.ntmps58
        go_wp2
        go_ret
        exact ⟨rfl, acc0⟩
      obtain rfl : cn = 0 := by omega
      rcases W with _ | _
      · have hE := HE.out
        obtain rfl : E = 9 := by rw [hE]; simp [condEq, hk, hk12]
        clear hE HE
        clear hk hk12
        have acc0 := below_new w (.cells #[.int .i64 kind, .bool goal, .string id, .slice aa an ac, .slice va vn vc, .bool acc, .slice ca 0 cc] 43)
        have hlt : w.heap.size < (w.alloc (.cells #[.int .i64 kind, .bool goal, .string id, .slice aa an ac, .slice va vn vc, .bool acc, .slice ca 0 cc] 43)).heap.size := by simp
        have tok : True := trivial
        go_enter Tryz.func58, Tryz.ntmps58
        go_wp2_with (first | (go_at_call 54; refine (HW.out _).mono ?_; rintro e w2 ⟨rfl, rfl⟩))
        go_ret
        exact ⟨rfl, acc0⟩
      by_cases han : an = 0
      · subst han
        have hE := HE.out
        obtain rfl : E = 9 := by rw [hE]; simp [condEq, hk, hk12]
        clear hE HE
        clear hk hk12
        have acc0 := below_new w (.cells #[.int .i64 kind, .bool goal, .string id, .slice aa 0 ac, .slice va vn vc, .bool acc, .slice ca 0 cc] 43)
        have hlt : w.heap.size < (w.alloc (.cells #[.int .i64 kind, .bool goal, .string id, .slice aa 0 ac, .slice va vn vc, .bool acc, .slice ca 0 cc] 43)).heap.size := by simp
        have tok : True := trivial
        go_enter Tryz.func58, Tryz.ntmps58
        go_wp2_with (first | (go_at_call 54; refine (HW.out _).mono ?_; rintro e w2 ⟨rfl, rfl⟩))
        go_ret
        exact ⟨rfl, acc0⟩
      have ea : ((an : Int) == 0) = false := by simp [han]
      by_cases ha4 : (4 : Int) < (an : Int)
      · have ha42 : 4 < an := by omega
        have hE := HE.out
        obtain rfl : E = 7 := by rw [hE]; simp [condEq, hk, hk12, han, ha42]
        clear hE HE
        clear hk hk12 han ha42
        have acc0 := below_new w (.cells #[.int .i64 kind, .bool goal, .string id, .slice aa an ac, .slice va vn vc, .bool acc, .slice ca 0 cc] 43)
        have hlt : w.heap.size < (w.alloc (.cells #[.int .i64 kind, .bool goal, .string id, .slice aa an ac, .slice va vn vc, .bool acc, .slice ca 0 cc] 43)).heap.size := by simp
        have tok : True := trivial
        go_enter Tryz.func58, Tryz.ntmps58
        go_wp2_with (first | (go_at_call 54; refine (HW.out _).mono ?_; rintro e w2 ⟨rfl, rfl⟩))
        go_ret
        exact ⟨rfl, acc0⟩
      have ha42 : ¬ 4 < an := by omega
      by_cases hv4 : (4 : Int) < (vn : Int)
      · have hv42 : 4 < vn := by omega
        have hE := HE.out
        obtain rfl : E = 7 := by rw [hE]; simp [condEq, hk, hk12, han, ha42, hv42]
        clear hE HE
        clear hk hk12 han ha42 hv42
        have acc0 := below_new w (.cells #[.int .i64 kind, .bool goal, .string id, .slice aa an ac, .slice va vn vc, .bool acc, .slice ca 0 cc] 43)
        have hlt : w.heap.size < (w.alloc (.cells #[.int .i64 kind, .bool goal, .string id, .slice aa an ac, .slice va vn vc, .bool acc, .slice ca 0 cc] 43)).heap.size := by simp
        have tok : True := trivial
        go_enter Tryz.func58, Tryz.ntmps58
        go_wp2_with (first | (go_at_call 54; refine (HW.out _).mono ?_; rintro e w2 ⟨rfl, rfl⟩))
        go_ret
        exact ⟨rfl, acc0⟩
      have hv42 : ¬ 4 < vn := by omega
      rcases TA with _ | _
      · have hE := HE.out
        obtain rfl : E = 9 := by rw [hE]; simp [condEq, hk, hk12, han, ha42, hv42]
        clear hE HE
        clear hk hk12 han ha42 hv42
        have acc0 := below_new w (.cells #[.int .i64 kind, .bool goal, .string id, .slice aa an ac, .slice va vn vc, .bool acc, .slice ca 0 cc] 43)
        have hlt : w.heap.size < (w.alloc (.cells #[.int .i64 kind, .bool goal, .string id, .slice aa an ac, .slice va vn vc, .bool acc, .slice ca 0 cc] 43)).heap.size := by simp
        have tok : True := trivial
        go_enter Tryz.func58, Tryz.ntmps58
        go_wp2_with (first | (go_at_call 54; refine (HW.out _).mono ?_; rintro e w2 ⟨rfl, rfl⟩) | (go_at_call 81; have _t := tok; refine (HA.out _ acc0).mono ?_; rintro e w3 ⟨rfl, b3⟩; have acc0 := below_trans acc0 b3; obtain ⟨hc3, hlt⟩ := bkeep b3 hlt; clear tok))
        go_ret
        exact ⟨rfl, acc0⟩
      rcases TV with _ | _
      · have hE := HE.out
        obtain rfl : E = 9 := by rw [hE]; simp [condEq, hk, hk12, han, ha42, hv42]
        clear hE HE
        clear hk hk12 han ha42 hv42
        have acc0 := below_new w (.cells #[.int .i64 kind, .bool goal, .string id, .slice aa an ac, .slice va vn vc, .bool acc, .slice ca 0 cc] 43)
        have hlt : w.heap.size < (w.alloc (.cells #[.int .i64 kind, .bool goal, .string id, .slice aa an ac, .slice va vn vc, .bool acc, .slice ca 0 cc] 43)).heap.size := by simp
        have tok : True := trivial
        go_enter Tryz.func58, Tryz.ntmps58
        go_wp2_with (first | (go_at_call 54; refine (HW.out _).mono ?_; rintro e w2 ⟨rfl, rfl⟩) | (go_at_call 81; have _t := tok; refine (HA.out _ acc0).mono ?_; rintro e w3 ⟨rfl, b3⟩; have acc0 := below_trans acc0 b3; obtain ⟨hc3, hlt⟩ := bkeep b3 hlt; clear tok) | (go_at_call 81; refine (HV.out _ acc0).mono ?_; rintro e w4 ⟨rfl, b4⟩; have acc0 := below_trans acc0 b4))
        go_ret
        exact ⟨rfl, acc0⟩
      · have hE := HE.out
        obtain rfl : E = 0 := by rw [hE]; simp [condEq, hk, hk12, han, ha42, hv42]
        clear hE HE
        clear hk hk12 han ha42 hv42
        have acc0 := below_new w (.cells #[.int .i64 kind, .bool goal, .string id, .slice aa an ac, .slice va vn vc, .bool acc, .slice ca 0 cc] 43)
        have hlt : w.heap.size < (w.alloc (.cells #[.int .i64 kind, .bool goal, .string id, .slice aa an ac, .slice va vn vc, .bool acc, .slice ca 0 cc] 43)).heap.size := by simp
        have tok : True := trivial
        go_enter Tryz.func58, Tryz.ntmps58
        go_wp2_with (first | (go_at_call 54; refine (HW.out _).mono ?_; rintro e w2 ⟨rfl, rfl⟩) | (go_at_call 81; have _t := tok; refine (HA.out _ acc0).mono ?_; rintro e w3 ⟨rfl, b3⟩; have acc0 := below_trans acc0 b3; obtain ⟨hc3, hlt⟩ := bkeep b3 hlt; clear tok) | (go_at_call 81; refine (HV.out _ acc0).mono ?_; rintro e w4 ⟨rfl, b4⟩; have acc0 := below_trans acc0 b4))
        go_ret
        exact ⟨rfl, acc0⟩
set_option maxRecDepth 100000 in
set_option maxHeartbeats 8000000 in
theorem rCond_any (c : CondR) (deep : Int) (w : World) (h : c.Mem w) : Calls Tryz.prog 69 #[c.val, .int .i64 deep] w fun e w' => e = .returned (.int .i64 (condE c.abs deep)) ∧ Below w.heap.size w w' := by
  cases h with
  | @mk kind goal id aa an ac attr va vn vc value acc ca cn cc conds hi ha hv hs hc =>
    unfold CondR.val CondR.abs condE
    simp only
    rw [testsB_abs, testsB_abs, List.length_map, List.length_map, absL_map, List.length_map, ha.len, hv.len, condsMem_len hs]
    have hW := fun w => rword_any id hi w
    have hA := fun W (hb : Below w.heap.size w W) => rTests_any aa an ac attr W (ha.kept hb)
    have hV := fun W (hb : Below w.heap.size w W) => rTests_any va vn vc value W (hv.kept hb)
    generalize wordB id.data.toList = W at hW ⊢
    generalize testsB attr = TA at hA ⊢
    generalize testsB value = TV at hV ⊢
    obtain ⟨E, hE⟩ : ∃ E, E = condEq kind goal id.size W an vn TA TV acc cn deep := ⟨_, rfl⟩
    rw [← hE]
    have HE := Lib.hid hE
    have HW := Lib.hid hW
    have HA := Lib.hid hA
    have HV := Lib.hid hV
    clear hE hW hA hV ha hv hs hc hi
    by_cases hk : kind = 3
    · have e3 : (kind == 3) = true := by simp [hk]
      have k1 : ¬ kind < 1 := by omega
      have k3 : ¬ 3 < kind := by omega
      rcases goal with _ | _
      rotate_left
      · have hE := HE.out
        obtain rfl : E = 9 := by rw [hE]; simp [condEq, hk]
        clear hE HE
        clear hk
        have acc0 := below_new w (.cells #[.int .i64 kind, .bool true, .string id, .slice aa an ac, .slice va vn vc, .bool acc, .slice ca cn cc] 43)
        have hlt : w.heap.size < (w.alloc (.cells #[.int .i64 kind, .bool true, .string id, .slice aa an ac, .slice va vn vc, .bool acc, .slice ca cn cc] 43)).heap.size := by simp
        have tok : True := trivial
        go_enter Tryz.func69, Tryz.ntmps69
        go_wp2
        go_ret
        exact ⟨rfl, acc0⟩
      by_cases hid : id.size = 0
      rotate_left
      · have e1 := str_cons hid
        have hE := HE.out
        obtain rfl : E = 9 := by rw [hE]; simp [condEq, hk, hid]
        clear hE HE
        clear hk hid
        have acc0 := below_new w (.cells #[.int .i64 kind, .bool false, .string id, .slice aa an ac, .slice va vn vc, .bool acc, .slice ca cn cc] 43)
        have hlt : w.heap.size < (w.alloc (.cells #[.int .i64 kind, .bool false, .string id, .slice aa an ac, .slice va vn vc, .bool acc, .slice ca cn cc] 43)).heap.size := by simp
        have tok : True := trivial
        go_enter Tryz.func69, Tryz.ntmps69
        go_wp2
        go_ret
        exact ⟨rfl, acc0⟩
      have e1 := str_nil hid
      by_cases han : (0 : Int) < (an : Int)
      · have han2 : 0 < an := by omega
        have hE := HE.out
        obtain rfl : E = 9 := by rw [hE]; simp [condEq, hk, hid, han2]
        clear hE HE
        clear hk hid han2
        have acc0 := below_new w (.cells #[.int .i64 kind, .bool false, .string id, .slice aa an ac, .slice va vn vc, .bool acc, .slice ca cn cc] 43)
        have hlt : w.heap.size < (w.alloc (.cells #[.int .i64 kind, .bool false, .string id, .slice aa an ac, .slice va vn vc, .bool acc, .slice ca cn cc] 43)).heap.size := by simp
        have tok : True := trivial
        go_enter Tryz.func69, Tryz.ntmps69
        go_wp2
        go_ret
        exact ⟨rfl, acc0⟩
      obtain rfl : an = 0 := by omega
      by_cases hvn : (0 : Int) < (vn : Int)
      · have hvn2 : 0 < vn := by omega
        have hE := HE.out
        obtain rfl : E = 9 := by rw [hE]; simp [condEq, hk, hid, hvn2]
        clear hE HE
        clear hk hid hvn2
        have acc0 := below_new w (.cells #[.int .i64 kind, .bool false, .string id, .slice aa 0 ac, .slice va vn vc, .bool acc, .slice ca cn cc] 43)
        have hlt : w.heap.size < (w.alloc (.cells #[.int .i64 kind, .bool false, .string id, .slice aa 0 ac, .slice va vn vc, .bool acc, .slice ca cn cc] 43)).heap.size := by simp
        have tok : True := trivial
        go_enter Tryz.func69, Tryz.ntmps69
        go_wp2
        go_ret
        exact ⟨rfl, acc0⟩
      obtain rfl : vn = 0 := by omega
      rcases acc with _ | _
      rotate_left
      · have hE := HE.out
        obtain rfl : E = 9 := by rw [hE]; simp [condEq, hk, hid]
        clear hE HE
        clear hk hid
        have acc0 := below_new w (.cells #[.int .i64 kind, .bool false, .string id, .slice aa 0 ac, .slice va 0 vc, .bool true, .slice ca cn cc] 43)
        have hlt : w.heap.size < (w.alloc (.cells #[.int .i64 kind, .bool false, .string id, .slice aa 0 ac, .slice va 0 vc, .bool true, .slice ca cn cc] 43)).heap.size := by simp
        have tok : True := trivial
        go_enter Tryz.func69, Tryz.ntmps69
        go_wp2
        go_ret
        exact ⟨rfl, acc0⟩
      by_cases hcn : cn = 0
      · subst hcn
        have hE := HE.out
        obtain rfl : E = 9 := by rw [hE]; simp [condEq, hk, hid]
        clear hE HE
        clear hk hid
        have acc0 := below_new w (.cells #[.int .i64 kind, .bool false, .string id, .slice aa 0 ac, .slice va 0 vc, .bool false, .slice ca 0 cc] 43)
        have hlt : w.heap.size < (w.alloc (.cells #[.int .i64 kind, .bool false, .string id, .slice aa 0 ac, .slice va 0 vc, .bool false, .slice ca 0 cc] 43)).heap.size := by simp
        have tok : True := trivial
        go_enter Tryz.func69, Tryz.ntmps69
        go_wp2
        go_ret
        exact ⟨rfl, acc0⟩
      have ec : ((cn : Int) == 0) = false := by simp [hcn]
      by_cases hd : (3 : Int) ≤ deep
      · have hE := HE.out
        obtain rfl : E = 8 := by rw [hE]; simp [condEq, hk, hid, hcn, hd]
        clear hE HE
        clear hk hid hcn
        have acc0 := below_new w (.cells #[.int .i64 kind, .bool false, .string id, .slice aa 0 ac, .slice va 0 vc, .bool false, .slice ca cn cc] 43)
        have hlt : w.heap.size < (w.alloc (.cells #[.int .i64 kind, .bool false, .string id, .slice aa 0 ac, .slice va 0 vc, .bool false, .slice ca cn cc] 43)).heap.size := by simp
        have tok : True := trivial
        go_enter Tryz.func69, Tryz.ntmps69
        go_wp2
        go_ret
        exact ⟨rfl, acc0⟩
      · have hE := HE.out
        obtain rfl : E = 0 := by rw [hE]; simp [condEq, hk, hid, hcn, hd]
        clear hE HE
        clear hk hid hcn
        have acc0 := below_new w (.cells #[.int .i64 kind, .bool false, .string id, .slice aa 0 ac, .slice va 0 vc, .bool false, .slice ca cn cc] 43)
        have hlt : w.heap.size < (w.alloc (.cells #[.int .i64 kind, .bool false, .string id, .slice aa 0 ac, .slice va 0 vc, .bool false, .slice ca cn cc] 43)).heap.size := by simp
        have tok : True := trivial
        go_enter Tryz.func69, Tryz.ntmps69
        go_wp2
        go_ret
        exact ⟨rfl, acc0⟩
    have e3 : (kind == 3) = false := by simp [hk]
    by_cases hk12 : kind = 1 ∨ kind = 2
    rotate_left
    · rcases (show kind < 1 ∨ (¬ kind < 1 ∧ 3 < kind) by omega) with k1 | ⟨k1, k3⟩
      · have hE := HE.out
        obtain rfl : E = 9 := by rw [hE]; simp [condEq, hk, hk12]
        clear hE HE
        clear hk12 hk
        have acc0 := below_new w (.cells #[.int .i64 kind, .bool goal, .string id, .slice aa an ac, .slice va vn vc, .bool acc, .slice ca cn cc] 43)
        have hlt : w.heap.size < (w.alloc (.cells #[.int .i64 kind, .bool goal, .string id, .slice aa an ac, .slice va vn vc, .bool acc, .slice ca cn cc] 43)).heap.size := by simp
        have tok : True := trivial
        go_enter Tryz.func69, Tryz.ntmps69
        go_wp2
        go_ret
        exact ⟨rfl, acc0⟩
      · have hE := HE.out
        obtain rfl : E = 9 := by rw [hE]; simp [condEq, hk, hk12]
        clear hE HE
        clear hk12 hk
        have acc0 := below_new w (.cells #[.int .i64 kind, .bool goal, .string id, .slice aa an ac, .slice va vn vc, .bool acc, .slice ca cn cc] 43)
        have hlt : w.heap.size < (w.alloc (.cells #[.int .i64 kind, .bool goal, .string id, .slice aa an ac, .slice va vn vc, .bool acc, .slice ca cn cc] 43)).heap.size := by simp
        have tok : True := trivial
        go_enter Tryz.func69, Tryz.ntmps69
        go_wp2
        go_ret
        exact ⟨rfl, acc0⟩
    have k1 : ¬ kind < 1 := by omega
    have k3 : ¬ 3 < kind := by omega
    all_goals
      by_cases hcn : (0 : Int) < (cn : Int)
      · have hcn2 : 0 < cn := by omega
        have hE := HE.out
        obtain rfl : E = 9 := by rw [hE]; simp [condEq, hk, hk12, hcn2]
        clear hE HE
        clear hk hk12 hcn2
        have acc0 := below_new w (.cells #[.int .i64 kind, .bool goal, .string id, .slice aa an ac, .slice va vn vc, .bool acc, .slice ca cn cc] 43)
        have hlt : w.heap.size < (w.alloc (.cells #[.int .i64 kind, .bool goal, .string id, .slice aa an ac, .slice va vn vc, .bool acc, .slice ca cn cc] 43)).heap.size := by simp
        have tok : True := trivial
        go_enter Tryz.func69, Tryz.ntmps69
        go_wp2
        go_ret
        exact ⟨rfl, acc0⟩
      obtain rfl : cn = 0 := by omega
      rcases W with _ | _
      · have hE := HE.out
        obtain rfl : E = 9 := by rw [hE]; simp [condEq, hk, hk12]
        clear hE HE
        clear hk hk12
        have acc0 := below_new w (.cells #[.int .i64 kind, .bool goal, .string id, .slice aa an ac, .slice va vn vc, .bool acc, .slice ca 0 cc] 43)
        have hlt : w.heap.size < (w.alloc (.cells #[.int .i64 kind, .bool goal, .string id, .slice aa an ac, .slice va vn vc, .bool acc, .slice ca 0 cc] 43)).heap.size := by simp
        have tok : True := trivial
        go_enter Tryz.func69, Tryz.ntmps69
        go_wp2_with (first | (go_at_call 42; refine (HW.out _).mono ?_; rintro e w2 ⟨rfl, rfl⟩))
        go_ret
        exact ⟨rfl, acc0⟩
      by_cases han : an = 0
      · subst han
        have hE := HE.out
        obtain rfl : E = 9 := by rw [hE]; simp [condEq, hk, hk12]
        clear hE HE
        clear hk hk12
        have acc0 := below_new w (.cells #[.int .i64 kind, .bool goal, .string id, .slice aa 0 ac, .slice va vn vc, .bool acc, .slice ca 0 cc] 43)
        have hlt : w.heap.size < (w.alloc (.cells #[.int .i64 kind, .bool goal, .string id, .slice aa 0 ac, .slice va vn vc, .bool acc, .slice ca 0 cc] 43)).heap.size := by simp
        have tok : True := trivial
        go_enter Tryz.func69, Tryz.ntmps69
        go_wp2_with (first | (go_at_call 42; refine (HW.out _).mono ?_; rintro e w2 ⟨rfl, rfl⟩))
        go_ret
        exact ⟨rfl, acc0⟩
      have ea : ((an : Int) == 0) = false := by simp [han]
      by_cases ha4 : (4 : Int) < (an : Int)
      · have ha42 : 4 < an := by omega
        have hE := HE.out
        obtain rfl : E = 7 := by rw [hE]; simp [condEq, hk, hk12, han, ha42]
        clear hE HE
        clear hk hk12 han ha42
        have acc0 := below_new w (.cells #[.int .i64 kind, .bool goal, .string id, .slice aa an ac, .slice va vn vc, .bool acc, .slice ca 0 cc] 43)
        have hlt : w.heap.size < (w.alloc (.cells #[.int .i64 kind, .bool goal, .string id, .slice aa an ac, .slice va vn vc, .bool acc, .slice ca 0 cc] 43)).heap.size := by simp
        have tok : True := trivial
        go_enter Tryz.func69, Tryz.ntmps69
        go_wp2_with (first | (go_at_call 42; refine (HW.out _).mono ?_; rintro e w2 ⟨rfl, rfl⟩))
        go_ret
        exact ⟨rfl, acc0⟩
      have ha42 : ¬ 4 < an := by omega
      by_cases hv4 : (4 : Int) < (vn : Int)
      · have hv42 : 4 < vn := by omega
        have hE := HE.out
        obtain rfl : E = 7 := by rw [hE]; simp [condEq, hk, hk12, han, ha42, hv42]
        clear hE HE
        clear hk hk12 han ha42 hv42
        have acc0 := below_new w (.cells #[.int .i64 kind, .bool goal, .string id, .slice aa an ac, .slice va vn vc, .bool acc, .slice ca 0 cc] 43)
        have hlt : w.heap.size < (w.alloc (.cells #[.int .i64 kind, .bool goal, .string id, .slice aa an ac, .slice va vn vc, .bool acc, .slice ca 0 cc] 43)).heap.size := by simp
        have tok : True := trivial
        go_enter Tryz.func69, Tryz.ntmps69
        go_wp2_with (first | (go_at_call 42; refine (HW.out _).mono ?_; rintro e w2 ⟨rfl, rfl⟩))
        go_ret
        exact ⟨rfl, acc0⟩
      have hv42 : ¬ 4 < vn := by omega
      rcases TA with _ | _
      · have hE := HE.out
        obtain rfl : E = 9 := by rw [hE]; simp [condEq, hk, hk12, han, ha42, hv42]
        clear hE HE
        clear hk hk12 han ha42 hv42
        have acc0 := below_new w (.cells #[.int .i64 kind, .bool goal, .string id, .slice aa an ac, .slice va vn vc, .bool acc, .slice ca 0 cc] 43)
        have hlt : w.heap.size < (w.alloc (.cells #[.int .i64 kind, .bool goal, .string id, .slice aa an ac, .slice va vn vc, .bool acc, .slice ca 0 cc] 43)).heap.size := by simp
        have tok : True := trivial
        go_enter Tryz.func69, Tryz.ntmps69
        go_wp2_with (first | (go_at_call 42; refine (HW.out _).mono ?_; rintro e w2 ⟨rfl, rfl⟩) | (go_at_call 90; have _t := tok; refine (HA.out _ acc0).mono ?_; rintro e w3 ⟨rfl, b3⟩; have acc0 := below_trans acc0 b3; obtain ⟨hc3, hlt⟩ := bkeep b3 hlt; clear tok))
        go_ret
        exact ⟨rfl, acc0⟩
      rcases TV with _ | _
      · have hE := HE.out
        obtain rfl : E = 9 := by rw [hE]; simp [condEq, hk, hk12, han, ha42, hv42]
        clear hE HE
        clear hk hk12 han ha42 hv42
        have acc0 := below_new w (.cells #[.int .i64 kind, .bool goal, .string id, .slice aa an ac, .slice va vn vc, .bool acc, .slice ca 0 cc] 43)
        have hlt : w.heap.size < (w.alloc (.cells #[.int .i64 kind, .bool goal, .string id, .slice aa an ac, .slice va vn vc, .bool acc, .slice ca 0 cc] 43)).heap.size := by simp
        have tok : True := trivial
        go_enter Tryz.func69, Tryz.ntmps69
        go_wp2_with (first | (go_at_call 42; refine (HW.out _).mono ?_; rintro e w2 ⟨rfl, rfl⟩) | (go_at_call 90; have _t := tok; refine (HA.out _ acc0).mono ?_; rintro e w3 ⟨rfl, b3⟩; have acc0 := below_trans acc0 b3; obtain ⟨hc3, hlt⟩ := bkeep b3 hlt; clear tok) | (go_at_call 90; refine (HV.out _ acc0).mono ?_; rintro e w4 ⟨rfl, b4⟩; have acc0 := below_trans acc0 b4))
        go_ret
        exact ⟨rfl, acc0⟩
      · have hE := HE.out
        obtain rfl : E = 0 := by rw [hE]; simp [condEq, hk, hk12, han, ha42, hv42]
        clear hE HE
        clear hk hk12 han ha42 hv42
        have acc0 := below_new w (.cells #[.int .i64 kind, .bool goal, .string id, .slice aa an ac, .slice va vn vc, .bool acc, .slice ca 0 cc] 43)
        have hlt : w.heap.size < (w.alloc (.cells #[.int .i64 kind, .bool goal, .string id, .slice aa an ac, .slice va vn vc, .bool acc, .slice ca 0 cc] 43)).heap.size := by simp
        have tok : True := trivial
        go_enter Tryz.func69, Tryz.ntmps69
        go_wp2_with (first | (go_at_call 42; refine (HW.out _).mono ?_; rintro e w2 ⟨rfl, rfl⟩) | (go_at_call 90; have _t := tok; refine (HA.out _ acc0).mono ?_; rintro e w3 ⟨rfl, b3⟩; have acc0 := below_trans acc0 b3; obtain ⟨hc3, hlt⟩ := bkeep b3 hlt; clear tok) | (go_at_call 90; refine (HV.out _ acc0).mono ?_; rintro e w4 ⟨rfl, b4⟩; have acc0 := below_trans acc0 b4))
        go_ret
        exact ⟨rfl, acc0⟩
end Go.Proofs.YtgeaccoobhigcaaGreat
namespace Go.Proofs.YtgeaccoobhigcaaGreat
open Go Go.RowKit
section
variable {σ : Type} (go : σ → Int → Int → CondR → σ × Bool)
mutual
def runC : CondR → σ → Int → Int → σ × Int × Bool
  | .mk kind goal id aa an ac attr va vn vc value acc ca cn cc conds, s, at_, deep =>
    if (go s at_ deep (.mk kind goal id aa an ac attr va vn vc value acc ca cn cc conds)).2 = true
    then runL conds (go s at_ deep (.mk kind goal id aa an ac attr va vn vc value acc ca cn cc conds)).1 (at_ + 1) (deep + 1)
    else ((go s at_ deep (.mk kind goal id aa an ac attr va vn vc value acc ca cn cc conds)).1, at_, false)
def runL : List CondR → σ → Int → Int → σ × Int × Bool
  | [], s, at_, _ => (s, at_, true)
  | c :: r, s, at_, deep =>
    if (runC c s at_ deep).2.2 = true then runL r (runC c s at_ deep).1 (runC c s at_ deep).2.1 deep
    else ((runC c s at_ deep).1, (runC c s at_ deep).2.1, false)
end
def CondR.kids : CondR → List CondR
  | .mk _ _ _ _ _ _ _ _ _ _ _ _ _ _ _ conds => conds
theorem runC_yes {c : CondR} {s : σ} {a d : Int} (h : (go s a d c).2 = true) : runC go c s a d = runL go c.kids (go s a d c).1 (a + 1) (d + 1) := by
  cases c; simp only [runC, CondR.kids]; rw [if_pos h]
theorem runC_no {c : CondR} {s : σ} {a d : Int} (h : (go s a d c).2 = false) : runC go c s a d = ((go s a d c).1, a, false) := by
  cases c; simp only [runC]; rw [if_neg (by simp [h])]
theorem runL_snoc {x : CondR} {d : Int} : ∀ (l : List CondR) {s s1 : σ} {a a1 : Int}, runL go l s a d = (s1, a1, true) → (runC go x s1 a1 d).2.2 = true → runL go (l ++ [x]) s a d = runC go x s1 a1 d
  | [], s, s1, a, a1, h, hx => by
    simp only [runL, Prod.mk.injEq] at h
    obtain ⟨rfl, rfl, _⟩ := h
    simp only [List.nil_append, runL]
    rw [if_pos hx]
    exact Prod.ext rfl (Prod.ext rfl hx.symm)
  | c :: r, s, s1, a, a1, h, hx => by
    simp only [runL, List.cons_append] at h ⊢
    split at h
    · rename_i hc
      rw [if_pos hc]
      exact runL_snoc r h hx
    · simp at h
theorem runL_stop {x : CondR} {d : Int} {r' : List CondR} : ∀ (l : List CondR) {s s1 s2 : σ} {a a1 a2 : Int}, runL go l s a d = (s1, a1, true) → runC go x s1 a1 d = (s2, a2, false) → runL go (l ++ x :: r') s a d = (s2, a2, false)
  | [], s, s1, s2, a, a1, a2, h, hx => by
    simp only [runL, Prod.mk.injEq] at h
    obtain ⟨rfl, rfl, _⟩ := h
    simp only [List.nil_append, runL]
    rw [hx, if_neg (by simp)]
  | c :: r, s, s1, s2, a, a1, a2, h, hx => by
    simp only [runL, List.cons_append] at h ⊢
    split at h
    · rename_i hc
      rw [if_pos hc]
      exact runL_stop r h hx
    · simp at h
theorem take_stop {l : List CondR} {i : Nat} {x : CondR} (h : l[i]? = some x) : l = l.take i ++ x :: l.drop (i + 1) := by
  obtain ⟨h3, h4⟩ := List.getElem?_eq_some_iff.1 h
  rw [← h4, ← List.drop_eq_getElem_cons h3, List.take_append_drop]
theorem condN_kids (c : CondR) : condN c = 1 + condsN c.kids := by cases c; simp only [condN, CondR.kids]
mutual
theorem runC_at : ∀ (c : CondR) (s : σ) (a d : Int), a ≤ (runC go c s a d).2.1 ∧ (runC go c s a d).2.1 ≤ a + condN c
  | .mk kind goal id aa an ac attr va vn vc value acc ca cn cc conds, s, a, d => by
    simp only [runC, condN]
    split
    · have := runL_at conds (go s a d (.mk kind goal id aa an ac attr va vn vc value acc ca cn cc conds)).1 (a + 1) (d + 1)
      omega
    · exact ⟨Int.le_refl _, by simp only; omega⟩
theorem runL_at : ∀ (l : List CondR) (s : σ) (a d : Int), a ≤ (runL go l s a d).2.1 ∧ (runL go l s a d).2.1 ≤ a + condsN l
  | [], s, a, d => by simp only [runL, condsN]; omega
  | c :: r, s, a, d => by
    have hc := runC_at c s a d
    simp only [runL, condsN]
    split
    · have := runL_at r (runC go c s a d).1 (runC go c s a d).2.1 d
      omega
    · simp only; omega
end
end
theorem ret_ib {a b : Int} {x y : Bool} (h : a = b) (k : x = y) : Ending.returned (.tuple #[.int .i64 a, .bool x]) = .returned (.tuple #[.int .i64 b, .bool y]) := by rw [h, k]
theorem CondR.Mem.kids {w : World} {c : CondR} (h : c.Mem w) : ∃ ca cn cc, c.cells[6]? = some (.slice ca cn cc) ∧ SlR w 7 ca cn cc (c.kids.flatMap CondR.cells) ∧ ∀ x ∈ c.kids, x.Mem w := by
  cases h with
  | @mk kind goal id aa an ac attr va vn vc value acc ca cn cc conds hi ha hv hs hc => exact ⟨ca, cn, cc, rfl, hs, hc⟩
theorem condsN_stop {l : List CondR} {i : Nat} {x : CondR} (h : l[i]? = some x) : condsN (l.take i) + condN x ≤ condsN l := by
  have e := take_stop h
  have ap : ∀ (a b : List CondR), condsN (a ++ b) = condsN a + condsN b := by
    intro a b
    induction a with
    | nil => simp [condsN]
    | cons c r ih => simp only [List.cons_append, condsN, ih]; omega
  conv => rhs; rw [e]
  rw [ap]
  simp only [condsN]
  omega
/-- All blocks that were there are as they were, but those of B. -/
structure KeptBut (B : Nat → Prop) (w w' : World) : Prop where
  size : w.heap.size ≤ w'.heap.size
  block : ∀ b, b < w.heap.size → ¬ B b → w'.heap[b]? = w.heap[b]?
theorem KeptBut.box {B : Nat → Prop} {w w' : World} {cs : List Value} {t : TypeId} (h : KeptBut B (w.alloc (.cells cs.toArray t)) w') (hB : ¬ B w.heap.size) {j : Nat} {u : Value} (hj : cs[j]? = some u) : w'.cell? ⟨w.heap.size, j, none⟩ = some u := by
  have := BoxC.new w cs t
  exact BoxC.at_ (W := w') (t := t) (cs := cs) ((h.block w.heap.size (by simp) hB).trans this) hj
set_option maxRecDepth 100000 in
set_option maxHeartbeats 8000000 in
theorem walk_any {σ : Type} (go : σ → Int → Int → CondR → σ × Bool) (St : σ → World → Prop) (B : Nat → Prop) (w0 : World) (k : Nat) (cap : Array Value) (hcf : ∀ (vs : Array Value) (w : World), Sem.run Tryz.prog (callFunc k vs) w = .ok (.enter k vs) w)
    (hSb : ∀ s w, St s w → Below w0.heap.size w0 w ∧ ∀ b, B b → b < w.heap.size) (hSa : ∀ s w o, St s w → St s (w.alloc o))
    (hgo : ∀ s a d c w, CondR.Mem w0 c → 0 ≤ a → a ≤ 1000000 → 0 ≤ d → d ≤ 1000000 → St s w → Calls Tryz.prog k (#[.int .i64 a, .int .i64 d, c.val] ++ cap) w fun e w' => e = .returned (.bool (go s a d c).2) ∧ St (go s a d c).1 w' ∧ KeptBut B w w') :
    ∀ (n : Nat) (conds : List CondR), condsN conds < n → ∀ (ca : Option Addr) (cn cc : Nat) (s : σ) (a d : Int) (w : World), SlR w0 7 ca cn cc (conds.flatMap CondR.cells) → (∀ c ∈ conds, c.Mem w0) → 0 ≤ a → a + condsN conds ≤ 1000000 → 0 ≤ d → d + condsN conds ≤ 1000000 → St s w →
      Calls Tryz.prog 55 #[.slice ca cn cc, .int .i64 a, .int .i64 d, .func (.func k) #[] cap] w fun e w' => e = .returned (.tuple #[.int .i64 (runL go conds s a d).2.1, .bool (runL go conds s a d).2.2]) ∧ St (runL go conds s a d).1 w' := by
  intro n
  induction n with
  | zero => intro conds h; omega
  | succ n IH =>
    intro conds hn ca cn cc s a d w hs hc ha0 ha hd0 hd hst
    have hcl := condsMem_len hs
    have hcap := hs.2.1
    have hmx := hs.2.2.1
    unfold maxLen at hmx
    have HCL := Lib.hid hcl
    have HIH := Lib.hid IH
    have HC := Lib.hid hc
    have HGO := Lib.hid hgo
    have HSB := Lib.hid hSb
    have HSA := Lib.hid hSa
    have HS := Lib.hid hs
    have HST := Lib.hid hst
    clear hcl IH hc hgo hSb hSa hs hst
    go_enter Tryz.func55, Tryz.ntmps55
    go_wp2
    go_loopw [1, 15] (fun ta ti wr => ∃ (i : Nat) (s1 : σ) (a1 : Int), i ≤ cn ∧ ta = .int .i64 a1 ∧ ti = .int .i64 i ∧ Hid (runL go (conds.take i) s a d = (s1, a1, true)) ∧ Hid (St s1 wr)) (fun _ ti _ => cn - (intOf ti).toNat)
    case atStart => exact ⟨0, s, a, by omega, rfl, rfl, Lib.hid (by simp [runL]), HST⟩
    case round =>
      obtain ⟨i, s1, a1, hi, rfl, rfl, HR, HST1⟩ := hrel
      have hat := runL_at go (conds.take i) s a d
      rw [HR.out] at hat
      have hz := condsN_take conds i
      simp only at hat
      have ha1 : 0 ≤ a1 := by omega
      by_cases hlt : i < cn
      · obtain ⟨x, hx⟩ : ∃ x, conds[i]? = some x := ⟨_, List.getElem?_eq_getElem (by rw [HCL.out]; exact hlt)⟩
        have hm := List.mem_of_getElem? hx
        have hxm := HC.out x hm
        have hza := condsN_stop hx
        have hkn := condN_kids x
        have ha2 : a1 + 1 + condsN x.kids ≤ 1000000 := by omega
        have hd2 : d + 1 + condsN x.kids ≤ 1000000 := by omega
        have hkn2 : condsN x.kids < n := by omega
        obtain ⟨g, o, rfl, hcell⟩ := (HS.out.kept (HSB.out _ _ HST1.out).1).row_at condR_len (by omega) hx
        have HXX := Lib.hid hx
        have HGX := fun w => HGO.out s1 a1 d x w hxm (by omega) (by omega) hd0 (by omega)
        have HTK := Lib.hid (take_snoc2 hx)
        have HDS := Lib.hid (take_stop hx)
        have HSN := Lib.hid (runL_snoc go (x := x) (conds.take i) HR.out)
        have HSP := fun r' s2 a2 => runL_stop go (x := x) (r' := r') (s2 := s2) (a2 := a2) (conds.take i) HR.out
        have HSP := Lib.hid HSP
        obtain ⟨xca, xcn, xcc, hx6, hxs, hxc⟩ := hxm.kids
        have hIH := fun s2 w2 => HIH.out x.kids hkn2 xca xcn xcc s2 (a1 + 1) (d + 1) w2 hxs hxc (by omega) ha2 (by omega) hd2
        have HI := Lib.hid hIH
        clear hx hxm hxs hxc hIH hz hza hkn hkn2 hm
        rcases hg : go s1 a1 d x with ⟨s2, b⟩
        rw [hg] at HGX
        simp only at HGX
        have hwb : ¬ B wr.heap.size := fun h => by have := (HSB.out _ _ HST1.out).2 _ h; omega
        have HWB := Lib.hid hwb
        clear hwb
        rcases b with _ | _
        · have HC1 : Hid (runC go x s1 a1 d = (s2, a1, false)) := Lib.hid (by rw [runC_no go (by rw [hg]), hg])
          have HRR : Hid (runL go conds s a d = (s2, a1, false)) := Lib.hid (by rw [HDS.out]; exact HSP.out _ _ _ HC1.out)
          obtain ⟨xk, xg, xi, xaa, xan, xac, xat, xva, xvn, xvc, xvl, xacc, xca', xcn', xcc', xcs⟩ := x
          obtain ⟨c0, c1, c2, c3, c4, c5, c6⟩ := seven_cells hcell
          unfold CondR.val at HGX
          simp only at HGX
          have HG2 := Lib.hid (HGX _ (HSA.out _ _ (.cells #[.int .i64 xk, .bool xg, .string xi, .slice xaa xan xac, .slice xva xvn xvc, .bool xacc, .slice xca' xcn' xcc'] 43) HST1.out))
          clear HGX hg hcell hat
          go_wp2_with ((with_reducible refine HG2.out.mono ?_); rintro e w3 ⟨rfl, hst3, -⟩; have HST3 := Lib.hid hst3; clear hst3)
          go_ret2
          exact ⟨ret_ib (by rw [HRR.out]) (by rw [HRR.out]), by rw [HRR.out]; exact HST3.out⟩
        · have HC1 : Hid (runC go x s1 a1 d = runL go x.kids s2 (a1 + 1) (d + 1)) := Lib.hid (by rw [runC_yes go (by rw [hg]), hg])
          rcases hk : runL go x.kids s2 (a1 + 1) (d + 1) with ⟨s3, a3, b3⟩
          have hI2 := HI.out s2
          rw [hk] at hI2
          have HI2 := Lib.hid hI2
          have HK := Lib.hid hk
          clear hI2 hk HI
          rcases b3 with _ | _
          · have HRR : Hid (runL go conds s a d = (s3, a3, false)) := Lib.hid (by rw [HDS.out]; exact HSP.out _ _ _ (by rw [HC1.out, HK.out]))
            obtain ⟨xk, xg, xi, xaa, xan, xac, xat, xva, xvn, xvc, xvl, xacc, xca', xcn', xcc', xcs⟩ := x
            obtain ⟨c0, c1, c2, c3, c4, c5, c6⟩ := seven_cells hcell
            simp only [CondR.cells, List.getElem?_cons_succ, List.getElem?_cons_zero, Option.some.injEq, Value.slice.injEq] at hx6
            obtain ⟨rfl, rfl, rfl⟩ := hx6
            unfold CondR.val at HGX
            simp only at HGX
            have HG2 := Lib.hid (HGX _ (HSA.out _ _ (.cells #[.int .i64 xk, .bool xg, .string xi, .slice xaa xan xac, .slice xva xvn xvc, .bool xacc, .slice xca' xcn' xcc'] 43) HST1.out))
            clear HGX hg hcell hat
            go_wp2_with (first | (go_at_call 55; refine (HI2.out _ HST3.out).mono ?_; rintro e w4 ⟨rfl, hst4⟩; have HST4 := Lib.hid hst4; clear hst4) | ((with_reducible refine HG2.out.mono ?_); rintro e w3 ⟨rfl, hst3, hkb⟩; have HST3 := Lib.hid hst3; have x6 := KeptBut.box (cs := [.int .i64 xk, .bool xg, .string xi, .slice xaa xan xac, .slice xva xvn xvc, .bool xacc, .slice xca' xcn' xcc']) hkb HWB.out (j := 6) rfl; clear hst3 hkb))
            go_ret2
            exact ⟨ret_ib (by rw [HRR.out]) (by rw [HRR.out]), by rw [HRR.out]; exact HST4.out⟩
          · have HRR : Hid (runL go (conds.take (i + 1)) s a d = (s3, a3, true)) := Lib.hid (by rw [HTK.out, HSN.out (by rw [HC1.out, HK.out]), HC1.out, HK.out])
            obtain ⟨xk, xg, xi, xaa, xan, xac, xat, xva, xvn, xvc, xvl, xacc, xca', xcn', xcc', xcs⟩ := x
            obtain ⟨c0, c1, c2, c3, c4, c5, c6⟩ := seven_cells hcell
            simp only [CondR.cells, List.getElem?_cons_succ, List.getElem?_cons_zero, Option.some.injEq, Value.slice.injEq] at hx6
            obtain ⟨rfl, rfl, rfl⟩ := hx6
            unfold CondR.val at HGX
            simp only at HGX
            have HG2 := Lib.hid (HGX _ (HSA.out _ _ (.cells #[.int .i64 xk, .bool xg, .string xi, .slice xaa xan xac, .slice xva xvn xvc, .bool xacc, .slice xca' xcn' xcc'] 43) HST1.out))
            clear HGX hg hcell hat
            go_wp2_with (first | (go_at_call 55; refine (HI2.out _ HST3.out).mono ?_; rintro e w4 ⟨rfl, hst4⟩; have HST4 := Lib.hid hst4; clear hst4) | ((with_reducible refine HG2.out.mono ?_); rintro e w3 ⟨rfl, hst3, hkb⟩; have HST3 := Lib.hid hst3; have x6 := KeptBut.box (cs := [.int .i64 xk, .bool xg, .string xi, .slice xaa xan xac, .slice xva xvn xvc, .bool xacc, .slice xca' xcn' xcc']) hkb HWB.out (j := 6) rfl; clear hst3 hkb))
            go_roundw
            case rel => exact ⟨i + 1, s3, a3, by omega, rfl, by go_num, HRR, HST4⟩
            case measure => simp [intOf]; omega
      · obtain rfl : i = cn := by omega
        have htk : Hid (runL go conds s a d = (s1, a1, true)) := Lib.hid (by have := HR.out; rwa [List.take_of_length_le (by rw [HCL.out]; omega)] at this)
        clear hat
        go_wp2
        go_ret2
        exact ⟨ret_ib (by rw [htk.out]) (by rw [htk.out]), by rw [htk.out]; exact HST1.out⟩
end Go.Proofs.YtgeaccoobhigcaaGreat
namespace Go.Proofs.YtgeaccoobhigcaaGreat
open Go Go.RowKit
mutual
def cdN : Cd → Nat
  | .mk _ _ _ _ _ _ conds => 1 + cdsN conds
def cdsN : List Cd → Nat
  | [] => 0
  | c :: r => cdN c + cdsN r
end
mutual
/-- The first error of a condition with all that is within it. -/
def firstE : Cd → Int → Int
  | .mk kind goal id attr value acc conds, deep =>
    if condE (.mk kind goal id attr value acc conds) deep = 0 then firstEs conds (deep + 1) else condE (.mk kind goal id attr value acc conds) deep
def firstEs : List Cd → Int → Int
  | [], _ => 0
  | c :: r, deep => if firstE c deep = 0 then firstEs r deep else firstE c deep
end
mutual
theorem condN_abs : ∀ c : CondR, condN c = cdN c.abs
  | .mk kind goal id aa an ac attr va vn vc value acc ca cn cc conds => by simp only [condN, CondR.abs, cdN]; rw [condsN_abs conds]
theorem condsN_abs : ∀ l : List CondR, condsN l = cdsN (absL l)
  | [] => rfl
  | c :: r => by simp only [condsN, absL, cdsN]; rw [condN_abs c, condsN_abs r]
end
/-- Counting. -/
def goN (_ : Int) (a _ : Int) (_ : CondR) : Int × Bool := (a + 1, decide (a + 1 ≤ 16))
mutual
theorem runC_goN : ∀ (c : CondR) (s a d : Int), (runC goN c s a d).1 = (runC goN c s a d).2.1 + (if (runC goN c s a d).2.2 = true then 0 else 1) ∧ ((runC goN c s a d).2.2 = true → (runC goN c s a d).2.1 = a + condN c ∧ (runC goN c s a d).2.1 ≤ 16) ∧ ((runC goN c s a d).2.2 = false → 16 ≤ (runC goN c s a d).2.1 ∧ 16 < a + condN c)
  | .mk kind goal id aa an ac attr va vn vc value acc ca cn cc conds, s, a, d => by
    simp only [condN]
    by_cases h : a + 1 ≤ 16
    · have e : runC goN (.mk kind goal id aa an ac attr va vn vc value acc ca cn cc conds) s a d = runL goN conds (a + 1) (a + 1) (d + 1) := by
        rw [runC_yes goN (by simp [goN, h])]; simp [goN, CondR.kids]
      rw [e]
      have := runL_goN conds (a + 1) (a + 1) (d + 1) rfl
      refine ⟨this.1, fun hb => ?_, fun hb => ?_⟩
      · have h1 := this.2.1 hb
        refine ⟨by omega, ?_⟩
        rcases conds with _ | ⟨x, r⟩
        · simp only [condsN] at h1; omega
        · exact h1.2 (by simp)
      · have := this.2.2 hb; omega
    · have e : runC goN (.mk kind goal id aa an ac attr va vn vc value acc ca cn cc conds) s a d = (a + 1, a, false) := by
        rw [runC_no goN (by simp [goN]; omega)]; simp [goN]
      rw [e]
      refine ⟨by simp, fun h => by simp at h, fun _ => ?_⟩
      simp only
      omega
theorem runL_goN : ∀ (l : List CondR) (s a d : Int), s = a → (runL goN l s a d).1 = (runL goN l s a d).2.1 + (if (runL goN l s a d).2.2 = true then 0 else 1) ∧ ((runL goN l s a d).2.2 = true → (runL goN l s a d).2.1 = a + condsN l ∧ (l ≠ [] → (runL goN l s a d).2.1 ≤ 16)) ∧ ((runL goN l s a d).2.2 = false → 16 ≤ (runL goN l s a d).2.1 ∧ 16 < a + condsN l)
  | [], s, a, d, h => by simp [runL, condsN, h]
  | c :: r, s, a, d, h => by
    have hc := runC_goN c s a d
    simp only [runL, condsN]
    split
    · rename_i hb
      rw [if_pos hb] at hc
      have ih := runL_goN r (runC goN c s a d).1 (runC goN c s a d).2.1 d (by omega)
      have h2 := hc.2.1 hb
      refine ⟨ih.1, fun hb => ?_, fun hb => ?_⟩
      · have h3 := ih.2.1 hb
        refine ⟨by omega, fun _ => ?_⟩
        rcases r with _ | ⟨x, r⟩
        · simp only [condsN] at h3; omega
        · exact h3.2 (by simp)
      · have := ih.2.2 hb; omega
    · rename_i hb
      have hb' : (runC goN c s a d).2.2 = false := by simpa using hb
      rw [if_neg hb] at hc
      have h2 := hc.2.2 hb'
      simp only [Bool.false_eq_true, if_false]
      refine ⟨hc.1, fun h => by simp at h, fun _ => by omega⟩
end
/-- The first error, and its place. -/
def goE (s : Int × Int) (a d : Int) (c : CondR) : (Int × Int) × Bool := if condE c.abs d = 0 then ((0, s.2), true) else ((condE c.abs d, a), false)
mutual
theorem runC_goE : ∀ (c : CondR) (s : Int × Int) (a d : Int), (runC goE c s a d).1.1 = firstE c.abs d ∧ ((runC goE c s a d).2.2 = true ↔ firstE c.abs d = 0)
  | .mk kind goal id aa an ac attr va vn vc value acc ca cn cc conds, s, a, d => by
    simp only [CondR.abs, firstE]
    by_cases h : condE (.mk kind goal id (attr.map TestR.abs) (value.map TestR.abs) acc (absL conds)) d = 0
    · have e : runC goE (.mk kind goal id aa an ac attr va vn vc value acc ca cn cc conds) s a d = runL goE conds (0, s.2) (a + 1) (d + 1) := by
        rw [runC_yes goE (by unfold goE CondR.abs; rw [if_pos h])]; unfold goE CondR.abs; rw [if_pos h]; rfl
      rw [e, if_pos h]
      exact runL_goE conds (0, s.2) (a + 1) (d + 1) rfl
    · have e : runC goE (.mk kind goal id aa an ac attr va vn vc value acc ca cn cc conds) s a d = ((condE (.mk kind goal id (attr.map TestR.abs) (value.map TestR.abs) acc (absL conds)) d, a), a, false) := by
        rw [runC_no goE (by unfold goE CondR.abs; rw [if_neg h])]; unfold goE CondR.abs; rw [if_neg h]
      rw [e, if_neg h]
      exact ⟨rfl, by simp [h]⟩
theorem runL_goE : ∀ (l : List CondR) (s : Int × Int) (a d : Int), s.1 = 0 → (runL goE l s a d).1.1 = firstEs (absL l) d ∧ ((runL goE l s a d).2.2 = true ↔ firstEs (absL l) d = 0)
  | [], s, a, d, h => by simp [runL, absL, firstEs, h]
  | c :: r, s, a, d, h => by
    have hc := runC_goE c s a d
    simp only [runL, absL, firstEs]
    by_cases hz : firstE c.abs d = 0
    · rw [if_pos hz, if_pos (hc.2.2 hz)]
      exact runL_goE r (runC goE c s a d).1 (runC goE c s a d).2.1 d (by rw [hc.1, hz])
    · rw [if_neg hz, if_neg (fun hh => hz (hc.2.1 hh))]
      exact ⟨hc.1, by simp [hz]⟩
end
theorem callFunc102 (vs : Array Value) (w : World) : Sem.run Tryz.prog (callFunc 56 vs) w = .ok (.enter 56 vs) w := by
  simp [callFunc, go_sem, Tryz.func56, Tryz.f56]
theorem callFunc103 (vs : Array Value) (w : World) : Sem.run Tryz.prog (callFunc 57 vs) w = .ok (.enter 57 vs) w := by
  simp [callFunc, go_sem, Tryz.func57, Tryz.f57]
/-- A cell of its own, of a variable that a closure holds. -/
structure StN (w0 : World) (b : Nat) (n : Int) (w : World) : Prop where
  below : Below w0.heap.size w0 w
  box : Boxed w b 3 (.int .i64 n)
  new : w0.heap.size ≤ b
theorem below_set {w0 w : World} {b : Nat} {v : Value} (h : Below w0.heap.size w0 w) (hb : w0.heap.size ≤ b) : Below w0.heap.size w0 (w.setCell ⟨b, 0, none⟩ v) :=
  h.setCell hb v
set_option maxRecDepth 100000 in
set_option maxHeartbeats 1000000 in
theorem count_any (w0 : World) (b : Nat) (s a d : Int) (c : CondR) (w : World) (ha : 0 ≤ a) (ha2 : a ≤ 1000000) (h : StN w0 b s w) :
    Calls Tryz.prog 56 (#[.int .i64 a, .int .i64 d, c.val] ++ #[.pointer (some ⟨b, 0, none⟩)]) w fun e w' => e = .returned (.bool (goN s a d c).2) ∧ StN w0 b (goN s a d c).1 w' ∧ KeptBut (· = b) w w' := by
  obtain ⟨hb, hx, hn⟩ := h
  unfold goN
  obtain ⟨kind, goal, id, aa, an, ac, attr, va, vn, vc, value, acc, ca, cn, cc, conds⟩ := c
  unfold CondR.val
  simp only
  have hx1 := hx.alloc (.cells #[.int .i64 kind, .bool goal, .string id, .slice aa an ac, .slice va vn vc, .bool acc, .slice ca cn cc] 43)
  have hc := hx1.cell
  have hf := hx1.frozen
  have HX := Lib.hid hx1
  have HX0 := Lib.hid hx
  have HB := Lib.hid hb
  clear hx hx1 hb
  have fin : StN w0 b (a + 1) ((w.alloc (.cells #[.int .i64 kind, .bool goal, .string id, .slice aa an ac, .slice va vn vc, .bool acc, .slice ca cn cc] 43)).setCell ⟨b, 0, none⟩ (.int .i64 (a + 1))) ∧ KeptBut (· = b) w ((w.alloc (.cells #[.int .i64 kind, .bool goal, .string id, .slice aa an ac, .slice va vn vc, .bool acc, .slice ca cn cc] 43)).setCell ⟨b, 0, none⟩ (.int .i64 (a + 1))) := by
    refine ⟨⟨below_set (HB.out.alloc HB.out.size _) hn, HX.out.set _, hn⟩, ⟨by simp [World.setCell], fun j hj hne => ?_⟩⟩
    rw [Below.heap_setCell _ _ _ _ (fun e => hne e), Below.heap_alloc w _ j hj]
  have FIN := Lib.hid fin
  clear fin
  by_cases h16 : a + 1 ≤ 16
  · have HR : Hid (decide (a + 1 ≤ 16) = true) := Lib.hid (decide_eq_true h16)
    rw [HR.out]
    go_enter Tryz.func56, Tryz.ntmps56
    go_wp2
    go_ret
    exact ⟨rfl, FIN.out⟩
  · have HR : Hid (decide (a + 1 ≤ 16) = false) := Lib.hid (decide_eq_false h16)
    rw [HR.out]
    go_enter Tryz.func56, Tryz.ntmps56
    go_wp2
    go_ret
    exact ⟨rfl, FIN.out⟩
structure StE (w0 : World) (be bp : Nat) (s : Int × Int) (w : World) : Prop where
  below : Below w0.heap.size w0 w
  e : Boxed w be 27 (.int .i64 s.1)
  p : Boxed w bp 3 (.int .i64 s.2)
  ne : be ≠ bp
  newe : w0.heap.size ≤ be
  newp : w0.heap.size ≤ bp
theorem boxed_below {w w' : World} {b : Nat} {t : TypeId} {v : Value} (h : Boxed w b t v) (hb : Below w.heap.size w w') : Boxed w' b t v := (hb.block b h.lt).trans h
set_option maxRecDepth 100000 in
set_option maxHeartbeats 1000000 in
theorem err_any (w0 : World) (be bp : Nat) (s : Int × Int) (a d : Int) (c : CondR) (w : World) (hm : c.Mem w0) (h : StE w0 be bp s w) :
    Calls Tryz.prog 57 (#[.int .i64 a, .int .i64 d, c.val] ++ #[.pointer (some ⟨be, 0, none⟩), .pointer (some ⟨bp, 0, none⟩)]) w fun e w' => e = .returned (.bool (goE s a d c).2) ∧ StE w0 be bp (goE s a d c).1 w' ∧ KeptBut (fun b => b = be ∨ b = bp) w w' := by
  obtain ⟨hb, hxe, hxp, hne, hne1, hnp1⟩ := h
  obtain ⟨s1, s2⟩ := s
  have hC := fun W (hW : Below w0.heap.size w0 W) => shCond_any c d W (hm.kept hW)
  unfold goE
  generalize condE c.abs d = E at hC ⊢
  obtain ⟨kind, goal, id, aa, an, ac, attr, va, vn, vc, value, acc, ca, cn, cc, conds⟩ := c
  unfold CondR.val at hC ⊢
  simp only at hC ⊢
  have hw1 : Below w0.heap.size w0 (w.alloc (.cells #[.int .i64 kind, .bool goal, .string id, .slice aa an ac, .slice va vn vc, .bool acc, .slice ca cn cc] 43)) := hb.alloc hb.size _
  have HCC := Lib.hid (hC _ hw1)
  have hb1 := below_new w (.cells #[.int .i64 kind, .bool goal, .string id, .slice aa an ac, .slice va vn vc, .bool acc, .slice ca cn cc] 43)
  have HB1 := Lib.hid hb1
  have HXE := Lib.hid (boxed_below hxe hb1)
  have HXP := Lib.hid (boxed_below hxp hb1)
  have HB := Lib.hid hb
  have HNE := Lib.hid hne
  have HN1 := Lib.hid hne1
  have HN2 := Lib.hid hnp1
  clear hm hC hb hxe hxp hne hne1 hnp1 hw1 hb1
  by_cases h0 : E = 0
  · subst h0
    rw [if_pos rfl]
    go_enter Tryz.func57, Tryz.ntmps57
    go_wp2_with (go_at_call 58; refine HCC.out.mono ?_; rintro e w2 ⟨rfl, b2⟩; have HE2 := Lib.hid (boxed_below HXE.out b2); have HP2 := Lib.hid (boxed_below HXP.out b2); have ce := HE2.out.cell; have fe := HE2.out.frozen; have HB2 := Lib.hid (below_trans HB1.out b2))
    go_ret
    refine ⟨rfl, ⟨below_set (HB.out.trans (HB2.out.mono HB.out.size)) HN1.out, HE2.out.set _, HP2.out.other (fun e => HNE.out e.symm) _, HNE.out, HN1.out, HN2.out⟩, ⟨?_, fun j hj hne => ?_⟩⟩
    · simpa [World.setCell] using HB2.out.size
    · rw [Below.heap_setCell _ _ _ _ (fun e => hne (.inl e))]
      exact HB2.out.block j hj
  · rw [if_neg h0]
    have e0 : (E == 0) = false := by simp [h0]
    have e1 : (E != 0) = true := by simp [h0]
    clear h0
    go_enter Tryz.func57, Tryz.ntmps57
    go_wp2_with (go_at_call 58; refine HCC.out.mono ?_; rintro e w2 ⟨rfl, b2⟩; have HE2 := Lib.hid (boxed_below HXE.out b2); have HP2 := Lib.hid (boxed_below HXP.out b2); have ce := HE2.out.cell; have fe := HE2.out.frozen; have cp := (HP2.out.other (fun e => HNE.out e.symm) (.int .i64 E)).cell; have fp := (HP2.out.other (fun e => HNE.out e.symm) (.int .i64 E)).frozen; have HB2 := Lib.hid (below_trans HB1.out b2); have ce2 := ((HE2.out.set (.int .i64 E)).other HNE.out (.int .i64 a)).cell)
    go_ret
    refine ⟨rfl, ⟨below_set (below_set (HB.out.trans (HB2.out.mono HB.out.size)) HN1.out) HN2.out, (HE2.out.set _).other HNE.out _, (HP2.out.other (fun e => HNE.out e.symm) _).set _, HNE.out, HN1.out, HN2.out⟩, ⟨?_, fun j hj hne => ?_⟩⟩
    · simpa [World.setCell] using HB2.out.size
    · rw [Below.heap_setCell _ _ _ _ (fun e => hne (.inr e)), Below.heap_setCell _ _ _ _ (fun e => hne (.inl e))]
      exact HB2.out.block j hj
end Go.Proofs.YtgeaccoobhigcaaGreat
namespace Go.Proofs.YtgeaccoobhigcaaGreat
open Go Go.RowKit
/-- A production, with where its parts lie. -/
structure ProdR where
  name : ByteArray
  ca : Option Addr
  cn : Nat
  cc : Nat
  conds : List CondR
  aa : Option Addr
  an : Nat
  ac : Nat
  acts : List Ac
def ProdR.val (p : ProdR) : Value := .agg #[.string p.name, .slice p.ca p.cn p.cc, .slice p.aa p.an p.ac]
def ProdR.cells (p : ProdR) : List Value := [.string p.name, .slice p.ca p.cn p.cc, .slice p.aa p.an p.ac]
theorem ac_len (a : Ac) : a.cells.length = 19 := rfl
structure ProdR.Mem (w : World) (p : ProdR) : Prop where
  name : p.name.size ≤ 9223372036854775807
  sc : SlR w 7 p.ca p.cn p.cc (p.conds.flatMap CondR.cells)
  conds : ∀ c ∈ p.conds, c.Mem w
  sa : SlR w 19 p.aa p.an p.ac (p.acts.flatMap Ac.cells)
  acts : ∀ a ∈ p.acts, a.Big
theorem ProdR.Mem.kept {w w' : World} {p : ProdR} (h : p.Mem w) (hb : Below w.heap.size w w') : p.Mem w' := ⟨h.name, h.sc.kept hb, fun c hc => (h.conds c hc).kept hb, h.sa.kept hb, h.acts⟩
theorem actsMem_len {w : World} {aa : Option Addr} {an ac : Nat} {acts : List Ac} (h : SlR w 19 aa an ac (acts.flatMap Ac.cells)) : acts.length = an := by
  have := h.1
  rw [rows_length ac_len] at this
  omega
/-- A production. -/
structure Pd where
  name : ByteArray
  conds : List Cd
  acts : List Ac
def ProdR.abs (p : ProdR) : Pd := ⟨p.name, absL p.conds, p.acts⟩
def shapeEq (W : Bool) (cn an : Nat) (E : Int) (A : Bool) : Int := if W = false then 2 else if cn < 1 ∨ 16 < cn ∨ an < 1 ∨ 16 < an then 7 else if E ≠ 0 then E else if A = false then 9 else 0
def shapeE (p : Pd) : Int := shapeEq (wordB p.name.data.toList) (cdsN p.conds) p.acts.length (firstEs p.conds 0) (p.acts.all actB)
/-- A place, and that error. -/
def ErrIs (E : Int) (e : Ending) : Prop := ∃ k : Int, e = .returned (.tuple #[.int .i64 k, .int .i64 E])
theorem walkN {w0 : World} {ca : Option Addr} {cn cc : Nat} {conds : List CondR} (hs : SlR w0 7 ca cn cc (conds.flatMap CondR.cells)) (hc : ∀ c ∈ conds, c.Mem w0) (hn : condsN conds ≤ 1000000) (b : Nat) (w : World) (h : StN w0 b 0 w) :
    ∃ N : Int, (N < 1 ↔ condsN conds < 1) ∧ (16 < N ↔ 16 < condsN conds) ∧ ∃ (r : Int) (q : Bool), Calls Tryz.prog 55 #[.slice ca cn cc, .int .i64 0, .int .i64 0, .func (.func 56) #[] #[.pointer (some ⟨b, 0, none⟩)]] w fun e w' => e = .returned (.tuple #[.int .i64 r, .bool q]) ∧ StN w0 b N w' := by
  have hg := runL_goN conds 0 0 0 rfl
  have ht := runL_at goN conds 0 0 0
  have hne : conds ≠ [] → 1 ≤ condsN conds := by
    intro h
    rcases conds with _ | ⟨c, r⟩
    · exact absurd rfl h
    · have := condN_kids c; simp only [condsN]; omega
  refine ⟨(runL goN conds 0 0 0).1, ?_, ?_, _, _, walk_any goN (fun n W => StN w0 b n W) (· = b) w0 56 _ callFunc102 (fun s W hS => ⟨hS.below, fun j hj => by rw [hj]; exact hS.box.lt⟩) (fun s W o hS => ⟨hS.below.alloc hS.below.size _, hS.box.alloc _, hS.new⟩)
    (fun s a d c W hm ha ha2 _ _ hS => count_any w0 b s a d c W ha ha2 hS) (condsN conds + 1) conds (by omega) ca cn cc 0 0 0 w hs hc (by omega) (by omega) (by omega) (by omega) h⟩
  · rcases hb : (runL goN conds 0 0 0).2.2 with _ | _
    · have := hg.2.2 hb; have h1 := hg.1; rw [hb] at h1; simp only [Bool.false_eq_true, if_false] at h1; omega
    · have := hg.2.1 hb; have h1 := hg.1; rw [hb] at h1; simp only [if_true] at h1; omega
  · rcases hb : (runL goN conds 0 0 0).2.2 with _ | _
    · have := hg.2.2 hb; have h1 := hg.1; rw [hb] at h1; simp only [Bool.false_eq_true, if_false] at h1; omega
    · have := hg.2.1 hb; have h1 := hg.1; rw [hb] at h1; simp only [if_true] at h1
      by_cases hc : conds = []
      · subst hc; simp only [condsN] at this ⊢; omega
      · have := this.2 hc; omega
theorem walkE {w0 : World} {ca : Option Addr} {cn cc : Nat} {conds : List CondR} (hs : SlR w0 7 ca cn cc (conds.flatMap CondR.cells)) (hc : ∀ c ∈ conds, c.Mem w0) (hn : condsN conds ≤ 1000000) (be bp : Nat) (w : World) (h : StE w0 be bp (0, -1) w) :
    ∃ (r k : Int) (q : Bool), Calls Tryz.prog 55 #[.slice ca cn cc, .int .i64 0, .int .i64 0, .func (.func 57) #[] #[.pointer (some ⟨be, 0, none⟩), .pointer (some ⟨bp, 0, none⟩)]] w fun e w' => e = .returned (.tuple #[.int .i64 r, .bool q]) ∧ StE w0 be bp (firstEs (absL conds) 0, k) w' := by
  have hg := runL_goE conds (0, -1) 0 0 rfl
  refine ⟨_, (runL goE conds (0, -1) 0 0).1.2, _, (walk_any goE (fun n W => StE w0 be bp n W) (fun b => b = be ∨ b = bp) w0 57 _ callFunc103 (fun s W hS => ⟨hS.below, fun j hj => by rcases hj with rfl | rfl; exact hS.e.lt; exact hS.p.lt⟩) (fun s W o hS => ⟨hS.below.alloc hS.below.size _, hS.e.alloc _, hS.p.alloc _, hS.ne, hS.newe, hS.newp⟩)
    (fun s a d c W hm _ _ _ _ hS => err_any w0 be bp s a d c W hm hS) (condsN conds + 1) conds (by omega) ca cn cc (0, -1) 0 0 w hs hc (by omega) (by omega) (by omega) (by omega) h).mono fun e w' hp => ⟨hp.1, ?_⟩⟩
  have h2 := hp.2
  rw [show (runL goE conds (0, -1) 0 0).1 = (firstEs (absL conds) 0, (runL goE conds (0, -1) 0 0).1.2) from Prod.ext hg.1 rfl] at h2
  exact h2
end Go.Proofs.YtgeaccoobhigcaaGreat
namespace Go.Proofs.YtgeaccoobhigcaaGreat
open Go Go.RowKit
theorem wordB_size {s : ByteArray} (h : wordB s.data.toList = true) : 1 ≤ s.size ∧ s.size ≤ 32 := by
  have := word_size h
  rwa [size_toList] at this
end Go.Proofs.YtgeaccoobhigcaaGreat
