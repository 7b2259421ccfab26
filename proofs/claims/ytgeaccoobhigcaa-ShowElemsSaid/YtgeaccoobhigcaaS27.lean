/-
  Conditions: what is wrong with one, as shape tells it and as the document does.
-/
import Derived.Test.YtgeaccoobhigcaaS26
import Derived.Test.YtgeaccoobhigcaaS14
namespace Go.Proofs.Ytgeaccoobhigcaa
open Go Go.RowKit

/-- A condition. -/
inductive Cd where
  | mk (kind : Int) (goal : Bool) (id : ByteArray) (attr value : List Ts) (acc : Bool) (conds : List Cd)
mutual
def CondR.abs : CondR → Cd
  | .mk kind goal id _ _ _ attr _ _ _ value acc _ _ _ conds => .mk kind goal id (attr.map TestR.abs) (value.map TestR.abs) acc (absL conds)
def absL : List CondR → List Cd
  | [] => []
  | c :: r => c.abs :: absL r
end
theorem absL_map : ∀ l : List CondR, absL l = l.map CondR.abs
  | [] => rfl
  | c :: r => by simp only [absL, List.map_cons]; rw [absL_map r]
/-- The tree lies in memory, whatever it is. -/
inductive CondR.Mem (w : World) : CondR → Prop
  | mk {kind : Int} {goal : Bool} {id : ByteArray} {aa : Option Addr} {an ac : Nat} {attr : List TestR} {va : Option Addr} {vn vc : Nat} {value : List TestR} {acc : Bool} {ca : Option Addr} {cn cc : Nat} {conds : List CondR}
      (hi : id.size ≤ 9223372036854775807) (ha : TestsMem w aa an ac attr) (hv : TestsMem w va vn vc value) (hs : SlR w 7 ca cn cc (conds.flatMap CondR.cells)) (hc : ∀ c ∈ conds, CondR.Mem w c) :
      CondR.Mem w (.mk kind goal id aa an ac attr va vn vc value acc ca cn cc conds)
theorem CondR.Mem.kept {w w' : World} (hb : Below w.heap.size w w') : ∀ {c : CondR}, c.Mem w → c.Mem w' := by
  intro c h
  induction h with
  | mk hi ha hv hs hc ih => exact .mk hi (ha.kept hb) (hv.kept hb) (hs.kept hb) ih

def condEq (kind : Int) (goal : Bool) (idl : Nat) (W : Bool) (an vn : Nat) (TA TV acc : Bool) (cn : Nat) (deep : Int) : Int :=
  if kind = 3 then (if goal = true ∨ idl ≠ 0 ∨ 0 < an ∨ 0 < vn ∨ acc = true ∨ cn = 0 then 9 else if 3 ≤ deep then 8 else 0)
  else if kind = 1 ∨ kind = 2 then (if 0 < cn ∨ W = false ∨ an = 0 then 9 else if 4 < an ∨ 4 < vn then 7 else if TA = false ∨ TV = false then 9 else 0) else 9
def condE : Cd → Int → Int
  | .mk kind goal id attr value acc conds, deep => condEq kind goal id.size (wordB id.data.toList) attr.length value.length (attr.all testB) (value.all testB) acc conds.length deep
theorem testsB_abs (l : List TestR) : (l.map TestR.abs).all testB = testsB l := by unfold testsB; rw [List.all_map]; rfl
theorem condsMem_len {w : World} {ca : Option Addr} {cn cc : Nat} {conds : List CondR} (h : SlR w 7 ca cn cc (conds.flatMap CondR.cells)) : conds.length = cn := by
  have := h.1
  rw [rows_length condR_len] at this
  omega

set_option maxRecDepth 100000 in
set_option maxHeartbeats 8000000 in
theorem shCond_any (c : CondR) (deep : Int) (w : World) (h : c.Mem w) : Calls Try.prog 104 #[c.val, .int .i64 deep] w fun e w' => e = .returned (.int .i64 (condE c.abs deep)) ∧ Below w.heap.size w w' := by
  cases h with
  | @mk kind goal id aa an ac attr va vn vc value acc ca cn cc conds hi ha hv hs hc =>
    unfold CondR.val CondR.abs condE
    simp only
    rw [testsB_abs, testsB_abs, List.length_map, List.length_map, absL_map, List.length_map, ha.len, hv.len, condsMem_len hs]
    have hW := fun w => word_any id hi w
    have hA := fun W (hb : Below w.heap.size w W) => shTests_any aa an ac attr W (ha.kept hb)
    have hV := fun W (hb : Below w.heap.size w W) => shTests_any va vn vc value W (hv.kept hb)
    generalize wordB id.data.toList = W at hW ⊢
    generalize testsB attr = TA at hA ⊢
    generalize testsB value = TV at hV ⊢
    obtain ⟨E, hE⟩ : ∃ E, E = condEq kind goal id.size W an vn TA TV acc cn deep := ⟨_, rfl⟩
    rw [← hE]
    have HE := Lib.hid hE
    have HW := Lib.hid hW
    have HA := Lib.hid hA
    have HV := Lib.hid hV
    clear hE hW hA hV ha hv hs hc hi
    by_cases hk : kind = 3
    · have e3 : (kind == 3) = true := by simp [hk]
      have k1 : ¬ kind < 1 := by omega
      have k3 : ¬ 3 < kind := by omega
      rcases goal with _ | _
      rotate_left
      · have hE := HE.out
        obtain rfl : E = 9 := by rw [hE]; simp [condEq, hk]
        clear hE HE
        clear hk
        have acc0 := below_new w (.cells #[.int .i64 kind, .bool true, .string id, .slice aa an ac, .slice va vn vc, .bool acc, .slice ca cn cc] 60)
        have hlt : w.heap.size < (w.alloc (.cells #[.int .i64 kind, .bool true, .string id, .slice aa an ac, .slice va vn vc, .bool acc, .slice ca cn cc] 60)).heap.size := by simp
        have tok : True := trivial
        go_enter Try.func104, Try.ntmps104
        go_wp2
        go_ret
        exact ⟨rfl, acc0⟩
      by_cases hid : id.size = 0
      rotate_left
      · have e1 := str_cons hid
        have hE := HE.out
        obtain rfl : E = 9 := by rw [hE]; simp [condEq, hk, hid]
        clear hE HE
        clear hk hid
        have acc0 := below_new w (.cells #[.int .i64 kind, .bool false, .string id, .slice aa an ac, .slice va vn vc, .bool acc, .slice ca cn cc] 60)
        have hlt : w.heap.size < (w.alloc (.cells #[.int .i64 kind, .bool false, .string id, .slice aa an ac, .slice va vn vc, .bool acc, .slice ca cn cc] 60)).heap.size := by simp
        have tok : True := trivial
        go_enter Try.func104, Try.ntmps104
        go_wp2
        go_ret
        exact ⟨rfl, acc0⟩
      have e1 := str_nil hid
      by_cases han : (0 : Int) < (an : Int)
      · have han2 : 0 < an := by omega
        have hE := HE.out
        obtain rfl : E = 9 := by rw [hE]; simp [condEq, hk, hid, han2]
        clear hE HE
        clear hk hid han2
        have acc0 := below_new w (.cells #[.int .i64 kind, .bool false, .string id, .slice aa an ac, .slice va vn vc, .bool acc, .slice ca cn cc] 60)
        have hlt : w.heap.size < (w.alloc (.cells #[.int .i64 kind, .bool false, .string id, .slice aa an ac, .slice va vn vc, .bool acc, .slice ca cn cc] 60)).heap.size := by simp
        have tok : True := trivial
        go_enter Try.func104, Try.ntmps104
        go_wp2
        go_ret
        exact ⟨rfl, acc0⟩
      obtain rfl : an = 0 := by omega
      by_cases hvn : (0 : Int) < (vn : Int)
      · have hvn2 : 0 < vn := by omega
        have hE := HE.out
        obtain rfl : E = 9 := by rw [hE]; simp [condEq, hk, hid, hvn2]
        clear hE HE
        clear hk hid hvn2
        have acc0 := below_new w (.cells #[.int .i64 kind, .bool false, .string id, .slice aa 0 ac, .slice va vn vc, .bool acc, .slice ca cn cc] 60)
        have hlt : w.heap.size < (w.alloc (.cells #[.int .i64 kind, .bool false, .string id, .slice aa 0 ac, .slice va vn vc, .bool acc, .slice ca cn cc] 60)).heap.size := by simp
        have tok : True := trivial
        go_enter Try.func104, Try.ntmps104
        go_wp2
        go_ret
        exact ⟨rfl, acc0⟩
      obtain rfl : vn = 0 := by omega
      rcases acc with _ | _
      rotate_left
      · have hE := HE.out
        obtain rfl : E = 9 := by rw [hE]; simp [condEq, hk, hid]
        clear hE HE
        clear hk hid
        have acc0 := below_new w (.cells #[.int .i64 kind, .bool false, .string id, .slice aa 0 ac, .slice va 0 vc, .bool true, .slice ca cn cc] 60)
        have hlt : w.heap.size < (w.alloc (.cells #[.int .i64 kind, .bool false, .string id, .slice aa 0 ac, .slice va 0 vc, .bool true, .slice ca cn cc] 60)).heap.size := by simp
        have tok : True := trivial
        go_enter Try.func104, Try.ntmps104
        go_wp2
        go_ret
        exact ⟨rfl, acc0⟩
      by_cases hcn : cn = 0
      · subst hcn
        have hE := HE.out
        obtain rfl : E = 9 := by rw [hE]; simp [condEq, hk, hid]
        clear hE HE
        clear hk hid
        have acc0 := below_new w (.cells #[.int .i64 kind, .bool false, .string id, .slice aa 0 ac, .slice va 0 vc, .bool false, .slice ca 0 cc] 60)
        have hlt : w.heap.size < (w.alloc (.cells #[.int .i64 kind, .bool false, .string id, .slice aa 0 ac, .slice va 0 vc, .bool false, .slice ca 0 cc] 60)).heap.size := by simp
        have tok : True := trivial
        go_enter Try.func104, Try.ntmps104
        go_wp2
        go_ret
        exact ⟨rfl, acc0⟩
      have ec : ((cn : Int) == 0) = false := by simp [hcn]
      by_cases hd : (3 : Int) ≤ deep
      · have hE := HE.out
        obtain rfl : E = 8 := by rw [hE]; simp [condEq, hk, hid, hcn, hd]
        clear hE HE
        clear hk hid hcn
        have acc0 := below_new w (.cells #[.int .i64 kind, .bool false, .string id, .slice aa 0 ac, .slice va 0 vc, .bool false, .slice ca cn cc] 60)
        have hlt : w.heap.size < (w.alloc (.cells #[.int .i64 kind, .bool false, .string id, .slice aa 0 ac, .slice va 0 vc, .bool false, .slice ca cn cc] 60)).heap.size := by simp
        have tok : True := trivial
        go_enter Try.func104, Try.ntmps104
        go_wp2
        go_ret
        exact ⟨rfl, acc0⟩
      · have hE := HE.out
        obtain rfl : E = 0 := by rw [hE]; simp [condEq, hk, hid, hcn, hd]
        clear hE HE
        clear hk hid hcn
        have acc0 := below_new w (.cells #[.int .i64 kind, .bool false, .string id, .slice aa 0 ac, .slice va 0 vc, .bool false, .slice ca cn cc] 60)
        have hlt : w.heap.size < (w.alloc (.cells #[.int .i64 kind, .bool false, .string id, .slice aa 0 ac, .slice va 0 vc, .bool false, .slice ca cn cc] 60)).heap.size := by simp
        have tok : True := trivial
        go_enter Try.func104, Try.ntmps104
        go_wp2
        go_ret
        exact ⟨rfl, acc0⟩
    have e3 : (kind == 3) = false := by simp [hk]
    by_cases hk12 : kind = 1 ∨ kind = 2
    rotate_left
    · have e1 : (kind == 1) = false := by simp; omega
      have e2 : (kind == 2) = false := by simp; omega
      have hE := HE.out
      obtain rfl : E = 9 := by rw [hE]; simp [condEq, hk, hk12]
      clear hE HE
      clear hk12 hk
      have acc0 := below_new w (.cells #[.int .i64 kind, .bool goal, .string id, .slice aa an ac, .slice va vn vc, .bool acc, .slice ca cn cc] 60)
      have hlt : w.heap.size < (w.alloc (.cells #[.int .i64 kind, .bool goal, .string id, .slice aa an ac, .slice va vn vc, .bool acc, .slice ca cn cc] 60)).heap.size := by simp
      have tok : True := trivial
      go_enter Try.func104, Try.ntmps104
      go_wp2
      go_ret
      exact ⟨rfl, acc0⟩
    rcases (show ((kind == 1) = true) ∨ ((kind == 1) = false ∧ (kind == 2) = true) by simp; omega) with e1 | ⟨e1, e2⟩
    all_goals
      by_cases hcn : (0 : Int) < (cn : Int)
      · have hcn2 : 0 < cn := by omega
        have hE := HE.out
        obtain rfl : E = 9 := by rw [hE]; simp [condEq, hk, hk12, hcn2]
        clear hE HE
        clear hk hk12 hcn2
        have acc0 := below_new w (.cells #[.int .i64 kind, .bool goal, .string id, .slice aa an ac, .slice va vn vc, .bool acc, .slice ca cn cc] 60)
        have hlt : w.heap.size < (w.alloc (.cells #[.int .i64 kind, .bool goal, .string id, .slice aa an ac, .slice va vn vc, .bool acc, .slice ca cn cc] 60)).heap.size := by simp
        have tok : True := trivial
        go_enter Try.func104, Try.ntmps104
        go_wp2
        go_ret
        exact ⟨rfl, acc0⟩
      obtain rfl : cn = 0 := by omega
      rcases W with _ | _
      · have hE := HE.out
        obtain rfl : E = 9 := by rw [hE]; simp [condEq, hk, hk12]
        clear hE HE
        clear hk hk12
        have acc0 := below_new w (.cells #[.int .i64 kind, .bool goal, .string id, .slice aa an ac, .slice va vn vc, .bool acc, .slice ca 0 cc] 60)
        have hlt : w.heap.size < (w.alloc (.cells #[.int .i64 kind, .bool goal, .string id, .slice aa an ac, .slice va vn vc, .bool acc, .slice ca 0 cc] 60)).heap.size := by simp
        have tok : True := trivial
        go_enter Try.func104, Try.ntmps104
        go_wp2_with (first | (go_at_call 100; refine (HW.out _).mono ?_; rintro e w2 ⟨rfl, rfl⟩))
        go_ret
        exact ⟨rfl, acc0⟩
      by_cases han : an = 0
      · subst han
        have hE := HE.out
        obtain rfl : E = 9 := by rw [hE]; simp [condEq, hk, hk12]
        clear hE HE
        clear hk hk12
        have acc0 := below_new w (.cells #[.int .i64 kind, .bool goal, .string id, .slice aa 0 ac, .slice va vn vc, .bool acc, .slice ca 0 cc] 60)
        have hlt : w.heap.size < (w.alloc (.cells #[.int .i64 kind, .bool goal, .string id, .slice aa 0 ac, .slice va vn vc, .bool acc, .slice ca 0 cc] 60)).heap.size := by simp
        have tok : True := trivial
        go_enter Try.func104, Try.ntmps104
        go_wp2_with (first | (go_at_call 100; refine (HW.out _).mono ?_; rintro e w2 ⟨rfl, rfl⟩))
        go_ret
        exact ⟨rfl, acc0⟩
      have ea : ((an : Int) == 0) = false := by simp [han]
      by_cases ha4 : (4 : Int) < (an : Int)
      · have ha42 : 4 < an := by omega
        have hE := HE.out
        obtain rfl : E = 7 := by rw [hE]; simp [condEq, hk, hk12, han, ha42]
        clear hE HE
        clear hk hk12 han ha42
        have acc0 := below_new w (.cells #[.int .i64 kind, .bool goal, .string id, .slice aa an ac, .slice va vn vc, .bool acc, .slice ca 0 cc] 60)
        have hlt : w.heap.size < (w.alloc (.cells #[.int .i64 kind, .bool goal, .string id, .slice aa an ac, .slice va vn vc, .bool acc, .slice ca 0 cc] 60)).heap.size := by simp
        have tok : True := trivial
        go_enter Try.func104, Try.ntmps104
        go_wp2_with (first | (go_at_call 100; refine (HW.out _).mono ?_; rintro e w2 ⟨rfl, rfl⟩))
        go_ret
        exact ⟨rfl, acc0⟩
      have ha42 : ¬ 4 < an := by omega
      by_cases hv4 : (4 : Int) < (vn : Int)
      · have hv42 : 4 < vn := by omega
        have hE := HE.out
        obtain rfl : E = 7 := by rw [hE]; simp [condEq, hk, hk12, han, ha42, hv42]
        clear hE HE
        clear hk hk12 han ha42 hv42
        have acc0 := below_new w (.cells #[.int .i64 kind, .bool goal, .string id, .slice aa an ac, .slice va vn vc, .bool acc, .slice ca 0 cc] 60)
        have hlt : w.heap.size < (w.alloc (.cells #[.int .i64 kind, .bool goal, .string id, .slice aa an ac, .slice va vn vc, .bool acc, .slice ca 0 cc] 60)).heap.size := by simp
        have tok : True := trivial
        go_enter Try.func104, Try.ntmps104
        go_wp2_with (first | (go_at_call 100; refine (HW.out _).mono ?_; rintro e w2 ⟨rfl, rfl⟩))
        go_ret
        exact ⟨rfl, acc0⟩
      have hv42 : ¬ 4 < vn := by omega
      rcases TA with _ | _
      · have hE := HE.out
        obtain rfl : E = 9 := by rw [hE]; simp [condEq, hk, hk12, han, ha42, hv42]
        clear hE HE
        clear hk hk12 han ha42 hv42
        have acc0 := below_new w (.cells #[.int .i64 kind, .bool goal, .string id, .slice aa an ac, .slice va vn vc, .bool acc, .slice ca 0 cc] 60)
        have hlt : w.heap.size < (w.alloc (.cells #[.int .i64 kind, .bool goal, .string id, .slice aa an ac, .slice va vn vc, .bool acc, .slice ca 0 cc] 60)).heap.size := by simp
        have tok : True := trivial
        go_enter Try.func104, Try.ntmps104
        go_wp2_with (first | (go_at_call 100; refine (HW.out _).mono ?_; rintro e w2 ⟨rfl, rfl⟩) | (go_at_call 130; have _t := tok; refine (HA.out _ acc0).mono ?_; rintro e w3 ⟨rfl, b3⟩; have acc0 := below_trans acc0 b3; obtain ⟨hc3, hlt⟩ := bkeep b3 hlt; clear tok))
        go_ret
        exact ⟨rfl, acc0⟩
      rcases TV with _ | _
      · have hE := HE.out
        obtain rfl : E = 9 := by rw [hE]; simp [condEq, hk, hk12, han, ha42, hv42]
        clear hE HE
        clear hk hk12 han ha42 hv42
        have acc0 := below_new w (.cells #[.int .i64 kind, .bool goal, .string id, .slice aa an ac, .slice va vn vc, .bool acc, .slice ca 0 cc] 60)
        have hlt : w.heap.size < (w.alloc (.cells #[.int .i64 kind, .bool goal, .string id, .slice aa an ac, .slice va vn vc, .bool acc, .slice ca 0 cc] 60)).heap.size := by simp
        have tok : True := trivial
        go_enter Try.func104, Try.ntmps104
        go_wp2_with (first | (go_at_call 100; refine (HW.out _).mono ?_; rintro e w2 ⟨rfl, rfl⟩) | (go_at_call 130; have _t := tok; refine (HA.out _ acc0).mono ?_; rintro e w3 ⟨rfl, b3⟩; have acc0 := below_trans acc0 b3; obtain ⟨hc3, hlt⟩ := bkeep b3 hlt; clear tok) | (go_at_call 130; refine (HV.out _ acc0).mono ?_; rintro e w4 ⟨rfl, b4⟩; have acc0 := below_trans acc0 b4))
        go_ret
        exact ⟨rfl, acc0⟩
      · have hE := HE.out
        obtain rfl : E = 0 := by rw [hE]; simp [condEq, hk, hk12, han, ha42, hv42]
        clear hE HE
        clear hk hk12 han ha42 hv42
        have acc0 := below_new w (.cells #[.int .i64 kind, .bool goal, .string id, .slice aa an ac, .slice va vn vc, .bool acc, .slice ca 0 cc] 60)
        have hlt : w.heap.size < (w.alloc (.cells #[.int .i64 kind, .bool goal, .string id, .slice aa an ac, .slice va vn vc, .bool acc, .slice ca 0 cc] 60)).heap.size := by simp
        have tok : True := trivial
        go_enter Try.func104, Try.ntmps104
        go_wp2_with (first | (go_at_call 100; refine (HW.out _).mono ?_; rintro e w2 ⟨rfl, rfl⟩) | (go_at_call 130; have _t := tok; refine (HA.out _ acc0).mono ?_; rintro e w3 ⟨rfl, b3⟩; have acc0 := below_trans acc0 b3; obtain ⟨hc3, hlt⟩ := bkeep b3 hlt; clear tok) | (go_at_call 130; refine (HV.out _ acc0).mono ?_; rintro e w4 ⟨rfl, b4⟩; have acc0 := below_trans acc0 b4))
        go_ret
        exact ⟨rfl, acc0⟩

set_option maxRecDepth 100000 in
set_option maxHeartbeats 8000000 in
theorem rCond_any (c : CondR) (deep : Int) (w : World) (h : c.Mem w) : Calls Try.prog 108 #[c.val, .int .i64 deep] w fun e w' => e = .returned (.int .i64 (condE c.abs deep)) ∧ Below w.heap.size w w' := by
  cases h with
  | @mk kind goal id aa an ac attr va vn vc value acc ca cn cc conds hi ha hv hs hc =>
    unfold CondR.val CondR.abs condE
    simp only
    rw [testsB_abs, testsB_abs, List.length_map, List.length_map, absL_map, List.length_map, ha.len, hv.len, condsMem_len hs]
    have hW := fun w => rword_any id hi w
    have hA := fun W (hb : Below w.heap.size w W) => rTests_any aa an ac attr W (ha.kept hb)
    have hV := fun W (hb : Below w.heap.size w W) => rTests_any va vn vc value W (hv.kept hb)
    generalize wordB id.data.toList = W at hW ⊢
    generalize testsB attr = TA at hA ⊢
    generalize testsB value = TV at hV ⊢
    obtain ⟨E, hE⟩ : ∃ E, E = condEq kind goal id.size W an vn TA TV acc cn deep := ⟨_, rfl⟩
    rw [← hE]
    have HE := Lib.hid hE
    have HW := Lib.hid hW
    have HA := Lib.hid hA
    have HV := Lib.hid hV
    clear hE hW hA hV ha hv hs hc hi
    by_cases hk : kind = 3
    · have e3 : (kind == 3) = true := by simp [hk]
      have k1 : ¬ kind < 1 := by omega
      have k3 : ¬ 3 < kind := by omega
      rcases goal with _ | _
      rotate_left
      · have hE := HE.out
        obtain rfl : E = 9 := by rw [hE]; simp [condEq, hk]
        clear hE HE
        clear hk
        have acc0 := below_new w (.cells #[.int .i64 kind, .bool true, .string id, .slice aa an ac, .slice va vn vc, .bool acc, .slice ca cn cc] 60)
        have hlt : w.heap.size < (w.alloc (.cells #[.int .i64 kind, .bool true, .string id, .slice aa an ac, .slice va vn vc, .bool acc, .slice ca cn cc] 60)).heap.size := by simp
        have tok : True := trivial
        go_enter Try.func108, Try.ntmps108
        go_wp2
        go_ret
        exact ⟨rfl, acc0⟩
      by_cases hid : id.size = 0
      rotate_left
      · have e1 := str_cons hid
        have hE := HE.out
        obtain rfl : E = 9 := by rw [hE]; simp [condEq, hk, hid]
        clear hE HE
        clear hk hid
        have acc0 := below_new w (.cells #[.int .i64 kind, .bool false, .string id, .slice aa an ac, .slice va vn vc, .bool acc, .slice ca cn cc] 60)
        have hlt : w.heap.size < (w.alloc (.cells #[.int .i64 kind, .bool false, .string id, .slice aa an ac, .slice va vn vc, .bool acc, .slice ca cn cc] 60)).heap.size := by simp
        have tok : True := trivial
        go_enter Try.func108, Try.ntmps108
        go_wp2
        go_ret
        exact ⟨rfl, acc0⟩
      have e1 := str_nil hid
      by_cases han : (0 : Int) < (an : Int)
      · have han2 : 0 < an := by omega
        have hE := HE.out
        obtain rfl : E = 9 := by rw [hE]; simp [condEq, hk, hid, han2]
        clear hE HE
        clear hk hid han2
        have acc0 := below_new w (.cells #[.int .i64 kind, .bool false, .string id, .slice aa an ac, .slice va vn vc, .bool acc, .slice ca cn cc] 60)
        have hlt : w.heap.size < (w.alloc (.cells #[.int .i64 kind, .bool false, .string id, .slice aa an ac, .slice va vn vc, .bool acc, .slice ca cn cc] 60)).heap.size := by simp
        have tok : True := trivial
        go_enter Try.func108, Try.ntmps108
        go_wp2
        go_ret
        exact ⟨rfl, acc0⟩
      obtain rfl : an = 0 := by omega
      by_cases hvn : (0 : Int) < (vn : Int)
      · have hvn2 : 0 < vn := by omega
        have hE := HE.out
        obtain rfl : E = 9 := by rw [hE]; simp [condEq, hk, hid, hvn2]
        clear hE HE
        clear hk hid hvn2
        have acc0 := below_new w (.cells #[.int .i64 kind, .bool false, .string id, .slice aa 0 ac, .slice va vn vc, .bool acc, .slice ca cn cc] 60)
        have hlt : w.heap.size < (w.alloc (.cells #[.int .i64 kind, .bool false, .string id, .slice aa 0 ac, .slice va vn vc, .bool acc, .slice ca cn cc] 60)).heap.size := by simp
        have tok : True := trivial
        go_enter Try.func108, Try.ntmps108
        go_wp2
        go_ret
        exact ⟨rfl, acc0⟩
      obtain rfl : vn = 0 := by omega
      rcases acc with _ | _
      rotate_left
      · have hE := HE.out
        obtain rfl : E = 9 := by rw [hE]; simp [condEq, hk, hid]
        clear hE HE
        clear hk hid
        have acc0 := below_new w (.cells #[.int .i64 kind, .bool false, .string id, .slice aa 0 ac, .slice va 0 vc, .bool true, .slice ca cn cc] 60)
        have hlt : w.heap.size < (w.alloc (.cells #[.int .i64 kind, .bool false, .string id, .slice aa 0 ac, .slice va 0 vc, .bool true, .slice ca cn cc] 60)).heap.size := by simp
        have tok : True := trivial
        go_enter Try.func108, Try.ntmps108
        go_wp2
        go_ret
        exact ⟨rfl, acc0⟩
      by_cases hcn : cn = 0
      · subst hcn
        have hE := HE.out
        obtain rfl : E = 9 := by rw [hE]; simp [condEq, hk, hid]
        clear hE HE
        clear hk hid
        have acc0 := below_new w (.cells #[.int .i64 kind, .bool false, .string id, .slice aa 0 ac, .slice va 0 vc, .bool false, .slice ca 0 cc] 60)
        have hlt : w.heap.size < (w.alloc (.cells #[.int .i64 kind, .bool false, .string id, .slice aa 0 ac, .slice va 0 vc, .bool false, .slice ca 0 cc] 60)).heap.size := by simp
        have tok : True := trivial
        go_enter Try.func108, Try.ntmps108
        go_wp2
        go_ret
        exact ⟨rfl, acc0⟩
      have ec : ((cn : Int) == 0) = false := by simp [hcn]
      by_cases hd : (3 : Int) ≤ deep
      · have hE := HE.out
        obtain rfl : E = 8 := by rw [hE]; simp [condEq, hk, hid, hcn, hd]
        clear hE HE
        clear hk hid hcn
        have acc0 := below_new w (.cells #[.int .i64 kind, .bool false, .string id, .slice aa 0 ac, .slice va 0 vc, .bool false, .slice ca cn cc] 60)
        have hlt : w.heap.size < (w.alloc (.cells #[.int .i64 kind, .bool false, .string id, .slice aa 0 ac, .slice va 0 vc, .bool false, .slice ca cn cc] 60)).heap.size := by simp
        have tok : True := trivial
        go_enter Try.func108, Try.ntmps108
        go_wp2
        go_ret
        exact ⟨rfl, acc0⟩
      · have hE := HE.out
        obtain rfl : E = 0 := by rw [hE]; simp [condEq, hk, hid, hcn, hd]
        clear hE HE
        clear hk hid hcn
        have acc0 := below_new w (.cells #[.int .i64 kind, .bool false, .string id, .slice aa 0 ac, .slice va 0 vc, .bool false, .slice ca cn cc] 60)
        have hlt : w.heap.size < (w.alloc (.cells #[.int .i64 kind, .bool false, .string id, .slice aa 0 ac, .slice va 0 vc, .bool false, .slice ca cn cc] 60)).heap.size := by simp
        have tok : True := trivial
        go_enter Try.func108, Try.ntmps108
        go_wp2
        go_ret
        exact ⟨rfl, acc0⟩
    have e3 : (kind == 3) = false := by simp [hk]
    by_cases hk12 : kind = 1 ∨ kind = 2
    rotate_left
    · rcases (show kind < 1 ∨ (¬ kind < 1 ∧ 3 < kind) by omega) with k1 | ⟨k1, k3⟩
      · have hE := HE.out
        obtain rfl : E = 9 := by rw [hE]; simp [condEq, hk, hk12]
        clear hE HE
        clear hk12 hk
        have acc0 := below_new w (.cells #[.int .i64 kind, .bool goal, .string id, .slice aa an ac, .slice va vn vc, .bool acc, .slice ca cn cc] 60)
        have hlt : w.heap.size < (w.alloc (.cells #[.int .i64 kind, .bool goal, .string id, .slice aa an ac, .slice va vn vc, .bool acc, .slice ca cn cc] 60)).heap.size := by simp
        have tok : True := trivial
        go_enter Try.func108, Try.ntmps108
        go_wp2
        go_ret
        exact ⟨rfl, acc0⟩
      · have hE := HE.out
        obtain rfl : E = 9 := by rw [hE]; simp [condEq, hk, hk12]
        clear hE HE
        clear hk12 hk
        have acc0 := below_new w (.cells #[.int .i64 kind, .bool goal, .string id, .slice aa an ac, .slice va vn vc, .bool acc, .slice ca cn cc] 60)
        have hlt : w.heap.size < (w.alloc (.cells #[.int .i64 kind, .bool goal, .string id, .slice aa an ac, .slice va vn vc, .bool acc, .slice ca cn cc] 60)).heap.size := by simp
        have tok : True := trivial
        go_enter Try.func108, Try.ntmps108
        go_wp2
        go_ret
        exact ⟨rfl, acc0⟩
    have k1 : ¬ kind < 1 := by omega
    have k3 : ¬ 3 < kind := by omega
    all_goals
      by_cases hcn : (0 : Int) < (cn : Int)
      · have hcn2 : 0 < cn := by omega
        have hE := HE.out
        obtain rfl : E = 9 := by rw [hE]; simp [condEq, hk, hk12, hcn2]
        clear hE HE
        clear hk hk12 hcn2
        have acc0 := below_new w (.cells #[.int .i64 kind, .bool goal, .string id, .slice aa an ac, .slice va vn vc, .bool acc, .slice ca cn cc] 60)
        have hlt : w.heap.size < (w.alloc (.cells #[.int .i64 kind, .bool goal, .string id, .slice aa an ac, .slice va vn vc, .bool acc, .slice ca cn cc] 60)).heap.size := by simp
        have tok : True := trivial
        go_enter Try.func108, Try.ntmps108
        go_wp2
        go_ret
        exact ⟨rfl, acc0⟩
      obtain rfl : cn = 0 := by omega
      rcases W with _ | _
      · have hE := HE.out
        obtain rfl : E = 9 := by rw [hE]; simp [condEq, hk, hk12]
        clear hE HE
        clear hk hk12
        have acc0 := below_new w (.cells #[.int .i64 kind, .bool goal, .string id, .slice aa an ac, .slice va vn vc, .bool acc, .slice ca 0 cc] 60)
        have hlt : w.heap.size < (w.alloc (.cells #[.int .i64 kind, .bool goal, .string id, .slice aa an ac, .slice va vn vc, .bool acc, .slice ca 0 cc] 60)).heap.size := by simp
        have tok : True := trivial
        go_enter Try.func108, Try.ntmps108
        go_wp2_with (first | (go_at_call 67; refine (HW.out _).mono ?_; rintro e w2 ⟨rfl, rfl⟩))
        go_ret
        exact ⟨rfl, acc0⟩
      by_cases han : an = 0
      · subst han
        have hE := HE.out
        obtain rfl : E = 9 := by rw [hE]; simp [condEq, hk, hk12]
        clear hE HE
        clear hk hk12
        have acc0 := below_new w (.cells #[.int .i64 kind, .bool goal, .string id, .slice aa 0 ac, .slice va vn vc, .bool acc, .slice ca 0 cc] 60)
        have hlt : w.heap.size < (w.alloc (.cells #[.int .i64 kind, .bool goal, .string id, .slice aa 0 ac, .slice va vn vc, .bool acc, .slice ca 0 cc] 60)).heap.size := by simp
        have tok : True := trivial
        go_enter Try.func108, Try.ntmps108
        go_wp2_with (first | (go_at_call 67; refine (HW.out _).mono ?_; rintro e w2 ⟨rfl, rfl⟩))
        go_ret
        exact ⟨rfl, acc0⟩
      have ea : ((an : Int) == 0) = false := by simp [han]
      by_cases ha4 : (4 : Int) < (an : Int)
      · have ha42 : 4 < an := by omega
        have hE := HE.out
        obtain rfl : E = 7 := by rw [hE]; simp [condEq, hk, hk12, han, ha42]
        clear hE HE
        clear hk hk12 han ha42
        have acc0 := below_new w (.cells #[.int .i64 kind, .bool goal, .string id, .slice aa an ac, .slice va vn vc, .bool acc, .slice ca 0 cc] 60)
        have hlt : w.heap.size < (w.alloc (.cells #[.int .i64 kind, .bool goal, .string id, .slice aa an ac, .slice va vn vc, .bool acc, .slice ca 0 cc] 60)).heap.size := by simp
        have tok : True := trivial
        go_enter Try.func108, Try.ntmps108
        go_wp2_with (first | (go_at_call 67; refine (HW.out _).mono ?_; rintro e w2 ⟨rfl, rfl⟩))
        go_ret
        exact ⟨rfl, acc0⟩
      have ha42 : ¬ 4 < an := by omega
      by_cases hv4 : (4 : Int) < (vn : Int)
      · have hv42 : 4 < vn := by omega
        have hE := HE.out
        obtain rfl : E = 7 := by rw [hE]; simp [condEq, hk, hk12, han, ha42, hv42]
        clear hE HE
        clear hk hk12 han ha42 hv42
        have acc0 := below_new w (.cells #[.int .i64 kind, .bool goal, .string id, .slice aa an ac, .slice va vn vc, .bool acc, .slice ca 0 cc] 60)
        have hlt : w.heap.size < (w.alloc (.cells #[.int .i64 kind, .bool goal, .string id, .slice aa an ac, .slice va vn vc, .bool acc, .slice ca 0 cc] 60)).heap.size := by simp
        have tok : True := trivial
        go_enter Try.func108, Try.ntmps108
        go_wp2_with (first | (go_at_call 67; refine (HW.out _).mono ?_; rintro e w2 ⟨rfl, rfl⟩))
        go_ret
        exact ⟨rfl, acc0⟩
      have hv42 : ¬ 4 < vn := by omega
      rcases TA with _ | _
      · have hE := HE.out
        obtain rfl : E = 9 := by rw [hE]; simp [condEq, hk, hk12, han, ha42, hv42]
        clear hE HE
        clear hk hk12 han ha42 hv42
        have acc0 := below_new w (.cells #[.int .i64 kind, .bool goal, .string id, .slice aa an ac, .slice va vn vc, .bool acc, .slice ca 0 cc] 60)
        have hlt : w.heap.size < (w.alloc (.cells #[.int .i64 kind, .bool goal, .string id, .slice aa an ac, .slice va vn vc, .bool acc, .slice ca 0 cc] 60)).heap.size := by simp
        have tok : True := trivial
        go_enter Try.func108, Try.ntmps108
        go_wp2_with (first | (go_at_call 67; refine (HW.out _).mono ?_; rintro e w2 ⟨rfl, rfl⟩) | (go_at_call 136; have _t := tok; refine (HA.out _ acc0).mono ?_; rintro e w3 ⟨rfl, b3⟩; have acc0 := below_trans acc0 b3; obtain ⟨hc3, hlt⟩ := bkeep b3 hlt; clear tok))
        go_ret
        exact ⟨rfl, acc0⟩
      rcases TV with _ | _
      · have hE := HE.out
        obtain rfl : E = 9 := by rw [hE]; simp [condEq, hk, hk12, han, ha42, hv42]
        clear hE HE
        clear hk hk12 han ha42 hv42
        have acc0 := below_new w (.cells #[.int .i64 kind, .bool goal, .string id, .slice aa an ac, .slice va vn vc, .bool acc, .slice ca 0 cc] 60)
        have hlt : w.heap.size < (w.alloc (.cells #[.int .i64 kind, .bool goal, .string id, .slice aa an ac, .slice va vn vc, .bool acc, .slice ca 0 cc] 60)).heap.size := by simp
        have tok : True := trivial
        go_enter Try.func108, Try.ntmps108
        go_wp2_with (first | (go_at_call 67; refine (HW.out _).mono ?_; rintro e w2 ⟨rfl, rfl⟩) | (go_at_call 136; have _t := tok; refine (HA.out _ acc0).mono ?_; rintro e w3 ⟨rfl, b3⟩; have acc0 := below_trans acc0 b3; obtain ⟨hc3, hlt⟩ := bkeep b3 hlt; clear tok) | (go_at_call 136; refine (HV.out _ acc0).mono ?_; rintro e w4 ⟨rfl, b4⟩; have acc0 := below_trans acc0 b4))
        go_ret
        exact ⟨rfl, acc0⟩
      · have hE := HE.out
        obtain rfl : E = 0 := by rw [hE]; simp [condEq, hk, hk12, han, ha42, hv42]
        clear hE HE
        clear hk hk12 han ha42 hv42
        have acc0 := below_new w (.cells #[.int .i64 kind, .bool goal, .string id, .slice aa an ac, .slice va vn vc, .bool acc, .slice ca 0 cc] 60)
        have hlt : w.heap.size < (w.alloc (.cells #[.int .i64 kind, .bool goal, .string id, .slice aa an ac, .slice va vn vc, .bool acc, .slice ca 0 cc] 60)).heap.size := by simp
        have tok : True := trivial
        go_enter Try.func108, Try.ntmps108
        go_wp2_with (first | (go_at_call 67; refine (HW.out _).mono ?_; rintro e w2 ⟨rfl, rfl⟩) | (go_at_call 136; have _t := tok; refine (HA.out _ acc0).mono ?_; rintro e w3 ⟨rfl, b3⟩; have acc0 := below_trans acc0 b3; obtain ⟨hc3, hlt⟩ := bkeep b3 hlt; clear tok) | (go_at_call 136; refine (HV.out _ acc0).mono ?_; rintro e w4 ⟨rfl, b4⟩; have acc0 := below_trans acc0 b4))
        go_ret
        exact ⟨rfl, acc0⟩
end Go.Proofs.Ytgeaccoobhigcaa
