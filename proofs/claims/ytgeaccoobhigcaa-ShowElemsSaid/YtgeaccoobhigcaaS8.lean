/-
  The texts of actions: show's.
-/
import Derived.Test.YtgeaccoobhigcaaS7
namespace Go.Proofs.Ytgeaccoobhigcaa
open Go Go.RowKit

set_option maxHeartbeats 1000000 in
theorem sign_text (k : Int) (w : World) : Calls Try.prog 75 #[.int .i64 k] w fun e w' => e = .returned (.string ⟨signL k⟩) ∧ w' = w := by
  rcases (show k = 1 ∨ k = 2 ∨ k = 3 ∨ k = 4 ∨ k = 5 ∨ k = 6 ∨ k = 8 ∨ k = 9 ∨ (k ≠ 1 ∧ k ≠ 2 ∧ k ≠ 3 ∧ k ≠ 4 ∧ k ≠ 5 ∧ k ≠ 6 ∧ k ≠ 8 ∧ k ≠ 9) by omega) with rfl | rfl | rfl | rfl | rfl | rfl | rfl | rfl | ⟨h1, h2, h3, h4, h5, h6, h8, h9⟩
  all_goals first
    | (have e1 : (k == 1) = false := by simp [h1]
       have e2 : (k == 2) = false := by simp [h2]
       have e3 : (k == 3) = false := by simp [h3]
       have e4 : (k == 4) = false := by simp [h4]
       have e5 : (k == 5) = false := by simp [h5]
       have e6 : (k == 6) = false := by simp [h6]
       have e8 : (k == 8) = false := by simp [h8]
       have e9 : (k == 9) = false := by simp [h9]
       have hr : signL k = #[61] := by unfold signL; rw [if_neg h1, if_neg h2, if_neg h3, if_neg h4, if_neg h5, if_neg h8, if_neg h6, if_neg h9]
       rw [hr]
       clear hr h1 h2 h3 h4 h5 h6 h8 h9
       go_enter Try.func75, Try.ntmps75
       go_wp2
       go_ret
       exact ⟨rfl, rfl⟩)
    | (go_enter Try.func75, Try.ntmps75
       go_wp2
       go_ret
       exact ⟨rfl, rfl⟩)
theorem signL_size (k : Int) : (⟨signL k⟩ : ByteArray).size ≤ 1 := by
  show (signL k).size ≤ 1
  unfold signL
  repeat' split
  all_goals decide
theorem termS_size (t : Tm) (ha : t.a.Small) (hb : t.b.Small) : (termS t).size ≤ 2000010 := by
  have h1 := atomS_size t.a ha.v
  have h2 := atomS_size t.b hb.v
  have hb : ∀ c : UInt8, (binS #[c] (atomS t.a) (atomS t.b)).size ≤ 2000010 := fun c => by
    unfold binS
    simp only [cat2_size]
    show 1 + 1 + 1 + (atomS t.a).size + 1 + (atomS t.b).size + 1 ≤ _
    omega
  unfold termS
  split
  · exact hb _
  · split
    · exact hb _
    · split
      · exact hb _
      · omega

/-- An action. -/
structure Ac where
  id : ByteArray
  attr : Am
  value : Tm
  pref : Int
  other : Am
def Ac.cells (a : Ac) : List Value := .string a.id :: (a.attr.cells ++ (a.value.cells ++ (.int .i64 a.pref :: a.other.cells)))
def Ac.val (a : Ac) : Value := .agg #[.string a.id, .string a.attr.v, .int .i64 a.attr.s.k, .string a.attr.s.t, .int .i64 a.attr.s.n, .int .i64 a.value.op, .string a.value.a.v, .int .i64 a.value.a.s.k, .string a.value.a.s.t, .int .i64 a.value.a.s.n, .string a.value.b.v, .int .i64 a.value.b.s.k, .string a.value.b.s.t, .int .i64 a.value.b.s.n, .int .i64 a.pref, .string a.other.v, .int .i64 a.other.s.k, .string a.other.s.t, .int .i64 a.other.s.n]
structure Ac.Small (a : Ac) : Prop where
  id : a.id.size ≤ 1000000
  attr : a.attr.Small
  va : a.value.a.Small
  vb : a.value.b.Small
  other : a.other.Small
def actHead (id attr value : ByteArray) (sign : Array UInt8) : ByteArray := (⟨#[40, 60]⟩ : ByteArray) ++ id ++ ⟨#[62, 32, 94]⟩ ++ attr ++ ⟨#[32]⟩ ++ value ++ ⟨#[32]⟩ ++ ⟨sign⟩
def actS (a : Ac) : ByteArray := if 8 ≤ a.pref ∧ a.pref ≤ 10 then actHead a.id (atomS a.attr) (termS a.value) (signL a.pref) ++ ⟨#[32]⟩ ++ atomS a.other ++ ⟨#[41]⟩ else actHead a.id (atomS a.attr) (termS a.value) (signL a.pref) ++ ⟨#[41]⟩

set_option maxRecDepth 100000 in
set_option maxHeartbeats 8000000 in
theorem showAct_any (a : Ac) (h : a.Small) (w : World) :
    Calls Try.prog 40 #[a.val] w fun x w' => x = .returned (.string (actS a)) ∧ Below w.heap.size w w' := by
  have hC := fun w => showAtom_any a.attr h.attr.v h.attr.s w
  have hV := fun w => showTerm_any a.value h.va h.vb w
  have hO := fun w => showAtom_any a.other h.other.v h.other.s w
  have hG := fun w => sign_text a.pref w
  have zi := h.id
  have zc := atomS_size a.attr h.attr.v
  have zv := termS_size a.value h.va h.vb
  have zo := atomS_size a.other h.other.v
  have zg := signL_size a.pref
  have hmix : Try.prog.follows .mixedOrders = true := by kernel_rfl
  obtain ⟨id, ⟨cv, ck, ct, cn⟩, ⟨op, ⟨av, ak, at_, an⟩, ⟨bv, bk, bt, bn⟩⟩, pref, ⟨ov, ok, ot, on_⟩⟩ := a
  unfold actS actHead Ac.val
  simp only at hC hV hO hG zi zc zv zo zg ⊢
  clear h
  generalize atomS ⟨cv, ck, ct, cn⟩ = C at hC zc ⊢
  generalize termS ⟨op, ⟨av, ak, at_, an⟩, ⟨bv, bk, bt, bn⟩⟩ = V at hV zv ⊢
  generalize atomS ⟨ov, ok, ot, on_⟩ = O at hO zo ⊢
  generalize (⟨signL pref⟩ : ByteArray) = G at hG zg ⊢
  unfold Sm.val at hC hO
  unfold Tm.val at hV
  simp only at hC hV hO
  have HC := Lib.hid hC
  have HV := Lib.hid hV
  have HO := Lib.hid hO
  have HG := Lib.hid hG
  clear hC hV hO hG
  have hbx := BoxC.new w [.string id, .string cv, .int .i64 ck, .string ct, .int .i64 cn, .int .i64 op, .string av, .int .i64 ak, .string at_, .int .i64 an, .string bv, .int .i64 bk, .string bt, .int .i64 bn, .int .i64 pref, .string ov, .int .i64 ok, .string ot, .int .i64 on_] 69
  have hbw : Below w.heap.size w (w.alloc (.cells #[.string id, .string cv, .int .i64 ck, .string ct, .int .i64 cn, .int .i64 op, .string av, .int .i64 ak, .string at_, .int .i64 an, .string bv, .int .i64 bk, .string bt, .int .i64 bn, .int .i64 pref, .string ov, .int .i64 ok, .string ot, .int .i64 on_] 69)) := (Below.refl _ w).alloc (Nat.le_refl _) _
  have HBX : Hid (BoxC (w.alloc (.cells #[.string id, .string cv, .int .i64 ck, .string ct, .int .i64 cn, .int .i64 op, .string av, .int .i64 ak, .string at_, .int .i64 an, .string bv, .int .i64 bk, .string bt, .int .i64 bn, .int .i64 pref, .string ov, .int .i64 ok, .string ot, .int .i64 on_] 69)) w.heap.size 69 [.string id, .string cv, .int .i64 ck, .string ct, .int .i64 cn, .int .i64 op, .string av, .int .i64 ak, .string at_, .int .i64 an, .string bv, .int .i64 bk, .string bt, .int .i64 bn, .int .i64 pref, .string ov, .int .i64 ok, .string ot, .int .i64 on_]) := Lib.hid hbx
  have HBW := Lib.hid hbw
  clear hbx hbw
  have p0 := fun w => run_string_add_sum (P := Try.prog) w ((⟨#[40, 60]⟩ : ByteArray)) id (by show 2 + id.size ≤ _; omega)
  have p1 := fun w => run_string_add_sum (P := Try.prog) w ((⟨#[40, 60]⟩ : ByteArray) ++ id) ⟨#[62, 32, 94]⟩ (by simp only [cat2_size]; show 2 + id.size + 3 ≤ _; omega)
  have p2 := fun w => run_string_add_sum (P := Try.prog) w ((⟨#[40, 60]⟩ : ByteArray) ++ id ++ ⟨#[62, 32, 94]⟩) C (by simp only [cat2_size]; show 2 + id.size + 3 + C.size ≤ _; omega)
  have p3 := fun w => run_string_add_sum (P := Try.prog) w ((⟨#[40, 60]⟩ : ByteArray) ++ id ++ ⟨#[62, 32, 94]⟩ ++ C) ⟨#[32]⟩ (by simp only [cat2_size]; show 2 + id.size + 3 + C.size + 1 ≤ _; omega)
  have p4 := fun w => run_string_add_sum (P := Try.prog) w ((⟨#[40, 60]⟩ : ByteArray) ++ id ++ ⟨#[62, 32, 94]⟩ ++ C ++ ⟨#[32]⟩) V (by simp only [cat2_size]; show 2 + id.size + 3 + C.size + 1 + V.size ≤ _; omega)
  have p5 := fun w => run_string_add_sum (P := Try.prog) w ((⟨#[40, 60]⟩ : ByteArray) ++ id ++ ⟨#[62, 32, 94]⟩ ++ C ++ ⟨#[32]⟩ ++ V) ⟨#[32]⟩ (by simp only [cat2_size]; show 2 + id.size + 3 + C.size + 1 + V.size + 1 ≤ _; omega)
  have p6 := fun w => run_string_add_sum (P := Try.prog) w ((⟨#[40, 60]⟩ : ByteArray) ++ id ++ ⟨#[62, 32, 94]⟩ ++ C ++ ⟨#[32]⟩ ++ V ++ ⟨#[32]⟩) G (by simp only [cat2_size]; show 2 + id.size + 3 + C.size + 1 + V.size + 1 + G.size ≤ _; omega)
  by_cases hp : 8 ≤ pref ∧ pref ≤ 10
  · rw [if_pos hp]
    have q0 := fun w => run_string_add_sum (P := Try.prog) w ((⟨#[40, 60]⟩ : ByteArray) ++ id ++ ⟨#[62, 32, 94]⟩ ++ C ++ ⟨#[32]⟩ ++ V ++ ⟨#[32]⟩ ++ G) ⟨#[32]⟩ (by simp only [cat2_size]; show 2 + id.size + 3 + C.size + 1 + V.size + 1 + G.size + 1 ≤ _; omega)
    have q1 := fun w => run_string_add_sum (P := Try.prog) w ((⟨#[40, 60]⟩ : ByteArray) ++ id ++ ⟨#[62, 32, 94]⟩ ++ C ++ ⟨#[32]⟩ ++ V ++ ⟨#[32]⟩ ++ G ++ ⟨#[32]⟩) O (by simp only [cat2_size]; show 2 + id.size + 3 + C.size + 1 + V.size + 1 + G.size + 1 + O.size ≤ _; omega)
    have q2 := fun w => run_string_add_sum (P := Try.prog) w ((⟨#[40, 60]⟩ : ByteArray) ++ id ++ ⟨#[62, 32, 94]⟩ ++ C ++ ⟨#[32]⟩ ++ V ++ ⟨#[32]⟩ ++ G ++ ⟨#[32]⟩ ++ O) ⟨#[41]⟩ (by simp only [cat2_size]; show 2 + id.size + 3 + C.size + 1 + V.size + 1 + G.size + 1 + O.size + 1 ≤ _; omega)
    rcases (show (pref == 8) = true ∨ ((pref == 8) = false ∧ (pref == 9) = true) ∨ ((pref == 8) = false ∧ (pref == 9) = false ∧ (pref == 10) = true) by simp; omega) with e8 | ⟨e8, e9⟩ | ⟨e8, e9, e10⟩
    all_goals
      clear hp
      go_enter Try.func40, Try.ntmps40
      go_wp2
      go_region_held3 (fun w' => w'.cell? ⟨w.heap.size, 0, none⟩ = some (.string id) ∧ w'.cell? ⟨w.heap.size, 1, none⟩ = some (.string cv) ∧ w'.cell? ⟨w.heap.size, 2, none⟩ = some (.int .i64 ck) ∧ w'.cell? ⟨w.heap.size, 3, none⟩ = some (.string ct) ∧ w'.cell? ⟨w.heap.size, 4, none⟩ = some (.int .i64 cn) ∧ w'.cell? ⟨w.heap.size, 5, none⟩ = some (.int .i64 op) ∧ w'.cell? ⟨w.heap.size, 6, none⟩ = some (.string av) ∧ w'.cell? ⟨w.heap.size, 7, none⟩ = some (.int .i64 ak) ∧ w'.cell? ⟨w.heap.size, 8, none⟩ = some (.string at_) ∧ w'.cell? ⟨w.heap.size, 9, none⟩ = some (.int .i64 an) ∧ w'.cell? ⟨w.heap.size, 10, none⟩ = some (.string bv) ∧ w'.cell? ⟨w.heap.size, 11, none⟩ = some (.int .i64 bk) ∧ w'.cell? ⟨w.heap.size, 12, none⟩ = some (.string bt) ∧ w'.cell? ⟨w.heap.size, 13, none⟩ = some (.int .i64 bn) ∧ w'.cell? ⟨w.heap.size, 14, none⟩ = some (.int .i64 pref)) (first | (have B1 := HBX.out; exact ⟨B1.at_ rfl, B1.at_ rfl, B1.at_ rfl, B1.at_ rfl, B1.at_ rfl, B1.at_ rfl, B1.at_ rfl, B1.at_ rfl, B1.at_ rfl, B1.at_ rfl, B1.at_ rfl, B1.at_ rfl, B1.at_ rfl, B1.at_ rfl, B1.at_ rfl⟩) | (have B2 := HBX.out.below (undrew b2); exact ⟨B2.at_ rfl, B2.at_ rfl, B2.at_ rfl, B2.at_ rfl, B2.at_ rfl, B2.at_ rfl, B2.at_ rfl, B2.at_ rfl, B2.at_ rfl, B2.at_ rfl, B2.at_ rfl, B2.at_ rfl, B2.at_ rfl, B2.at_ rfl, B2.at_ rfl⟩) | (have B3 := (HBX.out.below (undrew b2)).below b3; exact ⟨B3.at_ rfl, B3.at_ rfl, B3.at_ rfl, B3.at_ rfl, B3.at_ rfl, B3.at_ rfl, B3.at_ rfl, B3.at_ rfl, B3.at_ rfl, B3.at_ rfl, B3.at_ rfl, B3.at_ rfl, B3.at_ rfl, B3.at_ rfl, B3.at_ rfl⟩)) (first | (go_at_call 73; (with_reducible refine (HC.out _).mono ?_); rintro e w2 ⟨rfl, b2⟩) | (go_at_call 74; (with_reducible refine (HV.out _).mono ?_); rintro e w3 ⟨rfl, b3⟩) | (go_at_call 75; refine (HG.out _).mono ?_; rintro e w4 ⟨rfl, rfl⟩))
      have B3 := (HBX.out.below (undrew b2)).below b3
      have x14 := B3.at_ (j := 14) rfl
      have x15 := B3.at_ (j := 15) rfl
      have x16 := B3.at_ (j := 16) rfl
      have x17 := B3.at_ (j := 17) rfl
      have x18 := B3.at_ (j := 18) rfl
      clear B3
      go_wp2_with (go_at_call 73; refine (HO.out _).mono ?_; rintro e w5 ⟨rfl, b5⟩)
      go_ret
      exact ⟨rfl, (HBW.out.trans (((undrew b2).mono (by simp)).trans (b3.mono (Nat.le_trans (by simp) b2.size)))).trans (b5.mono (HBW.out.trans (((undrew b2).mono (by simp)).trans (b3.mono (Nat.le_trans (by simp) b2.size)))).size)⟩
  · rw [if_neg hp]
    have q0 := fun w => run_string_add_sum (P := Try.prog) w ((⟨#[40, 60]⟩ : ByteArray) ++ id ++ ⟨#[62, 32, 94]⟩ ++ C ++ ⟨#[32]⟩ ++ V ++ ⟨#[32]⟩ ++ G) ⟨#[41]⟩ (by simp only [cat2_size]; show 2 + id.size + 3 + C.size + 1 + V.size + 1 + G.size + 1 ≤ _; omega)
    have e8 : (pref == 8) = false := by simp; omega
    have e9 : (pref == 9) = false := by simp; omega
    have e10 : (pref == 10) = false := by simp; omega
    clear hp
    go_enter Try.func40, Try.ntmps40
    go_wp2
    go_region_held3 (fun w' => w'.cell? ⟨w.heap.size, 0, none⟩ = some (.string id) ∧ w'.cell? ⟨w.heap.size, 1, none⟩ = some (.string cv) ∧ w'.cell? ⟨w.heap.size, 2, none⟩ = some (.int .i64 ck) ∧ w'.cell? ⟨w.heap.size, 3, none⟩ = some (.string ct) ∧ w'.cell? ⟨w.heap.size, 4, none⟩ = some (.int .i64 cn) ∧ w'.cell? ⟨w.heap.size, 5, none⟩ = some (.int .i64 op) ∧ w'.cell? ⟨w.heap.size, 6, none⟩ = some (.string av) ∧ w'.cell? ⟨w.heap.size, 7, none⟩ = some (.int .i64 ak) ∧ w'.cell? ⟨w.heap.size, 8, none⟩ = some (.string at_) ∧ w'.cell? ⟨w.heap.size, 9, none⟩ = some (.int .i64 an) ∧ w'.cell? ⟨w.heap.size, 10, none⟩ = some (.string bv) ∧ w'.cell? ⟨w.heap.size, 11, none⟩ = some (.int .i64 bk) ∧ w'.cell? ⟨w.heap.size, 12, none⟩ = some (.string bt) ∧ w'.cell? ⟨w.heap.size, 13, none⟩ = some (.int .i64 bn) ∧ w'.cell? ⟨w.heap.size, 14, none⟩ = some (.int .i64 pref)) (first | (have B1 := HBX.out; exact ⟨B1.at_ rfl, B1.at_ rfl, B1.at_ rfl, B1.at_ rfl, B1.at_ rfl, B1.at_ rfl, B1.at_ rfl, B1.at_ rfl, B1.at_ rfl, B1.at_ rfl, B1.at_ rfl, B1.at_ rfl, B1.at_ rfl, B1.at_ rfl, B1.at_ rfl⟩) | (have B2 := HBX.out.below (undrew b2); exact ⟨B2.at_ rfl, B2.at_ rfl, B2.at_ rfl, B2.at_ rfl, B2.at_ rfl, B2.at_ rfl, B2.at_ rfl, B2.at_ rfl, B2.at_ rfl, B2.at_ rfl, B2.at_ rfl, B2.at_ rfl, B2.at_ rfl, B2.at_ rfl, B2.at_ rfl⟩) | (have B3 := (HBX.out.below (undrew b2)).below b3; exact ⟨B3.at_ rfl, B3.at_ rfl, B3.at_ rfl, B3.at_ rfl, B3.at_ rfl, B3.at_ rfl, B3.at_ rfl, B3.at_ rfl, B3.at_ rfl, B3.at_ rfl, B3.at_ rfl, B3.at_ rfl, B3.at_ rfl, B3.at_ rfl, B3.at_ rfl⟩)) (first | (go_at_call 73; (with_reducible refine (HC.out _).mono ?_); rintro e w2 ⟨rfl, b2⟩) | (go_at_call 74; (with_reducible refine (HV.out _).mono ?_); rintro e w3 ⟨rfl, b3⟩) | (go_at_call 75; refine (HG.out _).mono ?_; rintro e w4 ⟨rfl, rfl⟩))
    all_goals
      have B3 := (HBX.out.below (undrew b2)).below b3
      have x14 := B3.at_ (j := 14) rfl
      have x15 := B3.at_ (j := 15) rfl
      have x16 := B3.at_ (j := 16) rfl
      have x17 := B3.at_ (j := 17) rfl
      have x18 := B3.at_ (j := 18) rfl
      clear B3
      go_wp2
      go_ret
      exact ⟨rfl, HBW.out.trans (((undrew b2).mono (by simp)).trans (b3.mono (Nat.le_trans (by simp) b2.size)))⟩

end Go.Proofs.Ytgeaccoobhigcaa
