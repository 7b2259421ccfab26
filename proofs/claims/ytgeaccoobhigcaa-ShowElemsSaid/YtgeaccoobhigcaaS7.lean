/-
  The texts of elements.
-/
import Derived.Test.YtgeaccoobhigcaaS6
import Derived.Deep.RegionHeld3
namespace Go.Proofs.Ytgeaccoobhigcaa
open Go Go.RowKit

theorem BoxC.ten {W : World} {b : Nat} {t : TypeId} {a0 a1 a2 a3 a4 a5 a6 a7 a8 a9 a10 a11 : Value} (h : BoxC W b t [a0, a1, a2, a3, a4, a5, a6, a7, a8, a9, a10, a11]) : W.cell? ⟨b, 0, none⟩ = some a0 ∧ W.cell? ⟨b, 1, none⟩ = some a1 ∧ W.cell? ⟨b, 2, none⟩ = some a2 ∧ W.cell? ⟨b, 3, none⟩ = some a3 ∧ W.cell? ⟨b, 4, none⟩ = some a4 ∧ W.cell? ⟨b, 5, none⟩ = some a5 ∧ W.cell? ⟨b, 6, none⟩ = some a6 ∧ W.cell? ⟨b, 7, none⟩ = some a7 ∧ W.cell? ⟨b, 8, none⟩ = some a8 ∧ W.cell? ⟨b, 9, none⟩ = some a9 :=
  ⟨h.at_ rfl, h.at_ rfl, h.at_ rfl, h.at_ rfl, h.at_ rfl, h.at_ rfl, h.at_ rfl, h.at_ rfl, h.at_ rfl, h.at_ rfl⟩

/-- An element. -/
structure El where
  i : Sm
  a : Sm
  v : Sm
  acc : Bool
  goal : Bool
  tag : Int
def El.cells (e : El) : List Value := e.i.cells ++ (e.a.cells ++ (e.v.cells ++ [.bool e.acc, .bool e.goal, .int .i64 e.tag]))
def El.val (e : El) : Value := .agg #[.int .i64 e.i.k, .string e.i.t, .int .i64 e.i.n, .int .i64 e.a.k, .string e.a.t, .int .i64 e.a.n, .int .i64 e.v.k, .string e.v.t, .int .i64 e.v.n, .bool e.acc, .bool e.goal, .int .i64 e.tag]
def elemS (e : El) : ByteArray :=
  let s := (⟨#[40]⟩ : ByteArray) ++ symS e.i ++ ⟨#[32, 94]⟩ ++ symS e.a ++ ⟨#[32]⟩ ++ symS e.v
  if e.acc then s ++ ⟨#[32, 43]⟩ ++ ⟨#[41]⟩ else s ++ ⟨#[41]⟩
theorem mk2_size (a b : UInt8) : (⟨#[a, b]⟩ : ByteArray).size = 2 := rfl

set_option maxRecDepth 100000 in
set_option maxHeartbeats 4000000 in
theorem showElem_any (e : El) (hi : e.i.t.size ≤ 9223372036854775807) (ha : e.a.t.size ≤ 9223372036854775807) (hv : e.v.t.size ≤ 9223372036854775807) (w : World) :
    Calls Try.prog 42 #[e.val] w fun x w' => x = .returned (.string (elemS e)) ∧ Below w.heap.size w w' := by
  have hI := fun w => symText_any e.i hi w
  have hA := fun w => symText_any e.a ha w
  have hV := fun w => symText_any e.v hv w
  have zi := symS_size e.i
  have za := symS_size e.a
  have zv := symS_size e.v
  have hmix : Try.prog.follows .mixedOrders = true := by kernel_rfl
  obtain ⟨⟨ik, it, in_⟩, ⟨ak, at_, an⟩, ⟨vk, vt, vn⟩, acc, goal, tag⟩ := e
  unfold elemS El.val
  simp only at hI hA hV zi za zv ⊢
  clear hi ha hv
  generalize symS ⟨ik, it, in_⟩ = I at hI zi ⊢
  generalize symS ⟨ak, at_, an⟩ = A at hA za ⊢
  generalize symS ⟨vk, vt, vn⟩ = V at hV zv ⊢
  unfold Sm.val at hI hA hV
  simp only at hI hA hV
  have HI := Lib.hid hI
  have HA := Lib.hid hA
  have HV := Lib.hid hV
  clear hI hA hV
  have hbx := BoxC.new w [.int .i64 ik, .string it, .int .i64 in_, .int .i64 ak, .string at_, .int .i64 an, .int .i64 vk, .string vt, .int .i64 vn, .bool acc, .bool goal, .int .i64 tag] 74
  have hbw : Below w.heap.size w (w.alloc (.cells #[.int .i64 ik, .string it, .int .i64 in_, .int .i64 ak, .string at_, .int .i64 an, .int .i64 vk, .string vt, .int .i64 vn, .bool acc, .bool goal, .int .i64 tag] 74)) := (Below.refl _ w).alloc (Nat.le_refl _) _
  have HBX : Hid (BoxC (w.alloc (.cells #[.int .i64 ik, .string it, .int .i64 in_, .int .i64 ak, .string at_, .int .i64 an, .int .i64 vk, .string vt, .int .i64 vn, .bool acc, .bool goal, .int .i64 tag] 74)) w.heap.size 74 [.int .i64 ik, .string it, .int .i64 in_, .int .i64 ak, .string at_, .int .i64 an, .int .i64 vk, .string vt, .int .i64 vn, .bool acc, .bool goal, .int .i64 tag]) := Lib.hid hbx
  have HBW := Lib.hid hbw
  clear hbx hbw
  have p0 := fun w => run_string_add_sum (P := Try.prog) w ((⟨#[40]⟩ : ByteArray)) I (by show 1 + I.size ≤ _; omega)
  have p1 := fun w => run_string_add_sum (P := Try.prog) w ((⟨#[40]⟩ : ByteArray) ++ I) ⟨#[32, 94]⟩ (by simp only [cat2_size]; show 1 + I.size + 2 ≤ _; omega)
  have p2 := fun w => run_string_add_sum (P := Try.prog) w ((⟨#[40]⟩ : ByteArray) ++ I ++ ⟨#[32, 94]⟩) A (by simp only [cat2_size]; show 1 + I.size + 2 + A.size ≤ _; omega)
  have p3 := fun w => run_string_add_sum (P := Try.prog) w ((⟨#[40]⟩ : ByteArray) ++ I ++ ⟨#[32, 94]⟩ ++ A) ⟨#[32]⟩ (by simp only [cat2_size]; show 1 + I.size + 2 + A.size + 1 ≤ _; omega)
  have p4 := fun w => run_string_add_sum (P := Try.prog) w ((⟨#[40]⟩ : ByteArray) ++ I ++ ⟨#[32, 94]⟩ ++ A ++ ⟨#[32]⟩) V (by simp only [cat2_size]; show 1 + I.size + 2 + A.size + 1 + V.size ≤ _; omega)
  rcases acc with _ | _
  · rw [if_neg (by decide)]
    have p5 := fun w => run_string_add_sum (P := Try.prog) w ((⟨#[40]⟩ : ByteArray) ++ I ++ ⟨#[32, 94]⟩ ++ A ++ ⟨#[32]⟩ ++ V) ⟨#[41]⟩ (by simp only [cat2_size]; show 1 + I.size + 2 + A.size + 1 + V.size + 1 ≤ _; omega)
    go_enter Try.func42, Try.ntmps42
    go_wp2
    go_region_held3 (fun w' => w'.cell? ⟨w.heap.size, 0, none⟩ = some (.int .i64 ik) ∧ w'.cell? ⟨w.heap.size, 1, none⟩ = some (.string it) ∧ w'.cell? ⟨w.heap.size, 2, none⟩ = some (.int .i64 in_) ∧ w'.cell? ⟨w.heap.size, 3, none⟩ = some (.int .i64 ak) ∧ w'.cell? ⟨w.heap.size, 4, none⟩ = some (.string at_) ∧ w'.cell? ⟨w.heap.size, 5, none⟩ = some (.int .i64 an) ∧ w'.cell? ⟨w.heap.size, 6, none⟩ = some (.int .i64 vk) ∧ w'.cell? ⟨w.heap.size, 7, none⟩ = some (.string vt) ∧ w'.cell? ⟨w.heap.size, 8, none⟩ = some (.int .i64 vn)) (first | (have B1 := HBX.out; exact ⟨B1.at_ rfl, B1.at_ rfl, B1.at_ rfl, B1.at_ rfl, B1.at_ rfl, B1.at_ rfl, B1.at_ rfl, B1.at_ rfl, B1.at_ rfl⟩) | (have B2 := HBX.out.below (undrew b2); exact ⟨B2.at_ rfl, B2.at_ rfl, B2.at_ rfl, B2.at_ rfl, B2.at_ rfl, B2.at_ rfl, B2.at_ rfl, B2.at_ rfl, B2.at_ rfl⟩) | (have B3 := (HBX.out.below (undrew b2)).below b3; exact ⟨B3.at_ rfl, B3.at_ rfl, B3.at_ rfl, B3.at_ rfl, B3.at_ rfl, B3.at_ rfl, B3.at_ rfl, B3.at_ rfl, B3.at_ rfl⟩) | (have B4 := ((HBX.out.below (undrew b2)).below b3).below b4; exact ⟨B4.at_ rfl, B4.at_ rfl, B4.at_ rfl, B4.at_ rfl, B4.at_ rfl, B4.at_ rfl, B4.at_ rfl, B4.at_ rfl, B4.at_ rfl⟩)) (first | (go_at_call 78; (with_reducible refine (HI.out _).mono ?_); rintro e w2 ⟨rfl, b2⟩) | (go_at_call 78; (with_reducible refine (HA.out _).mono ?_); rintro e w3 ⟨rfl, b3⟩) | (go_at_call 78; (with_reducible refine (HV.out _).mono ?_); rintro e w4 ⟨rfl, b4⟩))
    all_goals
      have q9 := (((HBX.out.below (undrew b2)).below b3).below b4).at_ (j := 9) rfl
      go_wp2
      go_ret
      exact ⟨rfl, HBW.out.trans (((undrew b2).mono (by simp)).trans ((b3.mono (Nat.le_trans (by simp) b2.size)).trans (b4.mono (Nat.le_trans (Nat.le_trans (by simp) b2.size) b3.size))))⟩
  · rw [if_pos rfl]
    have p5 := fun w => run_string_add_sum (P := Try.prog) w ((⟨#[40]⟩ : ByteArray) ++ I ++ ⟨#[32, 94]⟩ ++ A ++ ⟨#[32]⟩ ++ V) ⟨#[32, 43]⟩ (by simp only [cat2_size]; show 1 + I.size + 2 + A.size + 1 + V.size + 2 ≤ _; omega)
    have p6 := fun w => run_string_add_sum (P := Try.prog) w ((⟨#[40]⟩ : ByteArray) ++ I ++ ⟨#[32, 94]⟩ ++ A ++ ⟨#[32]⟩ ++ V ++ ⟨#[32, 43]⟩) ⟨#[41]⟩ (by simp only [cat2_size]; show 1 + I.size + 2 + A.size + 1 + V.size + 2 + 1 ≤ _; omega)
    go_enter Try.func42, Try.ntmps42
    go_wp2
    go_region_held3 (fun w' => w'.cell? ⟨w.heap.size, 0, none⟩ = some (.int .i64 ik) ∧ w'.cell? ⟨w.heap.size, 1, none⟩ = some (.string it) ∧ w'.cell? ⟨w.heap.size, 2, none⟩ = some (.int .i64 in_) ∧ w'.cell? ⟨w.heap.size, 3, none⟩ = some (.int .i64 ak) ∧ w'.cell? ⟨w.heap.size, 4, none⟩ = some (.string at_) ∧ w'.cell? ⟨w.heap.size, 5, none⟩ = some (.int .i64 an) ∧ w'.cell? ⟨w.heap.size, 6, none⟩ = some (.int .i64 vk) ∧ w'.cell? ⟨w.heap.size, 7, none⟩ = some (.string vt) ∧ w'.cell? ⟨w.heap.size, 8, none⟩ = some (.int .i64 vn)) (first | (have B1 := HBX.out; exact ⟨B1.at_ rfl, B1.at_ rfl, B1.at_ rfl, B1.at_ rfl, B1.at_ rfl, B1.at_ rfl, B1.at_ rfl, B1.at_ rfl, B1.at_ rfl⟩) | (have B2 := HBX.out.below (undrew b2); exact ⟨B2.at_ rfl, B2.at_ rfl, B2.at_ rfl, B2.at_ rfl, B2.at_ rfl, B2.at_ rfl, B2.at_ rfl, B2.at_ rfl, B2.at_ rfl⟩) | (have B3 := (HBX.out.below (undrew b2)).below b3; exact ⟨B3.at_ rfl, B3.at_ rfl, B3.at_ rfl, B3.at_ rfl, B3.at_ rfl, B3.at_ rfl, B3.at_ rfl, B3.at_ rfl, B3.at_ rfl⟩) | (have B4 := ((HBX.out.below (undrew b2)).below b3).below b4; exact ⟨B4.at_ rfl, B4.at_ rfl, B4.at_ rfl, B4.at_ rfl, B4.at_ rfl, B4.at_ rfl, B4.at_ rfl, B4.at_ rfl, B4.at_ rfl⟩)) (first | (go_at_call 78; (with_reducible refine (HI.out _).mono ?_); rintro e w2 ⟨rfl, b2⟩) | (go_at_call 78; (with_reducible refine (HA.out _).mono ?_); rintro e w3 ⟨rfl, b3⟩) | (go_at_call 78; (with_reducible refine (HV.out _).mono ?_); rintro e w4 ⟨rfl, b4⟩))
    all_goals
      have q9 := (((HBX.out.below (undrew b2)).below b3).below b4).at_ (j := 9) rfl
      go_wp2
      go_ret
      exact ⟨rfl, HBW.out.trans (((undrew b2).mono (by simp)).trans ((b3.mono (Nat.le_trans (by simp) b2.size)).trans (b4.mono (Nat.le_trans (Nat.le_trans (by simp) b2.size) b3.size))))⟩

set_option maxRecDepth 100000 in
set_option maxHeartbeats 4000000 in
theorem refElem_any (e : El) (hi : e.i.t.size ≤ 9223372036854775807) (ha : e.a.t.size ≤ 9223372036854775807) (hv : e.v.t.size ≤ 9223372036854775807) (w : World) :
    Calls Try.prog 43 #[e.val] w fun x w' => x = .returned (.string (elemS e)) ∧ Below w.heap.size w w' := by
  have hI := fun w => refText_any e.i hi w
  have hA := fun w => refText_any e.a ha w
  have hV := fun w => refText_any e.v hv w
  have zi := symS_size e.i
  have za := symS_size e.a
  have zv := symS_size e.v
  have hmix : Try.prog.follows .mixedOrders = true := by kernel_rfl
  obtain ⟨⟨ik, it, in_⟩, ⟨ak, at_, an⟩, ⟨vk, vt, vn⟩, acc, goal, tag⟩ := e
  unfold elemS El.val
  simp only at hI hA hV zi za zv ⊢
  clear hi ha hv
  generalize symS ⟨ik, it, in_⟩ = I at hI zi ⊢
  generalize symS ⟨ak, at_, an⟩ = A at hA za ⊢
  generalize symS ⟨vk, vt, vn⟩ = V at hV zv ⊢
  unfold Sm.val at hI hA hV
  simp only at hI hA hV
  have HI := Lib.hid hI
  have HA := Lib.hid hA
  have HV := Lib.hid hV
  clear hI hA hV
  have hbx := BoxC.new w [.int .i64 ik, .string it, .int .i64 in_, .int .i64 ak, .string at_, .int .i64 an, .int .i64 vk, .string vt, .int .i64 vn, .bool acc, .bool goal, .int .i64 tag] 74
  have hbw : Below w.heap.size w (w.alloc (.cells #[.int .i64 ik, .string it, .int .i64 in_, .int .i64 ak, .string at_, .int .i64 an, .int .i64 vk, .string vt, .int .i64 vn, .bool acc, .bool goal, .int .i64 tag] 74)) := (Below.refl _ w).alloc (Nat.le_refl _) _
  have HBX : Hid (BoxC (w.alloc (.cells #[.int .i64 ik, .string it, .int .i64 in_, .int .i64 ak, .string at_, .int .i64 an, .int .i64 vk, .string vt, .int .i64 vn, .bool acc, .bool goal, .int .i64 tag] 74)) w.heap.size 74 [.int .i64 ik, .string it, .int .i64 in_, .int .i64 ak, .string at_, .int .i64 an, .int .i64 vk, .string vt, .int .i64 vn, .bool acc, .bool goal, .int .i64 tag]) := Lib.hid hbx
  have HBW := Lib.hid hbw
  clear hbx hbw
  have p0 := fun w => run_string_add_sum (P := Try.prog) w ((⟨#[40]⟩ : ByteArray)) I (by show 1 + I.size ≤ _; omega)
  have p1 := fun w => run_string_add_sum (P := Try.prog) w ((⟨#[40]⟩ : ByteArray) ++ I) ⟨#[32, 94]⟩ (by simp only [cat2_size]; show 1 + I.size + 2 ≤ _; omega)
  have p2 := fun w => run_string_add_sum (P := Try.prog) w ((⟨#[40]⟩ : ByteArray) ++ I ++ ⟨#[32, 94]⟩) A (by simp only [cat2_size]; show 1 + I.size + 2 + A.size ≤ _; omega)
  have p3 := fun w => run_string_add_sum (P := Try.prog) w ((⟨#[40]⟩ : ByteArray) ++ I ++ ⟨#[32, 94]⟩ ++ A) ⟨#[32]⟩ (by simp only [cat2_size]; show 1 + I.size + 2 + A.size + 1 ≤ _; omega)
  have p4 := fun w => run_string_add_sum (P := Try.prog) w ((⟨#[40]⟩ : ByteArray) ++ I ++ ⟨#[32, 94]⟩ ++ A ++ ⟨#[32]⟩) V (by simp only [cat2_size]; show 1 + I.size + 2 + A.size + 1 + V.size ≤ _; omega)
  rcases acc with _ | _
  · rw [if_neg (by decide)]
    have p5 := fun w => run_string_add_sum (P := Try.prog) w ((⟨#[40]⟩ : ByteArray) ++ I ++ ⟨#[32, 94]⟩ ++ A ++ ⟨#[32]⟩ ++ V) ⟨#[41]⟩ (by simp only [cat2_size]; show 1 + I.size + 2 + A.size + 1 + V.size + 1 ≤ _; omega)
    go_enter Try.func43, Try.ntmps43
    go_wp2
    go_region_held3 (fun w' => w'.cell? ⟨w.heap.size, 0, none⟩ = some (.int .i64 ik) ∧ w'.cell? ⟨w.heap.size, 1, none⟩ = some (.string it) ∧ w'.cell? ⟨w.heap.size, 2, none⟩ = some (.int .i64 in_) ∧ w'.cell? ⟨w.heap.size, 3, none⟩ = some (.int .i64 ak) ∧ w'.cell? ⟨w.heap.size, 4, none⟩ = some (.string at_) ∧ w'.cell? ⟨w.heap.size, 5, none⟩ = some (.int .i64 an) ∧ w'.cell? ⟨w.heap.size, 6, none⟩ = some (.int .i64 vk) ∧ w'.cell? ⟨w.heap.size, 7, none⟩ = some (.string vt) ∧ w'.cell? ⟨w.heap.size, 8, none⟩ = some (.int .i64 vn)) (first | (have B1 := HBX.out; exact ⟨B1.at_ rfl, B1.at_ rfl, B1.at_ rfl, B1.at_ rfl, B1.at_ rfl, B1.at_ rfl, B1.at_ rfl, B1.at_ rfl, B1.at_ rfl⟩) | (have B2 := HBX.out.below (undrew b2); exact ⟨B2.at_ rfl, B2.at_ rfl, B2.at_ rfl, B2.at_ rfl, B2.at_ rfl, B2.at_ rfl, B2.at_ rfl, B2.at_ rfl, B2.at_ rfl⟩) | (have B3 := (HBX.out.below (undrew b2)).below b3; exact ⟨B3.at_ rfl, B3.at_ rfl, B3.at_ rfl, B3.at_ rfl, B3.at_ rfl, B3.at_ rfl, B3.at_ rfl, B3.at_ rfl, B3.at_ rfl⟩) | (have B4 := ((HBX.out.below (undrew b2)).below b3).below b4; exact ⟨B4.at_ rfl, B4.at_ rfl, B4.at_ rfl, B4.at_ rfl, B4.at_ rfl, B4.at_ rfl, B4.at_ rfl, B4.at_ rfl, B4.at_ rfl⟩)) (first | (go_at_call 79; (with_reducible refine (HI.out _).mono ?_); rintro e w2 ⟨rfl, b2⟩) | (go_at_call 79; (with_reducible refine (HA.out _).mono ?_); rintro e w3 ⟨rfl, b3⟩) | (go_at_call 79; (with_reducible refine (HV.out _).mono ?_); rintro e w4 ⟨rfl, b4⟩))
    all_goals
      have q9 := (((HBX.out.below (undrew b2)).below b3).below b4).at_ (j := 9) rfl
      go_wp2
      go_ret
      exact ⟨rfl, HBW.out.trans (((undrew b2).mono (by simp)).trans ((b3.mono (Nat.le_trans (by simp) b2.size)).trans (b4.mono (Nat.le_trans (Nat.le_trans (by simp) b2.size) b3.size))))⟩
  · rw [if_pos rfl]
    have p5 := fun w => run_string_add_sum (P := Try.prog) w ((⟨#[40]⟩ : ByteArray) ++ I ++ ⟨#[32, 94]⟩ ++ A ++ ⟨#[32]⟩ ++ V) ⟨#[32, 43]⟩ (by simp only [cat2_size]; show 1 + I.size + 2 + A.size + 1 + V.size + 2 ≤ _; omega)
    have p6 := fun w => run_string_add_sum (P := Try.prog) w ((⟨#[40]⟩ : ByteArray) ++ I ++ ⟨#[32, 94]⟩ ++ A ++ ⟨#[32]⟩ ++ V ++ ⟨#[32, 43]⟩) ⟨#[41]⟩ (by simp only [cat2_size]; show 1 + I.size + 2 + A.size + 1 + V.size + 2 + 1 ≤ _; omega)
    go_enter Try.func43, Try.ntmps43
    go_wp2
    go_region_held3 (fun w' => w'.cell? ⟨w.heap.size, 0, none⟩ = some (.int .i64 ik) ∧ w'.cell? ⟨w.heap.size, 1, none⟩ = some (.string it) ∧ w'.cell? ⟨w.heap.size, 2, none⟩ = some (.int .i64 in_) ∧ w'.cell? ⟨w.heap.size, 3, none⟩ = some (.int .i64 ak) ∧ w'.cell? ⟨w.heap.size, 4, none⟩ = some (.string at_) ∧ w'.cell? ⟨w.heap.size, 5, none⟩ = some (.int .i64 an) ∧ w'.cell? ⟨w.heap.size, 6, none⟩ = some (.int .i64 vk) ∧ w'.cell? ⟨w.heap.size, 7, none⟩ = some (.string vt) ∧ w'.cell? ⟨w.heap.size, 8, none⟩ = some (.int .i64 vn)) (first | (have B1 := HBX.out; exact ⟨B1.at_ rfl, B1.at_ rfl, B1.at_ rfl, B1.at_ rfl, B1.at_ rfl, B1.at_ rfl, B1.at_ rfl, B1.at_ rfl, B1.at_ rfl⟩) | (have B2 := HBX.out.below (undrew b2); exact ⟨B2.at_ rfl, B2.at_ rfl, B2.at_ rfl, B2.at_ rfl, B2.at_ rfl, B2.at_ rfl, B2.at_ rfl, B2.at_ rfl, B2.at_ rfl⟩) | (have B3 := (HBX.out.below (undrew b2)).below b3; exact ⟨B3.at_ rfl, B3.at_ rfl, B3.at_ rfl, B3.at_ rfl, B3.at_ rfl, B3.at_ rfl, B3.at_ rfl, B3.at_ rfl, B3.at_ rfl⟩) | (have B4 := ((HBX.out.below (undrew b2)).below b3).below b4; exact ⟨B4.at_ rfl, B4.at_ rfl, B4.at_ rfl, B4.at_ rfl, B4.at_ rfl, B4.at_ rfl, B4.at_ rfl, B4.at_ rfl, B4.at_ rfl⟩)) (first | (go_at_call 79; (with_reducible refine (HI.out _).mono ?_); rintro e w2 ⟨rfl, b2⟩) | (go_at_call 79; (with_reducible refine (HA.out _).mono ?_); rintro e w3 ⟨rfl, b3⟩) | (go_at_call 79; (with_reducible refine (HV.out _).mono ?_); rintro e w4 ⟨rfl, b4⟩))
    all_goals
      have q9 := (((HBX.out.below (undrew b2)).below b3).below b4).at_ (j := 9) rfl
      go_wp2
      go_ret
      exact ⟨rfl, HBW.out.trans (((undrew b2).mono (by simp)).trans ((b3.mono (Nat.le_trans (by simp) b2.size)).trans (b4.mono (Nat.le_trans (Nat.le_trans (by simp) b2.size) b3.size))))⟩

end Go.Proofs.Ytgeaccoobhigcaa
