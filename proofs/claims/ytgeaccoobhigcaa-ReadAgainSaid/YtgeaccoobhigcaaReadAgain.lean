/-
  The law ReadAgain holds for every input: the given statement Rows.ReadAgainSaid, without any condition of its own.
-/
import Derived.Test.YtgeaccoobhigcaaGH
import Derived.Test.YtgeaccoobhigcaaGI
import Derived.ProofKit
import Derived.OpenShut
import Derived.ShutString
import Derived.ChangeOld
import Derived.Below
namespace Go.Proofs.Ytgeaccoobhigcaa
open Go Go.RowKit

theorem allF_fine : ∀ (n : Nat) (ts : List Tk) (acc : List Pd), (∀ p ∈ acc, shapeE p = 0) → ((allF n ts acc).2.2 ≠ 0 ∧ (allF n ts acc).1 = []) ∨ ((allF n ts acc).2.2 = 0 ∧ ∀ p ∈ (allF n ts acc).1, shapeE p = 0)
  | 0, ts, acc, _ => .inr ⟨rfl, fun p hp => by cases hp⟩
  | n + 1, ts, acc, h => by
    by_cases hk : (headT ts).kind = 5
    · rw [allF_end hk]; exact .inr ⟨rfl, h⟩
    · cases hp : pProd ts with
      | bad q => rw [allF_bad hk hp]; exact .inl ⟨(by decide : (5 : Int) ≠ 0), rfl⟩
      | ok p ts' =>
        by_cases hs : shapeE p = 0
        · rw [allF_next hk hp hs]
          exact allF_fine n ts' _ fun x hx => by
            rcases List.mem_append.1 hx with hx | hx
            · exact h x hx
            · rw [List.mem_singleton.1 hx]; exact hs
        · rw [allF_shape hk hp hs]; exact .inl ⟨hs, rfl⟩
theorem allF_len : ∀ (n : Nat) (ts : List Tk) (acc : List Pd), (allF n ts acc).1.length ≤ acc.length + ts.length
  | 0, ts, acc => by simp [allF]
  | n + 1, ts, acc => by
    by_cases hk : (headT ts).kind = 5
    · rw [allF_end hk]; exact Nat.le_add_right _ _
    · cases hp : pProd ts with
      | bad q => rw [allF_bad hk hp]; simp
      | ok p ts' =>
        by_cases hs : shapeE p = 0
        · rw [allF_next hk hp hs]
          have h1 := allF_len n ts' (acc ++ [p])
          have h2 := pProd_eats _ _ _ hp
          rw [List.length_append] at h1
          simp only [List.length_cons, List.length_nil] at h1
          omega
        · rw [allF_shape hk hp hs]; simp
/-- Printed productions one behind the other are read as these. -/
theorem allF_back : ∀ (l : List Pd) (n : Nat) (ts : List Tk) (acc : List Pd), (∀ p ∈ l, shapeE p = 0) → l.length < n → ts.map Tk.kt = l.flatMap prodK ++ [(5, [])] → allF n ts acc = (acc ++ l, -1, 0)
  | _, 0, _, _, _, h, _ => by omega
  | [], n + 1, ts, acc, _, _, h => by
    rw [allF_end (congrArg Prod.fst (hd_of (R := []) h).1), List.append_nil]
  | p :: l, n + 1, ts, acc, hs, hn, h => by
    rw [List.flatMap_cons, List.append_assoc] at h
    have h0 := hs p (by simp)
    obtain ⟨ts', h1, h2⟩ := Reads.prod h0 ts _ h trivial
    have hk : (headT ts).kind ≠ 5 := by
      have : (headT ts).kt = (1, [115, 112]) := by rw [hd_kt, h]; rfl
      have : (headT ts).kind = 1 := congrArg Prod.fst this
      omega
    rw [allF_next hk h1 h0, allF_back l n ts' _ (fun x hx => hs x (by simp [hx])) (by simpa using hn) h2, List.append_assoc]
    rfl
def textsT (l : List Pd) : Bs := l.flatMap fun p => (prodT p).data.toList
theorem kts_texts : ∀ (l : List Pd), (∀ p ∈ l, shapeE p = 0) → kts (textsT l) = l.flatMap prodK ++ [(5, [])]
  | [], _ => kts_nil
  | p :: l, h => by
    unfold textsT
    rw [List.flatMap_cons, kts_prod _ (h p (by simp)), List.flatMap_cons, List.append_assoc]
    exact congrArg (prodK p ++ ·) (kts_texts l fun x hx => h x (by simp [hx]))
theorem all_back {l : List Pd} (h : ∀ p ∈ l, shapeE p = 0) : allR (toks (textsT l)) = (l, -1, 0) := by
  have hk : (toks (textsT l)).map Tk.kt = l.flatMap prodK ++ [(5, [])] := kts_texts l h
  unfold allR
  rw [allF_back l _ _ [] h ?_ hk, List.nil_append]
  have h1 := congrArg List.length hk
  rw [List.length_map, List.length_append] at h1
  have h2 : l.length ≤ (l.flatMap prodK).length := by
    clear h hk h1
    induction l with
    | nil => simp
    | cons x l ih =>
      rw [List.flatMap_cons, List.length_append, List.length_cons]
      have : 1 ≤ (prodK x).length := by unfold prodK; simp
      omega
  omega
theorem textsT_snoc (l : List Pd) (p : Pd) : textsT (l ++ [p]) = textsT l ++ (prodT p).data.toList := by unfold textsT; rw [List.flatMap_append]; simp

set_option maxRecDepth 100000 in
set_option maxHeartbeats 4000000 in
theorem readAgain_walk (s : ByteArray) (w : World) (_ : s.size ≤ maxLen) : Calls Try.prog 20 #[.string s] w fun x w' => x = .returned (.bool true) ∧ Below w.heap.size w w' := by
  by_cases h3 : s.size ≤ 3000
  · have h3' : ¬ (3000 : Int) < (s.size : Int) := by omega
    have hA := all_any s (by omega) w
    have hfine := allF_fine ((toks s.data.toList).length + 1) (toks s.data.toList) [] (by simp)
    have hlen := allF_len ((toks s.data.toList).length + 1) (toks s.data.toList) []
    have htl := toks_length s.data.toList
    rw [size_toList] at htl
    unfold allR at hA
    generalize allF ((toks s.data.toList).length + 1) (toks s.data.toList) [] = R at hA hfine hlen
    have HA := Lib.hid hA
    clear hA
    obtain ⟨R1, at_, e⟩ := R
    simp only at hfine hlen
    go_enter Try.func20, Try.ntmps20
    go_wp2_with fail
    refine HA.out.mono ?_
    rintro x w1 ⟨⟨v, rfl, b, l, hb0, hbw, ho, hl⟩, b1⟩
    simp only at hl ⊢
    obtain ⟨ao, c, rfl, hd⟩ := ho.deep
    have hll : l.length = R1.length := by rw [← hl, List.length_map]
    obtain ⟨n, hn⟩ : ∃ n, n = l.length := ⟨_, rfl⟩
    rw [← hn] at hd ⊢
    have HB1 := Lib.hid b1
    have HN := Lib.hid hn
    have hn3 : n ≤ 3001 := by simp at hlen; omega
    clear HA ho hb0 b1
    rcases hfine with ⟨he, hnil⟩ | ⟨he, hsh⟩
    · have e1 : (e != 0) = true := by simp [he]
      have hn0 : n = 0 := by rw [hn, hll, hnil]; rfl
      subst hn0
      clear he hnil hn hd hl hll hlen
      go_wp2_with (go_at_call 49; refine (wakes8_any _).mono ?_; rintro e w6 ⟨rfl, b6⟩)
      go_ret
      exact ⟨rfl, below_trans HB1.out b6⟩
    · subst he
      have hcap := hd.sl.2.1
      have hmx := hd.sl.2.2.1
      unfold maxLen at hmx
      have HD := Lib.hid hd
      have HL := Lib.hid hl
      have hsh2 : ∀ p ∈ l, shapeE p.abs = 0 := fun p hp => hsh _ (by rw [← hl]; exact List.mem_map_of_mem hp)
      have HSH := Lib.hid hsh2
      have hback := all_back hsh
      rw [← hl] at hback
      have HBK := Lib.hid hback
      clear hd hl hll hsh hsh2 hback hlen hbw hn
      go_wp2_with fail
      go_loopw [6, 7] (fun tu ti wr => ∃ (i : Nat) (U : ByteArray), i ≤ n ∧ tu = .string U ∧ ti = .int .i64 i ∧ Hid (U.data.toList = textsT ((l.map ProdR.abs).take i)) ∧ U.size ≤ i * 1099511627776 ∧ Below w1.heap.size w1 wr) (fun _ ti _ => n - (intOf ti).toNat)
      case atStart => exact ⟨0, ⟨#[]⟩, by omega, rfl, rfl, Lib.hid rfl, Nat.le_of_eq rfl, Below.refl _ _⟩
      case round =>
        obtain ⟨i, U, hi, rfl, rfl, HU, hUz, hb⟩ := hrel
        by_cases hlt : i < n
        · obtain ⟨p, hp⟩ : ∃ p, l[i]? = some p := ⟨_, List.getElem?_eq_getElem (by rw [← HN.out]; exact hlt)⟩
          have hpm := List.mem_of_getElem? hp
          have hok := (HD.out.ok p hpm)
          have hok : p.Mem wr := ProdR.Mem.kept hok hb
          have hs0 := HSH.out p hpm
          have hz := prodT_size hok hs0
          have hS := fun W (hW : Below wr.heap.size wr W) => showProd_any p W (hok.kept hW) (by rw [condsN_abs]; have := (shapeE_parts hs0).2.2.1; have h2 : cdsN p.abs.conds = cdsN (absL p.conds) := rfl; omega)
          rw [hs0, show prodTx p.abs = prodT p.abs from if_pos hs0] at hS
          have hU2 : Hid ((U ++ prodT p.abs).data.toList = textsT ((l.map ProdR.abs).take (i + 1))) := Lib.hid (by
            rw [data_cat, HU.out, List.take_add_one, List.getElem?_map, hp]
            exact (textsT_snoc _ _).symm)
          have hz2 : (U ++ prodT p.abs).size ≤ (i + 1) * 1099511627776 := by rw [cat2_size]; omega
          obtain ⟨ga, oa, e, hpc⟩ := (SlR.kept HD.out.sl hb).row_at prodR_len (by omega) hp
          subst e
          generalize prodT p.abs = T at hz hS hU2 hz2
          obtain ⟨pn, pca, pcn, pcc, pcs, paa, pan, pac, pas⟩ := p
          have x0 : wr.cell? ⟨ga, oa + i * 3, none⟩ = some (.string pn) := hpc 0 _ rfl
          have x1 : wr.cell? ⟨ga, oa + i * 3 + 1, none⟩ = some (.slice pca pcn pcc) := hpc 1 _ rfl
          have x2 : wr.cell? ⟨ga, oa + i * 3 + 2, none⟩ = some (.slice paa pan pac) := hpc 2 _ rfl
          have hv : ProdR.val ⟨pn, pca, pcn, pcc, pcs, paa, pan, pac, pas⟩ = .agg #[.string pn, .slice pca pcn pcc, .slice paa pan pac] := rfl
          rw [hv] at hS
          have HS := Lib.hid (hS wr (Below.refl _ _))
          have hii : (i : Int) < (n : Int) := by omega
          have hUz2 : U.size ≤ 3299634395955776 := Nat.le_trans hUz (Nat.le_trans (Nat.mul_le_mul_right _ (show i ≤ 3001 by omega)) (by decide))
          clear hS hv hpc hok hs0 hpm hp
          go_wp2_with fail
          refine HS.out.mono ?_
          rintro e w5 ⟨rfl, b5⟩
          have hb5 := below_trans hb b5
          go_wp2
          go_roundw
          case rel => exact ⟨i + 1, _, by omega, rfl, by go_num, hU2, hz2, hb5⟩
          case measure => simp [intOf]; omega
        · obtain rfl : i = n := by omega
          have hil' : ¬ (i : Int) < (i : Int) := by omega
          have HU2 : Hid (U.data.toList = textsT (l.map ProdR.abs)) := Lib.hid (by rw [HU.out, List.take_of_length_le (by rw [List.length_map, HN.out]; exact Nat.le_refl _)])
          by_cases hz : U.size ≤ 32768
          · have hz' : ¬ (32768 : Int) < (U.size : Int) := by omega
            have hO := fun w => all_any U hz w
            rw [HU2.out, HBK.out] at hO
            have HO := Lib.hid hO
            clear hO hz HU
            go_wp2_with fail
            refine (HO.out _).mono ?_
            rintro e w4 ⟨⟨v, rfl, b', m, hb0, hbw, ho, hm⟩, b4⟩
            simp only at hm ⊢
            obtain ⟨mo, mc, rfl, hmd⟩ := ho.deep
            have hb5 := below_trans hb b4
            have hK := kProds_same l m ao mo i m.length c mc w4 (SlR.kept HD.out.sl hb5) (fun p hp => ProdR.Mem.kept (HD.out.ok p hp) hb5) hmd.sl hmd.ok hm.symm
            have HK := Lib.hid hK
            have HB5 := Lib.hid (below_trans HB1.out hb5)
            clear hK ho hmd hm b4 hb5
            go_wp2_with fail
            refine HK.out.mono ?_
            rintro e w5 ⟨rfl, b5⟩
            have HB6 := Lib.hid (below_trans HB5.out b5)
            clear b5
            go_wp2_with (go_at_call 49; refine (wakes8_any _).mono ?_; rintro e w6 ⟨rfl, b6⟩)
            go_ret
            exact ⟨rfl, below_trans HB6.out b6⟩
          · have hz' : (32768 : Int) < (U.size : Int) := by omega
            have HB5 := Lib.hid (below_trans HB1.out hb)
            clear hz HU hb
            go_wp2_with (go_at_call 49; refine (wakes8_any _).mono ?_; rintro e w6 ⟨rfl, b6⟩)
            go_ret
            exact ⟨rfl, below_trans HB5.out b6⟩
  · have h3' : (3000 : Int) < (s.size : Int) := by omega
    go_enter Try.func20, Try.ntmps20
    go_wp2_with (go_at_call 49; refine (wakes8_any _).mono ?_; rintro e w6 ⟨rfl, b6⟩)
    go_ret
    exact ⟨rfl, b6⟩
end Go.Proofs.Ytgeaccoobhigcaa
namespace Go.Proofs.Ytgeaccoobhigcaa
open Go.ChangeShapes Go.WideShapes Go.ChangeAt Go.RowKit
open Go.ChangeMaps (open_string shut_string)

theorem readAgain_own : ownKnob Try.prog.godebug = none := by kernel_rfl
theorem readAgain_laidOut : laidOutB Try.prog = true := by kernel_rfl

set_option maxRecDepth 100000 in
theorem readAgain_lifted (os : Os) (started : os.Started) (H : Type) (enc : TypeId × Value → H) :
    ReturnsInHanded {} Try.checked os 20 .any (Rows.readAgainSpec.pre6 enc Try.prog Try.f20 Rows.readAgainRow.domain false) (Rows.readAgainSpec.post enc Try.prog Try.f20 false true false false) := by
  refine returnsInHanded_of_change (C := Try.checked) readAgain_own started (by kernel_rfl) Try.func20
    (ChangeSpec.witness6 (enc := enc) (C := Try.checked) false ⟨#[], #[.string ⟨#[]⟩], []⟩ 8 (by kernel_rfl) (by kernel_rfl) (by kernel_rfl) (by kernel_rfl)) ?_
  intro W base args ds gs before hval0 hW _ _
  have hval : ∀ (j : Nat) t v, Try.f20.params[j]? = some t → args[j]? = some v → Value.okWide Try.prog W .any base t v := hval0
  have hW' := hW
  obtain ⟨p, q, hA0, hV, rfl, hfz, hnd⟩ := hW
  have hA : DataW.TrodAll enc Try.prog W 0 (fun _ => true) true Try.f20.params.toList args.toList ds p := hA0
  rw [Try.params20] at hA hval
  obtain ⟨v0, vs0, d0, ds0, p0, q0, hargs, rfl, rfl, h0, r0⟩ := trodAll_cons hA
  obtain ⟨rfl, rfl, rfl⟩ := trodAll_nil r0
  obtain rfl : args = #[v0] := by cases args; simp_all
  obtain ⟨rfl, rfl⟩ := trodVars_none hV
  obtain ⟨a0, rfl, rfl, rfl, w0⟩ := open_string Try.underlying9 (hval 0 9 v0 rfl rfl) h0
  clear hA0 hval0
  refine (readAgain_walk a0 W w0).mono fun e W' ⟨he, bel⟩ => ?_
  subst he
  exact ⟨_, rfl, _, _, _, [], _, [], hW', trodAll_mk1 (shut_bool Try.underlying4 _), (trodAll_cons_mk (shut_string Try.underlying9 w0) trodAll_mk0), rfl, bel.frame _, fun h => by cases h⟩

/-- THE GIVEN STATEMENT. -/
theorem readAgain_holds : Rows.ReadAgainSaid :=
  OpenClaim.holds_of_wide 20 Try.f20 rfl rfl rfl rfl rfl rfl rfl ⟨rfl, rfl, rfl, rfl, rfl⟩ rfl rfl rfl rfl rfl (by kernel_rfl) Try.func20 (by kernel_rfl)
    (of_decide_eq_true (by kernel_rfl)) (by unfold Func.isWrapper; first | (rw [if_pos (by decide +kernel)]; kernel_rfl) | (rw [if_neg (by decide +kernel)]; exact ⟨rfl, rfl⟩))
    (fun os started H enc _ => readAgain_lifted os started H enc)
#print axioms readAgain_holds
end Go.Proofs.Ytgeaccoobhigcaa
