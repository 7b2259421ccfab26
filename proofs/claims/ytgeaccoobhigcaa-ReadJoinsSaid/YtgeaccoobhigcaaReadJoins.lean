/-
  The law ReadJoins holds for every input: the given statement Rows.ReadJoinsSaid, without any condition of its own.
-/
import Derived.Test.YtgeaccoobhigcaaGH
import Derived.Test.YtgeaccoobhigcaaGI
import Derived.Test.YtgeaccoobhigcaaGJ
import Derived.ProofKit
import Derived.OpenShut
import Derived.ShutString
import Derived.ChangeOld
import Derived.Below
namespace Go.Proofs.Ytgeaccoobhigcaa
open Go Go.RowKit

theorem allF_fine : ∀ (n : Nat) (ts : List Tk) (acc : List Pd), (∀ p ∈ acc, shapeE p = 0) → ((allF n ts acc).2.2 ≠ 0 ∧ (allF n ts acc).1 = []) ∨ ((allF n ts acc).2.2 = 0 ∧ ∀ p ∈ (allF n ts acc).1, shapeE p = 0)
  | 0, ts, acc, _ => .inr ⟨rfl, fun p hp => by cases hp⟩
  | n + 1, ts, acc, h => by
    by_cases hk : (headT ts).kind = 5
    · rw [allF_end hk]; exact .inr ⟨rfl, h⟩
    · cases hp : pProd ts with
      | bad q => rw [allF_bad hk hp]; exact .inl ⟨(by decide : (5 : Int) ≠ 0), rfl⟩
      | ok p ts' =>
        by_cases hs : shapeE p = 0
        · rw [allF_next hk hp hs]
          exact allF_fine n ts' _ fun x hx => by
            rcases List.mem_append.1 hx with hx | hx
            · exact h x hx
            · rw [List.mem_singleton.1 hx]; exact hs
        · rw [allF_shape hk hp hs]; exact .inl ⟨hs, rfl⟩
theorem allF_len : ∀ (n : Nat) (ts : List Tk) (acc : List Pd), (allF n ts acc).1.length ≤ acc.length + ts.length
  | 0, ts, acc => by simp [allF]
  | n + 1, ts, acc => by
    by_cases hk : (headT ts).kind = 5
    · rw [allF_end hk]; exact Nat.le_add_right _ _
    · cases hp : pProd ts with
      | bad q => rw [allF_bad hk hp]; simp
      | ok p ts' =>
        by_cases hs : shapeE p = 0
        · rw [allF_next hk hp hs]
          have h1 := allF_len n ts' (acc ++ [p])
          have h2 := pProd_eats _ _ _ hp
          rw [List.length_append] at h1
          simp only [List.length_cons, List.length_nil] at h1
          omega
        · rw [allF_shape hk hp hs]; simp
/-- Printed productions one behind the other are read as these. -/
theorem allF_back : ∀ (l : List Pd) (n : Nat) (ts : List Tk) (acc : List Pd), (∀ p ∈ l, shapeE p = 0) → l.length < n → ts.map Tk.kt = l.flatMap prodK ++ [(5, [])] → allF n ts acc = (acc ++ l, -1, 0)
  | _, 0, _, _, _, h, _ => by omega
  | [], n + 1, ts, acc, _, _, h => by
    rw [allF_end (congrArg Prod.fst (hd_of (R := []) h).1), List.append_nil]
  | p :: l, n + 1, ts, acc, hs, hn, h => by
    rw [List.flatMap_cons, List.append_assoc] at h
    have h0 := hs p (by simp)
    obtain ⟨ts', h1, h2⟩ := Reads.prod h0 ts _ h trivial
    have hk : (headT ts).kind ≠ 5 := by
      have : (headT ts).kt = (1, [115, 112]) := by rw [hd_kt, h]; rfl
      have : (headT ts).kind = 1 := congrArg Prod.fst this
      omega
    rw [allF_next hk h1 h0, allF_back l n ts' _ (fun x hx => hs x (by simp [hx])) (by simpa using hn) h2, List.append_assoc]
    rfl
def textsT (l : List Pd) : Bs := l.flatMap fun p => (prodT p).data.toList
theorem kts_texts : ∀ (l : List Pd), (∀ p ∈ l, shapeE p = 0) → kts (textsT l) = l.flatMap prodK ++ [(5, [])]
  | [], _ => kts_nil
  | p :: l, h => by
    unfold textsT
    rw [List.flatMap_cons, kts_prod _ (h p (by simp)), List.flatMap_cons, List.append_assoc]
    exact congrArg (prodK p ++ ·) (kts_texts l fun x hx => h x (by simp [hx]))
theorem all_back {l : List Pd} (h : ∀ p ∈ l, shapeE p = 0) : allR (toks (textsT l)) = (l, -1, 0) := by
  have hk : (toks (textsT l)).map Tk.kt = l.flatMap prodK ++ [(5, [])] := kts_texts l h
  unfold allR
  rw [allF_back l _ _ [] h ?_ hk, List.nil_append]
  have h1 := congrArg List.length hk
  rw [List.length_map, List.length_append] at h1
  have h2 : l.length ≤ (l.flatMap prodK).length := by
    clear h hk h1
    induction l with
    | nil => simp
    | cons x l ih =>
      rw [List.flatMap_cons, List.length_append, List.length_cons]
      have : 1 ≤ (prodK x).length := by unfold prodK; simp
      omega
  omega
theorem textsT_snoc (l : List Pd) (p : Pd) : textsT (l ++ [p]) = textsT l ++ (prodT p).data.toList := by unfold textsT; rw [List.flatMap_append]; simp

set_option maxRecDepth 100000 in
set_option maxHeartbeats 4000000 in
theorem readAgain_walk (s : ByteArray) (w : World) (_ : s.size ≤ maxLen) : Calls Try.prog 20 #[.string s] w fun x w' => x = .returned (.bool true) ∧ Below w.heap.size w w' := by
  by_cases h3 : s.size ≤ 3000
  · have h3' : ¬ (3000 : Int) < (s.size : Int) := by omega
    have hA := all_any s (by omega) w
    have hfine := allF_fine ((toks s.data.toList).length + 1) (toks s.data.toList) [] (by simp)
    have hlen := allF_len ((toks s.data.toList).length + 1) (toks s.data.toList) []
    have htl := toks_length s.data.toList
    rw [size_toList] at htl
    unfold allR at hA
    generalize allF ((toks s.data.toList).length + 1) (toks s.data.toList) [] = R at hA hfine hlen
    have HA := Lib.hid hA
    clear hA
    obtain ⟨R1, at_, e⟩ := R
    simp only at hfine hlen
    go_enter Try.func20, Try.ntmps20
    go_wp2_with fail
    refine HA.out.mono ?_
    rintro x w1 ⟨⟨v, rfl, b, l, hb0, hbw, ho, hl⟩, b1⟩
    simp only at hl ⊢
    obtain ⟨ao, c, rfl, hd⟩ := ho.deep
    have hll : l.length = R1.length := by rw [← hl, List.length_map]
    obtain ⟨n, hn⟩ : ∃ n, n = l.length := ⟨_, rfl⟩
    rw [← hn] at hd ⊢
    have HB1 := Lib.hid b1
    have HN := Lib.hid hn
    have hn3 : n ≤ 3001 := by simp at hlen; omega
    clear HA ho hb0 b1
    rcases hfine with ⟨he, hnil⟩ | ⟨he, hsh⟩
    · have e1 : (e != 0) = true := by simp [he]
      have hn0 : n = 0 := by rw [hn, hll, hnil]; rfl
      subst hn0
      clear he hnil hn hd hl hll hlen
      go_wp2_with (go_at_call 49; refine (wakes8_any _).mono ?_; rintro e w6 ⟨rfl, b6⟩)
      go_ret
      exact ⟨rfl, below_trans HB1.out b6⟩
    · subst he
      have hcap := hd.sl.2.1
      have hmx := hd.sl.2.2.1
      unfold maxLen at hmx
      have HD := Lib.hid hd
      have HL := Lib.hid hl
      have hsh2 : ∀ p ∈ l, shapeE p.abs = 0 := fun p hp => hsh _ (by rw [← hl]; exact List.mem_map_of_mem hp)
      have HSH := Lib.hid hsh2
      have hback := all_back hsh
      rw [← hl] at hback
      have HBK := Lib.hid hback
      clear hd hl hll hsh hsh2 hback hlen hbw hn
      go_wp2_with fail
      go_loopw [6, 7] (fun tu ti wr => ∃ (i : Nat) (U : ByteArray), i ≤ n ∧ tu = .string U ∧ ti = .int .i64 i ∧ Hid (U.data.toList = textsT ((l.map ProdR.abs).take i)) ∧ U.size ≤ i * 1099511627776 ∧ Below w1.heap.size w1 wr) (fun _ ti _ => n - (intOf ti).toNat)
      case atStart => exact ⟨0, ⟨#[]⟩, by omega, rfl, rfl, Lib.hid rfl, Nat.le_of_eq rfl, Below.refl _ _⟩
      case round =>
        obtain ⟨i, U, hi, rfl, rfl, HU, hUz, hb⟩ := hrel
        by_cases hlt : i < n
        · obtain ⟨p, hp⟩ : ∃ p, l[i]? = some p := ⟨_, List.getElem?_eq_getElem (by rw [← HN.out]; exact hlt)⟩
          have hpm := List.mem_of_getElem? hp
          have hok := (HD.out.ok p hpm)
          have hok : p.Mem wr := ProdR.Mem.kept hok hb
          have hs0 := HSH.out p hpm
          have hz := prodT_size hok hs0
          have hS := fun W (hW : Below wr.heap.size wr W) => showProd_any p W (hok.kept hW) (by rw [condsN_abs]; have := (shapeE_parts hs0).2.2.1; have h2 : cdsN p.abs.conds = cdsN (absL p.conds) := rfl; omega)
          rw [hs0, show prodTx p.abs = prodT p.abs from if_pos hs0] at hS
          have hU2 : Hid ((U ++ prodT p.abs).data.toList = textsT ((l.map ProdR.abs).take (i + 1))) := Lib.hid (by
            rw [data_cat, HU.out, List.take_add_one, List.getElem?_map, hp]
            exact (textsT_snoc _ _).symm)
          have hz2 : (U ++ prodT p.abs).size ≤ (i + 1) * 1099511627776 := by rw [cat2_size]; omega
          obtain ⟨ga, oa, e, hpc⟩ := (SlR.kept HD.out.sl hb).row_at prodR_len (by omega) hp
          subst e
          generalize prodT p.abs = T at hz hS hU2 hz2
          obtain ⟨pn, pca, pcn, pcc, pcs, paa, pan, pac, pas⟩ := p
          have x0 : wr.cell? ⟨ga, oa + i * 3, none⟩ = some (.string pn) := hpc 0 _ rfl
          have x1 : wr.cell? ⟨ga, oa + i * 3 + 1, none⟩ = some (.slice pca pcn pcc) := hpc 1 _ rfl
          have x2 : wr.cell? ⟨ga, oa + i * 3 + 2, none⟩ = some (.slice paa pan pac) := hpc 2 _ rfl
          have hv : ProdR.val ⟨pn, pca, pcn, pcc, pcs, paa, pan, pac, pas⟩ = .agg #[.string pn, .slice pca pcn pcc, .slice paa pan pac] := rfl
          rw [hv] at hS
          have HS := Lib.hid (hS wr (Below.refl _ _))
          have hii : (i : Int) < (n : Int) := by omega
          have hUz2 : U.size ≤ 3299634395955776 := Nat.le_trans hUz (Nat.le_trans (Nat.mul_le_mul_right _ (show i ≤ 3001 by omega)) (by decide))
          clear hS hv hpc hok hs0 hpm hp
          go_wp2_with fail
          refine HS.out.mono ?_
          rintro e w5 ⟨rfl, b5⟩
          have hb5 := below_trans hb b5
          go_wp2
          go_roundw
          case rel => exact ⟨i + 1, _, by omega, rfl, by go_num, hU2, hz2, hb5⟩
          case measure => simp [intOf]; omega
        · obtain rfl : i = n := by omega
          have hil' : ¬ (i : Int) < (i : Int) := by omega
          have HU2 : Hid (U.data.toList = textsT (l.map ProdR.abs)) := Lib.hid (by rw [HU.out, List.take_of_length_le (by rw [List.length_map, HN.out]; exact Nat.le_refl _)])
          by_cases hz : U.size ≤ 32768
          · have hz' : ¬ (32768 : Int) < (U.size : Int) := by omega
            have hO := fun w => all_any U hz w
            rw [HU2.out, HBK.out] at hO
            have HO := Lib.hid hO
            clear hO hz HU
            go_wp2_with fail
            refine (HO.out _).mono ?_
            rintro e w4 ⟨⟨v, rfl, b', m, hb0, hbw, ho, hm⟩, b4⟩
            simp only at hm ⊢
            obtain ⟨mo, mc, rfl, hmd⟩ := ho.deep
            have hb5 := below_trans hb b4
            have hK := kProds_same l m ao mo i m.length c mc w4 (SlR.kept HD.out.sl hb5) (fun p hp => ProdR.Mem.kept (HD.out.ok p hp) hb5) hmd.sl hmd.ok hm.symm
            have HK := Lib.hid hK
            have HB5 := Lib.hid (below_trans HB1.out hb5)
            clear hK ho hmd hm b4 hb5
            go_wp2_with fail
            refine HK.out.mono ?_
            rintro e w5 ⟨rfl, b5⟩
            have HB6 := Lib.hid (below_trans HB5.out b5)
            clear b5
            go_wp2_with (go_at_call 49; refine (wakes8_any _).mono ?_; rintro e w6 ⟨rfl, b6⟩)
            go_ret
            exact ⟨rfl, below_trans HB6.out b6⟩
          · have hz' : (32768 : Int) < (U.size : Int) := by omega
            have HB5 := Lib.hid (below_trans HB1.out hb)
            clear hz HU hb
            go_wp2_with (go_at_call 49; refine (wakes8_any _).mono ?_; rintro e w6 ⟨rfl, b6⟩)
            go_ret
            exact ⟨rfl, below_trans HB5.out b6⟩
  · have h3' : (3000 : Int) < (s.size : Int) := by omega
    go_enter Try.func20, Try.ntmps20
    go_wp2_with (go_at_call 49; refine (wakes8_any _).mono ?_; rintro e w6 ⟨rfl, b6⟩)
    go_ret
    exact ⟨rfl, b6⟩
end Go.Proofs.Ytgeaccoobhigcaa
namespace Go.Proofs.Ytgeaccoobhigcaa
open Go Go.RowKit

theorem OwnD.lower {α : Type} {M : Make α} {base b : Nat} {e : TypeId} {w : World} {v : Value} {l : List α} (h : OwnD M base e w v l) (hb : b ≤ base) : OwnD M b e w v l := by
  refine ⟨⟨h.own.1, ?_⟩, h.ok, fun a ha => M.mono (h.ink a ha) fun k hk => ⟨Nat.le_trans hb hk.1, hk.2⟩⟩
  rcases h.own.2 with h1 | ⟨g, cap, cur, h1, h2, h3⟩
  · exact .inl h1
  · exact .inr ⟨g, cap, cur, h1, Nat.le_trans hb h2, h3⟩
section
variable {α : Type}
/-- append of a row whose data lie elsewhere. -/
theorem wp_joined {P : Program} {o : Oper} {a : Act} {Z : Act → World → Prop} {Q : Exit → Act → World → Prop} (s x : Operand) (t : TypeId)
    (ho : o.op = .call { callee := .builtin .append, args := #[s, x], argTypes := #[t, t] })
    (M : Make α) (base b2 : Nat) (e : TypeId) (i : TypeInfo) (z : Value) (bytes : Nat) (ht : P.underlying t = some (.slice e)) (hi : P.info? e = some i) (hz : i.zero = some z)
    (hsize : i.size = M.size) (hby : i.bytes = bytes) (hzs : z.cells.size = M.size) (hbytes : bytes ≤ 1000) {w0 : World} (K : Nat → Prop)
    (v v2 : Value) (l l2 : List α) (hs : a.eval s = v) (hx : a.eval x = v2) (hO : OwnD M base e w0 v l) (hbase : base ≤ w0.heap.size)
    (hown2 : OwnD M b2 e w0 v2 l2) (hin2 : ∀ x ∈ l2, M.inK K x) (hK : ∀ b, K b → b < w0.heap.size → base ≤ b ∧ some b ≠ v.ownBlock) (hln : l.length ≤ 1000000) (hln2 : l2.length ≤ 1000001)
    (h : ∀ v' w', OwnD M base e w' v' (l ++ l2) → w0.grownBy w' v.ownBlock → Z (a.put o.dst v') w') : o.wp P a w0 Z Q := by
  unfold Oper.wp execOp
  rcases hown2.own.2 with ⟨rfl, hl2⟩ | ⟨g, cap, cur, rfl, hb, hg, hn, hc, hsz, htake⟩
  · have : l2 = [] := List.eq_nil_of_length_eq_zero hl2
    subst this
    have hrun := run_append_none (P := P) (w := w0) (i := i) o.type ht hi hO.own
    simp only [ho, resolve, invoke, builtin, Sem.run_bind, Sem.run_pure, Result.andThen_ok, List.map_toArray, List.map_cons, List.map_nil, hs, hx, hrun]
    exact h v w0 (by simpa using hO) (grownBy_refl _ _)
  · have hcell : ∀ j u, (l2.flatMap M.cells)[j]? = some u → w0.cell? ((⟨g, 0, none⟩ : Addr).add j) = some u := by
      have h2 : CellsAt w0 ⟨g, 0, none⟩ (l2.flatMap M.cells) := CellsAt.of_block hg 0 _ fun j u hj => by
        rw [← htake, List.getElem?_take] at hj
        split at hj
        · rw [Nat.zero_add]; simpa using hj
        · cases hj
      exact h2
    have hone : ∀ u ∈ l2.flatMap M.cells, u.oneCell' = true := fun u hu => by
      obtain ⟨a, _, ha⟩ := List.mem_flatMap.1 hu
      exact M.one a u ha
    obtain ⟨v', w', hrun, h2, h3, _, h5⟩ := run_append_own_at (P := P) w0 base t o.type e i z M.size bytes ht hi hz hsize hby hzs M.pos v l.length (l.flatMap M.cells) hO.own ⟨g, 0, none⟩ l2.length cap (l2.flatMap M.cells) (rows_length M.len _) hcell hone (by unfold maxLen; omega)
      (by have := Nat.mul_le_mul (show l.length + l2.length ≤ 2000001 by omega) hbytes; omega) hbase
    simp only [ho, resolve, invoke, builtin, Sem.run_bind, Sem.run_pure, Result.andThen_ok, List.map_toArray, List.map_cons, List.map_nil, hs, hx, hrun]
    exact h v' w' (hO.pushes (K := K) rfl h2 h3 h5 hown2.ok hin2 fun b hb hl => hK b hb hl) h3
theorem wpList_joined {P : Program} {ops : Array Oper} {rest : List Oper} {o : Oper} {a : Act} {Q : Exit → Act → World → Prop} {w0 : World} (hw : Region.wanted o (yielded ops a.tmps) = true) (s x : Operand) (t : TypeId)
    (ho : o.op = .call { callee := .builtin .append, args := #[s, x], argTypes := #[t, t] })
    (M : Make α) (base b2 : Nat) (e : TypeId) (i : TypeInfo) (z : Value) (bytes : Nat) (ht : P.underlying t = some (.slice e)) (hi : P.info? e = some i) (hz : i.zero = some z)
    (hsize : i.size = M.size) (hby : i.bytes = bytes) (hzs : z.cells.size = M.size) (hbytes : bytes ≤ 1000) (K : Nat → Prop)
    (v v2 : Value) (l l2 : List α) (hs : a.eval s = v) (hx : a.eval x = v2) (hO : OwnD M base e w0 v l) (hbase : base ≤ w0.heap.size)
    (hown2 : OwnD M b2 e w0 v2 l2) (hin2 : ∀ x ∈ l2, M.inK K x) (hK : ∀ b, K b → b < w0.heap.size → base ≤ b ∧ some b ≠ v.ownBlock) (hln : l.length ≤ 1000000) (hln2 : l2.length ≤ 1000001)
    (h : ∀ v' w', OwnD M base e w' v' (l ++ l2) → w0.grownBy w' v.ownBlock → wpList P ops Q rest (a.put o.dst v') w') : wpList P ops Q (o :: rest) a w0 :=
  wpList_step fun Z hZ => by
    rw [if_pos hw]
    exact wp_joined s x t ho M base b2 e i z bytes ht hi hz hsize hby hzs hbytes K v v2 l l2 hs hx hO hbase hown2 hin2 hK hln hln2 fun v' w' h1 h2 => hZ _ _ (h v' w' h1 h2)
end
theorem allF_pos : ∀ (n : Nat) (ts : List Tk) (acc : List Pd), (allF n ts acc).2.2 ≠ 0 → ∃ q : Nat, (allF n ts acc).2.1 = (q : Int) ∧ (q = 0 ∨ ∃ t ∈ ts, t.pos = q)
  | 0, _, _, h => absurd rfl h
  | n + 1, ts, acc, h => by
    by_cases hk : (headT ts).kind = 5
    · rw [allF_end hk] at h; exact absurd rfl h
    · cases hp : pProd ts with
      | bad q => rw [allF_bad hk hp]; exact ⟨q, rfl, prod_pos hp⟩
      | ok p ts' =>
        by_cases hs : shapeE p = 0
        · rw [allF_next hk hp hs] at h ⊢
          obtain ⟨q, h1, h2⟩ := allF_pos n ts' _ h
          obtain ⟨_, hT⟩ := Sh.prod.took _ _ _ hp
          exact ⟨q, h1, hT.pos h2⟩
        · rw [allF_shape hk hp hs]
          exact ⟨_, rfl, head_pos ts⟩
theorem allR_pos (l : Bs) (h : ¬ (allR (toks l)).2.2 = 0) : 0 ≤ (allR (toks l)).2.1 ∧ (allR (toks l)).2.1 ≤ l.length := by
  obtain ⟨q, h1, h2⟩ := allF_pos _ _ _ h
  have h1' : (allR (toks l)).2.1 = (q : Int) := h1
  rw [h1']
  rcases h2 with rfl | ⟨t, ht, rfl⟩
  · omega
  · have := pos_le _ _ _ (places_toks l) t ht
    omega
theorem allR_len (l : Bs) : (allR (toks l)).1.length ≤ l.length + 1 := by
  have := allF_len ((toks l).length + 1) (toks l) []
  have h2 := toks_length l
  unfold allR
  simp at this
  omega
set_option maxRecDepth 100000 in
set_option maxHeartbeats 4000000 in
theorem readJoins_walk (a b : ByteArray) (w : World) (_ : a.size ≤ maxLen) (_ : b.size ≤ maxLen) : Calls Try.prog 16 #[.string a, .string b] w fun x w' => x = .returned (.bool true) ∧ Below w.heap.size w w' := by
  by_cases h1 : a.size ≤ 1500
  · have h1' : ¬ (1500 : Int) < (a.size : Int) := by omega
    by_cases h2 : b.size ≤ 1500
    · have h2' : ¬ (1500 : Int) < (b.size : Int) := by omega
      have hA := all_any a (by omega) w
      have hB := fun w => all_any b (by omega) w
      have hC := fun w => all_any (a ++ ⟨#[10]⟩ ++ b) (by rw [cat2_size, cat2_size]; show _ + 1 + _ ≤ _; omega) w
      have hJ := all_join a.data.toList b.data.toList
      have hCd : (a ++ ⟨#[10]⟩ ++ b).data.toList = a.data.toList ++ 10 :: b.data.toList := by rw [data_cat, data_cat]; simp
      rw [hCd] at hC
      have hla := allR_len a.data.toList
      have hlb := allR_len b.data.toList
      rw [size_toList] at hla hlb hJ
      have hfa := allF_fine ((toks a.data.toList).length + 1) (toks a.data.toList) [] (by simp)
      have hfb := allF_fine ((toks b.data.toList).length + 1) (toks b.data.toList) [] (by simp)
      change ((allR (toks a.data.toList)).2.2 ≠ 0 ∧ (allR (toks a.data.toList)).1 = []) ∨ ((allR (toks a.data.toList)).2.2 = 0 ∧ ∀ p ∈ (allR (toks a.data.toList)).1, shapeE p = 0) at hfa
      change ((allR (toks b.data.toList)).2.2 ≠ 0 ∧ (allR (toks b.data.toList)).1 = []) ∨ ((allR (toks b.data.toList)).2.2 = 0 ∧ ∀ p ∈ (allR (toks b.data.toList)).1, shapeE p = 0) at hfb
      generalize allR (toks a.data.toList) = RA at hA hJ hla hfa
      have hpos := allR_pos b.data.toList
      rw [size_toList] at hpos
      generalize allR (toks b.data.toList) = RB at hB hJ hlb hfb hpos
      generalize allR (toks (a.data.toList ++ 10 :: b.data.toList)) = RC at hC hJ
      obtain ⟨RA1, aat, ae⟩ := RA
      obtain ⟨RB1, bat, be⟩ := RB
      simp only at hJ hla hlb hfa hfb hpos
      have HA := Lib.hid hA
      have HB := Lib.hid hB
      have HC := Lib.hid hC
      clear hA hB hC hCd
      go_enter Try.func16, Try.ntmps16
      go_wp2_with fail
      refine HA.out.mono ?_
      rintro x w1 ⟨⟨v, rfl, bb, l, hb0, hbw, ho, hl⟩, b1⟩
      simp only at hl ⊢
      by_cases hae : ae = 0
      · subst hae
        have hJ := hJ rfl
        obtain ⟨Z1, hZ1⟩ : ∃ Z1, (if be = 0 then RA1 ++ RB1 else []) = Z1 := ⟨_, rfl⟩
        obtain ⟨K1, hK1⟩ : ∃ K1, (if be = 0 then (-1 : Int) else bat + ((a.size + 1 : Nat) : Int)) = K1 := ⟨_, rfl⟩
        rw [hZ1, hK1] at hJ
        subst hJ
        have HO := Lib.hid ho
        have HL := Lib.hid hl
        have HB1 := Lib.hid b1
        clear ho hl b1 hb0
        go_wp2_with fail
        refine (HB.out _).mono ?_
        rintro x w2 ⟨⟨v2, rfl, bb2, l2, hb20, hbw2, ho2, hl2⟩, b2⟩
        simp only at hl2 ⊢
        have HO2 := Lib.hid ho2
        have HL2 := Lib.hid hl2
        have HB2 := Lib.hid (below_trans HB1.out b2)
        have HO1 := Lib.hid (HO.out.kept b2)
        clear ho2 hl2 b2 HO
        go_wp2_with fail
        refine (HC.out _).mono ?_
        rintro x w3 ⟨⟨v3, rfl, bb3, l3, hb30, hbw3, ho3, hl3⟩, b3⟩
        simp only at hl3 ⊢
        have HO3 := Lib.hid ho3
        have HL3 := Lib.hid hl3
        have HB3 := Lib.hid (below_trans HB2.out b3)
        have HOA := Lib.hid (HO1.out.kept b3)
        have HOB := Lib.hid (HO2.out.kept b3)
        have hsz3 := b3.size
        clear ho3 hl3 b3 HO1
        by_cases hbe : be = 0
        · subst hbe
          rw [if_pos rfl] at hZ1 hK1
          subst hZ1 hK1
          obtain ⟨i0, hi, hz0, hz1, hz2⟩ := info_parts Try.info48
          obtain ⟨ao, ac, rfl, hda⟩ := HOA.out.deep
          have hll : l.length ≤ 1501 := by
            have e := congrArg List.length HL.out
            rw [List.length_map] at e
            omega
          have HLL := Lib.hid hll
          have hll2 : l2.length ≤ 1501 := by
            have e := congrArg List.length HL2.out
            rw [List.length_map] at e
            omega
          have HLL2 := Lib.hid hll2
          have hall : ∀ p ∈ l, p.Mem w3 ∧ p.Light := fun p hp => ⟨hda.ok p hp, shape_light (hda.ok p hp) (by
            rcases hfa with ⟨h, _⟩ | ⟨_, h⟩
            · exact absurd rfl h
            · exact h _ (by rw [← HL.out]; exact List.mem_map_of_mem hp))⟩
          have HCP := Lib.hid (copyProds_any l ao l.length ac w3 (Nat.le_trans HLL.out (by decide)) hda.sl hall)
          obtain ⟨so, sc, rfl, hds⟩ := HO3.out.deep
          have HDS := Lib.hid hds
          clear hpos hall hda hds hJ hfa hfb hll hll2
          go_wp2_with fail
          refine HCP.out.mono ?_
          rintro x w4 ⟨⟨v4, m, rfl, ho4, hm⟩, b4⟩
          have hsz4 := b4.size
          have HO4 := Lib.hid (ho4.lower (show bb2 ≤ w3.heap.size by omega))
          have HOB4 := Lib.hid (HOB.out.kept b4)
          have HIN : Hid (∀ x ∈ l2, mkProd.inK (fun b => bb2 ≤ b ∧ b < w2.heap.size ∧ some b ≠ v2.ownBlock) x) := Lib.hid HO2.out.ink
          have hown : ∀ b, v4.ownBlock = some b → w3.heap.size ≤ b := fun b e => (ho4.own.lt b e).1
          have HMM : Hid (m.length ≤ 1501) := Lib.hid (by have := congrArg List.length hm; rw [List.length_map, List.length_map] at this; have := HLL.out; omega)
          have HM := Lib.hid hm
          have HB4 := Lib.hid (below_trans HB3.out b4)
          have HDS4 := Lib.hid (HDS.out.kept b4)
          have HOO := Lib.hid ho4
          clear ho4 hm
          go_wp2_with (at_builtin; refine wpList_joined rfl (.tmp 72) (.tmp 73) 91 rfl mkProd bb2 bb2 48 i0 _ 64 Try.underlying91 hi hz0 hz1 hz2 rfl (by omega) (fun b => bb2 ≤ b ∧ b < w2.heap.size ∧ some b ≠ v2.ownBlock) v4 v2 m l2 rfl rfl HO4.out (by omega) HOB4.out HIN.out (fun b hb _ => ⟨hb.1, fun e => by have := hown b e.symm; have := hb.2.1; omega⟩) (Nat.le_trans HMM.out (by decide)) (Nat.le_trans HLL2.out (by decide)) ?_; intro v5 w5 ho5 hg5)
          obtain ⟨vo, vc, rfl, hdv⟩ := ho5.deep
          have hd3 : Deep mkProd (fun b => bb3 ≤ b ∧ b < w3.heap.size) w3 so l3.length sc l3 := ⟨HDS.out.sl, HDS.out.inb.both (HDS.out.sl.inB (by decide)), HDS.out.ok, fun x hx => mkProd.lt (HDS.out.ok x hx) (HDS.out.ink x hx)⟩
          have hd5 := (hd3.kept b4).same (sameIn_of_grown hg5 fun k hk e => by have := hown k e.symm; omega)
          have hml : l3.map ProdR.abs = (m ++ l2).map ProdR.abs := by rw [HL3.out, List.map_append, HM.out, HL.out, HL2.out]
          have HK := Lib.hid (kProds_same l3 (m ++ l2) so vo l3.length (m ++ l2).length sc vc w5 hd5.sl hd5.ok hdv.sl hdv.ok hml)
          have HB5 := Lib.hid (below_grows HB4.out hg5 (fun k e => by have := hown k e; have := HB3.out.size; omega))
          clear hdv hd3 hd5 hml ho5 hg5 b4
          refine HK.out.mono ?_
          rintro x w6 ⟨rfl, b6⟩
          have HB6 := Lib.hid (below_trans HB5.out b6)
          clear b6
          go_wp2_with (go_at_call 49; refine (wakes8_any _).mono ?_; rintro e w7 ⟨rfl, b7⟩)
          go_ret
          exact ⟨rfl, below_trans HB6.out b7⟩
        · rw [if_neg hbe] at hZ1 hK1
          rw [show bat + ((a.size + 1 : Nat) : Int) = (a.size : Int) + 1 + bat by omega] at hK1
          subst hZ1 hK1
          have e0 : (be != 0) = true := by simp [hbe]
          have hl30 : l3.length = 0 := by have := congrArg List.length HL3.out; simpa using this
          obtain ⟨so, sc, rfl, hds⟩ := HO3.out.deep
          rw [hl30]
          have hbat := hpos hbe
          obtain ⟨p1, p2⟩ := hbat
          clear hds hl30 HO3 hJ hfa hfb hpos
          go_wp2_with (go_at_call 49; refine (wakes8_any _).mono ?_; rintro e w7 ⟨rfl, b7⟩)
          go_ret
          exact ⟨rfl, below_trans HB3.out b7⟩
      · have e1 : (ae != 0) = true := by simp [hae]
        clear hJ hfa hfb ho hl hpos
        go_wp2_with (go_at_call 49; refine (wakes8_any _).mono ?_; rintro e w6 ⟨rfl, b6⟩)
        go_ret
        exact ⟨rfl, below_trans b1 b6⟩
    · have h2' : (1500 : Int) < (b.size : Int) := by omega
      go_enter Try.func16, Try.ntmps16
      go_wp2_with (go_at_call 49; refine (wakes8_any _).mono ?_; rintro e w6 ⟨rfl, b6⟩)
      go_ret
      exact ⟨rfl, b6⟩
  · have h1' : (1500 : Int) < (a.size : Int) := by omega
    go_enter Try.func16, Try.ntmps16
    go_wp2_with (go_at_call 49; refine (wakes8_any _).mono ?_; rintro e w6 ⟨rfl, b6⟩)
    go_ret
    exact ⟨rfl, b6⟩
end Go.Proofs.Ytgeaccoobhigcaa
namespace Go.Proofs.Ytgeaccoobhigcaa
open Go.ChangeShapes Go.WideShapes Go.ChangeAt Go.RowKit
open Go.ChangeMaps (open_string shut_string)

theorem readJoins_own : ownKnob Try.prog.godebug = none := by kernel_rfl
theorem readJoins_laidOut : laidOutB Try.prog = true := by kernel_rfl

set_option maxRecDepth 100000 in
theorem readJoins_lifted (os : Os) (started : os.Started) (H : Type) (enc : TypeId × Value → H) :
    ReturnsInHanded {} Try.checked os 16 .any (Rows.readJoinsSpec.pre6 enc Try.prog Try.f16 Rows.readJoinsRow.domain false) (Rows.readJoinsSpec.post enc Try.prog Try.f16 false true false false) := by
  refine returnsInHanded_of_change (C := Try.checked) readJoins_own started (by kernel_rfl) Try.func16
    (ChangeSpec.witness6 (enc := enc) (C := Try.checked) false ⟨#[], #[.string ⟨#[]⟩, .string ⟨#[]⟩], []⟩ 8 (by kernel_rfl) (by kernel_rfl) (by kernel_rfl) (by kernel_rfl)) ?_
  intro W base args ds gs before hval0 hW _ _
  have hval : ∀ (j : Nat) t v, Try.f16.params[j]? = some t → args[j]? = some v → Value.okWide Try.prog W .any base t v := hval0
  have hW' := hW
  obtain ⟨p, q, hA0, hV, rfl, hfz, hnd⟩ := hW
  have hA : DataW.TrodAll enc Try.prog W 0 (fun _ => true) true Try.f16.params.toList args.toList ds p := hA0
  rw [Try.params16] at hA hval
  obtain ⟨v0, vs0, d0, ds0, p0, q0, hargs, rfl, rfl, h0, r0⟩ := trodAll_cons hA
  obtain ⟨v1, vs1, d1, ds1, p1, q1, rfl, rfl, rfl, h1, r1⟩ := trodAll_cons r0
  obtain ⟨rfl, rfl, rfl⟩ := trodAll_nil r1
  obtain rfl : args = #[v0, v1] := by cases args; simp_all
  obtain ⟨rfl, rfl⟩ := trodVars_none hV
  obtain ⟨a0, rfl, rfl, rfl, w0⟩ := open_string Try.underlying9 (hval 0 9 v0 rfl rfl) h0
  obtain ⟨a1, rfl, rfl, rfl, w1⟩ := open_string Try.underlying9 (hval 1 9 v1 rfl rfl) h1
  clear hA0 hval0
  refine (readJoins_walk a0 a1 W w0 w1).mono fun e W' ⟨he, bel⟩ => ?_
  subst he
  exact ⟨_, rfl, _, _, _, [], _, [], hW', trodAll_mk1 (shut_bool Try.underlying4 _), (trodAll_cons_mk (shut_string Try.underlying9 w0) (trodAll_cons_mk (shut_string Try.underlying9 w1) trodAll_mk0)), rfl, bel.frame _, fun h => by cases h⟩

/-- THE GIVEN STATEMENT. -/
theorem readJoins_holds : Rows.ReadJoinsSaid :=
  OpenClaim.holds_of_wide 16 Try.f16 rfl rfl rfl rfl rfl rfl rfl ⟨rfl, rfl, rfl, rfl, rfl⟩ rfl rfl rfl rfl rfl (by kernel_rfl) Try.func16 (by kernel_rfl)
    (of_decide_eq_true (by kernel_rfl)) (by unfold Func.isWrapper; first | (rw [if_pos (by decide +kernel)]; kernel_rfl) | (rw [if_neg (by decide +kernel)]; exact ⟨rfl, rfl⟩))
    (fun os started H enc _ => readJoins_lifted os started H enc)
#print axioms readJoins_holds
end Go.Proofs.Ytgeaccoobhigcaa
