/-
  How many conditions a reading can give: no more than it takes tokens. What a production's acts are read by: lists that are appended within a drawn region; how the loop goes on. One more list of acts in a production. The reader's productions: where no "sp" stands. The reader's productions: the name, and what goes wrong ahead of the acts. The reader's productions: conditions that go wrong. The reader's productions: no arrow behind the conditions. The reader's productions: the acts. The reader's productions, whatever stands there.
-/
import Derived.Test.YtgeaccoobhigcaaGreatGC
import Derived.Test.YtgeaccoobhigcaaGreatG5
namespace Go.Proofs.YtgeaccoobhigcaaGreat
open Go Go.RowKit
/-- What was read weighs no more than the tokens that it took. -/
def Weighs {α : Type} (p : Pr α) (m : α → Nat) : Prop := ∀ ts a ts', p ts = .ok a ts' → m a + ts'.length ≤ ts.length
def sumM {α : Type} (m : α → Nat) (l : List α) : Nat := (l.map m).sum
theorem sumM_cons {α : Type} (m : α → Nat) (a : α) (l : List α) : sumM m (a :: l) = m a + sumM m l := by simp [sumM]
theorem pMany_weighs {α : Type} {p : Pr α} {m : α → Nat} (hp : Weighs p m) (stop : ByteArray) : ∀ n, Weighs (pMany p stop n) (sumM m)
  | 0, ts, a, ts', h => absurd h bad_not
  | n + 1, ts, a, ts', h => by
    unfold pMany at h
    split at h
    · cases h
      simp [sumM]
    · obtain ⟨x, t, h1, h⟩ := bind_ok.1 h
      obtain ⟨y, t2, h2, h⟩ := bind_ok.1 h
      cases h
      have g1 := hp _ _ _ h1
      have g2 := pMany_weighs hp stop n _ _ _ h2
      rw [sumM_cons]
      omega
theorem pEnds_weighs {α : Type} {p : Pr α} {m : α → Nat} (hp : Weighs p m) {stop : ByteArray} {ts : List Tk} {l : List α} {ts' : List Tk} (h : pEnds p stop ts = .ok l ts') : sumM m l + ts'.length + 1 ≤ ts.length := by
  obtain ⟨x, t, h1, h2⟩ := bind_ok.1 h
  obtain ⟨y, t1, h3, h4⟩ := bind_ok.1 h1
  obtain ⟨z, t2, h5, h6⟩ := bind_ok.1 h4
  obtain ⟨_, t3, h7, h8⟩ := bind_ok.1 h2
  cases h6
  cases h8
  have := hp _ _ _ h3
  have := pMany_weighs hp stop _ _ _ _ h5
  have := pTake_eats _ _ _ _ h7
  rw [sumM_cons]
  omega
theorem cdsN_sum : ∀ l : List Cd, cdsN l = sumM cdN l
  | [] => by simp [cdsN, sumM]
  | c :: r => by rw [sumM_cons, ← cdsN_sum r]; simp only [cdsN]
theorem cdsN_append : ∀ l k : List Cd, cdsN (l ++ k) = cdsN l + cdsN k
  | [], k => by simp [cdsN]
  | c :: r, k => by simp only [List.cons_append, cdsN]; rw [cdsN_append r k]; omega
theorem cdsN_flat : ∀ l : List (List Cd), cdsN l.flatten = sumM cdsN l
  | [] => by simp [cdsN, sumM]
  | c :: r => by rw [sumM_cons, List.flatten_cons, cdsN_append, cdsN_flat r]
theorem pItem_weighs (id : ByteArray) (goal : Bool) : Weighs (pItem id goal) cdN := by
  intro ts a ts' h
  have h1 := pItem_eats id goal _ _ _ h
  have h2 : cdN a = 1 := by
    obtain ⟨_, t1, _, h⟩ := bind_ok.1 h
    obtain ⟨_, t2, _, h⟩ := bind_ok.1 h
    obtain ⟨_, t3, _, h⟩ := bind_ok.1 h
    cases h
    simp [cdN, cdsN]
  omega
theorem pClause_weighs {ts : List Tk} {l : List Cd} {ts' : List Tk} (h : pClause ts = .ok l ts') : cdsN l + ts'.length + 1 ≤ ts.length := by
  obtain ⟨_, t1, h1, h⟩ := bind_ok.1 h
  obtain ⟨x, t2, h2, h⟩ := bind_ok.1 h
  have := pTake_eats _ _ _ _ h1
  have := if_tail (goalHere (headT t1)) t1
  have := pText_eats 3 (by decide) _ _ _ h2
  have := pEnds_weighs (pItem_weighs _ _) h
  rw [cdsN_sum]
  omega
theorem negOf_weighs (l : List Cd) : cdsN (negOf l) ≤ 1 + cdsN l := by
  have h : cdsN [allOf l] = 1 + cdsN l := by simp [cdsN, cdN, allOf]
  unfold negOf
  split
  · split
    · simp [cdsN, cdN]
    · rename_i kind goal id a v acc cs _
      have : cdsN [allOf [.mk kind goal id a v acc cs]] = 1 + cdsN [.mk kind goal id a v acc cs] := by simp [cdsN, cdN, allOf]
      omega
  · omega
theorem pCond_weighs : ∀ n, Weighs (pCond n) cdsN
  | 0, ts, a, ts', h => absurd h bad_not
  | n + 1, ts, a, ts', h => by
    have h1 := tail_len ts
    have h2 := tail_len ts.tail
    unfold pCond at h
    split at h
    · split at h
      · obtain ⟨x, t, h3, h⟩ := bind_ok.1 h
        cases h
        have g := pEnds_weighs (pCond_weighs n) h3
        have e : cdsN [allOf x.flatten] = 1 + cdsN x.flatten := by simp [cdsN, cdN, allOf]
        rw [e, cdsN_flat]
        omega
      · obtain ⟨x, t, h3, h⟩ := bind_ok.1 h
        cases h
        have g := pClause_weighs h3
        have e := negOf_weighs x
        omega
    · have g := pClause_weighs h
      omega
end Go.Proofs.YtgeaccoobhigcaaGreat
namespace Go.Proofs.YtgeaccoobhigcaaGreat
open Go Go.RowKit
section
variable {α : Type}
theorem wp_pushes {P : Program} {o : Oper} {a : Act} {Z : Act → World → Prop} {Q : Exit → Act → World → Prop} (s x : Operand) (t : TypeId)
    (ho : o.op = .call { callee := .builtin .append, args := #[s, x], argTypes := #[t, t] })
    (M : Make α) (base bs : Nat) (e : TypeId) (i : TypeInfo) (z : Value) (bytes : Nat) (ht : P.underlying t = some (.slice e)) (hi : P.info? e = some i) (hz : i.zero = some z)
    (hsize : i.size = M.size) (hby : i.bytes = bytes) (hzs : z.cells.size = M.size) (hbytes : bytes ≤ 1000) {w0 : World}
    (v v2 : Value) (l l2 : List α) (hs : a.eval s = v) (hx : a.eval x = v2) (hO : OwnD M base e w0 v l) (hvl : ∀ b, v.ownBlock = some b → b < bs) (hbb : base ≤ bs) (hbw : bs ≤ w0.heap.size)
    (hown2 : OwnD M bs e w0 v2 l2) (hln : l.length ≤ 1000000) (hln2 : l2.length ≤ 1000001)
    (h : ∀ v' w', OwnD M base e w' v' (l ++ l2) → w0.grownBy w' v.ownBlock → Z (a.put o.dst v') w') : o.wp P a w0 Z Q := by
  have hbase : base ≤ w0.heap.size := Nat.le_trans hbb hbw
  unfold Oper.wp execOp
  rcases hown2.own.2 with ⟨rfl, hl2⟩ | ⟨g, cap, cur, rfl, hb, hg, hn, hc, hsz, htake⟩
  · have : l2 = [] := List.eq_nil_of_length_eq_zero hl2
    subst this
    have hrun := run_append_none (P := P) (w := w0) (i := i) o.type ht hi hO.own
    simp only [ho, resolve, invoke, builtin, Sem.run_bind, Sem.run_pure, Result.andThen_ok, List.map_toArray, List.map_cons, List.map_nil, hs, hx, hrun]
    exact h v w0 (by simpa using hO) (grownBy_refl _ _)
  · have hcell : ∀ j u, (l2.flatMap M.cells)[j]? = some u → w0.cell? ((⟨g, 0, none⟩ : Addr).add j) = some u := by
      have h2 : CellsAt w0 ⟨g, 0, none⟩ (l2.flatMap M.cells) := CellsAt.of_block hg 0 _ fun j u hj => by
        rw [← htake, List.getElem?_take] at hj
        split at hj
        · rw [Nat.zero_add]; simpa using hj
        · cases hj
      exact h2
    have hone : ∀ u ∈ l2.flatMap M.cells, u.oneCell' = true := fun u hu => by
      obtain ⟨a, _, ha⟩ := List.mem_flatMap.1 hu
      exact M.one a u ha
    obtain ⟨v', w', hrun, h2, h3, _, h5⟩ := run_append_own_at (P := P) w0 base t o.type e i z M.size bytes ht hi hz hsize hby hzs M.pos v l.length (l.flatMap M.cells) hO.own ⟨g, 0, none⟩ l2.length cap (l2.flatMap M.cells) (rows_length M.len _) hcell hone (by unfold maxLen; omega)
      (by have := Nat.mul_le_mul (show l.length + l2.length ≤ 2000001 by omega) hbytes; omega) hbase
    simp only [ho, resolve, invoke, builtin, Sem.run_bind, Sem.run_pure, Result.andThen_ok, List.map_toArray, List.map_cons, List.map_nil, hs, hx, hrun]
    refine h v' w' (hO.pushes (K := fun b => bs ≤ b) rfl h2 h3 h5 hown2.ok (fun x hx => M.mono (hown2.ink x hx) fun b hb => hb.1) fun b hb _ => ⟨Nat.le_trans hbb hb, fun e => ?_⟩) h3
    have := hvl b e.symm
    omega
theorem step_pushes {P : Program} {ops : Array Oper} {o : Oper} {a : Act} {Z : Act → World → Prop} {Q : Exit → Act → World → Prop} {E : Prop} (hgd : o.guard = none) (s x : Operand) (t : TypeId)
    (ho : o.op = .call { callee := .builtin .append, args := #[s, x], argTypes := #[t, t] })
    (M : Make α) (base bs : Nat) (e : TypeId) (i : TypeInfo) (z : Value) (bytes : Nat) (ht : P.underlying t = some (.slice e)) (hi : P.info? e = some i) (hz : i.zero = some z)
    (hsize : i.size = M.size) (hby : i.bytes = bytes) (hzs : z.cells.size = M.size) (hbytes : bytes ≤ 1000) {w0 : World}
    (v v2 : Value) (l l2 : List α) (hs : a.eval s = v) (hx : a.eval x = v2) (hO : OwnD M base e w0 v l) (hvl : ∀ b, v.ownBlock = some b → b < bs) (hbb : base ≤ bs) (hbw : bs ≤ w0.heap.size)
    (hown2 : OwnD M bs e w0 v2 l2) (hln : l.length ≤ 1000000) (hln2 : l2.length ≤ 1000001)
    (h : ∀ v' w', OwnD M base e w' v' (l ++ l2) → w0.grownBy w' v.ownBlock → Z (a.put o.dst v') w') :
    if Region.wanted o (yielded ops a.tmps) = true then Oper.wp P o a w0 Z Q else E := by
  have hw : Region.wanted o (yielded ops a.tmps) = true := by simp [Region.wanted, hgd]
  rw [if_pos hw]
  exact wp_pushes s x t ho M base bs e i z bytes ht hi hz hsize hby hzs hbytes v v2 l l2 hs hx hO hvl hbb hbw hown2 hln hln2 h
end
/-- Lists that are read one behind the other up to a sign, that sign taken. -/
def contE {β : Type} (p : Pr (List β)) (stop : ByteArray) (n : Nat) (acc : List β) (ts : List Tk) : Rs (List β) := (pMany p stop n ts).bind fun m t => (pTake stop t).bind fun _ t' => .ok (acc ++ m.flatten) t'
/-- All of them. -/
def pAll {β : Type} (p : Pr (List β)) (stop : ByteArray) : Pr (List β) := fun ts => (pEnds p stop ts).bind fun l t => .ok l.flatten t
section
variable {β : Type} {p : Pr (List β)} {stop : ByteArray} {n : Nat} {acc a : List β} {ts ts' : List Tk} {q : Nat}
theorem contE_first (h : p ts = .ok a ts') : pAll p stop ts = contE p stop (ts'.length + 1) a ts' := by
  unfold pAll pEnds pMany1 contE
  rw [h]
  simp only [Rs.bind]
  cases pMany p stop (ts'.length + 1) ts' with
  | bad q => rfl
  | ok m t =>
    simp only
    cases pTake stop t with
    | bad q => rfl
    | ok _ t' => rfl
theorem contE_first_bad (h : p ts = .bad q) : pAll p stop ts = .bad q := by
  unfold pAll pEnds pMany1
  rw [h]
  rfl
theorem contE_next (hs : isB (headT ts) stop = false) (h : p ts = .ok a ts') : contE p stop (n + 1) acc ts = contE p stop n (acc ++ a) ts' := by
  unfold contE
  conv => lhs; unfold pMany
  rw [hs, h]
  simp only [Bool.false_eq_true, if_false, Rs.bind]
  cases pMany p stop n ts' with
  | bad q => rfl
  | ok m t =>
    simp only
    cases pTake stop t with
    | bad q => rfl
    | ok _ t' => simp
theorem contE_bad (hs : isB (headT ts) stop = false) (h : p ts = .bad q) : contE p stop (n + 1) acc ts = .bad q := by
  unfold contE
  conv => lhs; unfold pMany
  rw [hs, h]
  rfl
theorem contE_stop (hs : isB (headT ts) stop = true) : contE p stop (n + 1) acc ts = .ok acc ts.tail := by
  unfold contE
  conv => lhs; unfold pMany
  rw [hs]
  simp [Rs.bind, pTake, hs]
end
/-- A production, its parts named. -/
theorem pProd_sp {ts : List Tk} (h : spHere (headT ts) = true) : pProd ts = (pTake bLeft ts.tail).bind fun _ ts1 => (pText 1 ts1).bind fun name ts2 => (pConds (ts2.length + 1) bArrow ts2).bind fun cs ts3 => (pTake bArrow ts3).bind fun _ ts4 => (pAll pActs bRight ts4).bind fun al ts5 => .ok ⟨name, cs, al⟩ ts5 := by
  unfold pProd
  rw [if_pos h]
  cases pTake bLeft ts.tail with
  | bad q => rfl
  | ok _ ts1 =>
    simp only [Rs.bind]
    cases pText 1 ts1 with
    | bad q => rfl
    | ok name ts2 =>
      simp only [pEnds, pConds, pAll, Rs.bind]
      cases pMany1 (pCond (ts2.length + 1)) bArrow ts2 with
      | bad q => rfl
      | ok l t =>
        simp only
        cases pTake bArrow t with
        | bad q => rfl
        | ok _ t2 =>
          simp only
          cases pMany1 pActs bRight t2 with
          | bad q => rfl
          | ok m t3 =>
            simp only
            cases pTake bRight t3 with
            | bad q => rfl
            | ok _ t4 => rfl
theorem pProd_no {ts : List Tk} (h : spHere (headT ts) = false) : pProd ts = badAt ts := by
  unfold pProd
  rw [if_neg (by rw [h]; exact Bool.false_ne_true)]
/-- Acts that are being read into a production; b4: its box; wc: the world behind the arrow. -/
structure ProdRun (E : Env) (w wc : World) (b4 : Nat) (name : ByteArray) (v1 : Value) (Z : Rs (List Ac)) (v2 : Value) (l : List Ac) (first : Bool) (k : Nat) (wr : World) : Prop where
  mv : Mv E w wr
  keep : ∀ j, j < wc.heap.size → j ≠ E.r → j ≠ E.ib → j ≠ b4 → wr.heap[j]? = wc.heap[j]?
  size : wc.heap.size ≤ wr.heap.size
  box : BoxC wr b4 26 [.string name, v1, v2]
  own : OwnD mkAct wc.heap.size 51 wr v2 l
  goes : (∃ ts, Rd E wr ts (-1) 0 ∧ l.length + ts.length ≤ 1000000 ∧ ((first = true ∧ l = [] ∧ ts.length + 1 < k ∧ Z = pAll pActs bRight ts) ∨ (first = false ∧ ts.length < k ∧ Z = contE pActs bRight k l ts))) ∨ (∃ (ts : List Tk) (q : Nat), Rd E wr ts q 5 ∧ Z = .bad q)
  len : l.length ≤ 2000001
end Go.Proofs.YtgeaccoobhigcaaGreat
namespace Go.Proofs.YtgeaccoobhigcaaGreat
open Go Go.RowKit
theorem pActs_count {ts : List Tk} {l : List Ac} {ts' : List Tk} (h : pActs ts = .ok l ts') : l.length + ts'.length ≤ ts.length := by
  obtain ⟨_, t1, h1, h⟩ := bind_ok.1 h
  obtain ⟨x, t2, h2, h⟩ := bind_ok.1 h
  have := pTake_eats _ _ _ _ h1
  have := pText_eats 3 (by decide) _ _ _ h2
  have := pEnds_count (pAct_eats x) h
  omega
theorem ProdRun.more {E : Env} {w wc wr w4 w5 : World} {b4 : Nat} {name : ByteArray} {v1 v2 v' : Value} {Z : Rs (List Ac)} {l l2 : List Ac} {first : Bool} {k k' : Nat} {ts : List Tk} (h : ProdRun E w wc b4 name v1 Z v2 l first k wr)
    (lows : ∀ b, E.Blk b → b < w.heap.size) (hb4 : w.heap.size ≤ b4) (hbc : b4 < wc.heap.size) (hcnt : l.length + ts.length ≤ 1000000)
    (hm : Mv E wr w4) (hr : RdAt E w4 (pActs ts)) (hl : l2.length ≤ 1000001) (hq : ∀ a t, pActs ts = .ok a t → l2 = a)
    (hZ : (∀ q, pActs ts = .bad q → Z = .bad q) ∧ ∀ a t, pActs ts = .ok a t → t.length < k' ∧ Z = contE pActs bRight k' (l ++ a) t)
    (hg : w4.grownBy w5 v2.ownBlock) (ho : OwnD mkAct wc.heap.size 51 w5 v' (l ++ l2)) (hb : BoxC w5 b4 26 [.string name, v1, v2]) :
    ProdRun E w wc b4 name v1 Z v' (l ++ l2) false k' (w5.setCell ⟨b4, 2, none⟩ v') := by
  have hlr := lows E.r (.inl rfl)
  have hli := lows E.ib (.inr (.inr (.inl rfl)))
  have hown : ∀ b, v2.ownBlock = some b → wc.heap.size ≤ b := fun b e => (h.own.own.lt b e).1
  have g3 := grownBy_setCell w5 ⟨b4, 2, none⟩ v'
  have hs1 := hm.size
  have hs2 := hg.size
  have hs3 := g3.size
  have hs0 := h.size
  have hsw := h.mv.size
  have hnb : ∀ b, w.heap.size ≤ b → ¬ E.Blk b := fun b hb hc => by have := lows b hc; omega
  refine ⟨((h.mv.trans hm).grown hg fun b e => .inr (.inr (by have := hown b e; omega))).grown g3 fun b e => .inr (.inr (by cases e; exact hb4)), fun j hj h1 h2 h3 => ?_, by omega, hb.upd v' _ rfl, ho.grown g3 fun b e => by cases e; exact .inl hbc, ?_, by simp; omega⟩
  · rw [g3.block j (by omega) (by intro e; injection e with e; exact h3 e), hg.block j (by omega) (by intro e; have := hown j e.symm; omega), hm.block j (by omega) h1 h2, h.keep j hj h1 h2 h3]
  · have hkeep : ∀ {ts' : List Tk} {a e : Int}, Rd E w4 ts' a e → Rd E (w5.setCell ⟨b4, 2, none⟩ v') ts' a e := fun hr => (hr.kept hg fun b e => hnb b (by have := hown b e; omega)).kept g3 fun b e => by cases e; exact hnb _ hb4
    cases hp : pActs ts with
    | bad q =>
      rw [hp] at hr
      obtain ⟨ts', hr⟩ := hr
      exact .inr ⟨ts', q, hkeep hr, hZ.1 q hp⟩
    | ok a ts' =>
      rw [hp] at hr
      obtain rfl := hq a ts' hp
      obtain ⟨h1, h2⟩ := hZ.2 _ ts' hp
      have := pActs_count hp
      exact .inl ⟨ts', hkeep hr, by simp; omega, .inr ⟨rfl, h1, h2⟩⟩
end Go.Proofs.YtgeaccoobhigcaaGreat
namespace Go.Proofs.YtgeaccoobhigcaaGreat
open Go Go.RowKit
def zeroProd : Value := .agg #[.string ⟨#[]⟩, .slice none 0 0, .slice none 0 0]
/-- A production comes back; where it goes wrong, none, and the reader says where and why. -/
def ProdOut (E : Env) (base : Nat) (w' : World) (r : Rs Pd) (pos : Int) (x : Ending) : Prop :=
  match r with
  | .bad q => x = .returned zeroProd ∧ ∃ ts', Rd E w' ts' q 5
  | .ok p ts' => (shapeE p = 0 ∧ ProdIs base w' p x ∧ Rd E w' ts' (-1) 0) ∨ (shapeE p ≠ 0 ∧ x = .returned zeroProd ∧ ∃ ts', Rd E w' ts' pos (shapeE p))
theorem sp_test {t : Tk} : (((textB t).toList == [115, 112]) = (t.text == [115, 112])) := by rw [ByteArray.toList_eq, textB_list]
set_option maxRecDepth 100000 in
set_option maxHeartbeats 4000000 in
theorem prod_no {E : Env} {ts : List Tk} (w : World) (h : Rd E w ts (-1) 0) (hs : spHere (headT ts) = false) : Calls Tryz.prog 17 #[E.ptr] w fun x w' => Mv E w w' ∧ ProdOut E w.heap.size w' (pProd ts) (headT ts).pos x := by
  rw [pProd_no hs]
  have hw := h.alloc (.cells #[.string ⟨#[]⟩, .slice none 0 0, .slice none 0 0] 26)
  have HB := Lib.hid (bad_ok _ hw)
  have HBX := Lib.hid (BoxC.new w [.string ⟨#[]⟩, .slice none 0 0, .slice none 0 0] 26)
  have HLW := Lib.hid h.lows
  have hlr := h.lows E.r (.inl rfl)
  have hli := h.lows E.ib (.inr (.inr (.inl rfl)))
  have hMA : Mv E w (w.alloc (.cells #[.string ⟨#[]⟩, .slice none 0 0, .slice none 0 0] 26)) := (Mv.refl E w).alloc _
  have HMA := Lib.hid hMA
  have hnb : ¬ E.Blk w.heap.size := fun hc => Nat.lt_irrefl _ (h.lows _ hc)
  obtain ⟨c0, c1, c2, c3, c4, c5⟩ := six_boxR hw.box
  clear hw h hMA
  unfold Env.ptr at HB ⊢
  go_enter Tryz.func17, Tryz.ntmps17
  by_cases hk : (headT ts).kind = 1
  · have e1 : (((headT ts).kind : Int) != 1) = false := by simp [hk]
    have e2 : ((textB (headT ts)).toList == [115, 112]) = false := by
      rw [sp_test]
      unfold spHere at hs
      rw [decide_eq_true hk] at hs
      exact hs
    clear hk hs
    go_wp2_with fail
    refine HB.out.mono ?_
    rintro x w1 ⟨⟨_, rfl⟩, hm, hr⟩
    have HB1 := Lib.hid (hm.box HBX.out (by omega) (by omega))
    have HM1 := Lib.hid (HMA.out.trans hm)
    have HR1 := Lib.hid hr
    clear c0 c1 c2 c3 c4 c5 hm hr
    go_wp2_with (refine wpList_box rfl 26 (.tmp 2) (.tmp 29) rfl w.heap.size 0 _ [.string ⟨#[]⟩, .slice none 0 0, .slice none 0 0] rfl rfl rfl HB1.out Tryz.sz26 (by simp) (by simp [Value.oneCell']) _ rfl ?_; intro w5 B5 g5; have HB5 := Lib.hid B5; have HG5 := Lib.hid g5; clear B5 g5)
    have d0 : w5.cell? ⟨w.heap.size, 0, none⟩ = some (.string ⟨#[]⟩) := HB5.out.at_ rfl
    have d1 : w5.cell? ⟨w.heap.size, 1, none⟩ = some (.slice none 0 0) := HB5.out.at_ rfl
    have d2 : w5.cell? ⟨w.heap.size, 2, none⟩ = some (.slice none 0 0) := HB5.out.at_ rfl
    exact bodyPost_ret (v := zeroProd) (by simp [results, Tryz.results17, go_sem, d0, d1, d2, zeroProd]) rfl ⟨HM1.out.new HG5.out (Nat.le_refl _), rfl, _, HR1.out.kept HG5.out fun b e => by cases e; exact hnb⟩
  · have e1 : (((headT ts).kind : Int) != 1) = true := by simp; omega
    clear hk hs
    go_wp2_with fail
    refine HB.out.mono ?_
    rintro x w1 ⟨⟨_, rfl⟩, hm, hr⟩
    have HB1 := Lib.hid (hm.box HBX.out (by omega) (by omega))
    have HM1 := Lib.hid (HMA.out.trans hm)
    have HR1 := Lib.hid hr
    clear c0 c1 c2 c3 c4 c5 hm hr
    go_wp2_with (refine wpList_box rfl 26 (.tmp 2) (.tmp 29) rfl w.heap.size 0 _ [.string ⟨#[]⟩, .slice none 0 0, .slice none 0 0] rfl rfl rfl HB1.out Tryz.sz26 (by simp) (by simp [Value.oneCell']) _ rfl ?_; intro w5 B5 g5; have HB5 := Lib.hid B5; have HG5 := Lib.hid g5; clear B5 g5)
    have d0 : w5.cell? ⟨w.heap.size, 0, none⟩ = some (.string ⟨#[]⟩) := HB5.out.at_ rfl
    have d1 : w5.cell? ⟨w.heap.size, 1, none⟩ = some (.slice none 0 0) := HB5.out.at_ rfl
    have d2 : w5.cell? ⟨w.heap.size, 2, none⟩ = some (.slice none 0 0) := HB5.out.at_ rfl
    exact bodyPost_ret (v := zeroProd) (by simp [results, Tryz.results17, go_sem, d0, d1, d2, zeroProd]) rfl ⟨HM1.out.new HG5.out (Nat.le_refl _), rfl, _, HR1.out.kept HG5.out fun b e => by cases e; exact hnb⟩
end Go.Proofs.YtgeaccoobhigcaaGreat
namespace Go.Proofs.YtgeaccoobhigcaaGreat
open Go Go.RowKit
set_option maxRecDepth 100000 in
set_option maxHeartbeats 8000000 in
theorem prod_bad1 {E : Env} {ts : List Tk} (w : World) (h : Rd E w ts (-1) 0) (hs : spHere (headT ts) = true) {q : Nat} (hp : pTake bLeft ts.tail = .bad q) : Calls Tryz.prog 17 #[E.ptr] w fun x w' => Mv E w w' ∧ ProdOut E w.heap.size w' (pProd ts) (headT ts).pos x := by
  have hR : pProd ts = .bad q := by rw [pProd_sp hs, hp]; rfl
  rw [hR]
  unfold spHere at hs
  obtain ⟨hk', ht⟩ := Bool.and_eq_true_iff.1 hs
  have hk := of_decide_eq_true hk'
  clear hs hk' hR
  have hw := h.alloc (.cells #[.string ⟨#[]⟩, .slice none 0 0, .slice none 0 0] 26)
  have HS := Lib.hid (step_any _ hw ⟨by omega, by omega⟩)
  have HBX := Lib.hid (BoxC.new w [.string ⟨#[]⟩, .slice none 0 0, .slice none 0 0] 26)
  have hlr := h.lows E.r (.inl rfl)
  have hli := h.lows E.ib (.inr (.inr (.inl rfl)))
  have hMA : Mv E w (w.alloc (.cells #[.string ⟨#[]⟩, .slice none 0 0, .slice none 0 0] 26)) := (Mv.refl E w).alloc _
  have HMA := Lib.hid hMA
  have hnb : ∀ b, w.heap.size ≤ b → ¬ E.Blk b := fun b hb hc => by have := h.lows b hc; omega
  have HNB := Lib.hid hnb
  obtain ⟨c0, c1, c2, c3, c4, c5⟩ := six_boxR hw.box
  have e1 : (((headT ts).kind : Int) != 1) = false := by simp [hk]
  have e2 : ((textB (headT ts)).toList == [115, 112]) = true := by rw [sp_test]; exact ht
  clear hw h hMA hk ht hnb
  unfold Env.ptr at HS ⊢
  go_enter Tryz.func17, Tryz.ntmps17
  go_wp2_with fail
  refine HS.out.mono ?_
  rintro x w1 ⟨⟨_, rfl⟩, hm, hr⟩
  have HB1 := Lib.hid (hm.box HBX.out (by omega) (by omega))
  have HM1 := Lib.hid (HMA.out.trans hm)
  have HR1 := Lib.hid hr
  have HT := Lib.hid (take_any _ hr bLeft)
  rw [hp] at HT
  unfold Env.ptr bLeft at HT
  clear c0 c1 c2 c3 c4 c5 hm hr hp HS HBX HMA
  go_wp2_with fail
  refine HT.out.mono ?_
  rintro x w2 ⟨⟨_, rfl⟩, hm, ts2, hr⟩
  have HB2 := Lib.hid (hm.box HB1.out (by omega) (by omega))
  have HM2 := Lib.hid (HM1.out.trans hm)
  have HTX := Lib.hid (text_err _ hr (by decide) 1)
  have hr3 := hr.alloc (.cells #[.string ⟨#[]⟩, .slice none 0 0, .slice none 0 0] 26)
  have HR3 := Lib.hid hr3
  have HB3 := Lib.hid (HB2.out.alloc (.cells #[.string ⟨#[]⟩, .slice none 0 0, .slice none 0 0] 26))
  have HM3 := Lib.hid (HM2.out.alloc (.cells #[.string ⟨#[]⟩, .slice none 0 0, .slice none 0 0] 26))
  have HA := Lib.hid (take_err _ hr3 (by decide) bArrow)
  have HE := Lib.hid (take_err _ hr3 (by decide) bRight)
  obtain ⟨c0, c1, c2, c3, c4, c5⟩ := six_boxR hr3.box
  unfold Env.ptr at HTX HA HE
  unfold bArrow at HA
  unfold bRight at HE
  clear hm hr hr3 HT HM1 HB1 HR1 HM2 HB2
  go_wp2_with fail
  refine HTX.out.mono ?_
  rintro x w3 ⟨rfl, rfl⟩
  go_wp2_with fail
  refine HA.out.mono ?_
  rintro x w3 ⟨⟨_, rfl⟩, rfl⟩
  go_wp2
  go_loopg [5] 0 (fun gk fv wr => ∃ b : Bool, fv = .bool b ∧ wr = w2.alloc (.cells #[.string ⟨#[]⟩, .slice none 0 0, .slice none 0 0] 26))
  case atStart => exact ⟨true, rfl, rfl⟩
  case round =>
    obtain ⟨b, rfl, rfl⟩ := hrel
    go_wp2_with fail
    refine HE.out.mono ?_
    rintro x w8 ⟨⟨_, rfl⟩, rfl⟩
    go_wp2_with (refine wpList_box rfl 26 (.tmp 2) (.tmp 73) rfl w.heap.size 0 _ [.string ⟨#[]⟩, .slice none 0 0, .slice none 0 0] rfl rfl rfl HB3.out Tryz.sz26 (by simp) (by simp [Value.oneCell']) _ rfl ?_; intro w5 B5 g5; have HB5 := Lib.hid B5; have HG5 := Lib.hid g5; clear B5 g5)
    have d0 : w5.cell? ⟨w.heap.size, 0, none⟩ = some (.string ⟨#[]⟩) := HB5.out.at_ rfl
    have d1 : w5.cell? ⟨w.heap.size, 1, none⟩ = some (.slice none 0 0) := HB5.out.at_ rfl
    have d2 : w5.cell? ⟨w.heap.size, 2, none⟩ = some (.slice none 0 0) := HB5.out.at_ rfl
    exact bodyPost_ret (v := zeroProd) (by simp [results, Tryz.results17, go_sem, d0, d1, d2, zeroProd]) rfl ⟨HM3.out.new HG5.out (Nat.le_refl _), rfl, _, HR3.out.kept HG5.out fun b e => by cases e; exact HNB.out _ (Nat.le_refl _)⟩
set_option maxRecDepth 100000 in
set_option maxHeartbeats 8000000 in
theorem prod_bad2 {E : Env} {ts : List Tk} (w : World) (h : Rd E w ts (-1) 0) (hs : spHere (headT ts) = true) {ts1 : List Tk} {q : Nat} (hp : pTake bLeft ts.tail = .ok () ts1) (hp2 : pText 1 ts1 = .bad q) : Calls Tryz.prog 17 #[E.ptr] w fun x w' => Mv E w w' ∧ ProdOut E w.heap.size w' (pProd ts) (headT ts).pos x := by
  have hR : pProd ts = .bad q := by rw [pProd_sp hs, hp]; show (pText 1 ts1).bind _ = _; rw [hp2]; rfl
  rw [hR]
  unfold spHere at hs
  obtain ⟨hk', ht⟩ := Bool.and_eq_true_iff.1 hs
  have hk := of_decide_eq_true hk'
  clear hs hk' hR
  have hw := h.alloc (.cells #[.string ⟨#[]⟩, .slice none 0 0, .slice none 0 0] 26)
  have HS := Lib.hid (step_any _ hw ⟨by omega, by omega⟩)
  have HBX := Lib.hid (BoxC.new w [.string ⟨#[]⟩, .slice none 0 0, .slice none 0 0] 26)
  have hlr := h.lows E.r (.inl rfl)
  have hli := h.lows E.ib (.inr (.inr (.inl rfl)))
  have hMA : Mv E w (w.alloc (.cells #[.string ⟨#[]⟩, .slice none 0 0, .slice none 0 0] 26)) := (Mv.refl E w).alloc _
  have HMA := Lib.hid hMA
  have hnb : ∀ b, w.heap.size ≤ b → ¬ E.Blk b := fun b hb hc => by have := h.lows b hc; omega
  have HNB := Lib.hid hnb
  obtain ⟨c0, c1, c2, c3, c4, c5⟩ := six_boxR hw.box
  have e1 : (((headT ts).kind : Int) != 1) = false := by simp [hk]
  have e2 : ((textB (headT ts)).toList == [115, 112]) = true := by rw [sp_test]; exact ht
  clear hw h hMA hk ht hnb
  unfold Env.ptr at HS ⊢
  go_enter Tryz.func17, Tryz.ntmps17
  go_wp2_with fail
  refine HS.out.mono ?_
  rintro x w1 ⟨⟨_, rfl⟩, hm, hr⟩
  have HB1 := Lib.hid (hm.box HBX.out (by omega) (by omega))
  have HM1 := Lib.hid (HMA.out.trans hm)
  have HR1 := Lib.hid hr
  have HT := Lib.hid (take_any _ hr bLeft)
  rw [hp] at HT
  unfold Env.ptr bLeft at HT
  clear c0 c1 c2 c3 c4 c5 hm hr hp HS HBX HMA
  go_wp2_with fail
  refine HT.out.mono ?_
  rintro x w2 ⟨⟨_, rfl⟩, hm, hr⟩
  have HB2 := Lib.hid (hm.box HB1.out (by omega) (by omega))
  have HM2 := Lib.hid (HM1.out.trans hm)
  have hr : Rd E w2 ts1 (-1) 0 := hr
  have HTX := Lib.hid (text_any _ hr 1 (by omega))
  rw [hp2] at HTX
  obtain ⟨c0, c1, c2, c3, c4, c5⟩ := six_boxR hr.box
  unfold Env.ptr at HTX
  clear hm hr HT HM1 HB1 HR1 hp2
  go_wp2_with fail
  refine HTX.out.mono ?_
  rintro x w3 ⟨⟨id, rfl, hid, hiq⟩, hm, ts3, hr⟩
  have hr3 := hr.alloc (.cells #[.string id, .slice none 0 0, .slice none 0 0] 26)
  have HR3 := Lib.hid hr3
  have HB3 := Lib.hid ((hm.box HB2.out (by omega) (by omega)).alloc (.cells #[.string id, .slice none 0 0, .slice none 0 0] 26))
  have HM3 := Lib.hid ((HM2.out.trans hm).alloc (.cells #[.string id, .slice none 0 0, .slice none 0 0] 26))
  have HA := Lib.hid (take_err _ hr3 (by decide) bArrow)
  have HE := Lib.hid (take_err _ hr3 (by decide) bRight)
  clear c0 c1 c2 c3 c4 c5
  obtain ⟨c0, c1, c2, c3, c4, c5⟩ := six_boxR hr3.box
  unfold Env.ptr at HA HE
  unfold bArrow at HA
  unfold bRight at HE
  clear hm hr hr3 HM2 HB2 hid hiq HTX
  go_wp2_with fail
  refine HA.out.mono ?_
  rintro x w4 ⟨⟨_, rfl⟩, rfl⟩
  go_wp2
  go_loopg [5] 0 (fun gk fv wr => ∃ b : Bool, fv = .bool b ∧ wr = w3.alloc (.cells #[.string id, .slice none 0 0, .slice none 0 0] 26))
  case atStart => exact ⟨true, rfl, rfl⟩
  case round =>
    obtain ⟨b, rfl, rfl⟩ := hrel
    go_wp2_with fail
    refine HE.out.mono ?_
    rintro x w8 ⟨⟨_, rfl⟩, rfl⟩
    go_wp2_with (refine wpList_box rfl 26 (.tmp 2) (.tmp 73) rfl w.heap.size 0 _ [.string ⟨#[]⟩, .slice none 0 0, .slice none 0 0] rfl rfl rfl HB3.out Tryz.sz26 (by simp) (by simp [Value.oneCell']) _ rfl ?_; intro w5 B5 g5; have HB5 := Lib.hid B5; have HG5 := Lib.hid g5; clear B5 g5)
    have d0 : w5.cell? ⟨w.heap.size, 0, none⟩ = some (.string ⟨#[]⟩) := HB5.out.at_ rfl
    have d1 : w5.cell? ⟨w.heap.size, 1, none⟩ = some (.slice none 0 0) := HB5.out.at_ rfl
    have d2 : w5.cell? ⟨w.heap.size, 2, none⟩ = some (.slice none 0 0) := HB5.out.at_ rfl
    exact bodyPost_ret (v := zeroProd) (by simp [results, Tryz.results17, go_sem, d0, d1, d2, zeroProd]) rfl ⟨HM3.out.new HG5.out (Nat.le_refl _), rfl, _, HR3.out.kept HG5.out fun b e => by cases e; exact HNB.out _ (Nat.le_refl _)⟩
end Go.Proofs.YtgeaccoobhigcaaGreat
namespace Go.Proofs.YtgeaccoobhigcaaGreat
open Go Go.RowKit
set_option maxRecDepth 100000 in
set_option maxHeartbeats 8000000 in
theorem prod_bad3 {E : Env} {ts : List Tk} (w : World) (h : Rd E w ts (-1) 0) (hs : spHere (headT ts) = true) {ts1 : List Tk} {name : ByteArray} {ts2 : List Tk} {q : Nat} (hp : pTake bLeft ts.tail = .ok () ts1) (hp2 : pText 1 ts1 = .ok name ts2) (hp3 : pConds (ts2.length + 1) bArrow ts2 = .bad q) : Calls Tryz.prog 17 #[E.ptr] w fun x w' => Mv E w w' ∧ ProdOut E w.heap.size w' (pProd ts) (headT ts).pos x := by
  have hR : pProd ts = .bad q := by rw [pProd_sp hs, hp]; show (pText 1 ts1).bind _ = _; rw [hp2]; show (pConds (ts2.length + 1) bArrow ts2).bind _ = _; rw [hp3]; rfl
  rw [hR]
  unfold spHere at hs
  obtain ⟨hk', ht⟩ := Bool.and_eq_true_iff.1 hs
  have hk := of_decide_eq_true hk'
  clear hs hk' hR
  have hw := h.alloc (.cells #[.string ⟨#[]⟩, .slice none 0 0, .slice none 0 0] 26)
  have HS := Lib.hid (step_any _ hw ⟨by omega, by omega⟩)
  have HBX := Lib.hid (BoxC.new w [.string ⟨#[]⟩, .slice none 0 0, .slice none 0 0] 26)
  have hlr := h.lows E.r (.inl rfl)
  have hli := h.lows E.ib (.inr (.inr (.inl rfl)))
  have hMA : Mv E w (w.alloc (.cells #[.string ⟨#[]⟩, .slice none 0 0, .slice none 0 0] 26)) := (Mv.refl E w).alloc _
  have HMA := Lib.hid hMA
  have hnb : ∀ b, w.heap.size ≤ b → ¬ E.Blk b := fun b hb hc => by have := h.lows b hc; omega
  have HNB := Lib.hid hnb
  obtain ⟨c0, c1, c2, c3, c4, c5⟩ := six_boxR hw.box
  have e1 : (((headT ts).kind : Int) != 1) = false := by simp [hk]
  have e2 : ((textB (headT ts)).toList == [115, 112]) = true := by rw [sp_test]; exact ht
  clear hw h hMA hk ht hnb
  unfold Env.ptr at HS ⊢
  go_enter Tryz.func17, Tryz.ntmps17
  go_wp2_with fail
  refine HS.out.mono ?_
  rintro x w1 ⟨⟨_, rfl⟩, hm, hr⟩
  have HB1 := Lib.hid (hm.box HBX.out (by omega) (by omega))
  have HM1 := Lib.hid (HMA.out.trans hm)
  have HR1 := Lib.hid hr
  have HT := Lib.hid (take_any _ hr bLeft)
  rw [hp] at HT
  unfold Env.ptr bLeft at HT
  clear c0 c1 c2 c3 c4 c5 hm hr hp HS HBX HMA
  go_wp2_with fail
  refine HT.out.mono ?_
  rintro x w2 ⟨⟨_, rfl⟩, hm, hr⟩
  have HB2 := Lib.hid (hm.box HB1.out (by omega) (by omega))
  have HM2 := Lib.hid (HM1.out.trans hm)
  have hr : Rd E w2 ts1 (-1) 0 := hr
  have HTX := Lib.hid (text_any _ hr 1 (by omega))
  rw [hp2] at HTX
  obtain ⟨c0, c1, c2, c3, c4, c5⟩ := six_boxR hr.box
  unfold Env.ptr at HTX
  clear hm hr HT HM1 HB1 HR1 hp2
  go_wp2_with fail
  refine HTX.out.mono ?_
  rintro x w3 ⟨⟨id, rfl, hid, hiq⟩, hm, hr⟩
  have hr : Rd E w3 ts2 (-1) 0 := hr
  have hr3 := hr.alloc (.cells #[.string id, .slice none 0 0, .slice none 0 0] 26)
  have hB3 := (hm.box HB2.out (by omega) (by omega)).alloc (.cells #[.string id, .slice none 0 0, .slice none 0 0] 26)
  have hM2 := HM2.out.trans hm
  have hws := hM2.size
  have HM3 := Lib.hid (hM2.alloc (.cells #[.string id, .slice none 0 0, .slice none 0 0] 26))
  have hBF := BoxC.new w3 [.string id, .slice none 0 0, .slice none 0 0] 26
  have hC := conds_any (ts2.length + 1) E _ ts2 bArrow hr3 (Nat.lt_succ_self _)
  rw [hp3] at hC
  have HC := Lib.hid hC
  have HB3 := Lib.hid hB3
  have HBF := Lib.hid hBF
  clear c0 c1 c2 c3 c4 c5
  obtain ⟨c0, c1, c2, c3, c4, c5⟩ := six_boxR hr3.box
  unfold Env.ptr bArrow at HC
  have hlt : w.heap.size < w3.heap.size := Nat.lt_of_lt_of_le HB2.out.lt hm.size
  clear hm hr hr3 HM2 HB2 hid hiq HTX hB3 hBF hC hM2 hp3
  go_wp2_with fail
  refine HC.out.mono ?_
  rintro x w4 ⟨⟨v1, cl, rfl, ho, hq⟩, hm, ts4, hr⟩
  obtain ⟨ca, cc, rfl, hd⟩ := ho.deep
  have HB4 := Lib.hid (hm.box HBF.out (by omega) (by omega))
  have HZ4 := Lib.hid (hm.box HB3.out (by omega) (by omega))
  have HM4 := Lib.hid (HM3.out.trans hm)
  have HR4 := Lib.hid hr
  clear c0 c1 c2 c3 c4 c5 hm hr ho hd hq HC HBF HB3 HM3
  go_upto_region 10 with (refine wpList_box rfl 23 (.tmp 44) (.tmp 43) rfl w3.heap.size 1 _ [.slice ca cl.length cc] rfl rfl rfl HB4.out Tryz.sz23 (by simp) (by simp [Value.oneCell']) [.string id, .slice ca cl.length cc, .slice none 0 0] rfl ?_; intro w5 B5 g5; have HZ5 := Lib.hid (HZ4.out.grown g5 (by simp; omega)); have HM5 := Lib.hid (HM4.out.new g5 (by omega)); have HR5 := Lib.hid (HR4.out.kept g5 (by intro b e; cases e; exact HNB.out _ (by omega))); clear B5 g5)
  have HA := Lib.hid (take_err _ HR5.out (by decide) bArrow)
  have HE := Lib.hid (take_err _ HR5.out (by decide) bRight)
  obtain ⟨c0, c1, c2, c3, c4, c5⟩ := six_boxR HR5.out.box
  unfold Env.ptr at HA HE
  unfold bArrow at HA
  unfold bRight at HE
  go_wp2_with fail
  refine HA.out.mono ?_
  rintro x w6 ⟨⟨_, rfl⟩, rfl⟩
  go_wp2
  go_loopg [5] 0 (fun gk fv wr => ∃ b : Bool, fv = .bool b ∧ wr = w5)
  case atStart => exact ⟨true, rfl, rfl⟩
  case round =>
    obtain ⟨b, rfl, rfl⟩ := hrel
    go_wp2_with fail
    refine HE.out.mono ?_
    rintro x w8 ⟨⟨_, rfl⟩, rfl⟩
    go_wp2_with (refine wpList_box rfl 26 (.tmp 2) (.tmp 73) rfl w.heap.size 0 _ [.string ⟨#[]⟩, .slice none 0 0, .slice none 0 0] rfl rfl rfl HZ5.out Tryz.sz26 (by simp) (by simp [Value.oneCell']) _ rfl ?_; intro w9 B9 g9; have HB9 := Lib.hid B9; have HG9 := Lib.hid g9; clear B9 g9)
    have d0 : w9.cell? ⟨w.heap.size, 0, none⟩ = some (.string ⟨#[]⟩) := HB9.out.at_ rfl
    have d1 : w9.cell? ⟨w.heap.size, 1, none⟩ = some (.slice none 0 0) := HB9.out.at_ rfl
    have d2 : w9.cell? ⟨w.heap.size, 2, none⟩ = some (.slice none 0 0) := HB9.out.at_ rfl
    exact bodyPost_ret (v := zeroProd) (by simp [results, Tryz.results17, go_sem, d0, d1, d2, zeroProd]) rfl ⟨HM5.out.new HG9.out (Nat.le_refl _), rfl, _, HR5.out.kept HG9.out fun b e => by cases e; exact HNB.out _ (Nat.le_refl _)⟩
end Go.Proofs.YtgeaccoobhigcaaGreat
namespace Go.Proofs.YtgeaccoobhigcaaGreat
open Go Go.RowKit
set_option maxRecDepth 100000 in
set_option maxHeartbeats 8000000 in
theorem prod_bad4 {E : Env} {ts : List Tk} (w : World) (h : Rd E w ts (-1) 0) (hs : spHere (headT ts) = true) {ts1 : List Tk} {name : ByteArray} {ts2 : List Tk} {cs : List Cd} {ts3 : List Tk} {q : Nat} (hp : pTake bLeft ts.tail = .ok () ts1) (hp2 : pText 1 ts1 = .ok name ts2) (hp3 : pConds (ts2.length + 1) bArrow ts2 = .ok cs ts3) (hp4 : pTake bArrow ts3 = .bad q) : Calls Tryz.prog 17 #[E.ptr] w fun x w' => Mv E w w' ∧ ProdOut E w.heap.size w' (pProd ts) (headT ts).pos x := by
  have hR : pProd ts = .bad q := by rw [pProd_sp hs, hp]; show (pText 1 ts1).bind _ = _; rw [hp2]; show (pConds (ts2.length + 1) bArrow ts2).bind _ = _; rw [hp3]; show (pTake bArrow ts3).bind _ = _; rw [hp4]; rfl
  rw [hR]
  unfold spHere at hs
  obtain ⟨hk', ht⟩ := Bool.and_eq_true_iff.1 hs
  have hk := of_decide_eq_true hk'
  clear hs hk' hR
  have hw := h.alloc (.cells #[.string ⟨#[]⟩, .slice none 0 0, .slice none 0 0] 26)
  have HS := Lib.hid (step_any _ hw ⟨by omega, by omega⟩)
  have HBX := Lib.hid (BoxC.new w [.string ⟨#[]⟩, .slice none 0 0, .slice none 0 0] 26)
  have hlr := h.lows E.r (.inl rfl)
  have hli := h.lows E.ib (.inr (.inr (.inl rfl)))
  have hMA : Mv E w (w.alloc (.cells #[.string ⟨#[]⟩, .slice none 0 0, .slice none 0 0] 26)) := (Mv.refl E w).alloc _
  have HMA := Lib.hid hMA
  have hnb : ∀ b, w.heap.size ≤ b → ¬ E.Blk b := fun b hb hc => by have := h.lows b hc; omega
  have HNB := Lib.hid hnb
  obtain ⟨c0, c1, c2, c3, c4, c5⟩ := six_boxR hw.box
  have e1 : (((headT ts).kind : Int) != 1) = false := by simp [hk]
  have e2 : ((textB (headT ts)).toList == [115, 112]) = true := by rw [sp_test]; exact ht
  clear hw h hMA hk ht hnb
  unfold Env.ptr at HS ⊢
  go_enter Tryz.func17, Tryz.ntmps17
  go_wp2_with fail
  refine HS.out.mono ?_
  rintro x w1 ⟨⟨_, rfl⟩, hm, hr⟩
  have HB1 := Lib.hid (hm.box HBX.out (by omega) (by omega))
  have HM1 := Lib.hid (HMA.out.trans hm)
  have HR1 := Lib.hid hr
  have HT := Lib.hid (take_any _ hr bLeft)
  rw [hp] at HT
  unfold Env.ptr bLeft at HT
  clear c0 c1 c2 c3 c4 c5 hm hr hp HS HBX HMA
  go_wp2_with fail
  refine HT.out.mono ?_
  rintro x w2 ⟨⟨_, rfl⟩, hm, hr⟩
  have HB2 := Lib.hid (hm.box HB1.out (by omega) (by omega))
  have HM2 := Lib.hid (HM1.out.trans hm)
  have hr : Rd E w2 ts1 (-1) 0 := hr
  have HTX := Lib.hid (text_any _ hr 1 (by omega))
  rw [hp2] at HTX
  obtain ⟨c0, c1, c2, c3, c4, c5⟩ := six_boxR hr.box
  unfold Env.ptr at HTX
  clear hm hr HT HM1 HB1 HR1 hp2
  go_wp2_with fail
  refine HTX.out.mono ?_
  rintro x w3 ⟨⟨id, rfl, hid, hiq⟩, hm, hr⟩
  have hr : Rd E w3 ts2 (-1) 0 := hr
  have hr3 := hr.alloc (.cells #[.string id, .slice none 0 0, .slice none 0 0] 26)
  have hB3 := (hm.box HB2.out (by omega) (by omega)).alloc (.cells #[.string id, .slice none 0 0, .slice none 0 0] 26)
  have hM2 := HM2.out.trans hm
  have hws := hM2.size
  have HM3 := Lib.hid (hM2.alloc (.cells #[.string id, .slice none 0 0, .slice none 0 0] 26))
  have hBF := BoxC.new w3 [.string id, .slice none 0 0, .slice none 0 0] 26
  have hC := conds_any (ts2.length + 1) E _ ts2 bArrow hr3 (Nat.lt_succ_self _)
  rw [hp3] at hC
  have HC := Lib.hid hC
  have HB3 := Lib.hid hB3
  have HBF := Lib.hid hBF
  clear c0 c1 c2 c3 c4 c5
  obtain ⟨c0, c1, c2, c3, c4, c5⟩ := six_boxR hr3.box
  unfold Env.ptr bArrow at HC
  have hlt : w.heap.size < w3.heap.size := Nat.lt_of_lt_of_le HB2.out.lt hm.size
  clear hm hr hr3 HM2 HB2 hid hiq HTX hB3 hBF hC hM2 hp3
  go_wp2_with fail
  refine HC.out.mono ?_
  rintro x w4 ⟨⟨v1, cl, rfl, ho, hq⟩, hm, hr⟩
  have hr : Rd E w4 ts3 (-1) 0 := hr
  obtain ⟨ca, cc, rfl, hd⟩ := ho.deep
  have HB4 := Lib.hid (hm.box HBF.out (by omega) (by omega))
  have HZ4 := Lib.hid (hm.box HB3.out (by omega) (by omega))
  have HM4 := Lib.hid (HM3.out.trans hm)
  have HR4 := Lib.hid hr
  clear c0 c1 c2 c3 c4 c5 hm hr ho hd hq HC HBF HB3 HM3
  go_upto_region 10 with (refine wpList_box rfl 23 (.tmp 44) (.tmp 43) rfl w3.heap.size 1 _ [.slice ca cl.length cc] rfl rfl rfl HB4.out Tryz.sz23 (by simp) (by simp [Value.oneCell']) [.string id, .slice ca cl.length cc, .slice none 0 0] rfl ?_; intro w5 B5 g5; have HZ5 := Lib.hid (HZ4.out.grown g5 (by simp; omega)); have HM5 := Lib.hid (HM4.out.new g5 (by omega)); have HR5 := Lib.hid (HR4.out.kept g5 (by intro b e; cases e; exact HNB.out _ (by omega))); clear B5 g5)
  have HA := Lib.hid (take_any _ HR5.out bArrow)
  rw [hp4] at HA
  obtain ⟨c0, c1, c2, c3, c4, c5⟩ := six_boxR HR5.out.box
  unfold Env.ptr bArrow at HA
  go_wp2_with fail
  refine HA.out.mono ?_
  rintro x w6 ⟨⟨_, rfl⟩, hm, ts6, hr⟩
  have HZ6 := Lib.hid (hm.box HZ5.out (by omega) (by omega))
  have HM6 := Lib.hid (HM5.out.trans hm)
  have HR6 := Lib.hid hr
  have HE := Lib.hid (take_err _ hr (by decide) bRight)
  clear c0 c1 c2 c3 c4 c5
  obtain ⟨c0, c1, c2, c3, c4, c5⟩ := six_boxR HR6.out.box
  unfold Env.ptr at HE
  unfold bRight at HE
  clear hm hr HZ5 HM5 HR5
  go_wp2
  go_loopg [5] 0 (fun gk fv wr => ∃ b : Bool, fv = .bool b ∧ wr = w6)
  case atStart => exact ⟨true, rfl, rfl⟩
  case round =>
    obtain ⟨b, rfl, rfl⟩ := hrel
    go_wp2_with fail
    refine HE.out.mono ?_
    rintro x w8 ⟨⟨_, rfl⟩, rfl⟩
    go_wp2_with (refine wpList_box rfl 26 (.tmp 2) (.tmp 73) rfl w.heap.size 0 _ [.string ⟨#[]⟩, .slice none 0 0, .slice none 0 0] rfl rfl rfl HZ6.out Tryz.sz26 (by simp) (by simp [Value.oneCell']) _ rfl ?_; intro w9 B9 g9; have HB9 := Lib.hid B9; have HG9 := Lib.hid g9; clear B9 g9)
    have d0 : w9.cell? ⟨w.heap.size, 0, none⟩ = some (.string ⟨#[]⟩) := HB9.out.at_ rfl
    have d1 : w9.cell? ⟨w.heap.size, 1, none⟩ = some (.slice none 0 0) := HB9.out.at_ rfl
    have d2 : w9.cell? ⟨w.heap.size, 2, none⟩ = some (.slice none 0 0) := HB9.out.at_ rfl
    exact bodyPost_ret (v := zeroProd) (by simp [results, Tryz.results17, go_sem, d0, d1, d2, zeroProd]) rfl ⟨HM6.out.new HG9.out (Nat.le_refl _), rfl, _, HR6.out.kept HG9.out fun b e => by cases e; exact HNB.out _ (Nat.le_refl _)⟩
end Go.Proofs.YtgeaccoobhigcaaGreat
namespace Go.Proofs.YtgeaccoobhigcaaGreat
open Go Go.RowKit
theorem conds_few {n : Nat} {stop : ByteArray} {ts : List Tk} {l : List Cd} {ts' : List Tk} (h : pConds n stop ts = .ok l ts') : cdsN l ≤ ts.length := by
  obtain ⟨L, t, h1, h2⟩ := bind_ok.1 h
  cases h2
  obtain ⟨x, t1, h3, h4⟩ := bind_ok.1 h1
  obtain ⟨y, t2, h5, h6⟩ := bind_ok.1 h4
  cases h6
  have := pCond_weighs n _ _ _ h3
  have := pMany_weighs (pCond_weighs n) stop _ _ _ _ h5
  rw [cdsN_flat, sumM_cons]
  omega
set_option maxRecDepth 100000 in
set_option maxHeartbeats 8000000 in
theorem prod_acts {E : Env} {ts : List Tk} (w : World) (h : Rd E w ts (-1) 0) (hs : spHere (headT ts) = true) {ts1 : List Tk} {name : ByteArray} {ts2 : List Tk} {cs : List Cd} {ts3 : List Tk} {ts4 : List Tk} (hp : pTake bLeft ts.tail = .ok () ts1) (hp2 : pText 1 ts1 = .ok name ts2) (hp3 : pConds (ts2.length + 1) bArrow ts2 = .ok cs ts3) (hp4 : pTake bArrow ts3 = .ok () ts4) : Calls Tryz.prog 17 #[E.ptr] w fun x w' => Mv E w w' ∧ ProdOut E w.heap.size w' (pProd ts) (headT ts).pos x := by
  have hR : pProd ts = (pAll pActs bRight ts4).bind fun al ts5 => .ok ⟨name, cs, al⟩ ts5 := by rw [pProd_sp hs, hp]; show (pText 1 ts1).bind _ = _; rw [hp2]; show (pConds (ts2.length + 1) bArrow ts2).bind _ = _; rw [hp3]; show (pTake bArrow ts3).bind _ = _; rw [hp4]; rfl
  rw [hR]
  unfold spHere at hs
  obtain ⟨hk', ht⟩ := Bool.and_eq_true_iff.1 hs
  have hk := of_decide_eq_true hk'
  clear hs hk' hR
  have hw := h.alloc (.cells #[.string ⟨#[]⟩, .slice none 0 0, .slice none 0 0] 26)
  have HS := Lib.hid (step_any _ hw ⟨by omega, by omega⟩)
  have HBX := Lib.hid (BoxC.new w [.string ⟨#[]⟩, .slice none 0 0, .slice none 0 0] 26)
  have hlr := h.lows E.r (.inl rfl)
  have hli := h.lows E.ib (.inr (.inr (.inl rfl)))
  have hMA : Mv E w (w.alloc (.cells #[.string ⟨#[]⟩, .slice none 0 0, .slice none 0 0] 26)) := (Mv.refl E w).alloc _
  have HMA := Lib.hid hMA
  have hnb : ∀ b, w.heap.size ≤ b → ¬ E.Blk b := fun b hb hc => by have := h.lows b hc; omega
  have HNB := Lib.hid hnb
  obtain ⟨c0, c1, c2, c3, c4, c5⟩ := six_boxR hw.box
  have e1 : (((headT ts).kind : Int) != 1) = false := by simp [hk]
  have e2 : ((textB (headT ts)).toList == [115, 112]) = true := by rw [sp_test]; exact ht
  clear hw h hMA hk ht hnb
  unfold Env.ptr at HS ⊢
  go_enter Tryz.func17, Tryz.ntmps17
  go_wp2_with fail
  refine HS.out.mono ?_
  rintro x w1 ⟨⟨_, rfl⟩, hm, hr⟩
  have HB1 := Lib.hid (hm.box HBX.out (by omega) (by omega))
  have HM1 := Lib.hid (HMA.out.trans hm)
  have HR1 := Lib.hid hr
  have HT := Lib.hid (take_any _ hr bLeft)
  rw [hp] at HT
  unfold Env.ptr bLeft at HT
  clear c0 c1 c2 c3 c4 c5 hm hr hp HS HBX HMA
  go_wp2_with fail
  refine HT.out.mono ?_
  rintro x w2 ⟨⟨_, rfl⟩, hm, hr⟩
  have HB2 := Lib.hid (hm.box HB1.out (by omega) (by omega))
  have HM2 := Lib.hid (HM1.out.trans hm)
  have hr : Rd E w2 ts1 (-1) 0 := hr
  have HTX := Lib.hid (text_any _ hr 1 (by omega))
  rw [hp2] at HTX
  obtain ⟨c0, c1, c2, c3, c4, c5⟩ := six_boxR hr.box
  unfold Env.ptr at HTX
  clear hm hr HT HM1 HB1 HR1 hp2
  go_wp2_with fail
  refine HTX.out.mono ?_
  rintro x w3 ⟨⟨id, rfl, hid, hiq⟩, hm, hr⟩
  have hr : Rd E w3 ts2 (-1) 0 := hr
  have hr3 := hr.alloc (.cells #[.string id, .slice none 0 0, .slice none 0 0] 26)
  have hB3 := (hm.box HB2.out (by omega) (by omega)).alloc (.cells #[.string id, .slice none 0 0, .slice none 0 0] 26)
  have hM2 := HM2.out.trans hm
  have hws := hM2.size
  have HM3 := Lib.hid (hM2.alloc (.cells #[.string id, .slice none 0 0, .slice none 0 0] 26))
  have hBF := BoxC.new w3 [.string id, .slice none 0 0, .slice none 0 0] 26
  have hC := conds_any (ts2.length + 1) E _ ts2 bArrow hr3 (Nat.lt_succ_self _)
  rw [hp3] at hC
  have HC := Lib.hid hC
  have HB3 := Lib.hid hB3
  have HBF := Lib.hid hBF
  clear c0 c1 c2 c3 c4 c5
  obtain ⟨c0, c1, c2, c3, c4, c5⟩ := six_boxR hr3.box
  unfold Env.ptr bArrow at HC
  have hlt : w.heap.size < w3.heap.size := Nat.lt_of_lt_of_le HB2.out.lt hm.size
  have HCN : Hid (cdsN cs ≤ 1000000) := Lib.hid (Nat.le_trans (conds_few hp3) hr.len)
  have HID := Lib.hid hid
  have HIQ := Lib.hid (hiq _ _ rfl)
  clear hm hr hr3 HM2 HB2 hid hiq HTX hB3 hBF hC hM2 hp3
  go_wp2_with fail
  refine HC.out.mono ?_
  rintro x w4 ⟨⟨v1, cl, rfl, ho, hq⟩, hm, hr⟩
  have hr : Rd E w4 ts3 (-1) 0 := hr
  obtain ⟨ca, cc, rfl, hd⟩ := ho.deep
  have HB4 := Lib.hid (hm.box HBF.out (by omega) (by omega))
  have HZ4 := Lib.hid (hm.box HB3.out (by omega) (by omega))
  have HM4 := Lib.hid (HM3.out.trans hm)
  have HR4 := Lib.hid hr
  have HD4 := Lib.hid hd
  have HQ := Lib.hid (hq _ _ rfl)
  clear c0 c1 c2 c3 c4 c5 hm hr ho hd hq HC HBF HB3 HM3
  go_upto_region 10 with (refine wpList_box rfl 23 (.tmp 44) (.tmp 43) rfl w3.heap.size 1 _ [.slice ca cl.length cc] rfl rfl rfl HB4.out Tryz.sz23 (by simp) (by simp [Value.oneCell']) [.string id, .slice ca cl.length cc, .slice none 0 0] rfl ?_; intro w5 B5 g5; have HZ5 := Lib.hid (HZ4.out.grown g5 (by simp; omega)); have HM5 := Lib.hid (HM4.out.new g5 (by omega)); have HR5 := Lib.hid (HR4.out.kept g5 (by intro b e; cases e; exact HNB.out _ (by omega))); have HB5 := Lib.hid B5; have HG5 := Lib.hid g5; clear B5 g5)
  have HA := Lib.hid (take_any _ HR5.out bArrow)
  rw [hp4] at HA
  obtain ⟨c0, c1, c2, c3, c4, c5⟩ := six_boxR HR5.out.box
  unfold Env.ptr bArrow at HA
  go_wp2_with fail
  refine HA.out.mono ?_
  rintro x w6 ⟨⟨_, rfl⟩, hm, hr⟩
  have hr : Rd E w6 ts4 (-1) 0 := hr
  have HZ6 := Lib.hid (hm.box HZ5.out (by omega) (by omega))
  have HB6 := Lib.hid (hm.box HB5.out (by omega) (by omega))
  have HM6 := Lib.hid (HM5.out.trans hm)
  have HR6 := Lib.hid hr
  have hd5 := HD4.out.same (sameIn_of_grown HG5.out fun b hb e => by injection e with e; simp at hb; omega)
  have HD6 := Lib.hid (hd5.same (hm.same fun b hb => by simp at hb; omega))
  obtain ⟨Z, hZ⟩ : ∃ Z, pAll pActs bRight ts4 = Z := ⟨_, rfl⟩
  have HRUN : Hid (ProdRun E w w6 w3.heap.size id (.slice ca cl.length cc) Z (.slice none 0 0) [] true (ts4.length + 2) w6) := Lib.hid ⟨HM6.out, fun _ _ _ _ _ => rfl, Nat.le_refl _, HB6.out, OwnD.nil _ _ _ _, .inl ⟨ts4, hr, by have := hr.len; simpa using this, .inl ⟨rfl, rfl, by omega, hZ.symm⟩⟩, by simp⟩
  have HZ := Lib.hid hZ
  clear c0 c1 c2 c3 c4 c5 hm hr hZ hd5 HD4 HG5 HB5 HZ5 HM5 HR5 HM4 HZ4 HB4 HR4 HA
  go_wp2
  go_loopg [5] (ts4.length + 2) (fun gk fv wr => ∃ (v2 : Value) (l : List Ac) (b : Bool), fv = .bool b ∧ Hid (ProdRun E w w6 w3.heap.size id (.slice ca cl.length cc) Z v2 l b gk wr))
  case atStart => exact ⟨_, [], true, rfl, HRUN⟩
  case round =>
    clear HRUN
    obtain ⟨v2, l, b, rfl, HG⟩ := hrel
    have HZR : Hid (BoxC wr w.heap.size 26 [.string ⟨#[]⟩, .slice none 0 0, .slice none 0 0]) := Lib.hid ((HG.out.keep _ HZ6.out.lt (by omega) (by omega) (by omega)).trans HZ6.out)
    rcases HG.out.goes with ⟨ts5, hr, hcnt, hc⟩ | ⟨ts5, q, hr, hR⟩
    · obtain ⟨i0, z0, hi, hz0, hz1, hz2⟩ := acts_info
      have hzs : z0.cells.size = 19 := acts_zero hi hz0
      have hAC := fun W (b : Below wr.heap.size wr W) => acts_any W (hr.below b)
      have HAC := Lib.hid hAC
      have hll : l.length ≤ 1000000 := by omega
      have hrA : E.r < w6.heap.size := HR6.out.lows E.r (.inl rfl)
      have hiA : E.ib < w6.heap.size := HR6.out.lows E.ib (.inr (.inr (.inl rfl)))
      have hrB : w3.heap.size ≠ E.r := by omega
      have hiB : w3.heap.size ≠ E.ib := by omega
      have hvl : ∀ b, v2.ownBlock = some b → b < wr.heap.size := fun b e => (HG.out.own.own.lt b e).2
      have hbb : w6.heap.size ≤ wr.heap.size := HG.out.size
      obtain ⟨c0, c1, c2, c3, c4, c5⟩ := six_boxR hr.box
      have HR := Lib.hid hr
      rcases hc with ⟨rfl, rfl, hgk, hZ1⟩ | ⟨rfl, hgk, hZ1⟩
      · have HLW : Hid (∀ b, E.Blk b → b < w.heap.size) := Lib.hid fun b hb => Nat.lt_of_not_le fun hc => HNB.out b hc hb
        obtain ⟨KK, hKK, HZK⟩ : ∃ KK, KK < gk ∧ Hid ((∀ q, pActs ts5 = .bad q → Z = .bad q) ∧ ∀ a t, pActs ts5 = .ok a t → t.length < KK ∧ Z = contE pActs bRight KK (([] : List Ac) ++ a) t) := by
          cases hp : pActs ts5 with
          | bad q => exact ⟨0, by omega, Lib.hid ⟨(fun q' e => by cases e; rw [hZ1, contE_first_bad hp]), (fun a t e => by cases e)⟩⟩
          | ok a t => exact ⟨t.length + 1, by have := pActs_eats _ _ _ hp; omega, Lib.hid ⟨(fun q' e => by cases e), (fun a' t' e => by cases e; exact ⟨Nat.lt_succ_self _, by rw [hZ1, contE_first hp]; rfl⟩)⟩⟩
        have hb46 : w3.heap.size < w6.heap.size := HB6.out.lt
        clear hr hAC hZ1
        unfold Env.ptr at HAC
        have f0 : wr.cell? ⟨w3.heap.size, 0, none⟩ = some (.string id) := HG.out.box.at_ rfl
        have f1 : wr.cell? ⟨w3.heap.size, 1, none⟩ = some (.slice ca cl.length cc) := HG.out.box.at_ rfl
        have f2 : wr.cell? ⟨w3.heap.size, 2, none⟩ = some v2 := HG.out.box.at_ rfl
        go_upto_region 14 with fail
        go_region_law ((first
          | (go_simp; go_at_call 33; refine (HAC.out wr.drew (belowD wr)).mono ?_; rintro x w8 ⟨⟨v8, l8, rfl, ho8, hl8, hq8⟩, hm8, hr8⟩; have HM8 : Hid (Mv E wr w8) := Lib.hid (Mv.trans (Mv.of_below (belowD wr)) hm8); have HO8 := Lib.hid (OwnD.moved HG.out.own HM8.out hrA hiA); have HB8 := Lib.hid (Mv.box HM8.out HG.out.box hrB hiB); have f6 : w8.cell? ⟨w3.heap.size, 2, none⟩ = some v2 := BoxC.at_ HB8.out rfl; have hbw : wr.heap.size ≤ w8.heap.size := Mv.size HM8.out; have HO2 := Lib.hid ho8; have HL2 := Lib.hid hl8; have HQ8 := Lib.hid hq8; have HR8 := Lib.hid hr8; clear hm8 hr8 hq8 hl8 ho8)
          | (refine step_pushes (by rfl) (.tmp 61) (.tmp 63) 24 (by rfl) mkAct w6.heap.size wr.heap.size 51 i0 _ 224 Tryz.underlying24 hi hz0 hz1 hz2 hzs (by omega) v2 v8 [] l8 (by rfl) (by rfl) HO8.out hvl hbb hbw HO2.out hll HL2.out ?_; intro v9 w9 ho9 hg9; obtain ⟨a9, n9, rfl, _⟩ := OwnD.deep ho9; have HB9 := Lib.hid (box_push HO8.out HB8.out hg9 (by decide)); have k2 : w9.cell? ⟨w3.heap.size, 2, none⟩ = some v2 := BoxC.at_ HB9.out rfl; have k6 := free_box HB9.out 2)))
        all_goals
          have HNX := Lib.hid (HG.out.more (k' := KK) HLW.out (Nat.le_of_lt hlt) hb46 hcnt HM8.out HR8.out HL2.out HQ8.out HZK.out hg9 ho9 HB9.out)
          clear ho9 hg9 k2 k6
          go_wp2
          go_roundg KK
          case rel => exact ⟨_, _, false, rfl, HNX⟩
          case measure => omega
      · obtain ⟨gk, rfl⟩ : ∃ g, gk = g + 1 := ⟨gk - 1, by omega⟩
        have HLW : Hid (∀ b, E.Blk b → b < w.heap.size) := Lib.hid fun b hb => Nat.lt_of_not_le fun hc => HNB.out b hc hb
        have hI := is_any _ hr bRight
        have hb46 : w3.heap.size < w6.heap.size := HB6.out.lt
        cases hb : isB (headT ts5) bRight with
        | true =>
          rw [hb] at hI
          have hT := take_any _ hr bRight
          have htk : pTake bRight ts5 = .ok () ts5.tail := by unfold pTake; rw [if_pos hb]
          rw [htk] at hT
          have HI := Lib.hid hI
          have HT := Lib.hid hT
          have HZ2 : Hid (Z = .ok l ts5.tail) := Lib.hid (hZ1.trans (contE_stop hb))
          clear hr hAC HAC hZ1 hI hb hT htk hi hz0 hz1 hz2 hzs hll
          unfold Env.ptr bRight at HI HT
          go_wp2_with (go_at_call 32; refine HI.out.mono ?_; rintro x w7 ⟨rfl, rfl⟩)
          refine HT.out.mono ?_
          rintro x w8 ⟨⟨_, rfl⟩, hm, hr⟩
          have hr : Rd E w8 ts5.tail (-1) 0 := hr
          have hlow : ∀ b, w3.heap.size + 1 ≤ b → b ≠ E.r ∧ b ≠ E.ib := fun b hb => ⟨by omega, by omega⟩
          have hdc := (HD6.out.same (w' := wr) fun b hb hl => HG.out.keep b hl (hlow b (by simpa using hb)).1 (hlow b (by simpa using hb)).2 (by simp at hb; omega)).same (hm.same fun b hb => hlow b (by simpa using hb))
          obtain ⟨aa, ac, rfl, hda⟩ := HG.out.own.deep
          have hda := hda.same (hm.same fun b hb => hlow b (by omega))
          have HB8 := Lib.hid (hm.box HG.out.box hrB hiB)
          have HZ8 := Lib.hid (hm.box HZR.out (by omega) (by omega))
          have HM8 := Lib.hid (HG.out.mv.trans hm)
          have HDC := Lib.hid hdc
          have HDA := Lib.hid hda
          have hmem : ProdR.Mem w8 ⟨id, ca, cl.length, cc, cl, aa, l.length, ac, l⟩ := ⟨Nat.le_trans HID.out (by decide), hdc.sl, hdc.ok, hda.sl, hda.ok⟩
          have HP : Hid ((ProdR.abs ⟨id, ca, cl.length, cc, cl, aa, l.length, ac, l⟩) = ⟨name, cs, l⟩) := Lib.hid (by unfold ProdR.abs; simp only; rw [absL_map, HQ.out, HIQ.out])
          have hsh := shShape_any ⟨id, ca, cl.length, cc, cl, aa, l.length, ac, l⟩ w8 hmem (by rw [condsN_abs, absL_map, HQ.out]; exact HCN.out)
          rw [HP.out] at hsh
          unfold ProdR.val at hsh
          dsimp only at hsh
          have HMEM := Lib.hid hmem
          have HR8 := Lib.hid hr
          clear c0 c1 c2 c3 c4 c5 hm hdc hda hmem
          obtain ⟨c0, c1, c2, c3, c4, c5⟩ := six_boxR hr.box
          have f0 : w8.cell? ⟨w3.heap.size, 0, none⟩ = some (.string id) := HB8.out.at_ rfl
          have f1 : w8.cell? ⟨w3.heap.size, 1, none⟩ = some (.slice ca cl.length cc) := HB8.out.at_ rfl
          have f2 : w8.cell? ⟨w3.heap.size, 2, none⟩ = some (.slice aa l.length ac) := HB8.out.at_ rfl
          by_cases hS : shapeE ⟨name, cs, l⟩ = 0
          · rw [hS] at hsh
            have HSH := Lib.hid hsh
            have HS0 := Lib.hid hS
            clear hsh hS hr
            go_wp2_with fail
            refine HSH.out.mono ?_
            rintro x w9 ⟨⟨k, rfl⟩, hb9⟩
            have HB9 := Lib.hid (HB8.out.below hb9)
            have HZ9 := Lib.hid (HZ8.out.below hb9)
            have HR9 := Lib.hid (HR8.out.below hb9)
            have HM9 := Lib.hid (HM8.out.below hb9)
            have HME9 := Lib.hid (HMEM.out.kept hb9)
            have HDC9 := Lib.hid (HDC.out.kept hb9)
            have HDA9 := Lib.hid (HDA.out.kept hb9)
            clear c0 c1 c2 c3 c4 c5 f0 f1 f2 hb9
            have f0 : w9.cell? ⟨w3.heap.size, 0, none⟩ = some (.string id) := HB9.out.at_ rfl
            have f1 : w9.cell? ⟨w3.heap.size, 1, none⟩ = some (.slice ca cl.length cc) := HB9.out.at_ rfl
            have f2 : w9.cell? ⟨w3.heap.size, 2, none⟩ = some (.slice aa l.length ac) := HB9.out.at_ rfl
            go_wp2_with (refine wpList_box rfl 26 (.tmp 2) (.tmp 86) rfl w.heap.size 0 _ [.string id, .slice ca cl.length cc, .slice aa l.length ac] rfl rfl rfl HZ9.out Tryz.sz26 (by simp) (by simp [Value.oneCell']) _ rfl ?_; intro wz Bz gz; have HBz := Lib.hid Bz; have HGz := Lib.hid gz; clear Bz gz)
            have d0 : wz.cell? ⟨w.heap.size, 0, none⟩ = some (.string id) := HBz.out.at_ rfl
            have d1 : wz.cell? ⟨w.heap.size, 1, none⟩ = some (.slice ca cl.length cc) := HBz.out.at_ rfl
            have d2 : wz.cell? ⟨w.heap.size, 2, none⟩ = some (.slice aa l.length ac) := HBz.out.at_ rfl
            have hsame : ∀ n : Nat, w.heap.size < n → SameIn (fun b => n ≤ b) w9 wz := fun n hn => sameIn_of_grown HGz.out fun b hb e => by injection e with e; omega
            have hdc := HDC9.out.same (sameIn_of_grown HGz.out fun b hb e => by injection e with e; simp at hb; omega)
            have hda := HDA9.out.same (sameIn_of_grown HGz.out fun b hb e => by injection e with e; omega)
            refine bodyPost_ret (v := .agg #[.string id, .slice ca cl.length cc, .slice aa l.length ac]) (by simp [results, Tryz.results17, go_sem, d0, d1, d2]) rfl ⟨HM9.out.new HGz.out (Nat.le_refl _), by rw [HZ.out, HZ2.out]; exact .inl ⟨HS0.out, ⟨⟨id, ca, cl.length, cc, cl, aa, l.length, ac, l⟩, rfl, HP.out, ⟨Nat.le_trans HID.out (by decide), hdc.sl, hdc.ok, hda.sl, hda.ok⟩, hdc.mono fun b hb => by simp at hb; omega, hda.mono fun b hb => by omega⟩, HR9.out.kept HGz.out fun b e => by cases e; exact HNB.out _ (Nat.le_refl _)⟩⟩
          · have HS0 := Lib.hid hS
            have e1 : (shapeE ⟨name, cs, l⟩ != 0) = true := by simp [hS]
            obtain ⟨S, hSe⟩ : ∃ S, shapeE ⟨name, cs, l⟩ = S := ⟨_, rfl⟩
            have HSE := Lib.hid hSe
            rw [hSe] at hsh e1
            have HSH := Lib.hid hsh
            clear hsh hS hr hSe
            go_wp2_with fail
            refine HSH.out.mono ?_
            rintro x w9 ⟨⟨k, rfl⟩, hb9⟩
            have HZ9 := Lib.hid (HZ8.out.below hb9)
            have hr9 := HR8.out.below hb9
            have HM9 := Lib.hid (HM8.out.below hb9)
            have HF := Lib.hid (fail_ok _ hr9 (headT ts).pos S)
            unfold Env.ptr at HF
            clear c0 c1 c2 c3 c4 c5 f0 f1 f2 hb9
            obtain ⟨c0, c1, c2, c3, c4, c5⟩ := six_boxR hr9.box
            clear hr9
            go_wp2_with fail
            refine HF.out.mono ?_
            rintro x wf ⟨⟨_, rfl⟩, hmf, hrf⟩
            have HZf := Lib.hid (hmf.box HZ9.out (by omega) (by omega))
            have HMf := Lib.hid (HM9.out.trans hmf)
            have HRf := Lib.hid hrf
            clear c0 c1 c2 c3 c4 c5 hmf hrf
            go_wp2_with (refine wpList_box rfl 26 (.tmp 2) (.tmp 85) rfl w.heap.size 0 _ [.string ⟨#[]⟩, .slice none 0 0, .slice none 0 0] rfl rfl rfl HZf.out Tryz.sz26 (by simp) (by simp [Value.oneCell']) _ rfl ?_; intro wz Bz gz; have HBz := Lib.hid Bz; have HGz := Lib.hid gz; clear Bz gz)
            have d0 : wz.cell? ⟨w.heap.size, 0, none⟩ = some (.string ⟨#[]⟩) := HBz.out.at_ rfl
            have d1 : wz.cell? ⟨w.heap.size, 1, none⟩ = some (.slice none 0 0) := HBz.out.at_ rfl
            have d2 : wz.cell? ⟨w.heap.size, 2, none⟩ = some (.slice none 0 0) := HBz.out.at_ rfl
            exact bodyPost_ret (v := zeroProd) (by simp [results, Tryz.results17, go_sem, d0, d1, d2, zeroProd]) rfl ⟨HMf.out.new HGz.out (Nat.le_refl _), by rw [HZ.out, HZ2.out]; exact .inr ⟨HS0.out, rfl, _, by rw [HSE.out]; exact HRf.out.kept HGz.out fun b e => by cases e; exact HNB.out _ (Nat.le_refl _)⟩⟩
        | false =>
          rw [hb] at hI
          have HI := Lib.hid hI
          have HZK : Hid ((∀ q, pActs ts5 = .bad q → Z = .bad q) ∧ ∀ a t, pActs ts5 = .ok a t → t.length < gk ∧ Z = contE pActs bRight gk (l ++ a) t) := Lib.hid ⟨fun q hp => hZ1.trans (contE_bad hb hp), fun a t hp => ⟨by have := pActs_eats _ _ _ hp; omega, by rw [hZ1, contE_next hb hp]⟩⟩
          clear hr hAC hZ1 hI hb
          unfold Env.ptr at HAC HI
          unfold bRight at HI
          have f0 : wr.cell? ⟨w3.heap.size, 0, none⟩ = some (.string id) := HG.out.box.at_ rfl
          have f1 : wr.cell? ⟨w3.heap.size, 1, none⟩ = some (.slice ca cl.length cc) := HG.out.box.at_ rfl
          have f2 : wr.cell? ⟨w3.heap.size, 2, none⟩ = some v2 := HG.out.box.at_ rfl
          go_upto_region 14 with (go_at_call 32; refine HI.out.mono ?_; rintro x w7 ⟨rfl, rfl⟩)
          go_region_law ((first
            | (go_simp; go_at_call 33; refine (HAC.out wr.drew (belowD wr)).mono ?_; rintro x w8 ⟨⟨v8, l8, rfl, ho8, hl8, hq8⟩, hm8, hr8⟩; have HM8 : Hid (Mv E wr w8) := Lib.hid (Mv.trans (Mv.of_below (belowD wr)) hm8); have HO8 := Lib.hid (OwnD.moved HG.out.own HM8.out hrA hiA); have HB8 := Lib.hid (Mv.box HM8.out HG.out.box hrB hiB); have f6 : w8.cell? ⟨w3.heap.size, 2, none⟩ = some v2 := BoxC.at_ HB8.out rfl; have hbw : wr.heap.size ≤ w8.heap.size := Mv.size HM8.out; have HO2 := Lib.hid ho8; have HL2 := Lib.hid hl8; have HQ8 := Lib.hid hq8; have HR8 := Lib.hid hr8; clear hm8 hr8 hq8 hl8 ho8)
            | (refine step_pushes (by rfl) (.tmp 61) (.tmp 63) 24 (by rfl) mkAct w6.heap.size wr.heap.size 51 i0 _ 224 Tryz.underlying24 hi hz0 hz1 hz2 hzs (by omega) v2 v8 l l8 (by rfl) (by rfl) HO8.out hvl hbb hbw HO2.out hll HL2.out ?_; intro v9 w9 ho9 hg9; obtain ⟨a9, n9, rfl, _⟩ := OwnD.deep ho9; have HB9 := Lib.hid (box_push HO8.out HB8.out hg9 (by decide)); have k2 : w9.cell? ⟨w3.heap.size, 2, none⟩ = some v2 := BoxC.at_ HB9.out rfl; have k6 := free_box HB9.out 2)))
          all_goals
            have HNX := Lib.hid (HG.out.more (k' := gk) HLW.out (Nat.le_of_lt hlt) hb46 hcnt HM8.out HR8.out HL2.out HQ8.out HZK.out hg9 ho9 HB9.out)
            rw [List.length_append] at HNX
            clear ho9 hg9 k2 k6
            go_wp2
            go_roundg gk
            case rel => exact ⟨_, _, false, rfl, HNX⟩
            case measure => omega
    · obtain ⟨c0, c1, c2, c3, c4, c5⟩ := six_boxR hr.box
      have HE := Lib.hid (take_err _ hr (by decide) bRight)
      have HRR := Lib.hid hR
      have HR := Lib.hid hr
      clear hR hr
      unfold Env.ptr bRight at HE
      go_wp2_with fail
      refine HE.out.mono ?_
      rintro x w8 ⟨⟨_, rfl⟩, rfl⟩
      go_wp2_with (refine wpList_box rfl 26 (.tmp 2) (.tmp 73) rfl w.heap.size 0 _ [.string ⟨#[]⟩, .slice none 0 0, .slice none 0 0] rfl rfl rfl HZR.out Tryz.sz26 (by simp) (by simp [Value.oneCell']) _ rfl ?_; intro w9 B9 g9; have HB9 := Lib.hid B9; have HG9 := Lib.hid g9; clear B9 g9)
      have d0 : w9.cell? ⟨w.heap.size, 0, none⟩ = some (.string ⟨#[]⟩) := HB9.out.at_ rfl
      have d1 : w9.cell? ⟨w.heap.size, 1, none⟩ = some (.slice none 0 0) := HB9.out.at_ rfl
      have d2 : w9.cell? ⟨w.heap.size, 2, none⟩ = some (.slice none 0 0) := HB9.out.at_ rfl
      exact bodyPost_ret (v := zeroProd) (by simp [results, Tryz.results17, go_sem, d0, d1, d2, zeroProd]) rfl ⟨HG.out.mv.new HG9.out (Nat.le_refl _), by rw [HZ.out, HRR.out]; exact ⟨rfl, _, HR.out.kept HG9.out fun b e => by cases e; exact HNB.out _ (Nat.le_refl _)⟩⟩
end Go.Proofs.YtgeaccoobhigcaaGreat
namespace Go.Proofs.YtgeaccoobhigcaaGreat
open Go Go.RowKit
theorem prod_any {E : Env} {ts : List Tk} (w : World) (h : Rd E w ts (-1) 0) : Calls Tryz.prog 17 #[E.ptr] w fun x w' => Mv E w w' ∧ ProdOut E w.heap.size w' (pProd ts) (headT ts).pos x := by
  cases hs : spHere (headT ts) with
  | false => exact prod_no w h hs
  | true =>
    cases hp : pTake bLeft ts.tail with
    | bad q => exact prod_bad1 w h hs hp
    | ok u ts1 =>
      cases hp2 : pText 1 ts1 with
      | bad q => exact prod_bad2 w h hs hp hp2
      | ok name ts2 =>
        cases hp3 : pConds (ts2.length + 1) bArrow ts2 with
        | bad q => exact prod_bad3 w h hs hp hp2 hp3
        | ok cs ts3 =>
          cases hp4 : pTake bArrow ts3 with
          | bad q => exact prod_bad4 w h hs hp hp2 hp3 hp4
          | ok u ts4 => exact prod_acts w h hs hp hp2 hp3 hp4
end Go.Proofs.YtgeaccoobhigcaaGreat
