/-
  ponderkeep.CopyProds: the same in new memory. What is read does not hang on what follows, but for the next token; more fuel does no harm. Tokens that stand further on are read as the same, further on; texts one behind the other. Texts one behind the other are their productions one behind the other.
-/
import Derived.Test.YtgeaccoobhigcaaGH
import Derived.Test.YtgeaccoobhigcaaG7
import Derived.Test.YtgeaccoobhigcaaGA
import Derived.Test.YtgeaccoobhigcaaGF
namespace Go.Proofs.Ytgeaccoobhigcaa
open Go Go.RowKit

theorem testB_short {w : World} {t : TestR} (_ : t.Mem w) (h : testB t.abs = true) : t.list.length ≤ 20 := by
  unfold testB TestR.abs at h
  simp only at h
  split at h
  · simp only [Bool.and_eq_true, decide_eq_true_eq] at h; omega
  · simp only [Bool.and_eq_true, decide_eq_true_eq] at h; omega
theorem firstE_light {w : World} {c : CondR} (hm : c.Mem w) : ∀ d : Int, firstE c.abs d = 0 → c.Light := by
  induction hm with
  | @mk kind goal id aa an ac attr va vn vc value acc ca cn cc conds hi ha hv hs hc ih =>
    intro d h
    simp only [CondR.abs] at h
    obtain ⟨h1, h2⟩ := firstE_zero h
    have hk : ∀ c ∈ conds, c.Light := fun c hcm => ih c hcm (d + 1) (firstEs_mem h2 (abs_mem hcm))
    have hal := ha.len
    have hvl := hv.len
    rcases condE_zero h1 with ⟨k, _, i, a, v, _, _, _⟩ | ⟨k, _, i, a1, a2, v, ta, tv⟩
    · rw [List.length_map] at a v
      refine .mk (by omega) (by omega) (fun t ht => ?_) (fun t ht => ?_) hk
      · rw [List.eq_nil_of_length_eq_zero a] at ht; cases ht
      · rw [List.eq_nil_of_length_eq_zero v] at ht; cases ht
    · rw [List.length_map] at a1 a2 v
      refine .mk (by omega) (by omega) (fun t ht => ?_) (fun t ht => ?_) hk
      · exact testB_short (ha.ok t ht) (List.all_eq_true.1 ta _ (List.mem_map_of_mem ht))
      · exact testB_short (hv.ok t ht) (List.all_eq_true.1 tv _ (List.mem_map_of_mem ht))
theorem shape_light {w : World} {p : ProdR} (h : p.Mem w) (hs : shapeE p.abs = 0) : p.Light := by
  obtain ⟨h1, h2, h3, h4, h5, h6, h7⟩ := shapeE_parts hs
  have ha := actsMem_len h.sa
  have h5' : p.acts.length ≤ 16 := h5
  have h3' : cdsN (absL p.conds) ≤ 16 := h3
  have hn := (wordB_size h1).2
  have hn' : p.name.size ≤ 32 := hn
  exact ⟨by rw [condsN_abs]; omega, by omega, by omega, fun c hc => firstE_light (h.conds c hc) 0 (firstEs_mem h6 (abs_mem hc))⟩

set_option maxRecDepth 100000 in
set_option maxHeartbeats 4000000 in
theorem copyProds_any (l : List ProdR) (ao : Option Addr) (n c : Nat) (w : World) (hn : n ≤ 1000000) (h : SlR w 3 ao n c (l.flatMap ProdR.cells)) (hl : ∀ p ∈ l, p.Mem w ∧ p.Light) :
    Calls Try.prog 53 #[.slice ao n c] w fun e w' => (∃ (v : Value) (m : List ProdR), e = .returned v ∧ OwnD mkProd w.heap.size 48 w' v m ∧ m.map ProdR.abs = l.map ProdR.abs) ∧ Below w.heap.size w w' := by
  have hln : l.length = n := by have := h.1; rw [rows_length prodR_len] at this; omega
  obtain ⟨i0, hi, hz0, hz1, hz2⟩ := info_parts Try.info48
  have hcap := h.2.1
  have hmx := h.2.2.1
  unfold maxLen at hmx
  have HL := Lib.hid hln
  have HH := Lib.hid h
  have HLM := Lib.hid hl
  clear hln h hl
  go_enter Try.func53, Try.ntmps53
  go_wp2
  go_loopw [3, 4] (fun tv ti wr => ∃ (i : Nat) (v : Value) (m : List ProdR), i ≤ n ∧ v = tv ∧ ti = .int .i64 i ∧ Hid (OwnD mkProd w.heap.size 48 wr v m) ∧ Hid (m.map ProdR.abs = (l.take i).map ProdR.abs) ∧ Below w.heap.size w wr) (fun _ ti _ => n - (intOf ti).toNat)
  case atStart => exact ⟨0, _, [], by omega, rfl, rfl, Lib.hid (OwnD.nil _ _ _ _), Lib.hid rfl, Below.refl _ _⟩
  case round =>
    obtain ⟨i, v, m, hin, rfl, rfl, HO, HM, hb⟩ := hrel
    have hml : m.length ≤ 1000000 := by
      have := congrArg List.length HM.out
      rw [List.length_map, List.length_map, List.length_take, HL.out] at this
      omega
    by_cases hlt : i < n
    · obtain ⟨x, hx⟩ : ∃ x, l[i]? = some x := ⟨_, List.getElem?_eq_getElem (by have := HL.out; omega)⟩
      obtain ⟨hxm, hxl⟩ := HLM.out x (List.mem_of_getElem? hx)
      have hC := copyProd_any x wr (hxm.kept hb) hxl
      obtain ⟨ga, oa, rfl, hxc⟩ := (HH.out.kept hb).row_at prodR_len (by omega) hx
      have HMX : Hid ((m.map ProdR.abs) ++ [x.abs] = (l.take (i + 1)).map ProdR.abs) := Lib.hid (by rw [HM.out, List.take_add_one, hx]; simp)
      obtain ⟨xn, xca, xcn, xcc, xcs, xaa, xan, xac, xas⟩ := x
      have x0 : wr.cell? ⟨ga, oa + i * 3, none⟩ = some (.string xn) := hxc 0 _ rfl
      have x1 : wr.cell? ⟨ga, oa + i * 3 + 1, none⟩ = some (.slice xca xcn xcc) := hxc 1 _ rfl
      have x2 : wr.cell? ⟨ga, oa + i * 3 + 2, none⟩ = some (.slice xaa xan xac) := hxc 2 _ rfl
      have hv : ProdR.val ⟨xn, xca, xcn, xcc, xcs, xaa, xan, xac, xas⟩ = .agg #[.string xn, .slice xca xcn xcc, .slice xaa xan xac] := rfl
      rw [hv] at hC
      have HC := Lib.hid hC
      have HB := Lib.hid hb
      have hii : (i : Int) < (n : Int) := by omega
      have hsz := hb.size
      clear hC hxm hxl hxc hx hv hb
      go_wp2_with fail
      refine HC.out.mono ?_
      rintro e w5 ⟨⟨q, rfl, hqa, hqm, hqc, hqk⟩, b5⟩
      have HO5 := Lib.hid (HO.out.kept b5)
      have HIN : Hid (q.In fun b => wr.heap.size ≤ b) := Lib.hid ⟨hqc.inb, hqc.ink, hqk.inb⟩
      have HME := Lib.hid hqm
      have HQ := Lib.hid hqa
      have hown : ∀ b, v.ownBlock = some b → b < wr.heap.size := fun b e => (HO.out.own.lt b e).2
      have hsz5 := b5.size
      have HB5 := Lib.hid (below_trans HB.out b5)
      obtain ⟨qn, qca, qcn, qcc, qcs, qaa, qan, qac, qas⟩ := q
      unfold ProdR.val
      dsimp only
      clear hqa hqm hqc hqk b5 HC
      go_wp2_with (at_builtin; refine wpList_push rfl (.tmp 11) (.tmp 17) 91 rfl mkProd w.heap.size 48 i0 _ 64 Try.underlying91 hi hz0 hz1 hz2 rfl _ m ⟨qn, qca, qcn, qcc, qcs, qaa, qan, qac, qas⟩ rfl HO5.out w5.heap.size rfl rfl rfl (mkProd.one _) hml (by omega) (Nat.le_trans hsz hsz5) (fun b => wr.heap.size ≤ b) HME.out HIN.out (fun b hb _ => ⟨Nat.le_trans hsz hb, fun e => by have := hown b e.symm; omega⟩) ?_; intro go' c' w9 ho9 hg9)
      have HO9 : Hid (OwnD mkProd w.heap.size 48 w9 (.slice (some go') (m.length + 1) c') (m ++ [⟨qn, qca, qcn, qcc, qcs, qaa, qan, qac, qas⟩])) := Lib.hid ho9
      have hb9 := below_own HB5.out (Nat.le_trans hsz hsz5) HO5.out hg9
      clear ho9 hg9
      go_wp2
      go_roundw
      case rel => exact ⟨i + 1, _, _, by omega, rfl, by go_num, HO9, Lib.hid (by rw [List.map_append, ← HMX.out, ← HQ.out]; rfl), hb9⟩
      case measure => simp [intOf]; omega
    · have hie : i = n := by omega
      go_wp2
      go_ret
      exact ⟨⟨_, m, rfl, HO.out, by rw [HM.out, List.take_of_length_le (by rw [HL.out]; omega)]⟩, hb⟩
end Go.Proofs.Ytgeaccoobhigcaa
namespace Go.Proofs.Ytgeaccoobhigcaa
open Go Go.RowKit

theorem pMany_mono {α : Type} {p p' : Pr α} {stop : ByteArray} (h : ∀ ts a R, p ts = .ok a R → p' ts = .ok a R) : ∀ {n m : Nat} {ts : List Tk} {l : List α} {R : List Tk}, n ≤ m → pMany p stop n ts = .ok l R → pMany p' stop m ts = .ok l R
  | 0, _, _, _, _, _, e => absurd e bad_not
  | n + 1, m, ts, l, R, hm, e => by
    obtain ⟨k, rfl⟩ : ∃ k, m = k + 1 := ⟨m - 1, by omega⟩
    unfold pMany at e ⊢
    by_cases hs : isB (headT ts) stop = true
    · rw [if_pos hs] at e ⊢; exact e
    · rw [if_neg hs] at e ⊢
      obtain ⟨x, t, h1, e⟩ := bind_ok.1 e
      obtain ⟨y, t2, h2, e⟩ := bind_ok.1 e
      rw [bind_of (h _ _ _ h1), bind_of (pMany_mono h (by omega) h2)]
      exact e
theorem pEnds_mono {α : Type} {p p' : Pr α} {stop : ByteArray} (h : ∀ ts a R, p ts = .ok a R → p' ts = .ok a R) {ts : List Tk} {l : List α} {R : List Tk} (e : pEnds p stop ts = .ok l R) : pEnds p' stop ts = .ok l R := by
  obtain ⟨x, t, h1, h2⟩ := bind_ok.1 e
  obtain ⟨y, t1, h3, h4⟩ := bind_ok.1 h1
  obtain ⟨z, t2, h5, h6⟩ := bind_ok.1 h4
  have e1 : pMany1 p' stop ts = .ok x t := by
    unfold pMany1
    rw [bind_of (h _ _ _ h3), bind_of (pMany_mono h (Nat.le_refl _) h5)]
    exact h6
  unfold pEnds
  rw [bind_of e1]
  exact h2
theorem pCond_mono : ∀ {n m : Nat} {ts : List Tk} {l : List Cd} {R : List Tk}, n ≤ m → pCond n ts = .ok l R → pCond m ts = .ok l R
  | 0, _, _, _, _, _, e => absurd e bad_not
  | n + 1, m, ts, l, R, hm, e => by
    obtain ⟨k, rfl⟩ : ∃ k, m = k + 1 := ⟨m - 1, by omega⟩
    unfold pCond at e ⊢
    by_cases h1 : isB (headT ts) bMinus = true
    · rw [if_pos h1] at e ⊢
      by_cases h2 : isB (headT ts.tail) bLeft = true
      · rw [if_pos h2] at e ⊢
        obtain ⟨x, t, h3, e⟩ := bind_ok.1 e
        rw [bind_of (pEnds_mono (fun ts a R h => pCond_mono (show n ≤ k by omega) h) h3)]
        exact e
      · rw [if_neg h2] at e ⊢; exact e
    · rw [if_neg h1] at e ⊢; exact e

/-- What follows begins alike. -/
def Alike (S R : List Tk) : Prop := R.length ≤ S.length ∧ (headT S).kt = (headT R).kt
theorem Alike.app {S R : List Tk} (h : Alike S R) : ∀ K : List Tk, Alike (K ++ S) (K ++ R)
  | [] => h
  | t :: K => ⟨by have := h.1; simp; omega, rfl⟩
theorem alike_cons {S R : List Tk} (h : R.length ≤ S.length) (t : Tk) (K : List Tk) : Alike (t :: K ++ S) (t :: K ++ R) := ⟨by simp; omega, rfl⟩
/-- It hangs on the next token alone. -/
def LocH {α : Type} (P : Pr α) : Prop := ∀ ts a R, P ts = .ok a R → ∃ K, ts = K ++ R ∧ ∀ S, Alike S R → P (K ++ S) = .ok a S
/-- It hangs on nothing that follows. -/
def Loc {α : Type} (P : Pr α) : Prop := ∀ ts a R, P ts = .ok a R → ∃ K, ts = K ++ R ∧ ∀ S : List Tk, R.length ≤ S.length → P (K ++ S) = .ok a S
theorem Loc.h {α : Type} {P : Pr α} (h : Loc P) : LocH P := fun ts a R e => by
  obtain ⟨K, h1, h2⟩ := h ts a R e
  exact ⟨K, h1, fun S hS => h2 S hS.1⟩
theorem LocH.bind {α β : Type} {P : Pr α} {f : α → Pr β} (h : LocH P) (hf : ∀ a, LocH (f a)) : LocH (fun ts => (P ts).bind f) := by
  intro ts b R e
  obtain ⟨a, t, h1, h2⟩ := bind_ok.1 e
  obtain ⟨K, k1, k2⟩ := h _ _ _ h1
  obtain ⟨J, j1, j2⟩ := hf a _ _ _ h2
  refine ⟨K ++ J, by rw [k1, j1, List.append_assoc], fun S hS => ?_⟩
  show (P (K ++ J ++ S)).bind f = _
  rw [List.append_assoc, bind_of (k2 (J ++ S) (by rw [j1]; exact hS.app J))]
  exact j2 S hS
theorem LocH.bindE {α β : Type} {P : Pr α} {f : α → Pr β} (h : LocH P) (hf : ∀ a, Loc (f a)) (he : ∀ a, Eats (f a)) : Loc (fun ts => (P ts).bind f) := by
  intro ts b R e
  obtain ⟨a, t, h1, h2⟩ := bind_ok.1 e
  obtain ⟨K, k1, k2⟩ := h _ _ _ h1
  obtain ⟨J, j1, j2⟩ := hf a _ _ _ h2
  have hl := he a _ _ _ h2
  cases J with
  | nil => rw [j1] at hl; simp at hl
  | cons u J =>
    refine ⟨K ++ (u :: J), by rw [k1, j1, List.append_assoc], fun S hS => ?_⟩
    show (P (K ++ (u :: J) ++ S)).bind f = _
    rw [List.append_assoc, bind_of (k2 (u :: J ++ S) (by rw [j1]; exact alike_cons hS u J))]
    exact j2 S hS
theorem LocH.ret {α : Type} (a : α) : LocH (fun ts => .ok a ts) := fun ts b R e => by
  cases e
  exact ⟨[], rfl, fun S _ => rfl⟩
theorem Loc.ret {α : Type} (a : α) : Loc (fun ts => .ok a ts) := fun ts b R e => by
  cases e
  exact ⟨[], rfl, fun S _ => rfl⟩
/-- What takes one token by its kind and text alone. -/
theorem Loc.one {α : Type} (P : Pr α) (h : ∀ t r, (∃ p, ∀ r', P (t :: r') = .ok p r') ∨ (∃ q, P (t :: r) = .bad q)) (h0 : ∃ q, P [] = .bad q) : Loc P := by
  intro ts a R e
  cases ts with
  | nil => obtain ⟨q, h0⟩ := h0; rw [h0] at e; cases e
  | cons t r =>
    rcases h t r with ⟨p, hp⟩ | ⟨q, hq⟩
    · rw [hp] at e
      cases e
      exact ⟨[t], rfl, fun S _ => hp S⟩
    · rw [hq] at e; cases e
theorem Loc.take (s : ByteArray) : Loc (pTake s) := by
  refine Loc.one _ (fun t r => ?_) ⟨0, by unfold pTake; rw [if_neg (by simp [headT, isB])]; rfl⟩
  by_cases h : isB t s = true
  · exact .inl ⟨(), fun r' => if_pos h⟩
  · exact .inr ⟨t.pos, by unfold pTake; exact if_neg h⟩
theorem Loc.text {k : Nat} (hk : k ≠ 5) : Loc (pText k) := by
  refine Loc.one _ (fun t r => ?_) ⟨0, by unfold pText; rw [if_neg (by simp [headT]; omega)]; rfl⟩
  by_cases h : t.kind = k
  · exact .inl ⟨textB t, fun r' => if_pos h⟩
  · exact .inr ⟨t.pos, by unfold pText; exact if_neg h⟩
theorem Loc.const : Loc pConst := by
  refine Loc.one _ (fun t r => ?_) ⟨0, rfl⟩
  by_cases h : constHere t = true
  · exact .inl ⟨constT t, fun r' => if_pos h⟩
  · exact .inr ⟨t.pos, by unfold pConst; exact if_neg h⟩
theorem Loc.atom : Loc pAtom := by
  refine Loc.one _ (fun t r => ?_) ⟨0, rfl⟩
  by_cases h3 : t.kind = 3
  · exact .inl ⟨⟨textB t, nilSm⟩, fun r' => if_pos h3⟩
  · by_cases h : constHere t = true
    · exact .inl ⟨⟨⟨#[]⟩, constT t⟩, fun r' => by
        unfold pAtom pConst
        rw [show headT (t :: r') = t from rfl, if_neg h3, if_pos h]; rfl⟩
    · exact .inr ⟨t.pos, by
        unfold pAtom pConst
        rw [show headT (t :: r) = t from rfl, if_neg h3, if_neg h]; rfl⟩
theorem LocH.many {α : Type} {p : Pr α} (h : LocH p) (stop : ByteArray) : ∀ n, LocH (pMany p stop n)
  | 0 => fun ts a R e => absurd e bad_not
  | n + 1 => by
    intro ts l R e
    unfold pMany at e
    by_cases hs : isB (headT ts) stop = true
    · rw [if_pos hs] at e
      cases e
      refine ⟨[], rfl, fun S hS => ?_⟩
      have h2 : isB (headT S) stop = true := by rw [isB_tk, hS.2, ← isB_tk]; exact hs
      show pMany p stop (n + 1) S = _
      unfold pMany
      rw [if_pos h2]
    · rw [if_neg hs] at e
      obtain ⟨K, k1, k2⟩ := (h.bind fun a => (LocH.many h stop n).bind fun l => LocH.ret (a :: l)) ts l R e
      refine ⟨K, k1, fun S hS => ?_⟩
      have h2 : ¬ isB (headT (K ++ S)) stop = true := by rw [isB_tk, (hS.app K).2, ← k1, ← isB_tk]; exact hs
      unfold pMany
      rw [if_neg h2]
      exact k2 S hS
theorem LocH.many1 {α : Type} {p : Pr α} (h : LocH p) (stop : ByteArray) : LocH (pMany1 p stop) := by
  intro ts l R e
  obtain ⟨x, t, h1, e⟩ := bind_ok.1 e
  obtain ⟨y, t2, h2, e⟩ := bind_ok.1 e
  cases e
  obtain ⟨K, k1, k2⟩ := h _ _ _ h1
  obtain ⟨J, j1, j2⟩ := h.many stop _ _ _ _ h2
  refine ⟨K ++ J, by rw [k1, j1, List.append_assoc], fun S hS => ?_⟩
  unfold pMany1
  rw [List.append_assoc, bind_of (k2 (J ++ S) (by rw [j1]; exact hS.app J))]
  have := pMany_mono (p := p) (p' := p) (fun _ _ _ h => h) (show t.length + 1 ≤ (J ++ S).length + 1 by have := hS.1; rw [j1]; simp; omega) (j2 S hS)
  rw [bind_of this]
theorem Loc.ends {α : Type} {p : Pr α} (h : LocH p) (stop : ByteArray) : Loc (pEnds p stop) :=
  (h.many1 stop).bindE (f := fun l ts => (pTake stop ts).bind fun _ ts => .ok l ts) (fun l ts b R e => by
    obtain ⟨u, t, h1, e⟩ := bind_ok.1 e
    cases e
    obtain ⟨K, k1, k2⟩ := Loc.take stop _ _ _ h1
    exact ⟨K, k1, fun S hS => by show (pTake stop (K ++ S)).bind _ = _; rw [bind_of (k2 S hS)]⟩) fun l ts b R e => by
    obtain ⟨u, t, h1, e⟩ := bind_ok.1 e
    cases e
    exact pTake_eats _ _ _ _ h1
/-- A first token that is looked at. -/
theorem cons_of {ts R : List Tk} {K : List Tk} (h : ts.tail = K ++ R) (hk : (headT ts).kind ≠ 5) : ts = (headT ts :: K) ++ R := by
  rw [List.cons_append, ← h]; exact head_tail hk
theorem Loc.map {α β : Type} {p : Pr α} (h : Loc p) (g : α → β) : Loc (fun ts => (p ts).bind fun a ts => .ok (g a) ts) := by
  intro ts b R e
  obtain ⟨a, t, h1, e⟩ := bind_ok.1 e
  cases e
  obtain ⟨K, k1, k2⟩ := h _ _ _ h1
  exact ⟨K, k1, fun S hS => by show (p (K ++ S)).bind _ = _; rw [bind_of (k2 S hS)]⟩
theorem eats_head {α : Type} {p : Pr α} (h : Loc p) (he : Eats p) {ts : List Tk} {a : α} {R : List Tk} (e : p ts = .ok a R) : ∃ u K, ts = u :: K ++ R ∧ ∀ S : List Tk, R.length ≤ S.length → p (u :: K ++ S) = .ok a S := by
  obtain ⟨K, k1, k2⟩ := h _ _ _ e
  have := he _ _ _ e
  cases K with
  | nil => rw [k1] at this; simp at this
  | cons u K => exact ⟨u, K, k1, k2⟩
theorem Loc.test : Loc pTest := by
  intro ts a R e
  unfold pTest at e
  by_cases h1 : isB (headT ts) bFrom = true
  · rw [if_pos h1] at e
    have hk := isB_k h1
    obtain ⟨K, k1, k2⟩ := (Loc.map (Loc.ends Loc.const.h bTo) fun l => (⟨8, ⟨#[]⟩, nilSm, l⟩ : Ts)) _ _ _ e
    refine ⟨headT ts :: K, cons_of k1 (by omega), fun S hS => ?_⟩
    unfold pTest
    rw [show headT (headT ts :: K ++ S) = headT ts from rfl, if_pos h1]
    exact k2 S hS
  · rw [if_neg h1] at e
    by_cases h2 : relHere (headT ts) = true
    · rw [if_pos h2] at e
      have hk : (headT ts).kind = 4 := by unfold relHere at h2; simp only [Bool.and_eq_true, decide_eq_true_eq] at h2; exact h2.1
      obtain ⟨K, k1, k2⟩ := (Loc.map Loc.atom fun a => (⟨relN (headT ts).text, a.v, a.s, []⟩ : Ts)) _ _ _ e
      refine ⟨headT ts :: K, cons_of k1 (by omega), fun S hS => ?_⟩
      unfold pTest
      rw [show headT (headT ts :: K ++ S) = headT ts from rfl, if_neg h1, if_pos h2]
      exact k2 S hS
    · rw [if_neg h2] at e
      obtain ⟨x, t, h3, e⟩ := bind_ok.1 e
      cases e
      obtain ⟨u, K, k1, k2⟩ := eats_head Loc.atom pAtom_eats h3
      refine ⟨u :: K, k1, fun S hS => ?_⟩
      rw [k1] at h1 h2
      change ¬ isB u bFrom = true at h1
      change ¬ relHere u = true at h2
      unfold pTest
      rw [show headT (u :: K ++ S) = u from rfl, if_neg h1, if_neg h2, bind_of (k2 S hS)]
theorem Loc.field : Loc pField := by
  intro ts a R e
  unfold pField at e
  by_cases h1 : isB (headT ts) bLeft = true
  · rw [if_pos h1] at e
    have hk := isB_k h1
    obtain ⟨K, k1, k2⟩ := (Loc.ends Loc.test.h bRight) _ _ _ e
    refine ⟨headT ts :: K, cons_of k1 (by omega), fun S hS => ?_⟩
    unfold pField
    rw [show headT (headT ts :: K ++ S) = headT ts from rfl, if_pos h1]
    exact k2 S hS
  · rw [if_neg h1] at e
    obtain ⟨x, t, h3, e⟩ := bind_ok.1 e
    cases e
    obtain ⟨u, K, k1, k2⟩ := eats_head Loc.test pTest_eats h3
    refine ⟨u :: K, k1, fun S hS => ?_⟩
    rw [k1] at h1
    change ¬ isB u bLeft = true at h1
    unfold pField
    rw [show headT (u :: K ++ S) = u from rfl, if_neg h1, bind_of (k2 S hS)]
/-- One token taken, if it is such a sign. -/
def pOpt (s : ByteArray) : Pr Bool := fun ts => .ok (isB (headT ts) s) (if isB (headT ts) s then ts.tail else ts)
theorem LocH.opt (s : ByteArray) : LocH (pOpt s) := by
  intro ts a R e
  unfold pOpt at e
  cases e
  by_cases h : isB (headT ts) s = true
  · have hk := isB_k h
    refine ⟨[headT ts], ?_, fun S hS => ?_⟩
    · rw [if_pos h]; exact head_tail (by omega)
    · unfold pOpt
      rw [show headT ([headT ts] ++ S) = headT ts from rfl, if_pos h]
      rfl
  · rw [if_neg h]
    refine ⟨[], rfl, fun S hS => ?_⟩
    show pOpt s S = _
    unfold pOpt
    have h2 : isB (headT S) s = isB (headT ts) s := by rw [isB_tk, hS.2, ← isB_tk]
    rw [h2, if_neg h]
theorem pItem_eq (id : ByteArray) (goal : Bool) : pItem id goal = fun ts => (pOpt bMinus ts).bind fun n ts0 => (pTake bHat ts0).bind fun _ ts1 => (pField ts1).bind fun a ts2 => (pIf (fieldHere (headT ts2)) pField [] ts2).bind fun v ts3 => (pOpt bPlus ts3).bind fun c ts4 => .ok (.mk (if n then 2 else 1) goal id a v c []) ts4 := rfl
theorem LocH.second : LocH (fun ts => pIf (fieldHere (headT ts)) pField [] ts) := by
  intro ts a R e
  replace e : (if fieldHere (headT ts) = true then pField ts else .ok [] ts) = .ok a R := e
  have hf : ∀ S R : List Tk, Alike S R → fieldHere (headT S) = fieldHere (headT R) := fun S R h => by
    show fieldHere (tk (headT S).kt) = fieldHere (tk (headT R).kt)
    rw [h.2]
  by_cases h : fieldHere (headT ts) = true
  · rw [if_pos h] at e
    obtain ⟨K, k1, k2⟩ := Loc.field.h _ _ _ e
    refine ⟨K, k1, fun S hS => ?_⟩
    have h2 : fieldHere (headT (K ++ S)) = true := by rw [hf _ _ (hS.app K), ← k1]; exact h
    unfold pIf
    simp only [h2, if_true]
    exact k2 S hS
  · rw [if_neg h] at e
    cases e
    refine ⟨[], rfl, fun S hS => ?_⟩
    have h2 : fieldHere (headT S) = false := by rw [hf _ _ hS]; simpa using h
    show pIf (fieldHere (headT S)) pField [] S = _
    unfold pIf
    rw [h2]
    rfl
theorem LocH.item (id : ByteArray) (goal : Bool) : LocH (pItem id goal) := by
  rw [pItem_eq]
  exact (LocH.opt bMinus).bind fun n => (Loc.take bHat).h.bind fun _ => Loc.field.h.bind fun a => LocH.second.bind fun v => (LocH.opt bPlus).bind fun c => LocH.ret _
def pGoal : Pr Bool := fun ts => .ok (goalHere (headT ts)) (if goalHere (headT ts) then ts.tail else ts)
theorem LocH.goal : LocH pGoal := by
  intro ts a R e
  unfold pGoal at e
  cases e
  have hf : ∀ S R : List Tk, Alike S R → goalHere (headT S) = goalHere (headT R) := fun S R h => by
    show goalHere (tk (headT S).kt) = goalHere (tk (headT R).kt)
    rw [h.2]
  by_cases h : goalHere (headT ts) = true
  · have hk : (headT ts).kind = 1 := by unfold goalHere at h; simp only [Bool.and_eq_true, decide_eq_true_eq] at h; exact h.1
    refine ⟨[headT ts], ?_, fun S hS => ?_⟩
    · rw [if_pos h]; exact head_tail (by omega)
    · unfold pGoal
      rw [show headT ([headT ts] ++ S) = headT ts from rfl, if_pos h]
      rfl
  · rw [if_neg h]
    refine ⟨[], rfl, fun S hS => ?_⟩
    show pGoal S = _
    unfold pGoal
    rw [hf S ts hS, if_neg h]
theorem pClause_eq : pClause = fun ts => (pTake bOpen ts).bind fun _ ts1 => (pGoal ts1).bind fun g ts2 => (pText 3 ts2).bind fun id ts3 => pEnds (pItem id g) bShut ts3 := rfl
theorem pEnds_eatsItem (id : ByteArray) (g : Bool) : Eats (pEnds (pItem id g) bShut) := pEnds_eats (pItem_eats id g) bShut
theorem Loc.seq {α β : Type} {P : Pr α} {f : α → Pr β} (h : LocH P) (hf : ∀ a, Loc (f a)) (he : ∀ a, Eats (f a)) : Loc (fun ts => (P ts).bind f) := h.bindE hf he
theorem eats_bind {α β : Type} {P : Pr α} {f : α → Pr β} (h : Keeps P) (hf : ∀ a, Eats (f a)) : Eats (fun ts => (P ts).bind f) := fun ts b R e => by
  obtain ⟨a, t, h1, h2⟩ := bind_ok.1 e
  have := h _ _ _ h1
  have := hf a _ _ _ h2
  omega
theorem pGoal_keeps : Keeps pGoal := fun ts a R e => by
  unfold pGoal at e
  cases e
  exact if_tail _ ts
theorem Loc.clause : Loc pClause := by
  rw [pClause_eq]
  have e1 : ∀ g : Bool, Eats (fun ts => (pText 3 ts).bind fun id ts3 => pEnds (pItem id g) bShut ts3) := fun g => eats_bind (pText_eats 3 (by decide)).keeps fun id => pEnds_eatsItem id g
  have l1 : ∀ g : Bool, Loc (fun ts => (pText 3 ts).bind fun id ts3 => pEnds (pItem id g) bShut ts3) := fun g => (Loc.text (k := 3) (by decide)).h.bindE (fun id => Loc.ends (LocH.item id g) bShut) fun id => pEnds_eatsItem id g
  exact (Loc.take bOpen).h.bindE (fun _ => LocH.goal.bindE l1 e1) fun _ => eats_bind pGoal_keeps e1
theorem Loc.cond : ∀ n, Loc (pCond n)
  | 0 => fun ts a R e => absurd e bad_not
  | n + 1 => by
    intro ts l R e
    unfold pCond at e
    by_cases h1 : isB (headT ts) bMinus = true
    · rw [if_pos h1] at e
      have hk := isB_k h1
      by_cases h2 : isB (headT ts.tail) bLeft = true
      · rw [if_pos h2] at e
        have hk2 := isB_k h2
        obtain ⟨K, k1, k2⟩ := (Loc.map (Loc.ends (Loc.cond n).h bRight) fun l => [allOf l.flatten]) _ _ _ e
        refine ⟨headT ts :: headT ts.tail :: K, ?_, fun S hS => ?_⟩
        · rw [List.cons_append, List.cons_append, ← k1, ← head_tail (by omega), ← head_tail (by omega)]
        · unfold pCond
          rw [show headT (headT ts :: headT ts.tail :: K ++ S) = headT ts from rfl, if_pos h1, show headT (headT ts :: headT ts.tail :: K ++ S).tail = headT ts.tail from rfl, if_pos h2]
          exact k2 S hS
      · rw [if_neg h2] at e
        obtain ⟨x, t, h3, e⟩ := bind_ok.1 e
        cases e
        obtain ⟨u, K, k1, k2⟩ := eats_head Loc.clause pClause_eats h3
        refine ⟨headT ts :: u :: K, ?_, fun S hS => ?_⟩
        · rw [List.cons_append, ← k1]; exact head_tail (by omega)
        · rw [k1] at h2
          change ¬ isB u bLeft = true at h2
          unfold pCond
          rw [show headT (headT ts :: u :: K ++ S) = headT ts from rfl, if_pos h1, show headT (headT ts :: u :: K ++ S).tail = u from rfl, if_neg h2]
          show (pClause (u :: K ++ S)).bind _ = _
          rw [bind_of (k2 S hS)]
    · rw [if_neg h1] at e
      obtain ⟨u, K, k1, k2⟩ := eats_head Loc.clause pClause_eats e
      refine ⟨u :: K, k1, fun S hS => ?_⟩
      rw [k1] at h1
      change ¬ isB u bMinus = true at h1
      unfold pCond
      rw [show headT (u :: K ++ S) = u from rfl, if_neg h1]
      exact k2 S hS
theorem Loc.term : Loc pTerm := by
  intro ts a R e
  unfold pTerm at e
  by_cases h1 : isB (headT ts) bOpen = true
  · rw [if_pos h1] at e
    have hk := isB_k h1
    by_cases h2 : opHere (headT ts.tail) = 0
    · rw [if_pos h2] at e; exact absurd e bad_not
    · rw [if_neg h2] at e
      have hk2 : (headT ts.tail).kind = 4 := by
        unfold opHere at h2
        split at h2
        · assumption
        · exact absurd rfl h2
      have hl : Loc (fun ts2 => (pAtom ts2).bind fun a ts1 => (pAtom ts1).bind fun b ts2 => (pTake bShut ts2).bind fun _ ts3 => .ok (⟨opHere (headT ts.tail), a, b⟩ : Tm) ts3) := by
        have m1 : ∀ a b : Am, Loc (fun ts2 => (pTake bShut ts2).bind fun _ ts3 => .ok (⟨opHere (headT ts.tail), a, b⟩ : Tm) ts3) := fun a b => Loc.map (Loc.take bShut) fun _ => _
        have m2 : ∀ a b : Am, Eats (fun ts2 => (pTake bShut ts2).bind fun _ ts3 => .ok (⟨opHere (headT ts.tail), a, b⟩ : Tm) ts3) := fun a b ts c R e => by
          obtain ⟨u, t, g1, e⟩ := bind_ok.1 e
          cases e
          exact pTake_eats _ _ _ _ g1
        exact Loc.atom.h.bindE (fun a => Loc.atom.h.bindE (m1 a) (m2 a)) fun a => eats_bind pAtom_eats.keeps (m2 a)
      obtain ⟨K, k1, k2⟩ := hl _ _ _ e
      refine ⟨headT ts :: headT ts.tail :: K, ?_, fun S hS => ?_⟩
      · rw [List.cons_append, List.cons_append, ← k1, ← head_tail (by omega), ← head_tail (by omega)]
      · unfold pTerm
        rw [show headT (headT ts :: headT ts.tail :: K ++ S) = headT ts from rfl, if_pos h1, show headT (headT ts :: headT ts.tail :: K ++ S).tail = headT ts.tail from rfl, if_neg h2]
        exact k2 S hS
  · rw [if_neg h1] at e
    obtain ⟨x, t, h3, e⟩ := bind_ok.1 e
    cases e
    obtain ⟨u, K, k1, k2⟩ := eats_head Loc.atom pAtom_eats h3
    refine ⟨u :: K, k1, fun S hS => ?_⟩
    rw [k1] at h1
    change ¬ isB u bOpen = true at h1
    unfold pTerm
    rw [show headT (u :: K ++ S) = u from rfl, if_neg h1, bind_of (k2 S hS)]
theorem LocH.pref : LocH pPref := by
  have hf : ∀ S R : List Tk, Alike S R → prefHere (headT S) = prefHere (headT R) ∧ atomHere (headT S) = atomHere (headT R) := fun S R h => by
    refine ⟨?_, ?_⟩
    · show prefHere (tk (headT S).kt) = prefHere (tk (headT R).kt)
      rw [h.2]
    · show atomHere (tk (headT S).kt) = atomHere (tk (headT R).kt)
      rw [h.2]
  intro ts a R e
  unfold pPref at e
  by_cases h1 : (prefHere (headT ts)).1 = 0
  · rw [if_pos h1] at e
    cases e
    refine ⟨[], rfl, fun S hS => ?_⟩
    show pPref S = _
    unfold pPref
    rw [(hf S ts hS).1, if_pos h1]
  · rw [if_neg h1] at e
    obtain ⟨hk, _⟩ := prefHere_bal h1
    by_cases h2 : 0 < (prefHere (headT ts)).2 ∧ atomHere (headT ts.tail) = true
    · rw [if_pos h2] at e
      obtain ⟨x, t, h3, e⟩ := bind_ok.1 e
      cases e
      obtain ⟨u, K, k1, k2⟩ := eats_head Loc.atom pAtom_eats h3
      refine ⟨headT ts :: u :: K, ?_, fun S hS => ?_⟩
      · rw [List.cons_append, ← k1]; exact head_tail (by omega)
      · rw [k1] at h2
        change 0 < (prefHere (headT ts)).2 ∧ atomHere u = true at h2
        unfold pPref
        rw [show headT (headT ts :: u :: K ++ S) = headT ts from rfl, if_neg h1, show headT (headT ts :: u :: K ++ S).tail = u from rfl, if_pos h2]
        show (pAtom (u :: K ++ S)).bind _ = _
        rw [bind_of (k2 S hS.1)]
    · rw [if_neg h2] at e
      cases e
      refine ⟨[headT ts], head_tail (by omega), fun S hS => ?_⟩
      unfold pPref
      rw [show headT ([headT ts] ++ S) = headT ts from rfl, if_neg h1, show ([headT ts] ++ S).tail = S from rfl, (hf S _ hS).2, if_neg h2]
theorem LocH.act (id : ByteArray) : LocH (pAct id) :=
  (Loc.take bHat).h.bind fun _ => Loc.atom.h.bind fun _ => Loc.term.h.bind fun _ => LocH.pref.bind fun _ => LocH.ret _
theorem Loc.acts : Loc pActs :=
  (Loc.take bOpen).h.bindE (fun _ => (Loc.text (k := 3) (by decide)).h.bindE (fun id => Loc.ends (LocH.act id) bShut) fun id => pEnds_eats (pAct_eats id) bShut) fun _ => eats_bind (pText_eats 3 (by decide)).keeps fun id => pEnds_eats (pAct_eats id) bShut
/-- A production hangs on nothing that follows it. -/
theorem Loc.prod : Loc pProd := by
  intro ts p R e
  unfold pProd at e
  by_cases h1 : spHere (headT ts) = true
  · rw [if_pos h1] at e
    have hk : (headT ts).kind = 1 := by unfold spHere at h1; simp only [Bool.and_eq_true, decide_eq_true_eq] at h1; exact h1.1
    obtain ⟨u, t1, g1, e⟩ := bind_ok.1 e
    obtain ⟨name, t2, g2, e⟩ := bind_ok.1 e
    obtain ⟨cs, t3, g3, e⟩ := bind_ok.1 e
    obtain ⟨al, t4, g4, e⟩ := bind_ok.1 e
    cases e
    obtain ⟨K1, k1, k1'⟩ := Loc.take bLeft _ _ _ g1
    obtain ⟨K2, k2, k2'⟩ := Loc.text (k := 1) (by decide) _ _ _ g2
    obtain ⟨K3, k3, k3'⟩ := Loc.ends (Loc.cond (t2.length + 1)).h bArrow _ _ _ g3
    obtain ⟨K4, k4, k4'⟩ := Loc.ends Loc.acts.h bRight _ _ _ g4
    refine ⟨headT ts :: (K1 ++ (K2 ++ (K3 ++ K4))), cons_of (by rw [k1, k2, k3, k4]; simp) (by omega), fun S hS => ?_⟩
    have l4 : t3.length ≤ (K4 ++ S).length := by rw [k4]; simp; omega
    have l3 : t2.length ≤ (K3 ++ (K4 ++ S)).length := by rw [k3]; simp at l4 ⊢; omega
    have l2 : t1.length ≤ (K2 ++ (K3 ++ (K4 ++ S))).length := by rw [k2]; simp at l3 ⊢; omega
    have e3 := pEnds_mono (fun ts a R h => pCond_mono (show t2.length + 1 ≤ (K3 ++ (K4 ++ S)).length + 1 by omega) h) (k3' _ l4)
    unfold pProd
    rw [show headT (headT ts :: (K1 ++ (K2 ++ (K3 ++ K4))) ++ S) = headT ts from rfl, if_pos h1]
    show (pTake bLeft ((K1 ++ (K2 ++ (K3 ++ K4))) ++ S)).bind _ = _
    rw [show (K1 ++ (K2 ++ (K3 ++ K4))) ++ S = K1 ++ (K2 ++ (K3 ++ (K4 ++ S))) by simp, bind_of (k1' _ l2), bind_of (k2' _ l3), bind_of e3, bind_of (k4' S hS)]
  · rw [if_neg h1] at e; exact absurd e bad_not
end Go.Proofs.Ytgeaccoobhigcaa
namespace Go.Proofs.Ytgeaccoobhigcaa
open Go Go.RowKit

/-- Tokens whose last one is never taken. -/
def Nz (ts : List Tk) : Prop := ∃ K t, ts = K ++ [t] ∧ (t.kind = 5 ∨ t.kind = 6)
theorem Nz.ne {ts : List Tk} (h : Nz ts) : ts ≠ [] := by
  obtain ⟨K, t, rfl, _⟩ := h
  simp
theorem Took.nz {n : Int} {ts ts' : List Tk} (h : Took n ts ts') (k : Nz ts) : Nz ts' := by
  obtain ⟨J, rfl, _, h3⟩ := h
  obtain ⟨K, t, h4, h5⟩ := k
  rcases List.eq_nil_or_concat ts' with rfl | ⟨K', t', rfl⟩
  · rw [List.append_nil] at h4
    have := h3 t (by rw [h4]; simp)
    omega
  · refine ⟨K', t', by simp, ?_⟩
    have h6 := congrArg List.getLast? h4
    rw [List.concat_eq_append] at h6
    simp at h6
    rw [h6]; exact h5
def onL (d : Nat) (ts : List Tk) : List Tk := ts.map (Tk.on d)
def shR {α : Type} (d : Nat) : Rs α → Rs α
  | .bad q => .bad (q + d)
  | .ok a t => .ok a (onL d t)
theorem hd_on (d : Nat) (ts : List Tk) : (headT (onL d ts)).kt = (headT ts).kt := by cases ts <;> rfl
theorem tail_on (d : Nat) (ts : List Tk) : (onL d ts).tail = onL d ts.tail := by cases ts <;> rfl
theorem len_on (d : Nat) (ts : List Tk) : (onL d ts).length = ts.length := by simp [onL]
theorem on_of {β : Type} (g : Tk → β) (hg : ∀ t, g t = g (tk t.kt)) (d : Nat) (ts : List Tk) : g (headT (onL d ts)) = g (headT ts) := by rw [hg, hd_on, ← hg]
theorem isB_on (d : Nat) (ts : List Tk) (s : ByteArray) : isB (headT (onL d ts)) s = isB (headT ts) s := on_of (fun t => isB t s) (fun _ => rfl) d ts
theorem badAt_on {α : Type} (d : Nat) {ts : List Tk} (h : ts ≠ []) : (badAt (onL d ts) : Rs α) = shR d (badAt ts) := by
  cases ts with
  | nil => exact absurd rfl h
  | cons t r => rfl
/-- Further on, the same is read. -/
structure Sh {α : Type} (P : Pr α) : Prop where
  took : ∀ ts a t, P ts = .ok a t → ∃ n, Took n ts t
  sh : ∀ d ts, Nz ts → P (onL d ts) = shR d (P ts)
theorem Bal.took {α : Type} {P : Pr α} (h : Bal P) : ∀ ts a t, P ts = .ok a t → ∃ n, Took n ts t := fun ts a t e => ⟨0, h.ok ts a t e⟩
theorem Sh.nz {α : Type} {P : Pr α} (h : Sh P) {ts : List Tk} {a : α} {t : List Tk} (e : P ts = .ok a t) (k : Nz ts) : Nz t := by
  obtain ⟨n, hn⟩ := h.took ts a t e
  exact hn.nz k
theorem sh_bind {α β : Type} {P : Pr α} {f g : α → List Tk → Rs β} {d : Nat} {ts : List Tk} (h : Sh P) (k : Nz ts) (hf : ∀ a t, Nz t → g a (onL d t) = shR d (f a t)) : (P (onL d ts)).bind g = shR d ((P ts).bind f) := by
  rw [h.sh d ts k]
  cases e : P ts with
  | bad q => rfl
  | ok a t => exact hf a t (h.nz e k)
theorem Sh.take (s : ByteArray) : Sh (pTake s) := by
  refine ⟨fun ts a t e => ⟨_, (take_took e).2.2⟩, fun d ts k => ?_⟩
  unfold pTake
  rw [isB_on, tail_on]
  split
  · rfl
  · exact badAt_on d k.ne
theorem Sh.text {n : Nat} (hk : 1 ≤ n ∧ n ≤ 3) : Sh (pText n) := by
  refine ⟨(Bal.text hk).took, fun d ts k => ?_⟩
  unfold pText
  rw [on_of (fun t => t.kind) (fun _ => rfl), on_of textB (fun _ => rfl), tail_on]
  split
  · rfl
  · exact badAt_on d k.ne
theorem Sh.const : Sh pConst := by
  refine ⟨Bal.const.took, fun d ts k => ?_⟩
  unfold pConst
  rw [on_of constHere (fun _ => rfl), on_of constT (fun _ => rfl), tail_on]
  split
  · rfl
  · exact badAt_on d k.ne
theorem Sh.atom : Sh pAtom := by
  refine ⟨Bal.atom.took, fun d ts k => ?_⟩
  unfold pAtom
  rw [on_of (fun t => t.kind) (fun _ => rfl), on_of textB (fun _ => rfl), tail_on]
  split
  · rfl
  · exact sh_bind Sh.const k fun a t _ => rfl
theorem Sh.many {α : Type} {p : Pr α} (h : Sh p) (hb : Bal p) (stop : ByteArray) : ∀ n, Sh (pMany p stop n)
  | 0 => ⟨(hb.many stop 0).took, fun d ts k => badAt_on d k.ne⟩
  | n + 1 => by
    refine ⟨(hb.many stop (n + 1)).took, fun d ts k => ?_⟩
    unfold pMany
    rw [isB_on]
    split
    · rfl
    · exact sh_bind h k fun a t kt => sh_bind (Sh.many h hb stop n) kt fun l t2 _ => rfl
theorem Sh.many1 {α : Type} {p : Pr α} (h : Sh p) (hb : Bal p) (stop : ByteArray) : Sh (pMany1 p stop) := by
  refine ⟨(hb.many1 stop).took, fun d ts k => ?_⟩
  unfold pMany1
  refine sh_bind h k fun a t kt => ?_
  rw [len_on]
  exact sh_bind (h.many hb stop _) kt fun l t2 _ => rfl
theorem ends_took {α : Type} {p : Pr α} (hb : Bal p) {stop : ByteArray} : ∀ ts a t, pEnds p stop ts = .ok a t → ∃ n, Took n ts t := by
  intro ts a t e
  obtain ⟨x, t1, h1, h2⟩ := bind_ok.1 e
  obtain ⟨_, t2, h3, h4⟩ := bind_ok.1 h2
  cases h4
  exact ⟨_, ((hb.many1 stop).ok _ _ _ h1).trans (take_took h3).2.2⟩
theorem Sh.ends {α : Type} {p : Pr α} (h : Sh p) (hb : Bal p) (stop : ByteArray) : Sh (pEnds p stop) := by
  refine ⟨ends_took hb, fun d ts k => ?_⟩
  unfold pEnds
  exact sh_bind (h.many1 hb stop) k fun l t kt => sh_bind (Sh.take stop) kt fun _ t2 _ => rfl
theorem nz_tail {ts : List Tk} (k : Nz ts) (h : 1 ≤ (headT ts).kind ∧ (headT ts).kind ≤ 4) : Nz ts.tail := (took_tail h).nz k
theorem Sh.test : Sh pTest := by
  refine ⟨Bal.test.took, fun d ts k => ?_⟩
  unfold pTest
  rw [isB_on, on_of relHere (fun _ => rfl), on_of (fun t => relN t.text) (fun _ => rfl), tail_on]
  split
  · rename_i h
    have := isB_k h
    exact sh_bind (Sh.const.ends Bal.const bTo) (nz_tail k (by omega)) fun l t _ => rfl
  · split
    · rename_i h
      have : (headT ts).kind = 4 := by unfold relHere at h; simp only [Bool.and_eq_true, decide_eq_true_eq] at h; exact h.1
      exact sh_bind Sh.atom (nz_tail k (by omega)) fun l t _ => rfl
    · exact sh_bind Sh.atom k fun l t _ => rfl
theorem Sh.field : Sh pField := by
  refine ⟨Bal.field.took, fun d ts k => ?_⟩
  unfold pField
  rw [isB_on, tail_on]
  split
  · rename_i h
    have := isB_k h
    exact (Sh.test.ends Bal.test bRight).sh d _ (nz_tail k (by omega))
  · exact sh_bind Sh.test k fun l t _ => rfl
theorem opt_on (d : Nat) (ts : List Tk) (s : ByteArray) (k : Nz ts) : (if isB (headT (onL d ts)) s then (onL d ts).tail else onL d ts) = onL d (if isB (headT ts) s then ts.tail else ts) ∧ Nz (if isB (headT ts) s then ts.tail else ts) := by
  rw [isB_on]
  split
  · rename_i h
    have := isB_k h
    exact ⟨tail_on d ts, nz_tail k (by omega)⟩
  · exact ⟨rfl, k⟩
theorem Sh.item (id : ByteArray) (goal : Bool) : Sh (pItem id goal) := by
  refine ⟨(Bal.item id goal).took, fun d ts k => ?_⟩
  unfold pItem
  obtain ⟨h1, h2⟩ := opt_on d ts bMinus k
  rw [h1, isB_on]
  refine sh_bind (Sh.take bHat) h2 fun _ t1 k1 => sh_bind Sh.field k1 fun a t2 k2 => ?_
  have h3 : fieldHere (headT (onL d t2)) = fieldHere (headT t2) := on_of fieldHere (fun _ => rfl) d t2
  rw [h3]
  have h4 : Sh (pIf (fieldHere (headT t2)) pField []) := by
    cases fieldHere (headT t2) with
    | false => exact ⟨fun ts a t e => by cases e; exact ⟨0, Took.refl _⟩, fun d ts k => rfl⟩
    | true => exact Sh.field
  refine sh_bind h4 k2 fun v t3 k3 => ?_
  rw [(opt_on d t3 bPlus k3).1, isB_on]
  rfl
theorem goal_on (d : Nat) (ts : List Tk) (k : Nz ts) : (if goalHere (headT (onL d ts)) then (onL d ts).tail else onL d ts) = onL d (if goalHere (headT ts) then ts.tail else ts) ∧ Nz (if goalHere (headT ts) then ts.tail else ts) := by
  have h : goalHere (headT (onL d ts)) = goalHere (headT ts) := on_of goalHere (fun _ => rfl) d ts
  rw [h]
  split
  · rename_i h
    unfold goalHere at h
    simp only [Bool.and_eq_true, decide_eq_true_eq] at h
    exact ⟨tail_on d ts, nz_tail k (by omega)⟩
  · exact ⟨rfl, k⟩
theorem Sh.clause : Sh pClause := by
  refine ⟨Bal.clause.took, fun d ts k => ?_⟩
  unfold pClause
  refine sh_bind (Sh.take bOpen) k fun _ t1 k1 => ?_
  obtain ⟨h1, h2⟩ := goal_on d t1 k1
  rw [h1, on_of goalHere (fun _ => rfl)]
  exact sh_bind (Sh.text (n := 3) (by omega)) h2 fun id t2 k2 => ((Sh.item id _).ends (Bal.item id _) bShut).sh d t2 k2
theorem Sh.cond : ∀ n, Sh (pCond n)
  | 0 => ⟨(Bal.cond 0).took, fun d ts k => badAt_on d k.ne⟩
  | n + 1 => by
    refine ⟨(Bal.cond (n + 1)).took, fun d ts k => ?_⟩
    unfold pCond
    rw [isB_on, tail_on, isB_on, tail_on]
    split
    · rename_i h
      have := isB_k h
      have k1 := nz_tail k (by omega)
      split
      · rename_i h2
        have := isB_k h2
        exact sh_bind ((Sh.cond n).ends (Bal.cond n) bRight) (nz_tail k1 (by omega)) fun l t _ => rfl
      · exact sh_bind Sh.clause k1 fun l t _ => rfl
    · exact Sh.clause.sh d ts k
theorem Sh.term : Sh pTerm := by
  refine ⟨Bal.term.took, fun d ts k => ?_⟩
  unfold pTerm
  rw [isB_on, tail_on, on_of opHere (fun _ => rfl), tail_on]
  split
  · rename_i h
    have := isB_k h
    have k1 := nz_tail k (by omega)
    split
    · exact badAt_on d k1.ne
    · rename_i h2
      have hk2 : (headT ts.tail).kind = 4 := by
        unfold opHere at h2
        split at h2
        · assumption
        · exact absurd rfl h2
      exact sh_bind Sh.atom (nz_tail k1 (by omega)) fun a t ka => sh_bind Sh.atom ka fun b t2 kb => sh_bind (Sh.take bShut) kb fun _ t3 _ => rfl
  · exact sh_bind Sh.atom k fun l t _ => rfl
theorem Sh.pref : Sh pPref := by
  refine ⟨Bal.pref.took, fun d ts k => ?_⟩
  unfold pPref
  rw [on_of prefHere (fun _ => rfl), tail_on, on_of atomHere (fun _ => rfl)]
  split
  · rfl
  · rename_i h
    obtain ⟨hk, _⟩ := prefHere_bal h
    split
    · exact sh_bind Sh.atom (nz_tail k (by omega)) fun l t _ => rfl
    · rfl
theorem Sh.act (id : ByteArray) : Sh (pAct id) :=
  ⟨(Bal.act id).took, fun _ _ k => sh_bind (Sh.take bHat) k fun _ _ k1 => sh_bind Sh.atom k1 fun _ _ k2 => sh_bind Sh.term k2 fun _ _ k3 => sh_bind Sh.pref k3 fun _ _ _ => rfl⟩
theorem Sh.acts : Sh pActs :=
  ⟨Bal.acts.took, fun d ts k => sh_bind (Sh.take bOpen) k fun _ t1 k1 => sh_bind (Sh.text (n := 3) (by omega)) k1 fun id t2 k2 => ((Sh.act id).ends (Bal.act id) bShut).sh d t2 k2⟩
theorem Sh.prod : Sh pProd := by
  refine ⟨fun ts a t e => ?_, fun d ts k => ?_⟩
  · obtain ⟨K, h1, h2, h3, _⟩ := prod_took e
    exact ⟨0, K, h1, h2, h3⟩
  · unfold pProd
    rw [on_of spHere (fun _ => rfl), tail_on]
    split
    · rename_i h
      have : (headT ts).kind = 1 := by unfold spHere at h; simp only [Bool.and_eq_true, decide_eq_true_eq] at h; exact h.1
      refine sh_bind (Sh.take bLeft) (nz_tail k (by omega)) fun _ t1 k1 => sh_bind (Sh.text (n := 1) (by omega)) k1 fun name t2 k2 => ?_
      rw [len_on]
      exact sh_bind ((Sh.cond _).ends (Bal.cond _) bArrow) k2 fun cs t3 k3 => sh_bind (Sh.acts.ends Bal.acts bRight) k3 fun al t4 _ => rfl
    · exact badAt_on d k.ne
end Go.Proofs.Ytgeaccoobhigcaa
namespace Go.Proofs.Ytgeaccoobhigcaa
open Go Go.RowKit

theorem skip_line : ∀ (m : Bool) (l : Bs), (skipN m l = l.length ∧ skipN m (l ++ [10]) = l.length + 1) ∨ (skipN m l < l.length ∧ skipN m (l ++ [10]) = skipN m l)
  | true, [] => .inl ⟨rfl, rfl⟩
  | false, [] => .inl ⟨rfl, rfl⟩
  | true, c :: r => by
    rw [List.cons_append, show skipN true (c :: r) = skipN (decide (c.toNat ≠ 10)) r + 1 from rfl, show skipN true (c :: (r ++ [10])) = skipN (decide (c.toNat ≠ 10)) (r ++ [10]) + 1 from rfl, List.length_cons]
    rcases skip_line (decide (c.toNat ≠ 10)) r with h | h
    · exact .inl ⟨by omega, by omega⟩
    · exact .inr ⟨by omega, by omega⟩
  | false, c :: r => by
    rw [List.cons_append, List.length_cons]
    unfold skipN
    by_cases hb : blankB c = true
    · rw [if_pos hb, if_pos hb]
      rcases skip_line false r with h | h
      · exact .inl ⟨by omega, by omega⟩
      · exact .inr ⟨by omega, by omega⟩
    · rw [if_neg hb, if_neg hb]
      by_cases h35 : c.toNat = 35
      · rw [if_pos h35, if_pos h35]
        rcases skip_line true r with h | h
        · exact .inl ⟨by omega, by omega⟩
        · exact .inr ⟨by omega, by omega⟩
      · rw [if_neg h35, if_neg h35]
        exact .inr ⟨by omega, rfl⟩
/-- The same tokens but for the last one's place. -/
def Lined (x z : List Tk) : Prop := ∃ xs t t', x = xs ++ [t] ∧ z = xs ++ [t'] ∧ t.kind = t'.kind
theorem Lined.cons {x z : List Tk} (h : Lined x z) (u : Tk) : Lined (u :: x) (u :: z) := by
  obtain ⟨xs, t, t', rfl, rfl, h⟩ := h
  exact ⟨u :: xs, t, t', rfl, rfl, h⟩
theorem lined_P : ∀ (n : Nat) (l : Bs) (p : Nat), l.length < n → Lined (toksP (past l) (p + skipN false l)) (toksP (past (l ++ [10])) (p + skipN false (l ++ [10])))
  | 0, _, _, h => by omega
  | n + 1, l, p, hn => by
    unfold past
    rcases skip_line false l with ⟨h1, h2⟩ | ⟨h1, h2⟩
    · rw [h1, h2, List.drop_eq_nil_of_le (Nat.le_refl _), List.drop_eq_nil_of_le (by simp), toksP_nil, toksP_nil]
      exact ⟨[], _, _, rfl, rfl, rfl⟩
    · rw [h2, List.drop_append_of_le_length (by omega)]
      have hl : (l.drop (skipN false l)).length ≤ l.length := by simp
      generalize p + skipN false l = P
      cases hc : l.drop (skipN false l) with
      | nil => have := congrArg List.length hc; rw [List.length_drop] at this; simp at this; omega
      | cons c r =>
        rw [hc] at hl
        rw [List.cons_append, toksP_cons, toksP_cons, nextT_blank c r [] blank10]
        have hlen := nextT_len c r
        generalize nextT (c :: r) = N at hlen
        obtain ⟨kd, tx, ln⟩ := N
        simp only at hlen ⊢
        by_cases h6 : kd = 6
        · rw [if_pos h6, if_pos h6]
          exact ⟨[], _, _, rfl, rfl, rfl⟩
        · rw [if_neg h6, if_neg h6, show c :: (r ++ [10]) = (c :: r) ++ [10] from rfl, List.drop_append_of_le_length hlen.2]
          exact (lined_P n ((c :: r).drop ln) (P + ln) (by rw [List.length_drop]; omega)).cons _
theorem lined_toks (l : Bs) : Lined (toks l) (toks (l ++ [10])) := by
  have := lined_P (l.length + 1) l 0 (by omega)
  rw [Nat.zero_add, Nat.zero_add] at this
  exact this

theorem allF_at : ∀ (n : Nat) (ts : List Tk) (acc : List Pd), ts.length < n → (allF n ts acc).2.2 = 0 → (allF n ts acc).2.1 = -1
  | 0, _, _, h, _ => by omega
  | n + 1, ts, acc, hn, h => by
    by_cases hk : (headT ts).kind = 5
    · rw [allF_end hk]
    · cases hp : pProd ts with
      | bad q => rw [allF_bad hk hp] at h; exact absurd h (by decide : (5 : Int) ≠ 0)
      | ok p ts' =>
        by_cases hs : shapeE p = 0
        · rw [allF_next hk hp hs] at h ⊢
          exact allF_at n ts' _ (by have := pProd_eats _ _ _ hp; omega) h
        · rw [allF_shape hk hp hs] at h; exact absurd h hs
theorem allF_acc : ∀ (n : Nat) (ts : List Tk) (acc x : List Pd), ts.length < n → allF n ts (x ++ acc) = (if (allF n ts acc).2.2 = 0 then x ++ (allF n ts acc).1 else [], (allF n ts acc).2.1, (allF n ts acc).2.2)
  | 0, _, _, _, h => by omega
  | n + 1, ts, acc, x, hn => by
    by_cases hk : (headT ts).kind = 5
    · rw [allF_end hk, allF_end hk]; rfl
    · cases hp : pProd ts with
      | bad q => rw [allF_bad hk hp, allF_bad hk hp]; rfl
      | ok p ts' =>
        by_cases hs : shapeE p = 0
        · rw [allF_next hk hp hs, allF_next hk hp hs, List.append_assoc]
          exact allF_acc n ts' _ x (by have := pProd_eats _ _ _ hp; omega)
        · rw [allF_shape hk hp hs, allF_shape hk hp hs]; simp [hs]
theorem allF_on (d : Nat) : ∀ (n : Nat) (ts : List Tk) (acc : List Pd), Nz ts → ts.length < n → allF n (onL d ts) acc = ((allF n ts acc).1, if (allF n ts acc).2.2 = 0 then -1 else (allF n ts acc).2.1 + d, (allF n ts acc).2.2)
  | 0, _, _, _, h => by omega
  | n + 1, ts, acc, hz, hn => by
    have hk2 : (headT (onL d ts)).kind = (headT ts).kind := on_of (fun t => t.kind) (fun _ => rfl) d ts
    have hpos : (headT (onL d ts)).pos = (headT ts).pos + d := by
      cases ts with
      | nil => exact absurd rfl hz.ne
      | cons t r => rfl
    by_cases hk : (headT ts).kind = 5
    · rw [allF_end hk, allF_end (hk2.trans hk)]; rfl
    · have hk' : (headT (onL d ts)).kind ≠ 5 := by rw [hk2]; exact hk
      have hsh := Sh.prod.sh d ts hz
      cases hp : pProd ts with
      | bad q =>
        rw [hp] at hsh
        rw [allF_bad hk hp, allF_bad hk' hsh, if_neg (show ¬ (5 : Int) = 0 by decide)]
        simp
      | ok p ts' =>
        rw [hp] at hsh
        by_cases hs : shapeE p = 0
        · rw [allF_next hk hp hs, allF_next hk' hsh hs]
          exact allF_on d n ts' _ (Sh.prod.nz hp hz) (by have := pProd_eats _ _ _ hp; omega)
        · rw [allF_shape hk hp hs, allF_shape hk' hsh hs, hpos, if_neg hs]
          simp
theorem allF_join : ∀ (n : Nat) (xs : List Tk) (t : Tk) (acc : List Pd), t.kind = 5 → (∀ u ∈ xs, u.kind ≠ 5) → (xs ++ [t]).length < n → (allF n (xs ++ [t]) acc).2.2 = 0 →
    ∃ (y : List Pd) (k : Nat), (allF n (xs ++ [t]) acc).1 = acc ++ y ∧ k ≤ xs.length ∧ ∀ (S : List Tk), S ≠ [] → ∀ (m : Nat) (acc' : List Pd), allF (k + m) (xs ++ S) acc' = allF m S (acc' ++ y)
  | 0, _, _, _, _, _, h, _ => by omega
  | n + 1, [], t, acc, ht, _, _, _ => ⟨[], 0, by rw [allF_end (by exact ht), List.append_nil], Nat.le_refl _, fun S _ m acc' => by rw [List.append_nil, Nat.zero_add]; rfl⟩
  | n + 1, u :: xs, t, acc, ht, hu, hn, h => by
    have hk : (headT (u :: xs ++ [t])).kind ≠ 5 := hu u (by simp)
    cases hp : pProd (u :: xs ++ [t]) with
    | bad q => rw [allF_bad hk hp] at h; exact absurd h (by decide : (5 : Int) ≠ 0)
    | ok p R =>
      by_cases hs : shapeE p = 0
      · rw [allF_next hk hp hs] at h ⊢
        have hz : Nz R := Sh.prod.nz hp ⟨u :: xs, t, rfl, .inl ht⟩
        obtain ⟨K, k1, k2⟩ := Loc.prod _ _ _ hp
        have he := pProd_eats _ _ _ hp
        obtain ⟨xs2, t2, rfl, _⟩ := hz
        have e1 : u :: xs = K ++ xs2 ∧ t = t2 := by
          rw [← List.append_assoc] at k1
          exact ⟨(List.append_inj' k1 rfl).1, by have := (List.append_inj' k1 rfl).2; simpa using this⟩
        obtain ⟨e1, rfl⟩ := e1
        have hKl : 1 ≤ K.length := by
          rcases K with _ | ⟨v, K⟩
          · rw [k1] at he; simp at he
          · simp
        obtain ⟨y, k, y1, y2, y3⟩ := allF_join n xs2 t (acc ++ [p]) ht (fun v hv => hu v (by rw [e1]; simp [hv])) (by omega) h
        refine ⟨p :: y, k + 1, by rw [y1, List.append_assoc]; rfl, by rw [e1, List.length_append]; omega, fun S hS m acc' => ?_⟩
        have hSl : 1 ≤ S.length := List.length_pos_iff.2 hS
        have hp2 : pProd (u :: xs ++ S) = .ok p (xs2 ++ S) := by
          rw [e1, List.append_assoc]
          exact k2 (xs2 ++ S) (by simp; omega)
        rw [show k + 1 + m = (k + m) + 1 by omega, allF_next (by exact hu u (by simp)) hp2 hs, y3 S hS m, List.append_assoc]
        rfl
      · rw [allF_shape hk hp hs] at h; exact absurd h hs
theorem allF_fuel : ∀ (n m : Nat) (ts : List Tk) (acc : List Pd), ts.length < n → ts.length < m → allF n ts acc = allF m ts acc
  | 0, _, _, _, h, _ => by omega
  | _ + 1, 0, _, _, _, h => by omega
  | n + 1, m + 1, ts, acc, hn, hm => by
    by_cases hk : (headT ts).kind = 5
    · rw [allF_end hk, allF_end hk]
    · cases hp : pProd ts with
      | bad q => rw [allF_bad hk hp, allF_bad hk hp]
      | ok p ts' =>
        by_cases hs : shapeE p = 0
        · rw [allF_next hk hp hs, allF_next hk hp hs]
          have := pProd_eats _ _ _ hp
          exact allF_fuel n m ts' _ (by omega) (by omega)
        · rw [allF_shape hk hp hs, allF_shape hk hp hs]
theorem toks_nz (l : Bs) : ∃ xs t, toks l = xs ++ [t] ∧ (t.kind = 5 ∨ t.kind = 6) ∧ ∀ u ∈ xs, u.kind ≠ 5 ∧ u.kind ≠ 6 := by
  have hne : toks l ≠ [] := toksP_ne _ _
  have hpl := places_last (toks l) 0 (places_toks l)
  rcases List.eq_nil_or_concat (toks l) with h | ⟨xs, t, h⟩
  · exact absurd h hne
  · rw [List.concat_eq_append] at h
    refine ⟨xs, t, h, ?_, fun u hu => ?_⟩
    · refine (hpl xs.length t ?_).2 ?_
      · rw [h]; simp
      · rw [h]; simp
    · obtain ⟨i, hi, he⟩ := List.getElem_of_mem hu
      have h2 := hpl i u (by rw [h, List.getElem?_append_left hi, List.getElem?_eq_getElem hi, he])
      rw [h] at h2
      have h3 : ¬ (u.kind = 5 ∨ u.kind = 6) := fun hh => by have := h2.1 hh; simp at this; omega
      exact ⟨fun e => h3 (.inl e), fun e => h3 (.inr e)⟩
/-- Success: the end was reached. -/
theorem allF_six : ∀ (n : Nat) (ts : List Tk) (acc : List Pd), ts.length < n → (∀ u ∈ ts, u.kind ≠ 5) → ts ≠ [] → Nz ts → (allF n ts acc).2.2 ≠ 0
  | 0, _, _, h, _, _, _ => by omega
  | n + 1, ts, acc, hn, h5, hne, hz => by
    have hk : (headT ts).kind ≠ 5 := by
      cases ts with
      | nil => exact absurd rfl hne
      | cons t r => exact h5 t (by simp)
    cases hp : pProd ts with
    | bad q => rw [allF_bad hk hp]; exact (by decide : (5 : Int) ≠ 0)
    | ok p ts' =>
      by_cases hs : shapeE p = 0
      · rw [allF_next hk hp hs]
        obtain ⟨_, K, k1, _⟩ := Sh.prod.took _ _ _ hp
        have hz' := Sh.prod.nz hp hz
        exact allF_six n ts' _ (by have := pProd_eats _ _ _ hp; omega) (fun u hu => h5 u (by rw [k1]; simp [hu])) hz'.ne hz'
      · rw [allF_shape hk hp hs]; exact hs
/-- ReadJoins, of the tokens. -/
theorem all_join (a b : Bs) (h : (allR (toks a)).2.2 = 0) : allR (toks (a ++ 10 :: b)) = (if (allR (toks b)).2.2 = 0 then (allR (toks a)).1 ++ (allR (toks b)).1 else [], if (allR (toks b)).2.2 = 0 then -1 else (allR (toks b)).2.1 + ((a.length + 1 : Nat) : Int), (allR (toks b)).2.2) := by
  obtain ⟨xs, t, t', h1, h2, h3⟩ := lined_toks a
  obtain ⟨xs0, t0, k1, k2, k3⟩ := toks_nz a
  have e0 : xs = xs0 ∧ t = t0 := by
    have := h1.symm.trans k1
    exact ⟨(List.append_inj' this rfl).1, by have := (List.append_inj' this rfl).2; simpa using this⟩
  obtain ⟨rfl, rfl⟩ := e0
  have ht5 : t.kind = 5 := by
    rcases k2 with k2 | k2
    · exact k2
    · exfalso
      unfold allR at h
      rw [h1] at h
      refine allF_six _ (xs ++ [t]) [] (Nat.lt_succ_self _) (fun u hu => ?_) (by simp) ⟨xs, t, rfl, .inr k2⟩ h
      rcases List.mem_append.1 hu with hu | hu
      · exact (k3 u hu).1
      · rw [List.mem_singleton.1 hu]; omega
  obtain ⟨xs2, t2, j1, j2⟩ := joined_toks a b
  have e1 : xs = xs2 ∧ t' = t2 := by
    have := h2.symm.trans j1
    exact ⟨(List.append_inj' this rfl).1, by have := (List.append_inj' this rfl).2; simpa using this⟩
  obtain ⟨rfl, rfl⟩ := e1
  have hz : toks (a ++ 10 :: b) = xs ++ onL (a.length + 1) (toks b) := by
    rcases j2 with ⟨j2, _⟩ | ⟨_, j2⟩
    · omega
    · exact j2
  obtain ⟨zs, z, z1, z2, _⟩ := toks_nz b
  have hnz : Nz (toks b) := ⟨zs, z, z1, z2⟩
  have hne : onL (a.length + 1) (toks b) ≠ [] := by
    intro e
    have := congrArg List.length e
    rw [len_on, z1] at this
    simp at this
  unfold allR at h
  rw [h1] at h
  obtain ⟨y, k, y1, y2, y3⟩ := allF_join _ xs t [] ht5 (fun u hu => (k3 u hu).1) (Nat.lt_succ_self _) h
  rw [List.nil_append] at y1
  have ha : (allR (toks a)).1 = y := by unfold allR; rw [h1]; exact y1
  have hlen : (xs ++ onL (a.length + 1) (toks b)).length = xs.length + (toks b).length := by rw [List.length_append, len_on]
  unfold allR at ha ⊢
  rw [hz, allF_fuel _ (k + (xs.length + (toks b).length + 1)) _ [] (Nat.lt_succ_self _) (by omega), y3 _ hne, List.nil_append, ha]
  have e2 := allF_acc (xs.length + (toks b).length + 1) (onL (a.length + 1) (toks b)) [] y (by rw [len_on]; omega)
  rw [List.append_nil] at e2
  rw [e2, allF_on (a.length + 1) _ _ _ hnz (by omega), allF_fuel (xs.length + (toks b).length + 1) ((toks b).length + 1) _ [] (by omega) (by omega)]
end Go.Proofs.Ytgeaccoobhigcaa
