/-
  The law ReadClauses holds for every input: the given statement Rows.ReadClausesSaid, without any condition of its own.
-/
import Derived.Test.YtgeaccoobhigcaaGV
import Derived.Test.YtgeaccoobhigcaaGF
import Derived.Test.YtgeaccoobhigcaaGI
import Derived.ProofKit
import Derived.OpenShut
import Derived.ShutString
import Derived.ChangeOld
import Derived.Below
namespace Go.Proofs.Ytgeaccoobhigcaa
open Go Go.RowKit

theorem kts_blanks : ∀ (g x : Bs), (∀ c ∈ g, blankB c = true) → kts (g ++ x) = kts x
  | [], _, _ => rfl
  | c :: g, x, h => by rw [List.cons_append, kts_blank _ (h c (by simp)), kts_blanks g x fun d hd => h d (by simp [hd])]
theorem past_split (l : Bs) : l = l.take (skipN false l) ++ past l := (List.take_append_drop _ _).symm
theorem kts_pastx {l : Bs} (h : 35 ∉ l) (x : Bs) : kts (l ++ x) = kts (past l ++ x) := by
  conv => lhs; rw [past_split l]
  rw [List.append_assoc]
  exact kts_blanks _ _ (skip_light h)
/-- What stands ahead of a blank is read by itself. -/
theorem kts_apart (b : Bs) : ∀ (n : Nat) (l : Bs) (K : Ks), l.length < n → 35 ∉ l → kts l = K ++ [(5, [])] → kts (l ++ 32 :: b) = K ++ kts b
  | 0, _, _, h, _, _ => by omega
  | n + 1, l, K, hn, h35, hk => by
    rw [kts_pastx h35]
    have h1 := kts_pastx h35 []
    rw [List.append_nil, List.append_nil] at h1
    rw [h1] at hk
    have hpl := past_len l
    have hp35 : 35 ∉ past l := fun e => h35 (List.mem_of_mem_drop e)
    cases hp : past l with
    | nil =>
      rw [hp, kts_nil] at hk
      have : K = [] := by
        cases K with
        | nil => rfl
        | cons x K => simp at hk
      rw [this]
      exact kts_32 b
    | cons c r =>
      rw [hp] at hk hpl hp35
      have hh := past_head hp r
      have h0 : blankB c = false ∧ c.toNat ≠ 35 := by
        unfold skipN at hh
        by_cases hb : blankB c = true
        · rw [if_pos hb] at hh; omega
        · rw [if_neg hb] at hh
          refine ⟨by simpa using hb, fun e => ?_⟩
          rw [if_pos e] at hh
          unfold skipN at hh
          omega
      have hlen := nextT_len c r
      have hnx := nextT_blank c r b (d := 32) (by decide)
      cases hN : nextT (c :: r) with
      | mk kd tx ln =>
        rw [hN] at hlen hnx
        simp only at hlen
        by_cases h6 : kd = 6
        · exfalso
          have : kts (c :: r) = [(6, tx)] := by
            rw [kts_past _ 0, show past (c :: r) = c :: r by unfold past; rw [hh]; rfl, toksP_cons, hN]
            simp only
            rw [if_pos h6, h6]
            rfl
          rw [this] at hk
          cases K with
          | nil => simp at hk
          | cons x K => simp at hk
        · have e1 := kts_tok h0.1 h0.2 h6 hN
          rw [e1] at hk
          cases K with
          | nil =>
            have hk' : (kd, tx) :: kts ((c :: r).drop ln) = [(5, [])] := hk
            injection hk' with _ h2
            exact absurd (List.map_eq_nil_iff.1 h2) (toksP_ne _ _)
          | cons x K =>
            injection hk with hx hk
            have e2 : kts (c :: r ++ 32 :: b) = (kd, tx) :: kts ((c :: r ++ 32 :: b).drop ln) := kts_tok h0.1 h0.2 h6 hnx
            rw [e2, List.drop_append_of_le_length hlen.2, kts_apart b n ((c :: r).drop ln) K (by rw [List.length_drop]; omega) (fun e => hp35 (List.mem_of_mem_drop e)) hk, ← hx]
            rfl
theorem kts_seg {l : Bs} {K : Ks} (b : Bs) (h35 : 35 ∉ l) (h : kts l = K ++ [(5, [])]) : kts (l ++ 32 :: b) = K ++ kts b := kts_apart b _ l K (Nat.lt_succ_self _) h35 h

def wS (l : Bs) : Sm := ⟨3, ⟨l.toArray⟩, 0⟩
def nS (n : Int) : Sm := ⟨2, ⟨#[]⟩, n⟩
def isS (r : Int) (s : Sm) : Ts := ⟨r, ⟨#[]⟩, s, []⟩
def isV (r : Int) (l : Bs) : Ts := ⟨r, ⟨l.toArray⟩, nilSm, []⟩
/-- The items of the law. -/
def itm6 : List Itm := [⟨false, [isS 1 (wS [97])], [isV 1 [118]], false⟩, ⟨true, [isS 1 (wS [98])], [isS 1 (nS 3)], false⟩, ⟨false, [isS 1 (wS [99])], [isS 2 (nS 4), isV 7 [115]], true⟩,
  ⟨false, [isV 1 [100]], [⟨8, ⟨#[]⟩, nilSm, [wS [120], wS [121], nS 5]⟩], false⟩, ⟨false, [isS 1 (wS [101])], [], false⟩, ⟨true, [isS 1 (wS [102])], [isS 3 (nS 2)], true⟩]
def txt6 : List Bs := [[94, 97, 32, 60, 118, 62], [45, 94, 98, 32, 51], [94, 99, 32, 123, 32, 60, 62, 32, 52, 32, 60, 61, 62, 32, 60, 115, 62, 32, 125, 32, 43], [94, 60, 100, 62, 32, 60, 60, 32, 120, 32, 121, 32, 53, 32, 62, 62], [94, 101], [45, 94, 102, 32, 60, 32, 50, 32, 43]]
def itmN (k : Nat) : Itm := itm6.getD k ⟨false, [], [], false⟩
def txtN (k : Nat) : Bs := txt6.getD k []
theorem txtN_kts : ∀ k, k < 6 → kts (txtN k) = (itmN k).K ++ [(5, [])]
  | 0, _ => by kernel_rfl
  | 1, _ => by kernel_rfl
  | 2, _ => by kernel_rfl
  | 3, _ => by kernel_rfl
  | 4, _ => by kernel_rfl
  | 5, _ => by kernel_rfl
  | _ + 6, h => by omega
theorem txtN_shut : ∀ k, k < 6 → kts (txtN k ++ [41]) = ((itmN k).K ++ [(4, [41])]) ++ [(5, [])]
  | 0, _ => by kernel_rfl
  | 1, _ => by kernel_rfl
  | 2, _ => by kernel_rfl
  | 3, _ => by kernel_rfl
  | 4, _ => by kernel_rfl
  | 5, _ => by kernel_rfl
  | _ + 6, h => by omega
theorem txtN_light : ∀ k, k < 6 → 35 ∉ txtN k ∧ (txtN k).length ≤ 21
  | 0, _ => by decide
  | 1, _ => by decide
  | 2, _ => by decide
  | 3, _ => by decide
  | 4, _ => by decide
  | 5, _ => by decide
  | _ + 6, h => by omega
theorem itmN_ok : ∀ k, k < 6 → (itmN k).Ok
  | 0, _ => ⟨⟨by decide, by kernel_rfl⟩, by kernel_rfl⟩
  | 1, _ => ⟨⟨by decide, by kernel_rfl⟩, by kernel_rfl⟩
  | 2, _ => ⟨⟨by decide, by kernel_rfl⟩, by kernel_rfl⟩
  | 3, _ => ⟨⟨by decide, by kernel_rfl⟩, by kernel_rfl⟩
  | 4, _ => ⟨⟨by decide, by kernel_rfl⟩, by kernel_rfl⟩
  | 5, _ => ⟨⟨by decide, by kernel_rfl⟩, by kernel_rfl⟩
  | _ + 6, h => by omega
def sId : ByteArray := ⟨#[115]⟩
theorem itmN_fit (g : Bool) : ∀ k, k < 6 → firstE ((itmN k).cd sId g) 0 = 0 := by
  intro k hk
  rcases (show k = 0 ∨ k = 1 ∨ k = 2 ∨ k = 3 ∨ k = 4 ∨ k = 5 by omega) with rfl | rfl | rfl | rfl | rfl | rfl <;> cases g <;> kernel_rfl
theorem itmN_one (g : Bool) (k : Nat) : cdN ((itmN k).cd sId g) = 1 := by simp [Itm.cd, cdN, cdsN]

/-- Clauses. -/
structure Cls where
  goal : Bool
  items : List Itm
def Cls.K (c : Cls) : Ks := clauseK c.goal sId c.items
def Cls.cds (c : Cls) : List Cd := c.items.map fun i => i.cd sId c.goal
theorem Reads.cls {c : Cls} (hl : c.items ≠ []) (h : ∀ i ∈ c.items, i.Ok) (n : Nat) : Reads (pCond (n + 1)) c.K Any c.cds := by
  intro ts R hts _
  have e1 : (headT ts).kt = (4, [40]) := (hd_of hts).1
  obtain ⟨t1, b1, b2⟩ := Reads.clause c.goal sId hl h ts R hts trivial
  refine ⟨t1, ?_, b2⟩
  unfold pCond
  rw [if_neg (by rw [isB_of e1]; decide)]
  exact b1
/-- The act of the law. -/
def actY : Ac := ⟨sId, ⟨⟨#[]⟩, wS [121]⟩, ⟨0, ⟨⟨#[]⟩, nS 1⟩, nilAm⟩, 1, nilAm⟩
def actYK : Ks := [(4, [40]), (3, [115]), (4, [94]), (1, [121]), (2, [49]), (4, [41])]
theorem Reads.actY : Reads pActs actYK Any [actY] := by
  intro ts R hts _
  obtain ⟨t1, a1, a2⟩ := Reads.take bOpen ts _ hts trivial
  obtain ⟨t2, b1, b2⟩ := Reads.text 3 sId t1 _ a2 trivial
  have hp : Reads (pAct sId) [(4, [94]), (1, [121]), (2, [49])] (fun R => (prefHere (tk (hdK R))).1 = 0) Go.Proofs.Ytgeaccoobhigcaa.actY := by
    intro ts R hts hF
    obtain ⟨t1, a1, a2⟩ := Reads.take bHat ts _ hts trivial
    obtain ⟨t2, b1, b2⟩ := Reads.atom (a := ⟨⟨#[]⟩, wS [121]⟩) (by kernel_rfl) t1 _ a2 trivial
    obtain ⟨t3, c1, c2⟩ := Reads.term (t := ⟨0, ⟨⟨#[]⟩, nS 1⟩, nilAm⟩) (by kernel_rfl) t2 R b2 trivial
    refine ⟨t3, ?_, c2⟩
    have hq : prefHere (headT t3) = prefHere (tk (hdK (t3.map Tk.kt))) := by rw [← hd_kt]; rfl
    unfold pAct pPref
    rw [bind_of a1, bind_of b1, bind_of c1]
    rw [hq, c2, if_pos hF]
    rfl
  obtain ⟨t3, c1, c2⟩ := Reads.ends (p := pAct sId) (k := fun _ : Unit => [(4, [94]), (1, [121]), (2, [49])]) (v := fun _ => Go.Proofs.Ytgeaccoobhigcaa.actY) (stop := bShut) (F := fun R => (prefHere (tk (hdK R))).1 = 0) () [] (fun _ _ => hp) (by simp) (by simp) (fun R => rfl) t2 R (by rw [b2]; rfl) trivial
  refine ⟨t3, ?_, c2⟩
  unfold pActs
  rw [bind_of a1, bind_of b1]
  exact c1
def nameN : ByteArray := ⟨#[110]⟩
def prodC (c : Cls) (l : List Cls) : Pd := ⟨nameN, (c.cds :: l.map Cls.cds).flatten, [actY]⟩
def prodCK (c : Cls) (l : List Cls) : Ks := (1, [115, 112]) :: (4, [123]) :: (1, [110]) :: ((c :: l).flatMap Cls.K ++ ((4, [45, 45, 62]) :: (actYK ++ [(4, [125])])))
theorem Reads.prodC {c : Cls} {l : List Cls} (h : ∀ x ∈ c :: l, x.items ≠ [] ∧ ∀ i ∈ x.items, i.Ok) : Reads pProd (prodCK c l) Any (prodC c l) := by
  intro ts R hts _
  unfold prodCK at hts
  obtain ⟨e1, e2⟩ := hd_of hts
  obtain ⟨t1, a1, a2⟩ := Reads.take bLeft ts.tail _ e2 trivial
  obtain ⟨t2, b1, b2⟩ := Reads.text 1 nameN t1 _ a2 trivial
  obtain ⟨t3, c1, c2⟩ := Reads.ends (p := pCond (t2.length + 1)) (k := Cls.K) (v := Cls.cds) (stop := bArrow) (F := Any) c l (fun x hx => Reads.cls (h x hx).1 (h x hx).2 _) (fun y _ => by unfold Cls.K clauseK; simp) (fun y _ R => ⟨isB_t4 (show ([40] : Bs) ≠ bArrow.data.toList by decide), trivial⟩) (fun _ => trivial) t2 ((actYK ++ [(4, [125])]) ++ R) (by rw [b2]; simp [bArrow, Cls.K, clauseK]; rfl) trivial
  obtain ⟨t4, d1, d2⟩ := Reads.ends (p := pActs) (k := fun _ : Unit => actYK) (v := fun _ => [Go.Proofs.Ytgeaccoobhigcaa.actY]) (stop := bRight) (F := Any) () [] (fun _ _ => Reads.actY) (by simp) (by simp) (fun _ => trivial) t3 R (by rw [c2]; rfl) trivial
  refine ⟨t4, ?_, d2⟩
  have hsp : spHere (headT ts) = true := by
    have : spHere (headT ts) = spHere (tk (headT ts).kt) := rfl
    rw [this, e1]; rfl
  unfold pProd
  rw [if_pos hsp, bind_of a1, bind_of b1, bind_of c1, bind_of d1]
  rfl
/-- The law's texts. -/
def firstT : Bs := [115, 112, 32, 123, 110, 32, 40, 115, 116, 97, 116, 101, 32, 60, 115, 62, 32, 94, 122, 32, 60, 118, 62, 41]
def headC (g : Bool) : Bs := if g then [40, 115, 116, 97, 116, 101, 32, 60, 115, 62] else [40, 60, 115, 62]
def lastO : Bs := [41, 32, 45, 45, 62, 32, 40, 60, 115, 62, 32, 94, 121, 32, 49, 41, 125]
def lastM : Bs := [32, 45, 45, 62, 32, 40, 60, 115, 62, 32, 94, 121, 32, 49, 41, 125]
def oneT (g : Bool) (ks : List Nat) : Bs := headC g ++ 32 :: ks.flatMap fun k => txtN k ++ [32]
def manyT (g : Bool) (ks : List Nat) : Bs := ks.flatMap fun k => headC g ++ 32 :: (txtN k ++ [41, 32])
def itmZ : Itm := ⟨false, [isS 1 (wS [122])], [isV 1 [118]], false⟩
def cls0 : Cls := ⟨true, [itmZ]⟩
theorem first_kts : kts firstT = ((1, [115, 112]) :: (4, [123]) :: (1, [110]) :: cls0.K) ++ [(5, [])] := by kernel_rfl
theorem head_kts (g : Bool) : kts (headC g) = ((4, [40]) :: ((if g then [(1, [115, 116, 97, 116, 101])] else []) ++ [(3, [115])])) ++ [(5, [])] := by cases g <;> kernel_rfl
theorem head_light (g : Bool) : 35 ∉ headC g := by cases g <;> decide
theorem lastM_kts : kts lastM = (4, [45, 45, 62]) :: (actYK ++ [(4, [125]), (5, [])]) := by kernel_rfl
theorem lastO_kts : kts lastO = (4, [41]) :: (4, [45, 45, 62]) :: (actYK ++ [(4, [125]), (5, [])]) := by kernel_rfl
theorem items_kts (b : Bs) : ∀ ks : List Nat, (∀ k ∈ ks, k < 6) → kts (ks.flatMap (fun k => txtN k ++ [32]) ++ b) = (ks.map itmN).flatMap Itm.K ++ kts b
  | [], _ => rfl
  | k :: ks, h => by
    have hk := h k (by simp)
    rw [List.flatMap_cons, List.append_assoc, List.append_assoc, List.map_cons, List.flatMap_cons, List.append_assoc, ← items_kts b ks fun x hx => h x (by simp [hx])]
    exact kts_seg _ (txtN_light k hk).1 (txtN_kts k hk)
theorem many_kts (g : Bool) (b : Bs) : ∀ ks : List Nat, (∀ k ∈ ks, k < 6) → kts (manyT g ks ++ b) = (ks.map fun k => (⟨g, [itmN k]⟩ : Cls)).flatMap Cls.K ++ kts b
  | [], _ => rfl
  | k :: ks, h => by
    have hk := h k (by simp)
    have e1 := kts_seg (manyT g ks ++ b) (l := txtN k ++ [41]) (by intro e; rcases List.mem_append.1 e with e | e; exact (txtN_light k hk).1 e; revert e; decide) (txtN_shut k hk)
    have e2 := kts_seg ((txtN k ++ [41]) ++ 32 :: (manyT g ks ++ b)) (head_light g) (head_kts g)
    rw [e1, many_kts g b ks fun x hx => h x (by simp [hx])] at e2
    have e3 : manyT g (k :: ks) ++ b = headC g ++ 32 :: ((txtN k ++ [41]) ++ 32 :: (manyT g ks ++ b)) := by unfold manyT; simp
    rw [e3, e2]
    unfold Cls.K clauseK
    simp [sId]
theorem firstEs_all : ∀ (l : List Cd) (d : Int), (∀ c ∈ l, firstE c d = 0) → firstEs l d = 0
  | [], d, _ => by simp [firstEs]
  | c :: r, d, h => by
    simp only [firstEs]
    rw [if_pos (h c (by simp)), firstEs_all r d fun x hx => h x (by simp [hx])]
theorem cdsN_len : ∀ (l : List Cd), (∀ c ∈ l, cdN c = 1) → cdsN l = l.length
  | [], _ => by simp [cdsN]
  | c :: r, h => by
    simp only [cdsN]
    rw [h c (by simp), cdsN_len r fun x hx => h x (by simp [hx])]
    simp; omega
def wantP (g : Bool) (ks : List Nat) : Pd := ⟨nameN, itmZ.cd sId true :: ks.map fun k => (itmN k).cd sId g, [actY]⟩
theorem want_shape (g : Bool) (ks : List Nat) (h : ∀ k ∈ ks, k < 6) (hn : ks.length ≤ 12) : shapeE (wantP g ks) = 0 := by
  have h1 : ∀ c ∈ (wantP g ks).conds, firstE c 0 = 0 ∧ cdN c = 1 := by
    intro c hc
    unfold wantP at hc
    simp only at hc
    rcases List.mem_cons.1 hc with rfl | hc
    · exact ⟨by kernel_rfl, by kernel_rfl⟩
    · obtain ⟨k, hk, rfl⟩ := List.mem_map.1 hc
      exact ⟨itmN_fit g k (h k hk), itmN_one g k⟩
  have h2 := firstEs_all _ 0 fun c hc => (h1 c hc).1
  have h3 := cdsN_len _ fun c hc => (h1 c hc).2
  have h4 : (wantP g ks).conds.length = ks.length + 1 := by simp [wantP]
  unfold shapeE
  rw [h2, h3, h4, show wordB (wantP g ks).name.data.toList = true by kernel_rfl, show (wantP g ks).acts.length = 1 from rfl, show (wantP g ks).acts.all actB = true by kernel_rfl]
  unfold shapeEq
  rw [if_neg (by simp), if_neg (by omega), if_neg (by simp), if_neg (by simp)]
theorem one_clause (g : Bool) (ks : List Nat) (h : ∀ k ∈ ks, k < 6) (h0 : ks ≠ []) (hn : ks.length ≤ 12) : oneR (toks (firstT ++ 32 :: (oneT g ks ++ lastO))) = (some (wantP g ks), -1, 0) := by
  have e1 := items_kts lastO ks h
  have e2 := kts_seg (ks.flatMap (fun k => txtN k ++ [32]) ++ lastO) (head_light g) (head_kts g)
  rw [e1, lastO_kts] at e2
  have e3 := kts_seg (oneT g ks ++ lastO) (l := firstT) (by decide) first_kts
  have e4 : oneT g ks ++ lastO = headC g ++ 32 :: (ks.flatMap (fun k => txtN k ++ [32]) ++ lastO) := by unfold oneT; simp
  rw [e4, e2] at e3
  have hk : kts (firstT ++ 32 :: (headC g ++ 32 :: (ks.flatMap (fun k => txtN k ++ [32]) ++ lastO))) = prodCK cls0 [⟨g, ks.map itmN⟩] ++ [(5, [])] := by
    rw [e3]
    unfold prodCK Cls.K clauseK
    simp [sId]
  have hok : ∀ x ∈ [cls0, (⟨g, ks.map itmN⟩ : Cls)], x.items ≠ [] ∧ ∀ i ∈ x.items, i.Ok := by
    intro x hx
    simp only [List.mem_cons, List.not_mem_nil, or_false] at hx
    rcases hx with rfl | rfl
    · exact ⟨by simp [cls0], fun i hi => by rw [List.mem_singleton.1 hi]; exact ⟨⟨by decide, by kernel_rfl⟩, by kernel_rfl⟩⟩
    · exact ⟨by simpa using h0, fun i hi => by obtain ⟨k, hk, rfl⟩ := List.mem_map.1 hi; exact itmN_ok k (h k hk)⟩
  obtain ⟨ts', h1, h2⟩ := Reads.prodC hok _ _ hk trivial
  have hp : prodC cls0 [⟨g, ks.map itmN⟩] = wantP g ks := by simp [prodC, wantP, Cls.cds, cls0]
  rw [hp] at h1
  rw [e4]
  exact one_of (want_shape g ks h hn) h1 h2
theorem one_clauses (g : Bool) (ks : List Nat) (h : ∀ k ∈ ks, k < 6) (hn : ks.length ≤ 12) : oneR (toks (firstT ++ 32 :: (manyT g ks ++ lastM))) = (some (wantP g ks), -1, 0) := by
  have e1 := many_kts g lastM ks h
  rw [lastM_kts] at e1
  have e3 := kts_seg (manyT g ks ++ lastM) (l := firstT) (by decide) first_kts
  rw [e1] at e3
  have hk : kts (firstT ++ 32 :: (manyT g ks ++ lastM)) = prodCK cls0 (ks.map fun k => ⟨g, [itmN k]⟩) ++ [(5, [])] := by
    rw [e3]
    unfold prodCK
    simp
  have hok : ∀ x ∈ cls0 :: (ks.map fun k => (⟨g, [itmN k]⟩ : Cls)), x.items ≠ [] ∧ ∀ i ∈ x.items, i.Ok := by
    intro x hx
    rcases List.mem_cons.1 hx with rfl | hx
    · exact ⟨by simp [cls0], fun i hi => by rw [List.mem_singleton.1 hi]; exact ⟨⟨by decide, by kernel_rfl⟩, by kernel_rfl⟩⟩
    · obtain ⟨k, hk, rfl⟩ := List.mem_map.1 hx
      exact ⟨by simp, fun i hi => by rw [List.mem_singleton.1 hi]; exact itmN_ok k (h k hk)⟩
  obtain ⟨ts', h1, h2⟩ := Reads.prodC hok _ _ hk trivial
  have hp : prodC cls0 (ks.map fun k => ⟨g, [itmN k]⟩) = wantP g ks := by
    have hf : (ks.map fun k => [(itmN k).cd sId g]).flatten = ks.map fun k => (itmN k).cd sId g := by
      have := flat_one (ks.map fun k => (itmN k).cd sId g)
      rw [List.map_map] at this
      exact this
    unfold prodC wantP
    rw [List.map_map, List.flatten_cons]
    exact congrArg (fun z => (⟨nameN, itmZ.cd sId true :: z, [actY]⟩ : Pd)) hf
  rw [hp] at h1
  exact one_of (want_shape g ks h hn) h1 h2
end Go.Proofs.Ytgeaccoobhigcaa
namespace Go.Proofs.Ytgeaccoobhigcaa
open Go Go.RowKit

def numK (v : Int) : Nat := (v % 6).toNat
theorem numK_lt (v : Int) : numK v < 6 := by
  unfold numK
  have h1 := Int.emod_nonneg v (show (6 : Int) ≠ 0 by omega)
  have h2 := Int.emod_lt_of_pos v (show (0 : Int) < 6 by omega)
  omega
theorem numK_eq (v : Int) : v % 6 = (numK v : Int) := by
  unfold numK
  have h1 := Int.emod_nonneg v (show (6 : Int) ≠ 0 by omega)
  omega
theorem txtN_at {k : Nat} (h : k < 6) : (txt6.map strV)[k]? = some (strV (txtN k)) := by
  rw [List.getElem?_map, List.getElem?_eq_getElem (show k < txt6.length from h)]
  unfold txtN
  rw [getD_at [] (show k < txt6.length from h)]
  rfl
theorem oneT_snoc (g : Bool) (ks : List Nat) (k : Nat) : oneT g (ks ++ [k]) = oneT g ks ++ (txtN k ++ [32]) := by unfold oneT; simp [List.flatMap_append]
theorem manyT_snoc (g : Bool) (ks : List Nat) (k : Nat) : manyT g (ks ++ [k]) = manyT g ks ++ ((headC g ++ 32 :: txtN k) ++ [41, 32]) := by unfold manyT; simp [List.flatMap_append]
def headS (g : Bool) : ByteArray := if g then ⟨#[40, 115, 116, 97, 116, 101, 32, 60, 115, 62, 32]⟩ else ⟨#[40, 60, 115, 62, 32]⟩
theorem headS_data (g : Bool) : (headS g).data.toList = headC g ++ [32] := by cases g <;> rfl
theorem headS_size (g : Bool) : (headS g).size ≤ 11 := by cases g <;> decide

set_option maxRecDepth 100000 in
set_option maxHeartbeats 4000000 in
/-- The loop and what follows, with a head laid. -/
theorem readClauses_walk (g : Bool) (ao : Option Addr) (gl gc : Nat) (gs : List Int) (w : World) (hgs : IntSl w ao gl gc gs) :
    Calls Try.prog 15 #[.bool g, .slice ao gl gc] w fun e w' => e = .returned (.bool true) ∧ Below w.heap.size w w' := by
  have hgl : gs.length = gl := by have := hgs.1; simpa using this
  have hgcap := hgs.2.1
  have hgmx := hgs.2.2.1
  unfold maxLen at hgmx
  by_cases h1 : 1 ≤ gl
  · have h1' : ¬ (gl : Int) < 1 := by omega
    by_cases h2 : gl ≤ 12
    · have h2' : ¬ (12 : Int) < (gl : Int) := by omega
      have HGL := Lib.hid hgl
      obtain ⟨ks, hks⟩ : ∃ ks, ks = gs.map numK := ⟨_, rfl⟩
      have hk6 : ∀ k ∈ ks, k < 6 := by
        intro k hk
        rw [hks] at hk
        obtain ⟨v, _, rfl⟩ := List.mem_map.1 hk
        exact numK_lt v
      have hkl : ks.length = gl := by rw [hks, List.length_map, hgl]
      have HONE := Lib.hid (one_clause g ks hk6 (by intro e; rw [e] at hkl; simp at hkl; omega) (by omega))
      have HMANY := Lib.hid (one_clauses g ks hk6 (by omega))
      have HKS := Lib.hid hks
      have HKL := Lib.hid hkl
      have hbw := below_new w (.cells #[.string ⟨#[94, 97, 32, 60, 118, 62]⟩, .string ⟨#[45, 94, 98, 32, 51]⟩, .string ⟨#[94, 99, 32, 123, 32, 60, 62, 32, 52, 32, 60, 61, 62, 32, 60, 115, 62, 32, 125, 32, 43]⟩, .string ⟨#[94, 60, 100, 62, 32, 60, 60, 32, 120, 32, 121, 32, 53, 32, 62, 62]⟩, .string ⟨#[94, 101]⟩, .string ⟨#[45, 94, 102, 32, 60, 32, 50, 32, 43]⟩] 9)
      have hbt : SlR (w.alloc (.cells #[.string ⟨#[94, 97, 32, 60, 118, 62]⟩, .string ⟨#[45, 94, 98, 32, 51]⟩, .string ⟨#[94, 99, 32, 123, 32, 60, 62, 32, 52, 32, 60, 61, 62, 32, 60, 115, 62, 32, 125, 32, 43]⟩, .string ⟨#[94, 60, 100, 62, 32, 60, 60, 32, 120, 32, 121, 32, 53, 32, 62, 62]⟩, .string ⟨#[94, 101]⟩, .string ⟨#[45, 94, 102, 32, 60, 32, 50, 32, 43]⟩] 9)) 1 (some ⟨w.heap.size, 0, none⟩) 6 6 (txt6.map strV) := SlR.new w (txt6.map strV) 9 (by simp [txt6, maxLen])
      have hg2 : IntSl _ ao gl gc gs := SlR.kept hgs hbw
      clear hks hk6 hkl hgl hgs
      go_enter Try.func15, Try.ntmps15
      cases g with
      | true =>
        go_wp2_with fail
        generalize w.heap.size = G at hbt ⊢
        generalize w.alloc (.cells #[.string ⟨#[94, 97, 32, 60, 118, 62]⟩, .string ⟨#[45, 94, 98, 32, 51]⟩, .string ⟨#[94, 99, 32, 123, 32, 60, 62, 32, 52, 32, 60, 61, 62, 32, 60, 115, 62, 32, 125, 32, 43]⟩, .string ⟨#[94, 60, 100, 62, 32, 60, 60, 32, 120, 32, 121, 32, 53, 32, 62, 62]⟩, .string ⟨#[94, 101]⟩, .string ⟨#[45, 94, 102, 32, 60, 32, 50, 32, 43]⟩] 9) = w1 at hbt hbw hg2 ⊢
        have HHd : Hid ((⟨#[40, 115, 116, 97, 116, 101, 32, 60, 115, 62, 32]⟩ : ByteArray).data.toList = headC true ++ [32]) := Lib.hid rfl
        have hHz : (⟨#[40, 115, 116, 97, 116, 101, 32, 60, 115, 62, 32]⟩ : ByteArray).size ≤ 11 := by decide
        have hst : Hid ((⟨#[40, 115, 116, 97, 116, 101, 32, 60, 115, 62, 32]⟩ : ByteArray).data.toList = oneT true (ks.take 0)) := Lib.hid rfl
        generalize (⟨#[40, 115, 116, 97, 116, 101, 32, 60, 115, 62, 32]⟩ : ByteArray) = H at HHd hHz hst ⊢
        go_loopw [7, 8, 9] (fun tu tv ti wr => ∃ (i : Nat) (U V : ByteArray), i ≤ gl ∧ tu = .string U ∧ tv = .string V ∧ ti = .int .i64 i ∧ Hid (U.data.toList = oneT true (ks.take i)) ∧ Hid (V.data.toList = manyT true (ks.take i)) ∧ U.size ≤ 11 + i * 34 ∧ V.size ≤ i * 34 ∧ SlR wr 1 (some ⟨G, 0, none⟩) 6 6 (txt6.map strV) ∧ IntSl wr ao gl gc gs ∧ Below w.heap.size w wr) (fun _ _ ti _ => gl - (intOf ti).toNat)
        case atStart => exact ⟨0, H, ⟨#[]⟩, by omega, rfl, rfl, rfl, hst, Lib.hid rfl, by omega, Nat.le_of_eq rfl, hbt, hg2, hbw⟩
        case round =>
          clear hbt hg2 hbw hst
          obtain ⟨i, U, V, hi, rfl, rfl, rfl, HU, HV, hUz, hVz, hbt, hg, hb⟩ := hrel
          by_cases hlt : i < gl
          · obtain ⟨v, hv⟩ : ∃ v, gs[i]? = some v := ⟨_, List.getElem?_eq_getElem (by rw [HGL.out]; exact hlt)⟩
            have hvi : (gs.map (Value.int .i64))[i]? = some (.int .i64 v) := by rw [List.getElem?_map, hv]; rfl
            obtain ⟨ga, go, rfl, hgc, _, _⟩ := hg.at hvi
            have hW := fun w => within_any v 6 w (by omega) (by omega)
            rw [numK_eq] at hW
            have hk6 := numK_lt v
            have hT := txtN_at hk6
            have hkt : ks.take (i + 1) = ks.take i ++ [numK v] := by
              rw [HKS.out, List.take_add_one, List.getElem?_map, hv]; rfl
            obtain ⟨gb, ob, eb, hcb, _, _⟩ := hbt.at hT
            cases eb
            rw [Nat.zero_add] at hcb
            have htz := (txtN_light (numK v) hk6).2
            have e1 : ∀ a b : ByteArray, (a ++ b).size = a.size + b.size := fun a b => by simp
            have HU2 : Hid ((U ++ ((⟨(txtN (numK v)).toArray⟩ : ByteArray) ++ (⟨#[32]⟩ : ByteArray))).data.toList = oneT true (ks.take (i + 1))) := Lib.hid (by rw [data_cat, data_cat, HU.out, hkt, oneT_snoc] <;> simp)
            have HV2 : Hid ((V ++ ((H ++ (⟨(txtN (numK v)).toArray⟩ : ByteArray)) ++ (⟨#[41, 32]⟩ : ByteArray))).data.toList = manyT true (ks.take (i + 1))) := Lib.hid (by rw [data_cat, data_cat, data_cat, HV.out, HHd.out, hkt, manyT_snoc] <;> simp)
            have hXz : (⟨(txtN (numK v)).toArray⟩ : ByteArray).size ≤ 21 := by rw [mk_list_size]; exact htz
            unfold strV at hcb
            generalize (⟨(txtN (numK v)).toArray⟩ : ByteArray) = X at hcb hXz HU2 HV2
            have hUz2 : (U ++ (X ++ (⟨#[32]⟩ : ByteArray))).size ≤ 11 + (i + 1) * 34 := by
              rw [e1, e1]; show _ + (_ + 1) ≤ _; omega
            have hVz2 : (V ++ ((H ++ X) ++ (⟨#[41, 32]⟩ : ByteArray))).size ≤ (i + 1) * 34 := by
              rw [e1, e1, e1]; show _ + (_ + _ + 2) ≤ _; omega
            have HW := Lib.hid hW
            generalize numK v = k at HW hk6 hcb
            have hk6' : (k : Int) < 6 := by omega
            have hii : (i : Int) < (gl : Int) := by omega
            have hU3 : U.size ≤ 1000 := by omega
            have hV3 : V.size ≤ 1000 := by omega
            clear hW hv hvi hT hkt htz e1
            go_wp2_with (go_at_call 27; refine (HW.out _).mono ?_; rintro e w6 ⟨rfl, rfl⟩)
            go_roundw
            case rel => exact ⟨i + 1, _, _, by omega, rfl, rfl, by go_num, HU2, HV2, hUz2, hVz2, hbt, hg, hb⟩
            case measure => simp [intOf]; omega
          · obtain rfl : i = gl := by omega
            have hil' : ¬ (i : Int) < (i : Int) := by omega
            have hks : ks.take i = ks := List.take_of_length_le (by rw [HKL.out]; exact Nat.le_refl _)
            rw [hks] at HU HV
            have e1 : ∀ a b : ByteArray, (a ++ b).size = a.size + b.size := fun a b => by simp
            have z0 : (⟨#[115, 112, 32, 123, 110, 32, 40, 115, 116, 97, 116, 101, 32, 60, 115, 62, 32, 94, 122, 32, 60, 118, 62, 41, 32]⟩ : ByteArray).size = 25 := rfl
            have hX : ((⟨#[115, 112, 32, 123, 110, 32, 40, 115, 116, 97, 116, 101, 32, 60, 115, 62, 32, 94, 122, 32, 60, 118, 62, 41, 32]⟩ : ByteArray) ++ U ++ (⟨#[41, 32, 45, 45, 62, 32, 40, 60, 115, 62, 32, 94, 121, 32, 49, 41, 125]⟩ : ByteArray)).data.toList = firstT ++ 32 :: (oneT true ks ++ lastO) := by
              rw [data_cat, data_cat, HU.out]; simp [firstT, lastO]
            have hY : ((⟨#[115, 112, 32, 123, 110, 32, 40, 115, 116, 97, 116, 101, 32, 60, 115, 62, 32, 94, 122, 32, 60, 118, 62, 41, 32]⟩ : ByteArray) ++ V ++ (⟨#[32, 45, 45, 62, 32, 40, 60, 115, 62, 32, 94, 121, 32, 49, 41, 125]⟩ : ByteArray)).data.toList = firstT ++ 32 :: (manyT true ks ++ lastM) := by
              rw [data_cat, data_cat, HV.out]; simp [firstT, lastM]
            have hO1 := fun w => rone_any _ (show ((⟨#[115, 112, 32, 123, 110, 32, 40, 115, 116, 97, 116, 101, 32, 60, 115, 62, 32, 94, 122, 32, 60, 118, 62, 41, 32]⟩ : ByteArray) ++ U ++ (⟨#[41, 32, 45, 45, 62, 32, 40, 60, 115, 62, 32, 94, 121, 32, 49, 41, 125]⟩ : ByteArray)).size ≤ 32768 by rw [e1, e1]; show 25 + _ + 17 ≤ _; omega) w
            have hO2 := fun w => rone_any _ (show ((⟨#[115, 112, 32, 123, 110, 32, 40, 115, 116, 97, 116, 101, 32, 60, 115, 62, 32, 94, 122, 32, 60, 118, 62, 41, 32]⟩ : ByteArray) ++ V ++ (⟨#[32, 45, 45, 62, 32, 40, 60, 115, 62, 32, 94, 121, 32, 49, 41, 125]⟩ : ByteArray)).size ≤ 32768 by rw [e1, e1]; show 25 + _ + 16 ≤ _; omega) w
            rw [hX, HONE.out] at hO1
            rw [hY, HMANY.out] at hO2
            have HO1 := Lib.hid hO1
            have HO2 := Lib.hid hO2
            have HB := Lib.hid hb
            have hU3 : U.size ≤ 1000 := by omega
            have hV3 : V.size ≤ 1000 := by omega
            have HPL : Hid ((wantP true ks).conds.length = i + 1) := Lib.hid (by unfold wantP; simp [HKL.out])
            clear hX hY hO1 hO2 hks hb hbt hg e1 z0
            go_wp2_with fail
            refine (HO1.out _).mono ?_
            rintro e w4 ⟨h1, b4⟩
            obtain ⟨v, rfl, q, hv, habs, hmem, _, _⟩ := h1
            injection hv with hv
            subst hv
            have hqc := condsMem_len hmem.sc
            have hcn : q.cn = i + 1 := by
              rw [← hqc, ← HPL.out, ← habs]
              unfold ProdR.abs
              simp only
              rw [absL_map, List.length_map]
            have HQ := Lib.hid habs
            have HMQ := Lib.hid hmem
            obtain ⟨qn, qca, qcn, qcc, qcs, qaa, qan, qac, qas⟩ := q
            simp only at hcn
            subst hcn
            unfold ProdR.val
            dsimp only
            have HB4 := Lib.hid (below_trans HB.out b4)
            clear habs hmem b4 HB hqc
            go_wp2_with fail
            refine (HO2.out _).mono ?_
            rintro e w5 ⟨h1, b5⟩
            obtain ⟨v, rfl, p, hv, habs, hmem, _, _⟩ := h1
            injection hv with hv
            subst hv
            have hb45 := below_trans (below_new w4 (.cells #[.string qn, .slice qca (i + 1) qcc, .slice qaa qan qac] 48)) b5
            have hK := fun W (hW : Below w5.heap.size w5 W) => kProd_any ⟨qn, qca, i + 1, qcc, qcs, qaa, qan, qac, qas⟩ p W (HMQ.out.kept (below_trans hb45 hW)) (hmem.kept hW)
            rw [HQ.out, habs, show pdEq (wantP true ks) (wantP true ks) = true from pdEq_iff.2 rfl] at hK
            obtain ⟨pn, pca, pcn, pcc, pcs, paa, pan, pac, pas⟩ := p
            unfold ProdR.val at hK ⊢
            dsimp only at hK ⊢
            have HK := Lib.hid hK
            have HB5 := Lib.hid (below_trans HB4.out hb45)
            have HX5 := Lib.hid (((BoxC.new w4 [.string qn, .slice qca (i + 1) qcc, .slice qaa qan qac] 48).below b5).alloc (.cells #[.string pn, .slice pca pcn pcc, .slice paa pan pac] 48))
            have HY5 := Lib.hid (BoxC.new w5 [.string pn, .slice pca pcn pcc, .slice paa pan pac] 48)
            have HN5 := Lib.hid (below_new w5 (.cells #[.string pn, .slice pca pcn pcc, .slice paa pan pac] 48))
            clear hK habs hmem b5 hb45 HB4
            obtain ⟨x0, x1, x2⟩ := three_box HX5.out
            obtain ⟨y0, y1, y2⟩ := three_box HY5.out
            go_wp2_with fail
            refine (HK.out _ HN5.out).mono ?_
            rintro e w6 ⟨rfl, b6⟩
            have HB6 := Lib.hid (below_trans (below_trans HB5.out HN5.out) b6)
            have HX6 := Lib.hid (HX5.out.below b6)
            obtain ⟨x0, x1, x2⟩ := three_box HX6.out
            have heq : (((i + 1 : Nat) : Int) == 1 + (i : Int)) = true := by simp; omega
            have heq2 : (((i : Int) + 1) == 1 + (i : Int)) = true := by simp; omega
            have heq3 : ((i : Int) + 1 = 1 + (i : Int)) = True := by simp; omega
            clear b6
            go_wp2_with (go_at_call 49; refine (wakes8_any _).mono ?_; rintro e w7 ⟨rfl, b7⟩)
            go_ret
            exact ⟨rfl, below_trans HB6.out b7⟩
      | false =>
        go_wp2_with fail
        generalize w.heap.size = G at hbt ⊢
        generalize w.alloc (.cells #[.string ⟨#[94, 97, 32, 60, 118, 62]⟩, .string ⟨#[45, 94, 98, 32, 51]⟩, .string ⟨#[94, 99, 32, 123, 32, 60, 62, 32, 52, 32, 60, 61, 62, 32, 60, 115, 62, 32, 125, 32, 43]⟩, .string ⟨#[94, 60, 100, 62, 32, 60, 60, 32, 120, 32, 121, 32, 53, 32, 62, 62]⟩, .string ⟨#[94, 101]⟩, .string ⟨#[45, 94, 102, 32, 60, 32, 50, 32, 43]⟩] 9) = w1 at hbt hbw hg2 ⊢
        have HHd : Hid ((⟨#[40, 60, 115, 62, 32]⟩ : ByteArray).data.toList = headC false ++ [32]) := Lib.hid rfl
        have hHz : (⟨#[40, 60, 115, 62, 32]⟩ : ByteArray).size ≤ 11 := by decide
        have hst : Hid ((⟨#[40, 60, 115, 62, 32]⟩ : ByteArray).data.toList = oneT false (ks.take 0)) := Lib.hid rfl
        generalize (⟨#[40, 60, 115, 62, 32]⟩ : ByteArray) = H at HHd hHz hst ⊢
        go_loopw [7, 8, 9] (fun tu tv ti wr => ∃ (i : Nat) (U V : ByteArray), i ≤ gl ∧ tu = .string U ∧ tv = .string V ∧ ti = .int .i64 i ∧ Hid (U.data.toList = oneT false (ks.take i)) ∧ Hid (V.data.toList = manyT false (ks.take i)) ∧ U.size ≤ 11 + i * 34 ∧ V.size ≤ i * 34 ∧ SlR wr 1 (some ⟨G, 0, none⟩) 6 6 (txt6.map strV) ∧ IntSl wr ao gl gc gs ∧ Below w.heap.size w wr) (fun _ _ ti _ => gl - (intOf ti).toNat)
        case atStart => exact ⟨0, H, ⟨#[]⟩, by omega, rfl, rfl, rfl, hst, Lib.hid rfl, by omega, Nat.le_of_eq rfl, hbt, hg2, hbw⟩
        case round =>
          clear hbt hg2 hbw hst
          obtain ⟨i, U, V, hi, rfl, rfl, rfl, HU, HV, hUz, hVz, hbt, hg, hb⟩ := hrel
          by_cases hlt : i < gl
          · obtain ⟨v, hv⟩ : ∃ v, gs[i]? = some v := ⟨_, List.getElem?_eq_getElem (by rw [HGL.out]; exact hlt)⟩
            have hvi : (gs.map (Value.int .i64))[i]? = some (.int .i64 v) := by rw [List.getElem?_map, hv]; rfl
            obtain ⟨ga, go, rfl, hgc, _, _⟩ := hg.at hvi
            have hW := fun w => within_any v 6 w (by omega) (by omega)
            rw [numK_eq] at hW
            have hk6 := numK_lt v
            have hT := txtN_at hk6
            have hkt : ks.take (i + 1) = ks.take i ++ [numK v] := by
              rw [HKS.out, List.take_add_one, List.getElem?_map, hv]; rfl
            obtain ⟨gb, ob, eb, hcb, _, _⟩ := hbt.at hT
            cases eb
            rw [Nat.zero_add] at hcb
            have htz := (txtN_light (numK v) hk6).2
            have e1 : ∀ a b : ByteArray, (a ++ b).size = a.size + b.size := fun a b => by simp
            have HU2 : Hid ((U ++ ((⟨(txtN (numK v)).toArray⟩ : ByteArray) ++ (⟨#[32]⟩ : ByteArray))).data.toList = oneT false (ks.take (i + 1))) := Lib.hid (by rw [data_cat, data_cat, HU.out, hkt, oneT_snoc] <;> simp)
            have HV2 : Hid ((V ++ ((H ++ (⟨(txtN (numK v)).toArray⟩ : ByteArray)) ++ (⟨#[41, 32]⟩ : ByteArray))).data.toList = manyT false (ks.take (i + 1))) := Lib.hid (by rw [data_cat, data_cat, data_cat, HV.out, HHd.out, hkt, manyT_snoc] <;> simp)
            have hXz : (⟨(txtN (numK v)).toArray⟩ : ByteArray).size ≤ 21 := by rw [mk_list_size]; exact htz
            unfold strV at hcb
            generalize (⟨(txtN (numK v)).toArray⟩ : ByteArray) = X at hcb hXz HU2 HV2
            have hUz2 : (U ++ (X ++ (⟨#[32]⟩ : ByteArray))).size ≤ 11 + (i + 1) * 34 := by
              rw [e1, e1]; show _ + (_ + 1) ≤ _; omega
            have hVz2 : (V ++ ((H ++ X) ++ (⟨#[41, 32]⟩ : ByteArray))).size ≤ (i + 1) * 34 := by
              rw [e1, e1, e1]; show _ + (_ + _ + 2) ≤ _; omega
            have HW := Lib.hid hW
            generalize numK v = k at HW hk6 hcb
            have hk6' : (k : Int) < 6 := by omega
            have hii : (i : Int) < (gl : Int) := by omega
            have hU3 : U.size ≤ 1000 := by omega
            have hV3 : V.size ≤ 1000 := by omega
            clear hW hv hvi hT hkt htz e1
            go_wp2_with (go_at_call 27; refine (HW.out _).mono ?_; rintro e w6 ⟨rfl, rfl⟩)
            go_roundw
            case rel => exact ⟨i + 1, _, _, by omega, rfl, rfl, by go_num, HU2, HV2, hUz2, hVz2, hbt, hg, hb⟩
            case measure => simp [intOf]; omega
          · obtain rfl : i = gl := by omega
            have hil' : ¬ (i : Int) < (i : Int) := by omega
            have hks : ks.take i = ks := List.take_of_length_le (by rw [HKL.out]; exact Nat.le_refl _)
            rw [hks] at HU HV
            have e1 : ∀ a b : ByteArray, (a ++ b).size = a.size + b.size := fun a b => by simp
            have z0 : (⟨#[115, 112, 32, 123, 110, 32, 40, 115, 116, 97, 116, 101, 32, 60, 115, 62, 32, 94, 122, 32, 60, 118, 62, 41, 32]⟩ : ByteArray).size = 25 := rfl
            have hX : ((⟨#[115, 112, 32, 123, 110, 32, 40, 115, 116, 97, 116, 101, 32, 60, 115, 62, 32, 94, 122, 32, 60, 118, 62, 41, 32]⟩ : ByteArray) ++ U ++ (⟨#[41, 32, 45, 45, 62, 32, 40, 60, 115, 62, 32, 94, 121, 32, 49, 41, 125]⟩ : ByteArray)).data.toList = firstT ++ 32 :: (oneT false ks ++ lastO) := by
              rw [data_cat, data_cat, HU.out]; simp [firstT, lastO]
            have hY : ((⟨#[115, 112, 32, 123, 110, 32, 40, 115, 116, 97, 116, 101, 32, 60, 115, 62, 32, 94, 122, 32, 60, 118, 62, 41, 32]⟩ : ByteArray) ++ V ++ (⟨#[32, 45, 45, 62, 32, 40, 60, 115, 62, 32, 94, 121, 32, 49, 41, 125]⟩ : ByteArray)).data.toList = firstT ++ 32 :: (manyT false ks ++ lastM) := by
              rw [data_cat, data_cat, HV.out]; simp [firstT, lastM]
            have hO1 := fun w => rone_any _ (show ((⟨#[115, 112, 32, 123, 110, 32, 40, 115, 116, 97, 116, 101, 32, 60, 115, 62, 32, 94, 122, 32, 60, 118, 62, 41, 32]⟩ : ByteArray) ++ U ++ (⟨#[41, 32, 45, 45, 62, 32, 40, 60, 115, 62, 32, 94, 121, 32, 49, 41, 125]⟩ : ByteArray)).size ≤ 32768 by rw [e1, e1]; show 25 + _ + 17 ≤ _; omega) w
            have hO2 := fun w => rone_any _ (show ((⟨#[115, 112, 32, 123, 110, 32, 40, 115, 116, 97, 116, 101, 32, 60, 115, 62, 32, 94, 122, 32, 60, 118, 62, 41, 32]⟩ : ByteArray) ++ V ++ (⟨#[32, 45, 45, 62, 32, 40, 60, 115, 62, 32, 94, 121, 32, 49, 41, 125]⟩ : ByteArray)).size ≤ 32768 by rw [e1, e1]; show 25 + _ + 16 ≤ _; omega) w
            rw [hX, HONE.out] at hO1
            rw [hY, HMANY.out] at hO2
            have HO1 := Lib.hid hO1
            have HO2 := Lib.hid hO2
            have HB := Lib.hid hb
            have hU3 : U.size ≤ 1000 := by omega
            have hV3 : V.size ≤ 1000 := by omega
            have HPL : Hid ((wantP false ks).conds.length = i + 1) := Lib.hid (by unfold wantP; simp [HKL.out])
            clear hX hY hO1 hO2 hks hb hbt hg e1 z0
            go_wp2_with fail
            refine (HO1.out _).mono ?_
            rintro e w4 ⟨h1, b4⟩
            obtain ⟨v, rfl, q, hv, habs, hmem, _, _⟩ := h1
            injection hv with hv
            subst hv
            have hqc := condsMem_len hmem.sc
            have hcn : q.cn = i + 1 := by
              rw [← hqc, ← HPL.out, ← habs]
              unfold ProdR.abs
              simp only
              rw [absL_map, List.length_map]
            have HQ := Lib.hid habs
            have HMQ := Lib.hid hmem
            obtain ⟨qn, qca, qcn, qcc, qcs, qaa, qan, qac, qas⟩ := q
            simp only at hcn
            subst hcn
            unfold ProdR.val
            dsimp only
            have HB4 := Lib.hid (below_trans HB.out b4)
            clear habs hmem b4 HB hqc
            go_wp2_with fail
            refine (HO2.out _).mono ?_
            rintro e w5 ⟨h1, b5⟩
            obtain ⟨v, rfl, p, hv, habs, hmem, _, _⟩ := h1
            injection hv with hv
            subst hv
            have hb45 := below_trans (below_new w4 (.cells #[.string qn, .slice qca (i + 1) qcc, .slice qaa qan qac] 48)) b5
            have hK := fun W (hW : Below w5.heap.size w5 W) => kProd_any ⟨qn, qca, i + 1, qcc, qcs, qaa, qan, qac, qas⟩ p W (HMQ.out.kept (below_trans hb45 hW)) (hmem.kept hW)
            rw [HQ.out, habs, show pdEq (wantP false ks) (wantP false ks) = true from pdEq_iff.2 rfl] at hK
            obtain ⟨pn, pca, pcn, pcc, pcs, paa, pan, pac, pas⟩ := p
            unfold ProdR.val at hK ⊢
            dsimp only at hK ⊢
            have HK := Lib.hid hK
            have HB5 := Lib.hid (below_trans HB4.out hb45)
            have HX5 := Lib.hid (((BoxC.new w4 [.string qn, .slice qca (i + 1) qcc, .slice qaa qan qac] 48).below b5).alloc (.cells #[.string pn, .slice pca pcn pcc, .slice paa pan pac] 48))
            have HY5 := Lib.hid (BoxC.new w5 [.string pn, .slice pca pcn pcc, .slice paa pan pac] 48)
            have HN5 := Lib.hid (below_new w5 (.cells #[.string pn, .slice pca pcn pcc, .slice paa pan pac] 48))
            clear hK habs hmem b5 hb45 HB4
            obtain ⟨x0, x1, x2⟩ := three_box HX5.out
            obtain ⟨y0, y1, y2⟩ := three_box HY5.out
            go_wp2_with fail
            refine (HK.out _ HN5.out).mono ?_
            rintro e w6 ⟨rfl, b6⟩
            have HB6 := Lib.hid (below_trans (below_trans HB5.out HN5.out) b6)
            have HX6 := Lib.hid (HX5.out.below b6)
            obtain ⟨x0, x1, x2⟩ := three_box HX6.out
            have heq : (((i + 1 : Nat) : Int) == 1 + (i : Int)) = true := by simp; omega
            have heq2 : (((i : Int) + 1) == 1 + (i : Int)) = true := by simp; omega
            have heq3 : ((i : Int) + 1 = 1 + (i : Int)) = True := by simp; omega
            clear b6
            go_wp2_with (go_at_call 49; refine (wakes8_any _).mono ?_; rintro e w7 ⟨rfl, b7⟩)
            go_ret
            exact ⟨rfl, below_trans HB6.out b7⟩
    · have h2' : (12 : Int) < (gl : Int) := by omega
      go_enter Try.func15, Try.ntmps15
      go_wp2_with (go_at_call 49; refine (wakes8_any _).mono ?_; rintro e w6 ⟨rfl, b6⟩)
      go_ret
      exact ⟨rfl, b6⟩
  · have h1' : (gl : Int) < 1 := by omega
    go_enter Try.func15, Try.ntmps15
    go_wp2_with (go_at_call 49; refine (wakes8_any _).mono ?_; rintro e w6 ⟨rfl, b6⟩)
    go_ret
    exact ⟨rfl, b6⟩
end Go.Proofs.Ytgeaccoobhigcaa
namespace Go.Proofs.Ytgeaccoobhigcaa
open Go.ChangeShapes Go.WideShapes Go.ChangeAt Go.RowKit
open Go.ChangeMaps (open_string shut_string)

theorem readClauses_own : ownKnob Try.prog.godebug = none := by kernel_rfl
theorem readClauses_laidOut : laidOutB Try.prog = true := by kernel_rfl

set_option maxRecDepth 100000 in
theorem readClauses_lifted (os : Os) (started : os.Started) (H : Type) (enc : TypeId × Value → H) :
    ReturnsInHanded {} Try.checked os 15 .any (Rows.readClausesSpec.pre6 enc Try.prog Try.f15 Rows.readClausesRow.domain false) (Rows.readClausesSpec.post enc Try.prog Try.f15 false true false false) := by
  refine returnsInHanded_of_change (C := Try.checked) readClauses_own started (by kernel_rfl) Try.func15
    (ChangeSpec.witness6 (enc := enc) (C := Try.checked) false ⟨#[], #[.bool false, .slice none 0 0], []⟩ 8 (by kernel_rfl) (by kernel_rfl) (by kernel_rfl) (by kernel_rfl)) ?_
  intro W base args ds gs before hval0 hW _ _
  have hval : ∀ (j : Nat) t v, Try.f15.params[j]? = some t → args[j]? = some v → Value.okWide Try.prog W .any base t v := hval0
  have hW' := hW
  obtain ⟨p, q, hA0, hV, rfl, hfz, hnd⟩ := hW
  have hA : DataW.TrodAll enc Try.prog W 0 (fun _ => true) true Try.f15.params.toList args.toList ds p := hA0
  rw [Try.params15] at hA hval
  obtain ⟨v0, vs0, d0, ds0, p0, q0, hargs, rfl, rfl, h0, r0⟩ := trodAll_cons hA
  obtain ⟨v1, vs1, d1, ds1, p1, q1, rfl, rfl, rfl, h1, r1⟩ := trodAll_cons r0
  obtain ⟨rfl, rfl, rfl⟩ := trodAll_nil r1
  obtain rfl : args = #[v0, v1] := by cases args; simp_all
  obtain ⟨rfl, rfl⟩ := trodVars_none hV
  obtain ⟨a0, rfl, rfl, rfl⟩ := open_bool Try.underlying4 (hval 0 4 v0 rfl rfl) h0
  obtain ⟨a1, len1, cap1, rfl⟩ := okWide_slice Try.underlying38 (hval 1 38 v1 rfl rfl)
  have k1 := h1
  have lt1 : ∀ x ∈ p1, x.block < W.heap.size := by obtain ⟨m, hm⟩ := k1; exact DataW.trod_lt m _ _ _ hm
  obtain ⟨z1, w1⟩ : ∃ zs, IntSl W a1 len1 cap1 zs := by
    obtain ⟨fuel, hf⟩ := h1
    rcases open_ints Try.underlying38 Try.underlying3 (by kernel_rfl) hf with ⟨hcs, _⟩ | ⟨x, l, c, zs, hcs, _, hl, hm, hz, _, hcell, hwz⟩
    · simp [Value.cells] at hcs
      obtain ⟨rfl, rfl, rfl⟩ := hcs
      exact ⟨[], SlR.nil _ _⟩
    · simp [Value.cells] at hcs
      obtain ⟨rfl, rfl, rfl⟩ := hcs
      exact ⟨zs.take len1, IntSl.of_cells hl hm (by simpa using hz) hcell⟩
  clear hA0 hval0
  refine (readClauses_walk a0 a1 len1 cap1 z1 W w1).mono fun e W' ⟨he, bel⟩ => ?_
  subst he
  exact ⟨_, rfl, _, _, _, [], _, [], hW', trodAll_mk1 (shut_bool Try.underlying4 _), (trodAll_cons_mk (shut_bool Try.underlying4 _) (trodAll_cons_mk (Below.trod readClauses_laidOut (by kernel_rfl) (of_decide_eq_true (by kernel_rfl)) k1 bel lt1) trodAll_mk0)), rfl, bel.frame _, fun h => by cases h⟩

/-- THE GIVEN STATEMENT. -/
theorem readClauses_holds : Rows.ReadClausesSaid :=
  OpenClaim.holds_of_wide 15 Try.f15 rfl rfl rfl rfl rfl rfl rfl ⟨rfl, rfl, rfl, rfl, rfl⟩ rfl rfl rfl rfl rfl (by kernel_rfl) Try.func15 (by kernel_rfl)
    (of_decide_eq_true (by kernel_rfl)) (by unfold Func.isWrapper; first | (rw [if_pos (by decide +kernel)]; kernel_rfl) | (rw [if_neg (by decide +kernel)]; exact ⟨rfl, rfl⟩))
    (fun os started H enc _ => readClauses_lifted os started H enc)
#print axioms readClauses_holds
end Go.Proofs.Ytgeaccoobhigcaa
