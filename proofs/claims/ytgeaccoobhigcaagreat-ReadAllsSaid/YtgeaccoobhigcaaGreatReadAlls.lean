/-
  The law ReadAlls holds for every input: the given statement Rows.ReadAllsSaid, without any condition of its own.
-/
import Derived.Test.YtgeaccoobhigcaaGreatXC
import Derived.Test.YtgeaccoobhigcaaGreatGH
import Derived.Test.YtgeaccoobhigcaaGreatGE
import Derived.ProofKit
import Derived.OpenShut
import Derived.ShutString
import Derived.ChangeOld
import Derived.Below
namespace Go.Proofs.YtgeaccoobhigcaaGreat
open Go Go.RowKit

/-- The productions as far as they can be read; where it went wrong, and how. -/
def eachF : Nat → List Tk → List Pd → List Pd × Int × Int
  | 0, _, _ => ([], 0, 0)
  | n + 1, ts, acc => if (headT ts).kind = 5 then (acc, -1, 0) else
    match pProd ts with
    | .bad q => (acc, (q : Int), 5)
    | .ok p ts' => if shapeE p = 0 then eachF n ts' (acc ++ [p]) else (acc, ((headT ts).pos : Int), shapeE p)
def eachR (ts : List Tk) : List Pd × Int × Int := eachF (ts.length + 1) ts []
theorem eachF_end {n : Nat} {ts : List Tk} {acc : List Pd} (h : (headT ts).kind = 5) : eachF (n + 1) ts acc = (acc, -1, 0) := if_pos h
theorem eachF_bad {n : Nat} {ts : List Tk} {acc : List Pd} {q : Nat} (h : (headT ts).kind ≠ 5) (hp : pProd ts = .bad q) : eachF (n + 1) ts acc = (acc, (q : Int), 5) := by
  unfold eachF; rw [if_neg h, hp]
theorem eachF_shape {n : Nat} {ts : List Tk} {acc : List Pd} {p : Pd} {ts' : List Tk} (h : (headT ts).kind ≠ 5) (hp : pProd ts = .ok p ts') (hs : shapeE p ≠ 0) : eachF (n + 1) ts acc = (acc, ((headT ts).pos : Int), shapeE p) := by
  unfold eachF; rw [if_neg h, hp]; exact if_neg hs
theorem eachF_next {n : Nat} {ts : List Tk} {acc : List Pd} {p : Pd} {ts' : List Tk} (h : (headT ts).kind ≠ 5) (hp : pProd ts = .ok p ts') (hs : shapeE p = 0) : eachF (n + 1) ts acc = eachF n ts' (acc ++ [p]) := by
  conv => lhs; unfold eachF
  rw [if_neg h, hp]; exact if_pos hs
theorem eachF_all : ∀ (n : Nat) (ts : List Tk) (acc : List Pd), ts.length < n → allF n ts acc = if (eachF n ts acc).2.2 = 0 then eachF n ts acc else ([], (eachF n ts acc).2.1, (eachF n ts acc).2.2)
  | 0, _, _, h => by omega
  | n + 1, ts, acc, h => by
    by_cases hk : (headT ts).kind = 5
    · rw [allF_end hk, eachF_end hk]; rfl
    · cases hp : pProd ts with
      | bad q => rw [allF_bad hk hp, eachF_bad hk hp]; rfl
      | ok p ts' =>
        by_cases hs : shapeE p = 0
        · rw [allF_next hk hp hs, eachF_next hk hp hs]
          exact eachF_all n ts' _ (by have := pProd_eats _ _ _ hp; omega)
        · rw [allF_shape hk hp hs, eachF_shape hk hp hs, if_neg hs]
structure EachRun (E : Env) (w : World) (Z : List Pd × Int × Int) (v : Value) (l : List ProdR) (ts : List Tk) (k : Nat) (wr : World) : Prop where
  own : OwnD mkProd w.heap.size 26 wr v l
  mv : Mv E w wr
  q : Q8 E wr (.ok () ts)
  count : l.length + ts.length ≤ 1000000
  fuel : ts.length < k
  eq : Z = eachF k ts (l.map ProdR.abs)
theorem EachRun.more {γ : Type} {r0 : Rs γ} {E : Env} {w wr w4 w5 : World} {Z : List Pd × Int × Int} {v v' : Value} {l : List ProdR} {ts ts' : List Tk} {k : Nat} {p : ProdR} (h0 : Q8 E w r0) (h : EachRun E w Z v l ts (k + 1) wr)
    (h5 : (headT ts).kind ≠ 5) (hp : pProd ts = .ok p.abs ts') (hs : shapeE p.abs = 0) (hm : Mv E wr w4) (hr : Q8 E w4 (.ok () ts')) (ho : OwnD mkProd w.heap.size 26 w5 v' (l ++ [p])) (hg : w4.grownBy w5 v.ownBlock) :
    EachRun E w Z v' (l ++ [p]) ts' k w5 := by
  have hown : ∀ b, v.ownBlock = some b → w.heap.size ≤ b := fun b e => (h.own.own.lt b e).1
  have he := pProd_eats _ _ _ hp
  have h1 := h.count
  have h2 := h.fuel
  refine ⟨ho, (h.mv.trans hm).grown hg fun b e => .inr (.inr (hown b e)), Q8.newRow h0 hr hg hown, by simp; omega, by omega, ?_⟩
  rw [h.eq, eachF_next h5 hp hs, List.map_append]
  rfl
set_option maxRecDepth 100000 in
set_option maxHeartbeats 4000000 in
theorem each8 (s : ByteArray) (hs : s.size ≤ 32768) (w : World) :
    Calls Tryz.prog 13 #[.string s] w fun x w' => AllOut w.heap.size w' (eachR (toks s.data.toList)) x ∧ Below w.heap.size w w' := by
  have HALL := Lib.hid (refAll_any s (by omega) w)
  have hgood := good_toks (l := s.data.toList) (by rw [size_toList]; omega)
  obtain ⟨i0, hi, hz0, hz1, hz2⟩ := info_parts Tryz.info26
  unfold eachR
  obtain ⟨L, hL⟩ : ∃ L, toks s.data.toList = L := ⟨_, rfl⟩
  rw [hL] at hgood HALL ⊢
  obtain ⟨Z, hZ⟩ : ∃ Z, eachF (L.length + 1) L [] = Z := ⟨_, rfl⟩
  rw [hZ]
  have e0 : (s.size : Int) ≤ 32768 := by omega
  have HGD := Lib.hid hgood
  clear hL hgood
  go_enter Tryz.func13, Tryz.ntmps13
  go_wp2_with (go_at_call 19; refine HALL.out.mono ?_; rintro x w1 ⟨go, c, rfl, hd, hlow, hb⟩)
  obtain ⟨E, hE⟩ : ∃ E : Env, E = ⟨w1.heap.size, 0, w1.heap.size, go, L.length, c, L⟩ := ⟨_, rfl⟩
  have hlen : 0 < L.length := List.length_pos_iff.2 HGD.out.ne
  have hQ : Qd E (w1.alloc (.cells #[.slice go L.length c, .int .i64 0, .bool false] 65)) 0 false := by
    subst hE
    exact ⟨BoxC.new w1 _ 65, hd.kept (below_new _ _), fun a ha hn => Nat.ne_of_lt (hd.inB (by omega) a ha hn), HGD.out, hlen, rfl⟩
  have hEr : E.r = w1.heap.size := by rw [hE]
  have hEi : E.ib = w1.heap.size := by rw [hE]
  have hEl : E.L = L := by rw [hE]
  have hEn : E.n = L.length := by rw [hE]
  have hEc : E.c = c := by rw [hE]
  have hEp : E.ptr = .pointer (some ⟨w1.heap.size, 0, none⟩) := by rw [hE]; rfl
  obtain ⟨g, o, hao, -, -, -⟩ := hQ.data.tok (Env.at8_some hQ.lt)
  have hgo : go = some ⟨g, o, none⟩ := by rw [← hao, hE]
  subst hgo
  have hLn := HGD.out.len
  have HB0 := Lib.hid (hb.alloc hb.size (.cells #[.slice (some ⟨g, o, none⟩) L.length c, .int .i64 0, .bool false] 65))
  have hw1 : w.heap.size ≤ w1.heap.size := hb.size
  have HQ0 : Hid (Q8 E (w1.alloc (.cells #[.slice (some ⟨g, o, none⟩) L.length c, .int .i64 0, .bool false] 65)) (.ok () L)) := Lib.hid ⟨0, hQ, by rw [hEl]; rfl⟩
  have HS : Hid (EachRun E (w1.alloc (.cells #[.slice (some ⟨g, o, none⟩) L.length c, .int .i64 0, .bool false] 65)) Z (.slice none 0 0) [] L (L.length + 1) (w1.alloc (.cells #[.slice (some ⟨g, o, none⟩) L.length c, .int .i64 0, .bool false] 65))) := Lib.hid ⟨OwnD.nil _ _ _ _, Mv.refl _ _, HQ0.out, by simpa using hLn, by omega, hZ.symm⟩
  have HIS := Lib.hid (fun W ts (h : Q8 E W (.ok () ts)) => is8 W h 5 ⟨#[]⟩ 5 rfl)
  have HPC := Lib.hid (fun W ts (h : Q8 E W (.ok () ts)) => prod8 W h)
  unfold Env.ptr at HIS HPC
  rw [hEr] at HIS HPC
  have hrW : E.r < (w1.alloc (.cells #[.slice (some ⟨g, o, none⟩) L.length c, .int .i64 0, .bool false] 65)).heap.size := by rw [World.size_alloc, hEr]; omega
  have hiW : E.ib < (w1.alloc (.cells #[.slice (some ⟨g, o, none⟩) L.length c, .int .i64 0, .bool false] 65)).heap.size := by rw [World.size_alloc, hEi]; omega
  have hzW : (w1.alloc (.cells #[.slice (some ⟨g, o, none⟩) L.length c, .int .i64 0, .bool false] 65)).heap.size = w1.heap.size + 1 := World.size_alloc _ _
  clear hb hd hlow HALL hQ hE hZ HGD
  go_wp2
  generalize w1.alloc (.cells #[.slice (some ⟨g, o, none⟩) L.length c, .int .i64 0, .bool false] 65) = W0 at *
  go_loopg [6] (L.length + 1) (fun gk v wr => ∃ (v0 : Value) (l : List ProdR) (ts1 : List Tk), v0 = v ∧ Hid (EachRun E W0 Z v0 l ts1 gk wr))
  case atStart => exact ⟨_, [], L, rfl, HS⟩
  case round =>
    clear HS
    obtain ⟨v0, l, ts1, rfl, HG⟩ := hrel
    have hgk := HG.out.fuel
    obtain ⟨gk, rfl⟩ : ∃ g, gk = g + 1 := ⟨gk - 1, by omega⟩
    have HI := Lib.hid (HIS.out wr ts1 HG.out.q)
    cases hk : isQ (Rs.ok () ts1) 5 ⟨#[]⟩ with
    | true =>
      have hk5 : (headT ts1).kind = 5 := by simpa [isQ, tokB_nil] using hk
      have HZ : Hid (Z = (l.map ProdR.abs, -1, 0)) := Lib.hid (by rw [HG.out.eq, eachF_end hk5])
      rw [hk] at HI
      clear hk hk5
      go_wp2_with (go_at_call 22; refine HI.out.mono ?_; rintro x w2 ⟨rfl, b2⟩)
      have hmv := HG.out.mv.trans (Mv.of_below b2)
      exact bodyPost_ret (v := .tuple #[v0, .int .i64 (-1), .int .i64 0]) (by simp [results, Tryz.results13, go_sem]) rfl ⟨by rw [HZ.out]; exact ⟨_, rfl, W0.heap.size, l, by omega, hmv.size, HG.out.own.kept b2, rfl⟩, below_mv HB0.out hmv (by omega) (by omega)⟩
    | false =>
      have hk5 : (headT ts1).kind ≠ 5 := by simpa [isQ, tokB_nil] using hk
      rw [hk] at HI
      have HK := Lib.hid hk5
      clear hk hk5
      go_upto_region 6 with (go_at_call 22; refine HI.out.mono ?_; rintro x w2 ⟨rfl, b2⟩)
      have HQ2 := Lib.hid (HG.out.q.below b2)
      have HMB := fun j => (Mv.of_below (E := E) (show Below wr.heap.size wr (w2.drewN j) from ⟨b2.os, b2.tape, b2.output, b2.size, b2.block⟩))
      have HMBH := Lib.hid HMB
      have hsz2 : wr.heap.size ≤ w2.heap.size := b2.size
      have hwr := HG.out.mv.size
      obtain ⟨k, hQk, hts⟩ := HQ2.out
      have hkl : k < L.length := by rw [← hEl]; exact hQk.lt
      have y2 := hQk.at_ hao
      rw [show E.at8 k = headT ts1 by unfold Env.at8; rw [hts]] at y2
      have hbx := hQk.box
      rw [hEr, hao, hEn, hEc] at hbx
      obtain ⟨c0, c1, c2⟩ := three_box hbx
      clear hbx hQk hts HMB b2
      go_quiet (fail)
      clear y2 c0 c1 c2 hkl
      go_wp2_with fail
      refine (HPC.out _ ts1 (Q8.drewN HQ2.out _)).mono ?_
      rintro x w3 ⟨⟨nm, v1, v2, l1, l2, rfl, hns, ho1, ho2, hl1, hl2, hv⟩, hm, hr⟩
      replace hr : Q8 E w3 (pProd ts1) := hr
      replace hv : ∀ p t, pProd ts1 = .ok p t → (⟨nm, l1.map CondR.abs, l2⟩ : Pd) = p := hv
      obtain ⟨ao1, cn1, rfl, hd1⟩ := ho1.deep
      obtain ⟨ao2, cn2, rfl, hd2⟩ := ho2.deep
      have HM3 := Lib.hid (((HMBH.out _).trans hm).alloc (.cells #[.string nm, .slice ao1 l1.length cn1, .slice ao2 l2.length cn2] 26))
      have HPA := Lib.hid (BoxC.new w3 [.string nm, .slice ao1 l1.length cn1, .slice ao2 l2.length cn2] 26)
      have HO3 := Lib.hid (HG.out.own.moved HM3.out hrW hiW)
      have HD1 := Lib.hid ((hd1.mono (K' := fun b => wr.heap.size ≤ b) fun b hb => Nat.le_trans hsz2 hb).kept (below_new w3 (.cells #[.string nm, .slice ao1 l1.length cn1, .slice ao2 l2.length cn2] 26)))
      have HD2 := Lib.hid ((hd2.mono (K' := fun b => wr.heap.size ≤ b) fun b hb => Nat.le_trans hsz2 hb).kept (below_new w3 (.cells #[.string nm, .slice ao1 l1.length cn1, .slice ao2 l2.length cn2] 26)))
      have HNS := Lib.hid hns
      have hmv := HG.out.mv.trans HM3.out
      have HBF := Lib.hid (below_mv HB0.out hmv (by omega) (by omega))
      have hmsz := hmv.size
      clear ho1 ho2 hd1 hd2 hm hmv HMBH hns
      cases hp : pProd ts1 with
      | bad q =>
        rw [hp] at hr
        have HZ : Hid (Z = (l.map ProdR.abs, (q : Int), 5)) := Lib.hid (by rw [HG.out.eq, eachF_bad HK.out hp])
        obtain ⟨k, hQk, hpos⟩ := hr
        have hQa := hQk.alloc (.cells #[.string nm, .slice ao1 l1.length cn1, .slice ao2 l2.length cn2] 26)
        have hkl : k < L.length := by rw [← hEl]; exact hQk.lt
        have y2 := hQa.at_ hao
        rw [hpos] at y2
        have hbx := hQa.box
        rw [hEr, hao, hEn, hEc] at hbx
        obtain ⟨c0, c1, c2⟩ := three_box hbx
        clear hbx hQa hQk hp hv HD1 HD2 HPA
        go_wp2_with fail
        go_quiet (fail)
        go_wp2
        exact bodyPost_ret (v := .tuple #[v0, .int .i64 q, .int .i64 5]) (by simp [results, Tryz.results13, go_sem]) rfl ⟨by rw [HZ.out]; exact ⟨_, rfl, W0.heap.size, l, by omega, hmsz, HO3.out.kept ⟨rfl, rfl, rfl, Nat.le_refl _, fun _ _ => rfl⟩, rfl⟩, below_drew HBF.out _⟩
      | ok p ts' =>
        rw [hp] at hr hv
        obtain rfl := hv _ _ rfl
        have habs : ProdR.abs ⟨nm, ao1, l1.length, cn1, l1, ao2, l2.length, cn2, l2⟩ = ⟨nm, l1.map CondR.abs, l2⟩ := by unfold ProdR.abs; simp only; rw [absL_map]
        have hfew := prod_few hp
        have hct := HG.out.count
        have hmem : ProdR.Mem (w3.alloc (.cells #[.string nm, .slice ao1 l1.length cn1, .slice ao2 l2.length cn2] 26)) ⟨nm, ao1, l1.length, cn1, l1, ao2, l2.length, cn2, l2⟩ := ⟨Nat.le_trans HNS.out (by decide), HD1.out.sl, HD1.out.ok, HD2.out.sl, HD2.out.ok⟩
        have hsh := rShape_any ⟨nm, ao1, l1.length, cn1, l1, ao2, l2.length, cn2, l2⟩ _ hmem (by rw [condsN_abs, absL_map]; exact Nat.le_trans hfew (by omega))
        rw [habs] at hsh
        have HRA := Lib.hid (hr.alloc (.cells #[.string nm, .slice ao1 l1.length cn1, .slice ao2 l2.length cn2] 26))
        have HME := Lib.hid hmem
        have HIN : Hid (ProdR.In (fun b => wr.heap.size ≤ b) ⟨nm, ao1, l1.length, cn1, l1, ao2, l2.length, cn2, l2⟩) := Lib.hid ⟨HD1.out.inb, HD1.out.ink, HD2.out.inb⟩
        have hll : l.length ≤ 1000000 := by omega
        obtain ⟨k, hQa, _⟩ := HRA.out
        have hbx := hQa.box
        rw [hEr, hao, hEn, hEc] at hbx
        obtain ⟨c0, c1, c2⟩ := three_box hbx
        obtain ⟨f0, f1, f2⟩ := three_box HPA.out
        unfold ProdR.val at hsh
        dsimp only at hsh
        obtain ⟨S, hS⟩ : ∃ S, shapeE ⟨nm, l1.map CondR.abs, l2⟩ = S := ⟨_, rfl⟩
        rw [hS] at hsh
        have HSH := Lib.hid hsh
        have HP := Lib.hid hp
        have HSS := Lib.hid hS
        have HAB := Lib.hid habs
        clear hbx hQa hr hp hsh hmem hfew hct hS hv habs HPC HIS HD1 HD2
        by_cases hs0 : S = 0
        · have e1 : (S != 0) = false := by simp [hs0]
          have e2 : (S == 0) = true := by simp [hs0]
          have HS0 := Lib.hid hs0
          clear hs0
          go_wp2_with (first | (go_at_call 21; refine HSH.out.mono ?_; rintro x w4 ⟨⟨ek, rfl⟩, b4⟩; have HM4 := Lib.hid (HM3.out.trans (Mv.of_below b4)); have HR4 := Lib.hid (HRA.out.below b4); have HME4 := Lib.hid (HME.out.kept b4); have hf := HPA.out.below b4; clear c0 c1 c2 f0 f1 f2; obtain ⟨f0, f1, f2⟩ := three_box hf; clear hf b4) | (at_builtin; refine wpList_push3 rfl (.tmp 60) (.tmp 62) 32 rfl mkProd 26 i0 _ 64 Tryz.underlying32 hi hz0 hz1 hz2 rfl (by omega) (E := E) (w := W0) (wr := wr) (w0 := w4) _ l ⟨nm, ao1, l1.length, cn1, l1, ao2, l2.length, cn2, l2⟩ rfl HG.out.own HG.out.mv HM4.out hrW hiW HME4.out HIN.out hll _ rfl rfl rfl ?_; intro go' c' w9 ho9 hg9))
          have HNX := Lib.hid (HG.out.more (p := ⟨nm, ao1, l1.length, cn1, l1, ao2, l2.length, cn2, l2⟩) HQ0.out HK.out (by rw [HAB.out]; exact HP.out) (by rw [HAB.out, HSS.out]; exact HS0.out) HM4.out HR4.out ho9 hg9)
          clear ho9 hg9 f0 f1 f2
          go_wp2
          go_roundg gk
          case rel => exact ⟨_, _, _, rfl, HNX⟩
          case measure => omega
        · have e1 : (S != 0) = true := by simp [hs0]
          have e2 : (S == 0) = false := by simp [hs0]
          have HZ : Hid (Z = (l.map ProdR.abs, ((headT ts1).pos : Int), S)) := Lib.hid (by rw [HG.out.eq, eachF_shape HK.out HP.out (by rw [HSS.out]; exact hs0), HSS.out])
          clear hs0
          go_wp2_with (go_at_call 21; refine HSH.out.mono ?_; rintro x w4 ⟨⟨ek, rfl⟩, b4⟩; have HO4 := Lib.hid (HO3.out.kept b4); have HB4 := Lib.hid (HBF.out.trans (b4.mono HBF.out.size)); have hz4 : W0.heap.size ≤ w4.heap.size := Nat.le_trans hmsz b4.size; clear b4 c0 c1 c2 f0 f1 f2)
          exact bodyPost_ret (v := .tuple #[v0, .int .i64 (headT ts1).pos, .int .i64 S]) (by simp [results, Tryz.results13, go_sem]) rfl ⟨by rw [HZ.out]; exact ⟨_, rfl, W0.heap.size, l, by omega, hz4, HO4.out, rfl⟩, HB4.out⟩
end Go.Proofs.YtgeaccoobhigcaaGreat
namespace Go.Proofs.YtgeaccoobhigcaaGreat
open Go Go.RowKit

theorem eachF_one : ∀ (n : Nat) (ts : List Tk) (acc : List Pd), ts.length < n → (eachF n ts acc).2.2 = 0 → (eachF n ts acc).2.1 = -1
  | 0, _, _, h, _ => by omega
  | n + 1, ts, acc, h, h0 => by
    by_cases hk : (headT ts).kind = 5
    · rw [eachF_end hk]
    · cases hp : pProd ts with
      | bad q => rw [eachF_bad hk hp] at h0; cases h0
      | ok p ts' =>
        by_cases hs : shapeE p = 0
        · rw [eachF_next hk hp hs] at h0 ⊢
          exact eachF_one n ts' _ (by have := pProd_eats _ _ _ hp; omega) h0
        · rw [eachF_shape hk hp hs] at h0
          exact absurd h0 hs
set_option maxRecDepth 100000 in
set_option maxHeartbeats 4000000 in
theorem all8 (s : ByteArray) (hs : s.size ≤ 32768) (w : World) :
    Calls Tryz.prog 11 #[.string s] w fun x w' => AllOut w.heap.size w' (allR (toks s.data.toList)) x ∧ Below w.heap.size w w' := by
  have HE := Lib.hid (each8 s hs w)
  have ha : allR (toks s.data.toList) = if (eachR (toks s.data.toList)).2.2 = 0 then eachR (toks s.data.toList) else ([], (eachR (toks s.data.toList)).2.1, (eachR (toks s.data.toList)).2.2) := eachF_all _ _ [] (Nat.lt_succ_self _)
  have HA := Lib.hid ha
  have h1 : (eachR (toks s.data.toList)).2.2 = 0 → (eachR (toks s.data.toList)).2.1 = -1 := eachF_one _ _ [] (Nat.lt_succ_self _)
  clear ha hs
  generalize allR (toks s.data.toList) = R at HA ⊢
  generalize eachR (toks s.data.toList) = r at HE HA h1
  obtain ⟨ps, a, e⟩ := r
  simp only at HA h1
  by_cases he : e = 0
  · have e1 : (e != 0) = false := by simp [he]
    have e2 : (e == 0) = true := by simp [he]
    rw [if_pos he] at HA
    obtain rfl := h1 he
    subst he
    clear h1 e1 e2
    go_enter Tryz.func11, Tryz.ntmps11
    go_wp2_with (go_at_call 13; refine HE.out.mono ?_; rintro x w1 ⟨⟨v, rfl, hv⟩, b1⟩)
    refine bodyPost_ret (v := .tuple #[v, .int .i64 (-1), .int .i64 0]) (by simp [results, Tryz.results11, go_sem]) rfl ?_
    exact ⟨by rw [HA.out]; exact ⟨v, rfl, hv⟩, b1⟩
  · have e1 : (e != 0) = true := by simp [he]
    have e2 : (e == 0) = false := by simp [he]
    rw [if_neg he] at HA
    clear h1
    go_enter Tryz.func11, Tryz.ntmps11
    go_wp2_with (go_at_call 13; refine HE.out.mono ?_; rintro x w1 ⟨⟨v, rfl, hv⟩, b1⟩)
    exact bodyPost_ret (v := .tuple #[.slice none 0 0, .int .i64 a, .int .i64 e]) (by simp [results, Tryz.results11, go_sem]) rfl ⟨by rw [HA.out]; exact ⟨_, rfl, w.heap.size, [], Nat.le_refl _, b1.size, OwnD.nil _ _ _ _, rfl⟩, b1⟩
theorem all_val {base : Nat} {w : World} {r : List Pd × Int × Int} {x : Ending} (h : AllOut base w r x) : ∃ (ao : Option Addr) (c : Nat) (l : List ProdR), x = .returned (.tuple #[.slice ao l.length c, .int .i64 r.2.1, .int .i64 r.2.2]) ∧ SlR w 3 ao l.length c (l.flatMap ProdR.cells) ∧ (∀ p ∈ l, p.Mem w) ∧ l.map ProdR.abs = r.1 := by
  obtain ⟨v, rfl, b, l, _, _, ho, ha⟩ := h
  obtain ⟨ao, c, rfl, hd⟩ := ho.deep
  exact ⟨ao, c, l, rfl, hd.sl, hd.ok, ha⟩
set_option maxRecDepth 100000 in
set_option maxHeartbeats 4000000 in
theorem readAlls_walk (s : ByteArray) (w : World) : Calls Tryz.prog 4 #[.string s] w fun x w' => x = .returned (.bool true) ∧ Below w.heap.size w w' := by
  by_cases hz : s.size ≤ 3000
  · have HO := Lib.hid (fun w => all_any s (by omega) w)
    have HO8 := Lib.hid (fun w => all8 s (by omega) w)
    have hz' : (s.size : Int) ≤ 3000 := by omega
    generalize allR (toks s.data.toList) = r at HO HO8
    clear hz
    go_enter Tryz.func4, Tryz.ntmps4
    go_wp2_with fail
    refine (HO.out _).mono ?_
    rintro x w1 ⟨ho, b1⟩
    obtain ⟨ao, c, l, rfl, hs1, hm1, ha1⟩ := all_val ho
    have HB1 := Lib.hid b1
    have HS1 := Lib.hid hs1
    have HM1 := Lib.hid hm1
    clear ho b1 hs1 hm1 HO
    go_wp2_with fail
    refine (HO8.out _).mono ?_
    rintro x w2 ⟨ho, b2⟩
    obtain ⟨bo, d, k, rfl, hs2, hm2, ha2⟩ := all_val ho
    have hk := kProds_same l k ao bo l.length k.length c d w2 (HS1.out.kept b2) (fun p hp => (HM1.out p hp).kept b2) hs2 hm2 (ha1.trans ha2.symm)
    have HK := Lib.hid hk
    have HB2 := Lib.hid (HB1.out.trans (b2.mono HB1.out.size))
    clear ho b2 hs2 hm2 hk HS1 HM1 HB1 HO8 ha1 ha2
    go_wp2_with (first | (go_at_call 12; refine HK.out.mono ?_; rintro e w3 ⟨rfl, b3⟩) | (go_at_call 6; refine (wakes8_any _).mono ?_; rintro e w4 ⟨rfl, b4⟩))
    go_ret
    exact ⟨rfl, (HB2.out.trans (b3.mono HB2.out.size)).trans (b4.mono (HB2.out.trans (b3.mono HB2.out.size)).size)⟩
  · have hz' : (3000 : Int) < (s.size : Int) := by omega
    go_enter Tryz.func4, Tryz.ntmps4
    go_wp2_with (go_at_call 6; refine (wakes8_any _).mono ?_; rintro e w3 ⟨rfl, b3⟩)
    go_ret
    exact ⟨rfl, b3⟩
end Go.Proofs.YtgeaccoobhigcaaGreat
namespace Go.Proofs.YtgeaccoobhigcaaGreat
open Go.ChangeShapes Go.WideShapes Go.ChangeAt Go.RowKit
open Go.ChangeMaps (open_string shut_string)

theorem readAlls_own : ownKnob Tryz.prog.godebug = none := by kernel_rfl
theorem readAlls_laidOut : laidOutB Tryz.prog = true := by kernel_rfl

set_option maxRecDepth 100000 in
theorem readAlls_lifted (os : Os) (started : os.Started) (H : Type) (enc : TypeId × Value → H) :
    ReturnsInHanded {} Tryz.checked os 4 .any (Rows.readAllsSpec.pre6 enc Tryz.prog Tryz.f4 Rows.readAllsRow.domain false) (Rows.readAllsSpec.post enc Tryz.prog Tryz.f4 false true false false) := by
  refine returnsInHanded_of_change (C := Tryz.checked) readAlls_own started (by kernel_rfl) Tryz.func4
    (ChangeSpec.witness6 (enc := enc) (C := Tryz.checked) false ⟨#[], #[.string ⟨#[]⟩], []⟩ 8 (by kernel_rfl) (by kernel_rfl) (by kernel_rfl) (by kernel_rfl)) ?_
  intro W base args ds gs before hval0 hW _ _
  have hval : ∀ (j : Nat) t v, Tryz.f4.params[j]? = some t → args[j]? = some v → Value.okWide Tryz.prog W .any base t v := hval0
  have hW' := hW
  obtain ⟨p, q, hA0, hV, rfl, hfz, hnd⟩ := hW
  have hA : DataW.TrodAll enc Tryz.prog W 0 (fun _ => true) true Tryz.f4.params.toList args.toList ds p := hA0
  rw [Tryz.params4] at hA hval
  obtain ⟨v0, vs0, d0, ds0, p0, q0, hargs, rfl, rfl, h0, r0⟩ := trodAll_cons hA
  obtain ⟨rfl, rfl, rfl⟩ := trodAll_nil r0
  obtain rfl : args = #[v0] := by cases args; simp_all
  obtain ⟨rfl, rfl⟩ := trodVars_none hV
  obtain ⟨a0, rfl, rfl, rfl, w0⟩ := open_string Tryz.underlying9 (hval 0 9 v0 rfl rfl) h0
  clear hA0 hval0
  refine (readAlls_walk a0 W).mono fun e W' ⟨he, bel⟩ => ?_
  subst he
  exact ⟨_, rfl, _, _, _, [], _, [], hW', trodAll_mk1 (shut_bool Tryz.underlying4 _), (trodAll_cons_mk (shut_string Tryz.underlying9 w0) trodAll_mk0), rfl, bel.frame _, fun h => by cases h⟩

/-- THE GIVEN STATEMENT. -/
theorem readAlls_holds : Rows.ReadAllsSaid :=
  OpenClaim.holds_of_wide 4 Tryz.f4 rfl rfl rfl rfl rfl rfl rfl ⟨rfl, rfl, rfl, rfl, rfl⟩ rfl rfl rfl rfl rfl (by kernel_rfl) Tryz.func4 (by kernel_rfl)
    (of_decide_eq_true (by kernel_rfl)) (by unfold Func.isWrapper; first | (rw [if_pos (by decide +kernel)]; kernel_rfl) | (rw [if_neg (by decide +kernel)]; exact ⟨rfl, rfl⟩))
    (fun os started H enc _ => readAlls_lifted os started H enc)
#print axioms readAlls_holds
end Go.Proofs.YtgeaccoobhigcaaGreat
