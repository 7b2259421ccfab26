/-
  The law ReadEach holds for every input: the given statement Rows.ReadEachSaid, without any condition of its own.
-/
import Derived.Test.YtgeaccoobhigcaaGreatXC
import Derived.Test.YtgeaccoobhigcaaGreatGH
import Derived.Test.YtgeaccoobhigcaaGreatG9
import Derived.Sort.LoopGhostIn
import Derived.Shelf.RegionOpen
import Derived.Test.YtgeaccoobhigcaaGreatGE
import Derived.ProofKit
import Derived.OpenShut
import Derived.ShutString
import Derived.ChangeOld
import Derived.Below
namespace Go.Proofs.YtgeaccoobhigcaaGreat
open Go Go.RowKit

/-- The productions as far as they can be read; where it went wrong, and how. -/
def eachF : Nat → List Tk → List Pd → List Pd × Int × Int
  | 0, _, _ => ([], 0, 0)
  | n + 1, ts, acc => if (headT ts).kind = 5 then (acc, -1, 0) else
    match pProd ts with
    | .bad q => (acc, (q : Int), 5)
    | .ok p ts' => if shapeE p = 0 then eachF n ts' (acc ++ [p]) else (acc, ((headT ts).pos : Int), shapeE p)
def eachR (ts : List Tk) : List Pd × Int × Int := eachF (ts.length + 1) ts []
theorem eachF_end {n : Nat} {ts : List Tk} {acc : List Pd} (h : (headT ts).kind = 5) : eachF (n + 1) ts acc = (acc, -1, 0) := if_pos h
theorem eachF_bad {n : Nat} {ts : List Tk} {acc : List Pd} {q : Nat} (h : (headT ts).kind ≠ 5) (hp : pProd ts = .bad q) : eachF (n + 1) ts acc = (acc, (q : Int), 5) := by
  unfold eachF; rw [if_neg h, hp]
theorem eachF_shape {n : Nat} {ts : List Tk} {acc : List Pd} {p : Pd} {ts' : List Tk} (h : (headT ts).kind ≠ 5) (hp : pProd ts = .ok p ts') (hs : shapeE p ≠ 0) : eachF (n + 1) ts acc = (acc, ((headT ts).pos : Int), shapeE p) := by
  unfold eachF; rw [if_neg h, hp]; exact if_neg hs
theorem eachF_next {n : Nat} {ts : List Tk} {acc : List Pd} {p : Pd} {ts' : List Tk} (h : (headT ts).kind ≠ 5) (hp : pProd ts = .ok p ts') (hs : shapeE p = 0) : eachF (n + 1) ts acc = eachF n ts' (acc ++ [p]) := by
  conv => lhs; unfold eachF
  rw [if_neg h, hp]; exact if_pos hs
theorem eachF_all : ∀ (n : Nat) (ts : List Tk) (acc : List Pd), ts.length < n → allF n ts acc = if (eachF n ts acc).2.2 = 0 then eachF n ts acc else ([], (eachF n ts acc).2.1, (eachF n ts acc).2.2)
  | 0, _, _, h => by omega
  | n + 1, ts, acc, h => by
    by_cases hk : (headT ts).kind = 5
    · rw [allF_end hk, eachF_end hk]; rfl
    · cases hp : pProd ts with
      | bad q => rw [allF_bad hk hp, eachF_bad hk hp]; rfl
      | ok p ts' =>
        by_cases hs : shapeE p = 0
        · rw [allF_next hk hp hs, eachF_next hk hp hs]
          exact eachF_all n ts' _ (by have := pProd_eats _ _ _ hp; omega)
        · rw [allF_shape hk hp hs, eachF_shape hk hp hs, if_neg hs]
structure EachRun (E : Env) (w : World) (Z : List Pd × Int × Int) (v : Value) (l : List ProdR) (ts : List Tk) (k : Nat) (wr : World) : Prop where
  own : OwnD mkProd w.heap.size 26 wr v l
  mv : Mv E w wr
  q : Q8 E wr (.ok () ts)
  count : l.length + ts.length ≤ 1000000
  fuel : ts.length < k
  eq : Z = eachF k ts (l.map ProdR.abs)
theorem EachRun.more {γ : Type} {r0 : Rs γ} {E : Env} {w wr w4 w5 : World} {Z : List Pd × Int × Int} {v v' : Value} {l : List ProdR} {ts ts' : List Tk} {k : Nat} {p : ProdR} (h0 : Q8 E w r0) (h : EachRun E w Z v l ts (k + 1) wr)
    (h5 : (headT ts).kind ≠ 5) (hp : pProd ts = .ok p.abs ts') (hs : shapeE p.abs = 0) (hm : Mv E wr w4) (hr : Q8 E w4 (.ok () ts')) (ho : OwnD mkProd w.heap.size 26 w5 v' (l ++ [p])) (hg : w4.grownBy w5 v.ownBlock) :
    EachRun E w Z v' (l ++ [p]) ts' k w5 := by
  have hown : ∀ b, v.ownBlock = some b → w.heap.size ≤ b := fun b e => (h.own.own.lt b e).1
  have he := pProd_eats _ _ _ hp
  have h1 := h.count
  have h2 := h.fuel
  refine ⟨ho, (h.mv.trans hm).grown hg fun b e => .inr (.inr (hown b e)), Q8.newRow h0 hr hg hown, by simp; omega, by omega, ?_⟩
  rw [h.eq, eachF_next h5 hp hs, List.map_append]
  rfl
set_option maxRecDepth 100000 in
set_option maxHeartbeats 4000000 in
theorem each8 (s : ByteArray) (hs : s.size ≤ 32768) (w : World) :
    Calls Tryz.prog 13 #[.string s] w fun x w' => AllOut w.heap.size w' (eachR (toks s.data.toList)) x ∧ Below w.heap.size w w' := by
  have HALL := Lib.hid (refAll_any s (by omega) w)
  have hgood := good_toks (l := s.data.toList) (by rw [size_toList]; omega)
  obtain ⟨i0, hi, hz0, hz1, hz2⟩ := info_parts Tryz.info26
  unfold eachR
  obtain ⟨L, hL⟩ : ∃ L, toks s.data.toList = L := ⟨_, rfl⟩
  rw [hL] at hgood HALL ⊢
  obtain ⟨Z, hZ⟩ : ∃ Z, eachF (L.length + 1) L [] = Z := ⟨_, rfl⟩
  rw [hZ]
  have e0 : (s.size : Int) ≤ 32768 := by omega
  have HGD := Lib.hid hgood
  clear hL hgood
  go_enter Tryz.func13, Tryz.ntmps13
  go_wp2_with (go_at_call 19; refine HALL.out.mono ?_; rintro x w1 ⟨go, c, rfl, hd, hlow, hb⟩)
  obtain ⟨E, hE⟩ : ∃ E : Env, E = ⟨w1.heap.size, 0, w1.heap.size, go, L.length, c, L⟩ := ⟨_, rfl⟩
  have hlen : 0 < L.length := List.length_pos_iff.2 HGD.out.ne
  have hQ : Qd E (w1.alloc (.cells #[.slice go L.length c, .int .i64 0, .bool false] 65)) 0 false := by
    subst hE
    exact ⟨BoxC.new w1 _ 65, hd.kept (below_new _ _), fun a ha hn => Nat.ne_of_lt (hd.inB (by omega) a ha hn), HGD.out, hlen, rfl⟩
  have hEr : E.r = w1.heap.size := by rw [hE]
  have hEi : E.ib = w1.heap.size := by rw [hE]
  have hEl : E.L = L := by rw [hE]
  have hEn : E.n = L.length := by rw [hE]
  have hEc : E.c = c := by rw [hE]
  have hEp : E.ptr = .pointer (some ⟨w1.heap.size, 0, none⟩) := by rw [hE]; rfl
  obtain ⟨g, o, hao, -, -, -⟩ := hQ.data.tok (Env.at8_some hQ.lt)
  have hgo : go = some ⟨g, o, none⟩ := by rw [← hao, hE]
  subst hgo
  have hLn := HGD.out.len
  have HB0 := Lib.hid (hb.alloc hb.size (.cells #[.slice (some ⟨g, o, none⟩) L.length c, .int .i64 0, .bool false] 65))
  have hw1 : w.heap.size ≤ w1.heap.size := hb.size
  have HQ0 : Hid (Q8 E (w1.alloc (.cells #[.slice (some ⟨g, o, none⟩) L.length c, .int .i64 0, .bool false] 65)) (.ok () L)) := Lib.hid ⟨0, hQ, by rw [hEl]; rfl⟩
  have HS : Hid (EachRun E (w1.alloc (.cells #[.slice (some ⟨g, o, none⟩) L.length c, .int .i64 0, .bool false] 65)) Z (.slice none 0 0) [] L (L.length + 1) (w1.alloc (.cells #[.slice (some ⟨g, o, none⟩) L.length c, .int .i64 0, .bool false] 65))) := Lib.hid ⟨OwnD.nil _ _ _ _, Mv.refl _ _, HQ0.out, by simpa using hLn, by omega, hZ.symm⟩
  have HIS := Lib.hid (fun W ts (h : Q8 E W (.ok () ts)) => is8 W h 5 ⟨#[]⟩ 5 rfl)
  have HPC := Lib.hid (fun W ts (h : Q8 E W (.ok () ts)) => prod8 W h)
  unfold Env.ptr at HIS HPC
  rw [hEr] at HIS HPC
  have hrW : E.r < (w1.alloc (.cells #[.slice (some ⟨g, o, none⟩) L.length c, .int .i64 0, .bool false] 65)).heap.size := by rw [World.size_alloc, hEr]; omega
  have hiW : E.ib < (w1.alloc (.cells #[.slice (some ⟨g, o, none⟩) L.length c, .int .i64 0, .bool false] 65)).heap.size := by rw [World.size_alloc, hEi]; omega
  have hzW : (w1.alloc (.cells #[.slice (some ⟨g, o, none⟩) L.length c, .int .i64 0, .bool false] 65)).heap.size = w1.heap.size + 1 := World.size_alloc _ _
  clear hb hd hlow HALL hQ hE hZ HGD
  go_wp2
  generalize w1.alloc (.cells #[.slice (some ⟨g, o, none⟩) L.length c, .int .i64 0, .bool false] 65) = W0 at *
  go_loopg [6] (L.length + 1) (fun gk v wr => ∃ (v0 : Value) (l : List ProdR) (ts1 : List Tk), v0 = v ∧ Hid (EachRun E W0 Z v0 l ts1 gk wr))
  case atStart => exact ⟨_, [], L, rfl, HS⟩
  case round =>
    clear HS
    obtain ⟨v0, l, ts1, rfl, HG⟩ := hrel
    have hgk := HG.out.fuel
    obtain ⟨gk, rfl⟩ : ∃ g, gk = g + 1 := ⟨gk - 1, by omega⟩
    have HI := Lib.hid (HIS.out wr ts1 HG.out.q)
    cases hk : isQ (Rs.ok () ts1) 5 ⟨#[]⟩ with
    | true =>
      have hk5 : (headT ts1).kind = 5 := by simpa [isQ, tokB_nil] using hk
      have HZ : Hid (Z = (l.map ProdR.abs, -1, 0)) := Lib.hid (by rw [HG.out.eq, eachF_end hk5])
      rw [hk] at HI
      clear hk hk5
      go_wp2_with (go_at_call 22; refine HI.out.mono ?_; rintro x w2 ⟨rfl, b2⟩)
      have hmv := HG.out.mv.trans (Mv.of_below b2)
      exact bodyPost_ret (v := .tuple #[v0, .int .i64 (-1), .int .i64 0]) (by simp [results, Tryz.results13, go_sem]) rfl ⟨by rw [HZ.out]; exact ⟨_, rfl, W0.heap.size, l, by omega, hmv.size, HG.out.own.kept b2, rfl⟩, below_mv HB0.out hmv (by omega) (by omega)⟩
    | false =>
      have hk5 : (headT ts1).kind ≠ 5 := by simpa [isQ, tokB_nil] using hk
      rw [hk] at HI
      have HK := Lib.hid hk5
      clear hk hk5
      go_upto_region 6 with (go_at_call 22; refine HI.out.mono ?_; rintro x w2 ⟨rfl, b2⟩)
      have HQ2 := Lib.hid (HG.out.q.below b2)
      have HMB := fun j => (Mv.of_below (E := E) (show Below wr.heap.size wr (w2.drewN j) from ⟨b2.os, b2.tape, b2.output, b2.size, b2.block⟩))
      have HMBH := Lib.hid HMB
      have hsz2 : wr.heap.size ≤ w2.heap.size := b2.size
      have hwr := HG.out.mv.size
      obtain ⟨k, hQk, hts⟩ := HQ2.out
      have hkl : k < L.length := by rw [← hEl]; exact hQk.lt
      have y2 := hQk.at_ hao
      rw [show E.at8 k = headT ts1 by unfold Env.at8; rw [hts]] at y2
      have hbx := hQk.box
      rw [hEr, hao, hEn, hEc] at hbx
      obtain ⟨c0, c1, c2⟩ := three_box hbx
      clear hbx hQk hts HMB b2
      go_quiet (fail)
      clear y2 c0 c1 c2 hkl
      go_wp2_with fail
      refine (HPC.out _ ts1 (Q8.drewN HQ2.out _)).mono ?_
      rintro x w3 ⟨⟨nm, v1, v2, l1, l2, rfl, hns, ho1, ho2, hl1, hl2, hv⟩, hm, hr⟩
      replace hr : Q8 E w3 (pProd ts1) := hr
      replace hv : ∀ p t, pProd ts1 = .ok p t → (⟨nm, l1.map CondR.abs, l2⟩ : Pd) = p := hv
      obtain ⟨ao1, cn1, rfl, hd1⟩ := ho1.deep
      obtain ⟨ao2, cn2, rfl, hd2⟩ := ho2.deep
      have HM3 := Lib.hid (((HMBH.out _).trans hm).alloc (.cells #[.string nm, .slice ao1 l1.length cn1, .slice ao2 l2.length cn2] 26))
      have HPA := Lib.hid (BoxC.new w3 [.string nm, .slice ao1 l1.length cn1, .slice ao2 l2.length cn2] 26)
      have HO3 := Lib.hid (HG.out.own.moved HM3.out hrW hiW)
      have HD1 := Lib.hid ((hd1.mono (K' := fun b => wr.heap.size ≤ b) fun b hb => Nat.le_trans hsz2 hb).kept (below_new w3 (.cells #[.string nm, .slice ao1 l1.length cn1, .slice ao2 l2.length cn2] 26)))
      have HD2 := Lib.hid ((hd2.mono (K' := fun b => wr.heap.size ≤ b) fun b hb => Nat.le_trans hsz2 hb).kept (below_new w3 (.cells #[.string nm, .slice ao1 l1.length cn1, .slice ao2 l2.length cn2] 26)))
      have HNS := Lib.hid hns
      have hmv := HG.out.mv.trans HM3.out
      have HBF := Lib.hid (below_mv HB0.out hmv (by omega) (by omega))
      have hmsz := hmv.size
      clear ho1 ho2 hd1 hd2 hm hmv HMBH hns
      cases hp : pProd ts1 with
      | bad q =>
        rw [hp] at hr
        have HZ : Hid (Z = (l.map ProdR.abs, (q : Int), 5)) := Lib.hid (by rw [HG.out.eq, eachF_bad HK.out hp])
        obtain ⟨k, hQk, hpos⟩ := hr
        have hQa := hQk.alloc (.cells #[.string nm, .slice ao1 l1.length cn1, .slice ao2 l2.length cn2] 26)
        have hkl : k < L.length := by rw [← hEl]; exact hQk.lt
        have y2 := hQa.at_ hao
        rw [hpos] at y2
        have hbx := hQa.box
        rw [hEr, hao, hEn, hEc] at hbx
        obtain ⟨c0, c1, c2⟩ := three_box hbx
        clear hbx hQa hQk hp hv HD1 HD2 HPA
        go_wp2_with fail
        go_quiet (fail)
        go_wp2
        exact bodyPost_ret (v := .tuple #[v0, .int .i64 q, .int .i64 5]) (by simp [results, Tryz.results13, go_sem]) rfl ⟨by rw [HZ.out]; exact ⟨_, rfl, W0.heap.size, l, by omega, hmsz, HO3.out.kept ⟨rfl, rfl, rfl, Nat.le_refl _, fun _ _ => rfl⟩, rfl⟩, below_drew HBF.out _⟩
      | ok p ts' =>
        rw [hp] at hr hv
        obtain rfl := hv _ _ rfl
        have habs : ProdR.abs ⟨nm, ao1, l1.length, cn1, l1, ao2, l2.length, cn2, l2⟩ = ⟨nm, l1.map CondR.abs, l2⟩ := by unfold ProdR.abs; simp only; rw [absL_map]
        have hfew := prod_few hp
        have hct := HG.out.count
        have hmem : ProdR.Mem (w3.alloc (.cells #[.string nm, .slice ao1 l1.length cn1, .slice ao2 l2.length cn2] 26)) ⟨nm, ao1, l1.length, cn1, l1, ao2, l2.length, cn2, l2⟩ := ⟨Nat.le_trans HNS.out (by decide), HD1.out.sl, HD1.out.ok, HD2.out.sl, HD2.out.ok⟩
        have hsh := rShape_any ⟨nm, ao1, l1.length, cn1, l1, ao2, l2.length, cn2, l2⟩ _ hmem (by rw [condsN_abs, absL_map]; exact Nat.le_trans hfew (by omega))
        rw [habs] at hsh
        have HRA := Lib.hid (hr.alloc (.cells #[.string nm, .slice ao1 l1.length cn1, .slice ao2 l2.length cn2] 26))
        have HME := Lib.hid hmem
        have HIN : Hid (ProdR.In (fun b => wr.heap.size ≤ b) ⟨nm, ao1, l1.length, cn1, l1, ao2, l2.length, cn2, l2⟩) := Lib.hid ⟨HD1.out.inb, HD1.out.ink, HD2.out.inb⟩
        have hll : l.length ≤ 1000000 := by omega
        obtain ⟨k, hQa, _⟩ := HRA.out
        have hbx := hQa.box
        rw [hEr, hao, hEn, hEc] at hbx
        obtain ⟨c0, c1, c2⟩ := three_box hbx
        obtain ⟨f0, f1, f2⟩ := three_box HPA.out
        unfold ProdR.val at hsh
        dsimp only at hsh
        obtain ⟨S, hS⟩ : ∃ S, shapeE ⟨nm, l1.map CondR.abs, l2⟩ = S := ⟨_, rfl⟩
        rw [hS] at hsh
        have HSH := Lib.hid hsh
        have HP := Lib.hid hp
        have HSS := Lib.hid hS
        have HAB := Lib.hid habs
        clear hbx hQa hr hp hsh hmem hfew hct hS hv habs HPC HIS HD1 HD2
        by_cases hs0 : S = 0
        · have e1 : (S != 0) = false := by simp [hs0]
          have e2 : (S == 0) = true := by simp [hs0]
          have HS0 := Lib.hid hs0
          clear hs0
          go_wp2_with (first | (go_at_call 21; refine HSH.out.mono ?_; rintro x w4 ⟨⟨ek, rfl⟩, b4⟩; have HM4 := Lib.hid (HM3.out.trans (Mv.of_below b4)); have HR4 := Lib.hid (HRA.out.below b4); have HME4 := Lib.hid (HME.out.kept b4); have hf := HPA.out.below b4; clear c0 c1 c2 f0 f1 f2; obtain ⟨f0, f1, f2⟩ := three_box hf; clear hf b4) | (at_builtin; refine wpList_push3 rfl (.tmp 60) (.tmp 62) 32 rfl mkProd 26 i0 _ 64 Tryz.underlying32 hi hz0 hz1 hz2 rfl (by omega) (E := E) (w := W0) (wr := wr) (w0 := w4) _ l ⟨nm, ao1, l1.length, cn1, l1, ao2, l2.length, cn2, l2⟩ rfl HG.out.own HG.out.mv HM4.out hrW hiW HME4.out HIN.out hll _ rfl rfl rfl ?_; intro go' c' w9 ho9 hg9))
          have HNX := Lib.hid (HG.out.more (p := ⟨nm, ao1, l1.length, cn1, l1, ao2, l2.length, cn2, l2⟩) HQ0.out HK.out (by rw [HAB.out]; exact HP.out) (by rw [HAB.out, HSS.out]; exact HS0.out) HM4.out HR4.out ho9 hg9)
          clear ho9 hg9 f0 f1 f2
          go_wp2
          go_roundg gk
          case rel => exact ⟨_, _, _, rfl, HNX⟩
          case measure => omega
        · have e1 : (S != 0) = true := by simp [hs0]
          have e2 : (S == 0) = false := by simp [hs0]
          have HZ : Hid (Z = (l.map ProdR.abs, ((headT ts1).pos : Int), S)) := Lib.hid (by rw [HG.out.eq, eachF_shape HK.out HP.out (by rw [HSS.out]; exact hs0), HSS.out])
          clear hs0
          go_wp2_with (go_at_call 21; refine HSH.out.mono ?_; rintro x w4 ⟨⟨ek, rfl⟩, b4⟩; have HO4 := Lib.hid (HO3.out.kept b4); have HB4 := Lib.hid (HBF.out.trans (b4.mono HBF.out.size)); have hz4 : W0.heap.size ≤ w4.heap.size := Nat.le_trans hmsz b4.size; clear b4 c0 c1 c2 f0 f1 f2)
          exact bodyPost_ret (v := .tuple #[v0, .int .i64 (headT ts1).pos, .int .i64 S]) (by simp [results, Tryz.results13, go_sem]) rfl ⟨by rw [HZ.out]; exact ⟨_, rfl, W0.heap.size, l, by omega, hz4, HO4.out, rfl⟩, HB4.out⟩
end Go.Proofs.YtgeaccoobhigcaaGreat
namespace Go.Proofs.YtgeaccoobhigcaaGreat
open Go Go.RowKit

def nilPd : Pd := ⟨⟨#[]⟩, [], []⟩
/-- What read.Each tells: productions, each with its error. -/
def eachY : Nat → List Tk → List (Pd × Int)
  | 0, _ => []
  | n + 1, ts => if (headT ts).kind = 5 then [] else
    match pProd ts with
    | .bad _ => [(nilPd, 5)]
    | .ok p ts' => if shapeE p = 0 then (p, 0) :: eachY n ts' else [(nilPd, shapeE p)]
theorem eachY_end {n : Nat} {ts : List Tk} (h : (headT ts).kind = 5) : eachY (n + 1) ts = [] := if_pos h
theorem eachY_bad {n : Nat} {ts : List Tk} {q : Nat} (h : (headT ts).kind ≠ 5) (hp : pProd ts = .bad q) : eachY (n + 1) ts = [(nilPd, 5)] := by
  unfold eachY; rw [if_neg h, hp]
theorem eachY_shape {n : Nat} {ts : List Tk} {p : Pd} {ts' : List Tk} (h : (headT ts).kind ≠ 5) (hp : pProd ts = .ok p ts') (hs : shapeE p ≠ 0) : eachY (n + 1) ts = [(nilPd, shapeE p)] := by
  unfold eachY; rw [if_neg h, hp]; exact if_neg hs
theorem eachY_next {n : Nat} {ts : List Tk} {p : Pd} {ts' : List Tk} (h : (headT ts).kind ≠ 5) (hp : pProd ts = .ok p ts') (hs : shapeE p = 0) : eachY (n + 1) ts = (p, 0) :: eachY n ts' := by
  conv => lhs; unfold eachY
  rw [if_neg h, hp]; exact if_pos hs
theorem eachY_eq : ∀ (n : Nat) (ts : List Tk) (acc : List Pd), ts.length < n →
    acc.map (fun p => (p, (0 : Int))) ++ eachY n ts = (eachF n ts acc).1.map (fun p => (p, (0 : Int))) ++ (if (eachF n ts acc).2.2 = 0 then [] else [(nilPd, (eachF n ts acc).2.2)])
  | 0, _, _, h => by omega
  | n + 1, ts, acc, h => by
    by_cases hk : (headT ts).kind = 5
    · rw [eachY_end hk, eachF_end hk]; rfl
    · cases hp : pProd ts with
      | bad q => rw [eachY_bad hk hp, eachF_bad hk hp]; rfl
      | ok p ts' =>
        by_cases hs : shapeE p = 0
        · rw [eachY_next hk hp hs, eachF_next hk hp hs, ← eachY_eq n ts' (acc ++ [p]) (by have := pProd_eats _ _ _ hp; omega)]
          simp
        · rw [eachY_shape hk hp hs, eachF_shape hk hp hs, if_neg hs]
theorem eachY_len : ∀ (n : Nat) (ts : List Tk), ts.length < n → (eachY n ts).length ≤ ts.length + 1
  | 0, _, h => by omega
  | n + 1, ts, h => by
    by_cases hk : (headT ts).kind = 5
    · rw [eachY_end hk]; simp
    · cases hp : pProd ts with
      | bad q => rw [eachY_bad hk hp]; simp
      | ok p ts' =>
        have he := pProd_eats _ _ _ hp
        by_cases hs : shapeE p = 0
        · rw [eachY_next hk hp hs]
          have := eachY_len n ts' (by omega)
          simp only [List.length_cons]
          omega
        · rw [eachY_shape hk hp hs]; simp
end Go.Proofs.YtgeaccoobhigcaaGreat
namespace Go.Proofs.YtgeaccoobhigcaaGreat
open Go Go.RowKit
attribute [local go_sem] Oper.semAt_some

theorem readEach_any (s : ByteArray) (w : World) : Calls Tryz.prog 25 #[.string s] w fun e w' => e = .returned (.func (.func 47) #[] #[.pointer (some ⟨w.heap.size, 0, none⟩)]) ∧ w' = w.alloc (.cells #[.string s] 9) := by
  go_enter Tryz.func25, Tryz.ntmps25
  go_wp2
  go_ret
  exact ⟨rfl, rfl⟩
/-- A value that is such a production; its data in blocks from c on. -/
def TellsPd (c : Nat) (A : World) (p : Pd) (v : Value) : Prop := ∃ p' : ProdR, v = p'.val ∧ p'.abs = p ∧ p'.Mem A ∧ p'.In fun b => c ≤ b
theorem tells_nil (c : Nat) (A : World) : TellsPd c A nilPd zeroProd :=
  ⟨⟨⟨#[]⟩, none, 0, 0, [], none, 0, 0, []⟩, rfl, by unfold ProdR.abs nilPd; simp [absL], ⟨by decide, SlR.nil _ _, by simp, SlR.nil _ _, by simp⟩, InB.zero _, by simp, InB.zero _⟩
/-- Nothing changes but the blocks in [lo, hi), and what is new. -/
structure Leaves (lo hi : Nat) (A B : World) : Prop where
  os : B.os = A.os
  tape : B.tape = A.tape
  output : B.output = A.output
  size : A.heap.size ≤ B.heap.size
  block : ∀ b, b < A.heap.size → ¬ (lo ≤ b ∧ b < hi) → B.heap[b]? = A.heap[b]?
theorem Leaves.of_mv {lo hi : Nat} {E : Env} {A B : World} (h : Mv E A B) (h1 : lo ≤ E.r ∧ E.r < hi) (h2 : lo ≤ E.ib ∧ E.ib < hi) : Leaves lo hi A B :=
  ⟨h.os, h.tape, h.output, h.size, fun b hb hn => h.block b hb (fun e => hn (e ▸ h1)) (fun e => hn (e ▸ h2))⟩
theorem Leaves.drew {lo hi : Nat} {A B : World} (h : Leaves lo hi A B) : Leaves lo hi A B.drew := ⟨h.os, h.tape, h.output, h.size, h.block⟩
/-- What the reader has is as it was where its blocks are. -/
theorem Rd.blocks {E : Env} {w w' : World} {ts : List Tk} {at_ e : Int} (h : Rd E w ts at_ e) (hs : ∀ b, E.Blk b → w'.heap[b]? = w.heap[b]?) : Rd E w' ts at_ e := by
  obtain ⟨k, hk, hd⟩ := h.ibox
  refine ⟨(hs _ (.inl rfl)).trans h.box, (hs _ (.inr (.inl rfl))).trans h.lbox, ⟨k, (hs _ (.inr (.inr (.inl rfl)))).trans hk, hd⟩, h.ne, ?_, h.out, h.apart, h.good⟩
  have hin : InB E.Blk E.ao E.n := fun a ha hn => .inr (.inr (.inr ⟨a, ha, hn, rfl⟩))
  exact h.data.same (K := E.Blk) hin fun b hb _ => hs b hb
/-- AN ITERATOR that tells productions, each with its error; the blocks from its begin up to c are its own. -/
def IterY (P : Program) (gf : Nat) (lb : Array Value) (vals : List (Pd × Int)) (Need : World → Prop) : Prop :=
  ∀ (m q : Nat) (J Jx : Nat → Nat → World → Prop) (W : World),
    Need W →
    (∀ c A, W.heap.size ≤ c → c ≤ A.heap.size → Below W.heap.size W A → J c 0 A) →
    (∀ c k A B, J c k A → Leaves W.heap.size c A B → J c k B) →
    (∀ c k A B, Jx c k A → Leaves W.heap.size c A B → Jx c k B) →
    (∀ c k A0 A p e v, vals[k]? = some (p, e) → J c k A0 → W.heap.size ≤ c → c ≤ A0.heap.size → Leaves W.heap.size c A0 A → TellsPd A0.heap.size A p v → YieldAt Fence.wide m P q #[v, .int .i64 e] A fun x B =>
      ((x = .returned (.bool true) ∧ J c (k + 1) B) ∨ (x = .returned (.bool false) ∧ Jx c (k + 1) B)) ∧ A.heap.size ≤ B.heap.size ∧ ∀ b, W.heap.size ≤ b → b < c → B.heap[b]? = A.heap[b]?) →
    Calls P gf (#[.func (.yield q) #[] #[]] ++ lb) W fun e B => (∃ v, e = .returned v) ∧ ∃ c, W.heap.size ≤ c ∧ (J c vals.length B ∨ ∃ k, k ≤ vals.length ∧ Jx c k B)
end Go.Proofs.YtgeaccoobhigcaaGreat
namespace Go.Proofs.YtgeaccoobhigcaaGreat
open Go Go.RowKit
attribute [local go_sem] Oper.semAt_some

/-- What a call of prod comes to, for one that tells it. -/
theorem prod_told {E : Env} {base gk k : Nat} {w' : World} {ts : List Tk} {x : Ending} {VL : List (Pd × Int)} (h : ProdOut E base w' (pProd ts) (headT ts).pos x) (hk : (headT ts).kind ≠ 5) (hv : VL.drop k = eachY (gk + 1) ts) :
    (∃ (e q : Int) (ts' : List Tk), e ≠ 0 ∧ x = .returned zeroProd ∧ Rd E w' ts' q e ∧ VL[k]? = some (nilPd, e) ∧ VL.length = k + 1) ∨
    (∃ (p : Pd) (ts' : List Tk), pProd ts = .ok p ts' ∧ ProdIs base w' p x ∧ Rd E w' ts' (-1) 0 ∧ VL[k]? = some (p, 0) ∧ VL.drop (k + 1) = eachY gk ts' ∧ k + 1 ≤ VL.length) := by
  have hone : ∀ y l, VL.drop k = y :: l → VL[k]? = some y ∧ VL.drop (k + 1) = l ∧ k + 1 ≤ VL.length := fun y l h => by
    have h1 := congrArg (fun l => l[0]?) h
    have h2 := congrArg List.tail h
    have h3 := congrArg List.length h
    rw [List.tail_drop] at h2
    rw [List.length_drop] at h3
    simp only [List.length_cons] at h3
    exact ⟨by simpa [List.getElem?_drop] using h1, h2, by omega⟩
  cases hp : pProd ts with
  | bad q =>
    rw [hp] at h
    obtain ⟨rfl, ts', hr⟩ := h
    rw [eachY_bad hk hp] at hv
    obtain ⟨h1, h2, h3⟩ := hone _ _ hv
    have := congrArg List.length h2
    rw [List.length_drop] at this
    exact .inl ⟨5, q, ts', by decide, rfl, hr, h1, by simp at this; omega⟩
  | ok p ts' =>
    rw [hp] at h
    rcases h with ⟨hs, hi, hr⟩ | ⟨hs, rfl, ts2, hr⟩
    · rw [eachY_next hk hp hs] at hv
      obtain ⟨h1, h2, h3⟩ := hone _ _ hv
      exact .inr ⟨p, ts', rfl, hi, hr, h1, h2, h3⟩
    · rw [eachY_shape hk hp hs] at hv
      obtain ⟨h1, h2, h3⟩ := hone _ _ hv
      have := congrArg List.length h2
      rw [List.length_drop] at this
      exact .inl ⟨shapeE p, _, ts2, hs, rfl, hr, h1, by simp at this; omega⟩
set_option maxRecDepth 100000 in
set_option maxHeartbeats 4000000 in
theorem each_iter (s : ByteArray) (hs : s.size ≤ 32768) (Bl : Nat) : IterY Tryz.prog 47 #[.pointer (some ⟨Bl, 0, none⟩)] (eachY ((toks s.data.toList).length + 1) (toks s.data.toList)) (fun W => W.cell? ⟨Bl, 0, none⟩ = some (.string s)) := by
  intro m q J Jx W hN h0 hg hgx hY
  refine (callsIn_wide (n := m + 1)).1 ?_
  refine callsIn_of_wp Tryz.func47 rfl trivial ?_
  simp only [Tryz.ntmps47, List.size_toArray, List.length_cons, List.length_nil, Nat.reduceAdd, Nat.reduceSub, Array.replicate_succ, Array.replicate_zero, List.push_toArray, List.append_toArray, List.nil_append, List.cons_append]
  have H0 := Lib.hid h0
  have HGR := Lib.hid hg
  have HGX := Lib.hid hgx
  have HY := Lib.hid hY
  have HRD := Lib.hid (reader_any s hs)
  clear h0 hg hY hgx
  generalize toks s.data.toList = ts at *
  obtain ⟨VL, hVL⟩ : ∃ VL, eachY (ts.length + 1) ts = VL := ⟨_, rfl⟩
  rw [hVL] at HY
  rw [hVL]
  gi_wp2_with (refine ⟨trivial, ?_⟩; gi_at_call 16; refine (callsIn_wide.2 (HRD.out _)).mono ?_; rintro e W1 ⟨E, rfl, hb1, hr1, hlow, hEL⟩)
  have hl1 := hlow E.r (.inl rfl)
  have hJ0 := H0.out W1.heap.size W1 hb1.size (Nat.le_refl _) hb1
  have HLW := Lib.hid hlow
  have hws := hb1.size
  have HR1 := Lib.hid hr1
  have HV := Lib.hid hVL
  have HLB := Lib.hid hr1.lows
  clear hVL hr1 hlow hb1 H0 HRD hN
  unfold Env.ptr
  gi_loopg [] (ts.length + 1) (fun gk wr => ∃ (k : Nat) (ts1 : List Tk), Hid (Rd E wr ts1 (-1) 0) ∧ Hid (ts1.length < gk) ∧ Hid (VL.drop k = eachY gk ts1) ∧ k ≤ VL.length ∧ J W1.heap.size k wr ∧ W1.heap.size ≤ wr.heap.size)
  case atStart => exact ⟨0, ts, HR1, Lib.hid (Nat.lt_succ_self _), Lib.hid (by rw [HV.out]; rfl), Nat.zero_le _, hJ0, Nat.le_refl _⟩
  case round =>
    obtain ⟨k, ts1, HR, HF, HD, hk, hJ, hsz⟩ := hrel
    have hfl := HF.out
    obtain ⟨gk, rfl⟩ : ∃ g, gk = g + 1 := ⟨gk - 1, by omega⟩
    clear hfl
    obtain ⟨c0, c1, c2, c3, c4, c5⟩ := six_boxR HR.out.box
    by_cases hk5 : (headT ts1).kind = 5
    · have e5 : (((headT ts1).kind : Int) != 5) = false := by simp [hk5]
      have hend : k = VL.length := by
        have := congrArg List.length HD.out
        rw [eachY_end hk5, List.length_drop] at this
        simp at this
        omega
      clear hk5
      subst hend
      gi_wp2
      go_end0
      exact ⟨⟨_, rfl⟩, W1.heap.size, hws, .inl hJ⟩
    · have e5 : (((headT ts1).kind : Int) != 5) = true := by simp; omega
      have hP := prod_any wr HR.out
      unfold Env.ptr at hP
      have HP := Lib.hid hP
      have HK := Lib.hid hk5
      clear hP hk5
      gi_wp2_with fail
      refine ⟨trivial, ?_⟩
      refine (callsIn_wide.2 HP.out).mono ?_
      rintro x w2 ⟨hm2, ho2⟩
      have HM2 := Lib.hid hm2
      clear hm2 c0 c1 c2 c3 c4 c5 HP
      have hmix : Tryz.prog.follows .mixedOrders = true := by kernel_rfl
      rcases prod_told ho2 HK.out HD.out with ⟨e, q, ts', he, rfl, hr, hvk, hvl⟩ | ⟨p, ts', hp, ⟨p', rfl, habs, hmem, hdc, hda⟩, hr, hvk, hdr, hkl⟩
      · have hra := hr.alloc (.cells #[.string ⟨#[]⟩, .slice none 0 0, .slice none 0 0] 26)
        obtain ⟨c0, c1, c2, c3, c4, c5⟩ := six_boxR hra.box
        have hA : Leaves W.heap.size W1.heap.size wr (w2.alloc (.cells #[.string ⟨#[]⟩, .slice none 0 0, .slice none 0 0] 26)).drew := (Leaves.of_mv (HM2.out.alloc _) ⟨hl1, HLB.out E.r (.inl rfl)⟩ ⟨HLW.out E.ib (.inr (.inr (.inl rfl))), HLB.out E.ib (.inr (.inr (.inl rfl)))⟩).drew
        obtain ⟨fn, tmps, assign, body, hy, hR⟩ := HY.out _ k _ _ nilPd e zeroProd hvk hJ hws hsz hA (tells_nil _ _)
        have HRB := Lib.hid hR
        have HVL := Lib.hid hvl
        have hne : (e != 0) = true := by simp [he]
        unfold zeroProd at *
        clear hR hr hA hvk hvl ho2 he
        gi_wp2
        have HBX := Lib.hid hra.box
        clear hra
        refine wpIn_region_any (by assumption) ?_
        change wpAnyIn _ _ _ _ _ _ _ _ _ (World.drew _)
        refine wpAnyIn_take (i := 0) (v := ?_) rfl rfl (by kernel_rfl) (by kernel_rfl) (by kernel_rfl) (fun _ _ _ h => h) ⟨Or.inl ⟨by rfl, ?_⟩, fun _ => rfl⟩ ?_
        rotate_left
        · intro w; go_simp; try with_reducible rfl
        refine wpAnyIn_take (i := 2) (v := ?_) rfl rfl (by kernel_rfl) (by kernel_rfl) (by kernel_rfl) (fun _ _ _ h => h) ⟨Or.inl ⟨by rfl, ?_⟩, fun _ => rfl⟩ ?_
        rotate_left
        · intro w; go_simp; try with_reducible rfl
        refine wpAnyIn_take (i := 3) (v := ?_) rfl rfl (by kernel_rfl) (by kernel_rfl) (by kernel_rfl) (fun _ _ _ h => h) ⟨Or.inl ⟨by rfl, ?_⟩, fun _ => rfl⟩ ?_
        rotate_left
        · intro w; go_simp; try with_reducible rfl
        refine wpAnyIn_take (i := 4) (v := ?_) rfl rfl (by kernel_rfl) (by kernel_rfl) (by kernel_rfl) (fun _ _ _ h => h) ⟨Or.inl ⟨by rfl, ?_⟩, fun _ => rfl⟩ ?_
        rotate_left
        · intro w; go_simp; try with_reducible rfl
        refine wpAnyIn_ready (rs := [1, 5]) (by kernel_rfl) (by simp) ?_
        refine AllReadyIn.cons rfl (fun K hK => ?_) (AllReadyIn.cons rfl (fun K hK => ?_) AllReadyIn.nil)
        · go_simp
          refine hK _ _ ?_
          clear hK K
          refine wpAnyIn_ready (rs := [5]) (by kernel_rfl) (by simp) ?_
          refine AllReadyIn.cons rfl (fun K hK => ?_) AllReadyIn.nil
          go_simp
          refine hK _ _ ?_
          clear hK K
          refine wpAnyIn_ready (rs := [6]) (by kernel_rfl) (by simp) ?_
          refine AllReadyIn.cons rfl (fun K hK => ?_) AllReadyIn.nil
          go_simp
          gi_wp2_with (refine RoundIn.mono (F := Fence.wide) HRB.out ?_; rintro x w4 ⟨⟨rfl, hd⟩ | ⟨rfl, hd⟩, hz, hs⟩)
          · have HB := Lib.hid hd
            have hbx := (hs E.r hl1 (HLB.out E.r (.inl rfl))).trans HBX.out
            obtain ⟨k0, k1, k2, k3, k4, k5⟩ := six_boxR hbx
            clear hbx c0 c1 c2 c3 c4 c5
            refine wpAnyIn_ready (rs := [7]) (by kernel_rfl) (by simp) ?_
            refine AllReadyIn.cons rfl (fun K hK => ?_) AllReadyIn.nil
            go_simp
            refine hK _ _ ?_
            clear hK K
            refine wpAnyIn_ready (rs := [8]) (by kernel_rfl) (by simp) ?_
            refine AllReadyIn.cons rfl (fun K hK => ?_) AllReadyIn.nil
            go_simp
            refine hK _ _ ?_
            clear hK K
            refine wpAnyIn_ready (rs := [9]) (by kernel_rfl) (by simp) ?_
            refine AllReadyIn.cons rfl (fun K hK => ?_) AllReadyIn.nil
            go_simp
            refine hK _ _ ?_
            clear hK K
            refine wpAnyIn_ready (rs := [10]) (by kernel_rfl) (by simp) ?_
            refine AllReadyIn.cons rfl (fun K hK => ?_) AllReadyIn.nil
            go_simp
            refine hK _ _ ?_
            clear hK K
            refine wpAnyIn_ready (rs := [11]) (by kernel_rfl) (by simp) ?_
            refine AllReadyIn.cons rfl (fun K hK => ?_) AllReadyIn.nil
            go_simp
            refine hK _ _ ?_
            clear hK K
            refine wpAnyIn_ready (rs := [12]) (by kernel_rfl) (by simp) ?_
            refine AllReadyIn.cons rfl (fun K hK => ?_) AllReadyIn.nil
            go_simp
            refine hK _ _ ?_
            clear hK K
            refine wpAnyIn_ready (rs := [13]) (by kernel_rfl) (by simp) ?_
            refine AllReadyIn.cons rfl (fun K hK => ?_) AllReadyIn.nil
            go_simp
            refine hK _ _ ?_
            clear hK K
            refine wpAnyIn_ready (rs := [14]) (by kernel_rfl) (by simp) ?_
            refine AllReadyIn.cons rfl (fun K hK => ?_) AllReadyIn.nil
            go_simp
            refine hK _ _ ?_
            clear hK K
            refine wpAnyIn_done (by kernel_rfl) ?_ _
            gi_wp2
            refine bodyPost_ret (results_none rfl _ _ _) rfl ?_
            exact ⟨⟨_, rfl⟩, W1.heap.size, hws, .inl (by rw [HVL.out]; exact HB.out)⟩
          · have HB := Lib.hid hd
            clear c0 c1 c2 c3 c4 c5
            refine wpAnyIn_ready (rs := [7]) (by kernel_rfl) (by simp) ?_
            refine AllReadyIn.cons rfl (fun K hK => ?_) AllReadyIn.nil
            go_simp
            refine hK _ _ ?_
            clear hK K
            refine wpAnyIn_ready (rs := [8]) (by kernel_rfl) (by simp) ?_
            refine AllReadyIn.cons rfl (fun K hK => ?_) AllReadyIn.nil
            go_simp
            refine hK _ _ ?_
            clear hK K
            refine wpAnyIn_ready (rs := [9]) (by kernel_rfl) (by simp) ?_
            refine AllReadyIn.cons rfl (fun K hK => ?_) AllReadyIn.nil
            go_simp
            refine hK _ _ ?_
            clear hK K
            refine wpAnyIn_ready (rs := [10]) (by kernel_rfl) (by simp) ?_
            refine AllReadyIn.cons rfl (fun K hK => ?_) AllReadyIn.nil
            go_simp
            refine hK _ _ ?_
            clear hK K
            refine wpAnyIn_ready (rs := [11]) (by kernel_rfl) (by simp) ?_
            refine AllReadyIn.cons rfl (fun K hK => ?_) AllReadyIn.nil
            go_simp
            refine hK _ _ ?_
            clear hK K
            refine wpAnyIn_ready (rs := [12]) (by kernel_rfl) (by simp) ?_
            refine AllReadyIn.cons rfl (fun K hK => ?_) AllReadyIn.nil
            go_simp
            refine hK _ _ ?_
            clear hK K
            refine wpAnyIn_ready (rs := [13]) (by kernel_rfl) (by simp) ?_
            refine AllReadyIn.cons rfl (fun K hK => ?_) AllReadyIn.nil
            go_simp
            refine hK _ _ ?_
            clear hK K
            refine wpAnyIn_ready (rs := [14]) (by kernel_rfl) (by simp) ?_
            refine AllReadyIn.cons rfl (fun K hK => ?_) AllReadyIn.nil
            go_simp
            refine hK _ _ ?_
            clear hK K
            refine wpAnyIn_done (by kernel_rfl) ?_ _
            gi_wp2
            refine bodyPost_ret (results_none rfl _ _ _) rfl ?_
            exact ⟨⟨_, rfl⟩, W1.heap.size, hws, .inr ⟨k + 1, by rw [HVL.out]; exact Nat.le_refl _, HB.out⟩⟩
        · go_simp
          refine hK _ _ ?_
          clear hK K
          refine wpAnyIn_ready (rs := [1]) (by kernel_rfl) (by simp) ?_
          refine AllReadyIn.cons rfl (fun K hK => ?_) AllReadyIn.nil
          go_simp
          refine hK _ _ ?_
          clear hK K
          refine wpAnyIn_ready (rs := [6]) (by kernel_rfl) (by simp) ?_
          refine AllReadyIn.cons rfl (fun K hK => ?_) AllReadyIn.nil
          go_simp
          gi_wp2_with (refine RoundIn.mono (F := Fence.wide) HRB.out ?_; rintro x w4 ⟨⟨rfl, hd⟩ | ⟨rfl, hd⟩, hz, hs⟩)
          · have HB := Lib.hid hd
            have hbx := (hs E.r hl1 (HLB.out E.r (.inl rfl))).trans HBX.out
            obtain ⟨k0, k1, k2, k3, k4, k5⟩ := six_boxR hbx
            clear hbx c0 c1 c2 c3 c4 c5
            refine wpAnyIn_ready (rs := [7]) (by kernel_rfl) (by simp) ?_
            refine AllReadyIn.cons rfl (fun K hK => ?_) AllReadyIn.nil
            go_simp
            refine hK _ _ ?_
            clear hK K
            refine wpAnyIn_ready (rs := [8]) (by kernel_rfl) (by simp) ?_
            refine AllReadyIn.cons rfl (fun K hK => ?_) AllReadyIn.nil
            go_simp
            refine hK _ _ ?_
            clear hK K
            refine wpAnyIn_ready (rs := [9]) (by kernel_rfl) (by simp) ?_
            refine AllReadyIn.cons rfl (fun K hK => ?_) AllReadyIn.nil
            go_simp
            refine hK _ _ ?_
            clear hK K
            refine wpAnyIn_ready (rs := [10]) (by kernel_rfl) (by simp) ?_
            refine AllReadyIn.cons rfl (fun K hK => ?_) AllReadyIn.nil
            go_simp
            refine hK _ _ ?_
            clear hK K
            refine wpAnyIn_ready (rs := [11]) (by kernel_rfl) (by simp) ?_
            refine AllReadyIn.cons rfl (fun K hK => ?_) AllReadyIn.nil
            go_simp
            refine hK _ _ ?_
            clear hK K
            refine wpAnyIn_ready (rs := [12]) (by kernel_rfl) (by simp) ?_
            refine AllReadyIn.cons rfl (fun K hK => ?_) AllReadyIn.nil
            go_simp
            refine hK _ _ ?_
            clear hK K
            refine wpAnyIn_ready (rs := [13]) (by kernel_rfl) (by simp) ?_
            refine AllReadyIn.cons rfl (fun K hK => ?_) AllReadyIn.nil
            go_simp
            refine hK _ _ ?_
            clear hK K
            refine wpAnyIn_ready (rs := [14]) (by kernel_rfl) (by simp) ?_
            refine AllReadyIn.cons rfl (fun K hK => ?_) AllReadyIn.nil
            go_simp
            refine hK _ _ ?_
            clear hK K
            refine wpAnyIn_done (by kernel_rfl) ?_ _
            gi_wp2
            refine bodyPost_ret (results_none rfl _ _ _) rfl ?_
            exact ⟨⟨_, rfl⟩, W1.heap.size, hws, .inl (by rw [HVL.out]; exact HB.out)⟩
          · have HB := Lib.hid hd
            clear c0 c1 c2 c3 c4 c5
            refine wpAnyIn_ready (rs := [7]) (by kernel_rfl) (by simp) ?_
            refine AllReadyIn.cons rfl (fun K hK => ?_) AllReadyIn.nil
            go_simp
            refine hK _ _ ?_
            clear hK K
            refine wpAnyIn_ready (rs := [8]) (by kernel_rfl) (by simp) ?_
            refine AllReadyIn.cons rfl (fun K hK => ?_) AllReadyIn.nil
            go_simp
            refine hK _ _ ?_
            clear hK K
            refine wpAnyIn_ready (rs := [9]) (by kernel_rfl) (by simp) ?_
            refine AllReadyIn.cons rfl (fun K hK => ?_) AllReadyIn.nil
            go_simp
            refine hK _ _ ?_
            clear hK K
            refine wpAnyIn_ready (rs := [10]) (by kernel_rfl) (by simp) ?_
            refine AllReadyIn.cons rfl (fun K hK => ?_) AllReadyIn.nil
            go_simp
            refine hK _ _ ?_
            clear hK K
            refine wpAnyIn_ready (rs := [11]) (by kernel_rfl) (by simp) ?_
            refine AllReadyIn.cons rfl (fun K hK => ?_) AllReadyIn.nil
            go_simp
            refine hK _ _ ?_
            clear hK K
            refine wpAnyIn_ready (rs := [12]) (by kernel_rfl) (by simp) ?_
            refine AllReadyIn.cons rfl (fun K hK => ?_) AllReadyIn.nil
            go_simp
            refine hK _ _ ?_
            clear hK K
            refine wpAnyIn_ready (rs := [13]) (by kernel_rfl) (by simp) ?_
            refine AllReadyIn.cons rfl (fun K hK => ?_) AllReadyIn.nil
            go_simp
            refine hK _ _ ?_
            clear hK K
            refine wpAnyIn_ready (rs := [14]) (by kernel_rfl) (by simp) ?_
            refine AllReadyIn.cons rfl (fun K hK => ?_) AllReadyIn.nil
            go_simp
            refine hK _ _ ?_
            clear hK K
            refine wpAnyIn_done (by kernel_rfl) ?_ _
            gi_wp2
            refine bodyPost_ret (results_none rfl _ _ _) rfl ?_
            exact ⟨⟨_, rfl⟩, W1.heap.size, hws, .inr ⟨k + 1, by rw [HVL.out]; exact Nat.le_refl _, HB.out⟩⟩
      · obtain ⟨nm, ca, cn, cc, cl, aa, an, ac, al⟩ := p'
        have hra := hr.alloc (.cells #[.string nm, .slice ca cn cc, .slice aa an ac] 26)
        obtain ⟨c0, c1, c2, c3, c4, c5⟩ := six_boxR hra.box
        have hA : Leaves W.heap.size W1.heap.size wr (w2.alloc (.cells #[.string nm, .slice ca cn cc, .slice aa an ac] 26)).drew := (Leaves.of_mv (HM2.out.alloc _) ⟨hl1, HLB.out E.r (.inl rfl)⟩ ⟨HLW.out E.ib (.inr (.inr (.inl rfl))), HLB.out E.ib (.inr (.inr (.inl rfl)))⟩).drew
        have hT : TellsPd wr.heap.size (w2.alloc (.cells #[.string nm, .slice ca cn cc, .slice aa an ac] 26)).drew p (.agg #[.string nm, .slice ca cn cc, .slice aa an ac]) :=
          ⟨⟨nm, ca, cn, cc, cl, aa, an, ac, al⟩, rfl, habs, hmem.kept ⟨rfl, rfl, rfl, (below_new w2 (.cells #[.string nm, .slice ca cn cc, .slice aa an ac] 26)).size, (below_new w2 (.cells #[.string nm, .slice ca cn cc, .slice aa an ac] 26)).block⟩, hdc.inb, hdc.ink, hda.inb⟩
        obtain ⟨fn, tmps, assign, body, hy, hR⟩ := HY.out _ k _ _ p 0 _ hvk hJ hws hsz hA hT
        have HRB := Lib.hid hR
        have hke := pProd_eats _ _ _ hp
        have hfl := HF.out
        have HF2 : Hid (ts'.length < gk) := Lib.hid (by omega)
        have HDR := Lib.hid hdr
        have HRA := Lib.hid hra
        unfold ProdR.val at *
        dsimp only at *
        clear hR hr hA hvk ho2 hT hdr hmem hdc hda habs hke hfl hp
        gi_wp2
        have HBX := Lib.hid hra.box
        clear hra
        refine wpIn_region_any (by assumption) ?_
        change wpAnyIn _ _ _ _ _ _ _ _ _ (World.drew _)
        refine wpAnyIn_take (i := 0) (v := ?_) rfl rfl (by kernel_rfl) (by kernel_rfl) (by kernel_rfl) (fun _ _ _ h => h) ⟨Or.inl ⟨by rfl, ?_⟩, fun _ => rfl⟩ ?_
        rotate_left
        · intro w; go_simp; try with_reducible rfl
        refine wpAnyIn_take (i := 2) (v := ?_) rfl rfl (by kernel_rfl) (by kernel_rfl) (by kernel_rfl) (fun _ _ _ h => h) ⟨Or.inl ⟨by rfl, ?_⟩, fun _ => rfl⟩ ?_
        rotate_left
        · intro w; go_simp; try with_reducible rfl
        refine wpAnyIn_take (i := 3) (v := ?_) rfl rfl (by kernel_rfl) (by kernel_rfl) (by kernel_rfl) (fun _ _ _ h => h) ⟨Or.inl ⟨by rfl, ?_⟩, fun _ => rfl⟩ ?_
        rotate_left
        · intro w; go_simp; try with_reducible rfl
        refine wpAnyIn_take (i := 4) (v := ?_) rfl rfl (by kernel_rfl) (by kernel_rfl) (by kernel_rfl) (fun _ _ _ h => h) ⟨Or.inl ⟨by rfl, ?_⟩, fun _ => rfl⟩ ?_
        rotate_left
        · intro w; go_simp; try with_reducible rfl
        refine wpAnyIn_ready (rs := [1, 5]) (by kernel_rfl) (by simp) ?_
        refine AllReadyIn.cons rfl (fun K hK => ?_) (AllReadyIn.cons rfl (fun K hK => ?_) AllReadyIn.nil)
        · go_simp
          refine hK _ _ ?_
          clear hK K
          refine wpAnyIn_ready (rs := [5]) (by kernel_rfl) (by simp) ?_
          refine AllReadyIn.cons rfl (fun K hK => ?_) AllReadyIn.nil
          go_simp
          refine hK _ _ ?_
          clear hK K
          refine wpAnyIn_ready (rs := [6]) (by kernel_rfl) (by simp) ?_
          refine AllReadyIn.cons rfl (fun K hK => ?_) AllReadyIn.nil
          go_simp
          gi_wp2_with (refine RoundIn.mono (F := Fence.wide) HRB.out ?_; rintro x w4 ⟨⟨rfl, hd⟩ | ⟨rfl, hd⟩, hz, hs⟩)
          · have HB := Lib.hid hd
            have hbx := (hs E.r hl1 (HLB.out E.r (.inl rfl))).trans HBX.out
            obtain ⟨k0, k1, k2, k3, k4, k5⟩ := six_boxR hbx
            clear hbx c0 c1 c2 c3 c4 c5
            refine wpAnyIn_ready (rs := [7]) (by kernel_rfl) (by simp) ?_
            refine AllReadyIn.cons rfl (fun K hK => ?_) AllReadyIn.nil
            go_simp
            refine hK _ _ ?_
            clear hK K
            refine wpAnyIn_ready (rs := [8]) (by kernel_rfl) (by simp) ?_
            refine AllReadyIn.cons rfl (fun K hK => ?_) AllReadyIn.nil
            go_simp
            refine hK _ _ ?_
            clear hK K
            refine wpAnyIn_ready (rs := [9]) (by kernel_rfl) (by simp) ?_
            refine AllReadyIn.cons rfl (fun K hK => ?_) AllReadyIn.nil
            go_simp
            refine hK _ _ ?_
            clear hK K
            refine wpAnyIn_ready (rs := [10]) (by kernel_rfl) (by simp) ?_
            refine AllReadyIn.cons rfl (fun K hK => ?_) AllReadyIn.nil
            go_simp
            refine hK _ _ ?_
            clear hK K
            refine wpAnyIn_ready (rs := [11]) (by kernel_rfl) (by simp) ?_
            refine AllReadyIn.cons rfl (fun K hK => ?_) AllReadyIn.nil
            go_simp
            refine hK _ _ ?_
            clear hK K
            refine wpAnyIn_ready (rs := [12]) (by kernel_rfl) (by simp) ?_
            refine AllReadyIn.cons rfl (fun K hK => ?_) AllReadyIn.nil
            go_simp
            refine hK _ _ ?_
            clear hK K
            refine wpAnyIn_ready (rs := [13]) (by kernel_rfl) (by simp) ?_
            refine AllReadyIn.cons rfl (fun K hK => ?_) AllReadyIn.nil
            go_simp
            refine hK _ _ ?_
            clear hK K
            refine wpAnyIn_ready (rs := [14]) (by kernel_rfl) (by simp) ?_
            refine AllReadyIn.cons rfl (fun K hK => ?_) AllReadyIn.nil
            go_simp
            refine hK _ _ ?_
            clear hK K
            refine wpAnyIn_done (by kernel_rfl) ?_ _
            have HRN : Hid (Rd E w4 ts' (-1) 0) := Lib.hid (Rd.blocks HRA.out fun b hb => hs b (HLW.out b hb) (HLB.out b hb))
            have hsz4 : W1.heap.size ≤ w4.heap.size := Nat.le_trans hsz (Nat.le_trans (HM2.out.alloc (.cells #[.string nm, .slice ca cn cc, .slice aa an ac] 26)).size hz)
            clear hs hz k0 k1 k2 k3 k4 k5
            gi_wp2
            go_roundg gk
            case rel => exact ⟨k + 1, ts', HRN, HF2, HDR, hkl, HB.out, hsz4⟩
            case measure => omega
          · have HB := Lib.hid hd
            clear c0 c1 c2 c3 c4 c5
            refine wpAnyIn_ready (rs := [7]) (by kernel_rfl) (by simp) ?_
            refine AllReadyIn.cons rfl (fun K hK => ?_) AllReadyIn.nil
            go_simp
            refine hK _ _ ?_
            clear hK K
            refine wpAnyIn_ready (rs := [8]) (by kernel_rfl) (by simp) ?_
            refine AllReadyIn.cons rfl (fun K hK => ?_) AllReadyIn.nil
            go_simp
            refine hK _ _ ?_
            clear hK K
            refine wpAnyIn_ready (rs := [9]) (by kernel_rfl) (by simp) ?_
            refine AllReadyIn.cons rfl (fun K hK => ?_) AllReadyIn.nil
            go_simp
            refine hK _ _ ?_
            clear hK K
            refine wpAnyIn_ready (rs := [10]) (by kernel_rfl) (by simp) ?_
            refine AllReadyIn.cons rfl (fun K hK => ?_) AllReadyIn.nil
            go_simp
            refine hK _ _ ?_
            clear hK K
            refine wpAnyIn_ready (rs := [11]) (by kernel_rfl) (by simp) ?_
            refine AllReadyIn.cons rfl (fun K hK => ?_) AllReadyIn.nil
            go_simp
            refine hK _ _ ?_
            clear hK K
            refine wpAnyIn_ready (rs := [12]) (by kernel_rfl) (by simp) ?_
            refine AllReadyIn.cons rfl (fun K hK => ?_) AllReadyIn.nil
            go_simp
            refine hK _ _ ?_
            clear hK K
            refine wpAnyIn_ready (rs := [13]) (by kernel_rfl) (by simp) ?_
            refine AllReadyIn.cons rfl (fun K hK => ?_) AllReadyIn.nil
            go_simp
            refine hK _ _ ?_
            clear hK K
            refine wpAnyIn_ready (rs := [14]) (by kernel_rfl) (by simp) ?_
            refine AllReadyIn.cons rfl (fun K hK => ?_) AllReadyIn.nil
            go_simp
            refine hK _ _ ?_
            clear hK K
            refine wpAnyIn_done (by kernel_rfl) ?_ _
            gi_wp2
            refine bodyPost_ret (results_none rfl _ _ _) rfl ?_
            exact ⟨⟨_, rfl⟩, W1.heap.size, hws, .inr ⟨k + 1, hkl, HB.out⟩⟩
        · go_simp
          refine hK _ _ ?_
          clear hK K
          refine wpAnyIn_ready (rs := [1]) (by kernel_rfl) (by simp) ?_
          refine AllReadyIn.cons rfl (fun K hK => ?_) AllReadyIn.nil
          go_simp
          refine hK _ _ ?_
          clear hK K
          refine wpAnyIn_ready (rs := [6]) (by kernel_rfl) (by simp) ?_
          refine AllReadyIn.cons rfl (fun K hK => ?_) AllReadyIn.nil
          go_simp
          gi_wp2_with (refine RoundIn.mono (F := Fence.wide) HRB.out ?_; rintro x w4 ⟨⟨rfl, hd⟩ | ⟨rfl, hd⟩, hz, hs⟩)
          · have HB := Lib.hid hd
            have hbx := (hs E.r hl1 (HLB.out E.r (.inl rfl))).trans HBX.out
            obtain ⟨k0, k1, k2, k3, k4, k5⟩ := six_boxR hbx
            clear hbx c0 c1 c2 c3 c4 c5
            refine wpAnyIn_ready (rs := [7]) (by kernel_rfl) (by simp) ?_
            refine AllReadyIn.cons rfl (fun K hK => ?_) AllReadyIn.nil
            go_simp
            refine hK _ _ ?_
            clear hK K
            refine wpAnyIn_ready (rs := [8]) (by kernel_rfl) (by simp) ?_
            refine AllReadyIn.cons rfl (fun K hK => ?_) AllReadyIn.nil
            go_simp
            refine hK _ _ ?_
            clear hK K
            refine wpAnyIn_ready (rs := [9]) (by kernel_rfl) (by simp) ?_
            refine AllReadyIn.cons rfl (fun K hK => ?_) AllReadyIn.nil
            go_simp
            refine hK _ _ ?_
            clear hK K
            refine wpAnyIn_ready (rs := [10]) (by kernel_rfl) (by simp) ?_
            refine AllReadyIn.cons rfl (fun K hK => ?_) AllReadyIn.nil
            go_simp
            refine hK _ _ ?_
            clear hK K
            refine wpAnyIn_ready (rs := [11]) (by kernel_rfl) (by simp) ?_
            refine AllReadyIn.cons rfl (fun K hK => ?_) AllReadyIn.nil
            go_simp
            refine hK _ _ ?_
            clear hK K
            refine wpAnyIn_ready (rs := [12]) (by kernel_rfl) (by simp) ?_
            refine AllReadyIn.cons rfl (fun K hK => ?_) AllReadyIn.nil
            go_simp
            refine hK _ _ ?_
            clear hK K
            refine wpAnyIn_ready (rs := [13]) (by kernel_rfl) (by simp) ?_
            refine AllReadyIn.cons rfl (fun K hK => ?_) AllReadyIn.nil
            go_simp
            refine hK _ _ ?_
            clear hK K
            refine wpAnyIn_ready (rs := [14]) (by kernel_rfl) (by simp) ?_
            refine AllReadyIn.cons rfl (fun K hK => ?_) AllReadyIn.nil
            go_simp
            refine hK _ _ ?_
            clear hK K
            refine wpAnyIn_done (by kernel_rfl) ?_ _
            have HRN : Hid (Rd E w4 ts' (-1) 0) := Lib.hid (Rd.blocks HRA.out fun b hb => hs b (HLW.out b hb) (HLB.out b hb))
            have hsz4 : W1.heap.size ≤ w4.heap.size := Nat.le_trans hsz (Nat.le_trans (HM2.out.alloc (.cells #[.string nm, .slice ca cn cc, .slice aa an ac] 26)).size hz)
            clear hs hz k0 k1 k2 k3 k4 k5
            gi_wp2
            go_roundg gk
            case rel => exact ⟨k + 1, ts', HRN, HF2, HDR, hkl, HB.out, hsz4⟩
            case measure => omega
          · have HB := Lib.hid hd
            clear c0 c1 c2 c3 c4 c5
            refine wpAnyIn_ready (rs := [7]) (by kernel_rfl) (by simp) ?_
            refine AllReadyIn.cons rfl (fun K hK => ?_) AllReadyIn.nil
            go_simp
            refine hK _ _ ?_
            clear hK K
            refine wpAnyIn_ready (rs := [8]) (by kernel_rfl) (by simp) ?_
            refine AllReadyIn.cons rfl (fun K hK => ?_) AllReadyIn.nil
            go_simp
            refine hK _ _ ?_
            clear hK K
            refine wpAnyIn_ready (rs := [9]) (by kernel_rfl) (by simp) ?_
            refine AllReadyIn.cons rfl (fun K hK => ?_) AllReadyIn.nil
            go_simp
            refine hK _ _ ?_
            clear hK K
            refine wpAnyIn_ready (rs := [10]) (by kernel_rfl) (by simp) ?_
            refine AllReadyIn.cons rfl (fun K hK => ?_) AllReadyIn.nil
            go_simp
            refine hK _ _ ?_
            clear hK K
            refine wpAnyIn_ready (rs := [11]) (by kernel_rfl) (by simp) ?_
            refine AllReadyIn.cons rfl (fun K hK => ?_) AllReadyIn.nil
            go_simp
            refine hK _ _ ?_
            clear hK K
            refine wpAnyIn_ready (rs := [12]) (by kernel_rfl) (by simp) ?_
            refine AllReadyIn.cons rfl (fun K hK => ?_) AllReadyIn.nil
            go_simp
            refine hK _ _ ?_
            clear hK K
            refine wpAnyIn_ready (rs := [13]) (by kernel_rfl) (by simp) ?_
            refine AllReadyIn.cons rfl (fun K hK => ?_) AllReadyIn.nil
            go_simp
            refine hK _ _ ?_
            clear hK K
            refine wpAnyIn_ready (rs := [14]) (by kernel_rfl) (by simp) ?_
            refine AllReadyIn.cons rfl (fun K hK => ?_) AllReadyIn.nil
            go_simp
            refine hK _ _ ?_
            clear hK K
            refine wpAnyIn_done (by kernel_rfl) ?_ _
            gi_wp2
            refine bodyPost_ret (results_none rfl _ _ _) rfl ?_
            exact ⟨⟨_, rfl⟩, W1.heap.size, hws, .inr ⟨k + 1, hkl, HB.out⟩⟩
end Go.Proofs.YtgeaccoobhigcaaGreat
namespace Go.Proofs.YtgeaccoobhigcaaGreat
open Go Go.RowKit

theorem Leaves.of_below {lo hi : Nat} {A B : World} (h : Below A.heap.size A B) : Leaves lo hi A B := ⟨h.os, h.tape, h.output, h.size, fun b hb _ => h.block b hb⟩
theorem ownsRow_blocks {w w' : World} {base : Nat} {e : TypeId} {size : Nat} {v : Value} {n : Nat} {xs : List Value} (h : w.ownsRow base e size v n xs) (hs : ∀ b, base ≤ b → b < w.heap.size → w'.heap[b]? = w.heap[b]?) : w'.ownsRow base e size v n xs := by
  refine ⟨h.1, ?_⟩
  rcases h.2 with h2 | ⟨g, cap, cur, rfl, hb, hg, hr⟩
  · exact .inl h2
  · exact .inr ⟨g, cap, cur, rfl, hb, (hs g hb (lt_of_block hg)).trans hg, hr⟩
section
variable {α : Type} {M : Make α} {base : Nat} {e : TypeId} {w w' : World} {v : Value} {l : List α}
theorem OwnD.beside {row : Option Nat} (h : OwnD M base e w v l) (hg : w.grownBy w' row) (h1 : v.ownBlock = none ∨ v.ownBlock ≠ row) (h2 : ∀ a ∈ l, M.inK (fun b => some b ≠ row) a) : OwnD M base e w' v l :=
  ⟨h.own.kept hg h1, fun a ha => M.same (h.ok a ha) (h2 a ha) (sameIn_of_grown hg fun _ hb => hb), fun a ha => M.mono (h.ink a ha) fun _ hb => ⟨hb.1, Nat.lt_of_lt_of_le hb.2.1 hg.size, hb.2.2⟩⟩
theorem OwnD.blocks (h : OwnD M base e w v l) (hs : ∀ b, base ≤ b → b < w.heap.size → w'.heap[b]? = w.heap[b]?) (hz : w.heap.size ≤ w'.heap.size) : OwnD M base e w' v l :=
  ⟨ownsRow_blocks h.own hs, fun a ha => M.same (h.ok a ha) (h.ink a ha) fun b hb _ => hs b hb.1 hb.2.1, fun a ha => M.mono (h.ink a ha) fun _ hb => ⟨hb.1, Nat.lt_of_lt_of_le hb.2.1 hz, hb.2.2⟩⟩
/-- One element more behind a row, inside a fence; and which block the row is in then. -/
theorem wpListIn_app {F : Fence} {n : Nat} {P : Program} {ops : Array Oper} {rest : List Oper} {o : Oper} {a : Act} {Q : Exit → Act → World → Prop} (hgd : o.guard = none) (s x : Operand) (t : TypeId)
    (ho : o.op = .call { callee := .builtin .append, args := #[s, x], argTypes := #[t, t] })
    (base : Nat) (e : TypeId) (i : TypeInfo) (z : Value) (size bytes : Nat) (ht : P.underlying t = some (.slice e)) (hi : P.info? e = some i) (hz : i.zero = some z)
    (hsize : i.size = size) (hby : i.bytes = bytes) (hzs : z.cells.size = size) (hpos : 0 < size) {w0 : World} {tmp : Array Value}
    (v : Value) (k : Nat) (xs : List Value) (hs : a.eval s = v) (hown : w0.ownsRow base e size v k xs) (ad : Nat) (had : ad = w0.heap.size) (hx : a.eval x = .slice (some ⟨ad, 0, none⟩) 1 1) (hl : tmp.toList.length = size)
    (h1 : ∀ c ∈ tmp.toList, c.oneCell' = true) (hln : k ≤ 1000000) (hbytes : bytes ≤ 1000) (hbase : base ≤ w0.heap.size)
    (h : ∀ go c w', w'.ownsRow base e size (.slice (some go) (k + 1) c) (k + 1) (xs ++ tmp.toList) → w0.grownBy w' v.ownBlock → ((Value.slice (some go) (k + 1) c).ownBlock = v.ownBlock ∨ (Value.slice (some go) (k + 1) c).ownBlock = some (w0.heap.size + 1)) →
      (w0.alloc (.cells tmp e)).grownBy w' v.ownBlock → wpListIn F n P ops Q rest (a.put o.dst (.slice (some go) (k + 1) c)) w') : wpListIn F n P ops Q (o :: rest) a (w0.alloc (.cells tmp e)) := by
  refine wpListIn_plain hgd fun K hK => ?_
  subst had
  obtain ⟨v', w', hr, h2, h3, _, h5⟩ := run_append_own_at (P := P) (w0.alloc (.cells tmp e)) base t o.type e i z size bytes ht hi hz hsize hby hzs hpos v k xs (hown.alloc _) ⟨w0.heap.size, 0, none⟩ 1 1 tmp.toList (by rw [hl, Nat.one_mul])
    (CellsAt.of_block (heap_alloc_new w0 _) 0 _ (fun j c hj => by simpa using hj)) h1 (by unfold maxLen; omega) (by have := Nat.mul_le_mul (show k + 1 ≤ 1000001 by omega) hbytes; omega) (by simp; omega)
  have hG : w0.grownBy w' v.ownBlock := grownBy_trans (World.grownBy_alloc w0 _ _) h3
  unfold Oper.wpIn
  refine ⟨?_, ?_⟩
  · simp [Oper.about, ho, resolve, Target.leads, Sem.run_pure]
  · rw [Oper.semAt_plain F _ _ (by rw [ho]; intro c hc'; cases hc')]
    simp [execOp, ho, resolve, invoke, builtin, hs, hx, hr, Result.andThen]
    obtain ⟨g, cap, rfl⟩ := ownsRow_succ h2
    exact hK _ _ (h _ _ w' h2 hG (by simpa using h5) h3)
/-- One element of deep data more, inside a fence. -/
theorem wpListIn_push {F : Fence} {n : Nat} {P : Program} {ops : Array Oper} {rest : List Oper} {o : Oper} {a : Act} {Q : Exit → Act → World → Prop} (hgd : o.guard = none) (s x : Operand) (t : TypeId)
    (ho : o.op = .call { callee := .builtin .append, args := #[s, x], argTypes := #[t, t] })
    (M : Make α) (base : Nat) (e : TypeId) (i : TypeInfo) (z : Value) (bytes : Nat) (ht : P.underlying t = some (.slice e)) (hi : P.info? e = some i) (hz : i.zero = some z)
    (hsize : i.size = M.size) (hby : i.bytes = bytes) (hzs : z.cells.size = M.size) {w0 : World} {tmp : Array Value}
    (v : Value) (l : List α) (u : α) (hs : a.eval s = v) (hown : OwnD M base e w0 v l) (ad : Nat) (had : ad = w0.heap.size) (hx : a.eval x = .slice (some ⟨ad, 0, none⟩) 1 1) (htmp : tmp.toList = M.cells u)
    (hln : l.length ≤ 1000000) (hbytes : bytes ≤ 1000) (hbase : base ≤ w0.heap.size) (K : Nat → Prop) (hu : M.ok w0 u) (huK : M.inK K u)
    (hK : ∀ b, K b → b < w0.heap.size → base ≤ b ∧ some b ≠ v.ownBlock)
    (h : ∀ go c w', OwnD M base e w' (.slice (some go) (l.length + 1) c) (l ++ [u]) → w0.grownBy w' v.ownBlock → ((Value.slice (some go) (l.length + 1) c).ownBlock = v.ownBlock ∨ (Value.slice (some go) (l.length + 1) c).ownBlock = some (w0.heap.size + 1)) →
      wpListIn F n P ops Q rest (a.put o.dst (.slice (some go) (l.length + 1) c)) w') : wpListIn F n P ops Q (o :: rest) a (w0.alloc (.cells tmp e)) := by
  refine wpListIn_app hgd s x t ho base e i z M.size bytes ht hi hz hsize hby hzs M.pos v l.length (l.flatMap M.cells) hs hown.own ad had hx (by rw [htmp, M.len]) (by rw [htmp]; exact M.one u) hln hbytes hbase fun go c w' h2 h3 h5 h6 => ?_
  rw [htmp] at h2
  exact h go c w' (hown.push (tmp := .cells tmp e) rfl h2 h6 (by simpa using h5) hu (M.lt hu huK) (fun b hb => ⟨(hK b hb.1 hb.2).1, hb.2, (hK b hb.1 hb.2).2⟩)) h3 h5
end
/-- The two rows, each in its box. -/
structure ToldB (B6 B7 : Nat) (vals : List (Pd × Int)) (c k : Nat) (A : World) (v v2 : Value) (L : List ProdR) : Prop where
  b6 : Boxed A B6 32 v
  b7 : Boxed A B7 36 v2
  own : OwnD mkProd c 26 A v L
  abs : L.map ProdR.abs = (vals.take k).map Prod.fst
  own2 : A.ownsRow c 27 1 v2 k ((vals.take k).map fun y => .int .i64 y.2)
  ne : ∀ g, v.ownBlock = some g → v2.ownBlock ≠ some g
  off : ∀ p ∈ L, mkProd.inK (fun b => some b ≠ v2.ownBlock) p
/-- What the loop keeps. -/
structure ToldS (w : World) (D l Bn B6 B7 n : Nat) (rec : Loop) (vals : List (Pd × Int)) (c k : Nat) (A : World) : Prop where
  bel : Below w.heap.size w A
  loop : A.heap[l]? = some (.loop rec)
  dfr : A.heap[D]? = some (.deferred (some []))
  nl : l < A.heap.size
  sd : w.heap.size ≤ Bn ∧ Bn < B6 ∧ B6 < B7 ∧ B7 < D ∧ D < l
  bn : Boxed A Bn 3 (.int .i64 n)
  box : ∃ v v2 L, ToldB B6 B7 vals c k A v v2 L
section
variable {w : World} {D l Bn B6 B7 n : Nat} {rec rec' : Loop} {vals : List (Pd × Int)} {c k : Nat} {A B : World} {v v2 : Value} {L : List ProdR}
theorem ToldB.blocks (h : ToldB B6 B7 vals c k A v v2 L) (h6 : B.heap[B6]? = A.heap[B6]?) (h7 : B.heap[B7]? = A.heap[B7]?) (hs : ∀ b, c ≤ b → b < A.heap.size → B.heap[b]? = A.heap[b]?) (hz : A.heap.size ≤ B.heap.size) : ToldB B6 B7 vals c k B v v2 L :=
  ⟨h6.trans h.b6, h7.trans h.b7, h.own.blocks hs hz, h.abs, ownsRow_blocks h.own2 hs, h.ne, h.off⟩
theorem ToldS.leaves (h : ToldS w D l Bn B6 B7 n rec vals c k A) (hl : Leaves (l + 1) c A B) : ToldS w D l Bn B6 B7 n rec vals c k B := by
  obtain ⟨v, v2, L, hb⟩ := h.box
  obtain ⟨s1, s2, s3, s4, s5⟩ := h.sd
  have hnl := h.nl
  have hlow : ∀ b, b ≤ l → B.heap[b]? = A.heap[b]? := fun b hb => hl.block b (by omega) (by omega)
  exact ⟨h.bel.trans ⟨hl.os, hl.tape, hl.output, hl.size, fun b hb => hlow b (by omega)⟩, (hlow l (Nat.le_refl _)).trans h.loop, (hlow D (by omega)).trans h.dfr, Nat.lt_of_lt_of_le hnl hl.size, h.sd,
    (hlow Bn (by omega)).trans h.bn, ⟨v, v2, L, hb.blocks (hlow B6 (by omega)) (hlow B7 (by omega)) (fun b hb hlt => hl.block b hlt (by omega)) hl.size⟩⟩
theorem ToldS.turn (h : ToldS w D l Bn B6 B7 n rec vals c k A) (hc : l < c) : ToldS w D l Bn B6 B7 n rec' vals c k (A.putObj l (.loop rec')) := by
  obtain ⟨v, v2, L, hb⟩ := h.box
  obtain ⟨s1, s2, s3, s4, s5⟩ := h.sd
  have hot : ∀ b, b ≠ l → (A.putObj l (.loop rec')).heap[b]? = A.heap[b]? := fun b hb => World.putObj_heap_other hb
  exact ⟨h.bel.trans (below_putObj _ (by omega)), World.putObj_heap_same (lt_of_block h.loop), (hot D (by omega)).trans h.dfr, by simpa using h.nl, h.sd, (hot Bn (by omega)).trans h.bn,
    ⟨v, v2, L, hb.blocks (hot B6 (by omega)) (hot B7 (by omega)) (fun b hb _ => hot b (by omega)) (by simp)⟩⟩
/-- The first row has grown. -/
theorem ToldS.mid (h : ToldS w D l Bn B6 B7 n rec vals c k A) (hb : ToldB B6 B7 vals c k A v v2 L) (hlc : l < c) {w1 : World} {v' : Value} (hg1 : A.grownBy w1 v.ownBlock) :
    Boxed w1 B6 32 v ∧ Boxed (w1.setCell ⟨B6, 0, none⟩ v') B7 36 v2 ∧ (w1.setCell ⟨B6, 0, none⟩ v').ownsRow c 27 1 v2 k ((vals.take k).map fun y => .int .i64 y.2) ∧ (w1.setCell ⟨B6, 0, none⟩ v').heap.size = w1.heap.size := by
  obtain ⟨s1, s2, s3, s4, s5⟩ := h.sd
  have hvl : ∀ b, b ≤ l → some b ≠ v.ownBlock := fun b hb0 e => by have := (own_lt hb.own.own e.symm).1; omega
  have hvl2 : ∀ b, b ≤ l → some b ≠ v2.ownBlock := fun b hb0 e => by have := (own_lt hb.own2 e.symm).1; omega
  have hv2 : v2.ownBlock = none ∨ v2.ownBlock ≠ v.ownBlock := by
    cases e : v2.ownBlock with
    | none => exact .inl rfl
    | some g => exact .inr fun e2 => hb.ne g e2.symm e
  have hv6 : v2.ownBlock = none ∨ v2.ownBlock ≠ some B6 := .inr (Ne.symm (hvl2 B6 (by omega)))
  exact ⟨hb.b6.kept hg1 (hvl B6 (by omega)), (hb.b7.kept hg1 (hvl B7 (by omega))).other (by omega) _, (hb.own2.kept hg1 hv2).kept (grownBy_setCell' w1 B6 v') hv6, by simp [World.setCell]⟩
/-- One production and its error more. -/
theorem ToldS.step (h : ToldS w D l Bn B6 B7 n rec vals c k A) (hb : ToldB B6 B7 vals c k A v v2 L) (hlc : l < c) (hcA : c ≤ A.heap.size) {p : ProdR} {e : Int} (hx : vals[k]? = some (p.abs, e)) {a0 : Nat} (ha0 : ∀ g, v2.ownBlock = some g → g < a0) (hin : p.In fun b => a0 ≤ b)
    {w1 w2 : World} {v' v2' : Value} (hO1 : OwnD mkProd c 26 w1 v' (L ++ [p])) (hg1 : A.grownBy w1 v.ownBlock) (hv1 : v'.ownBlock = v.ownBlock ∨ v'.ownBlock = some (A.heap.size + 1))
    (hr2 : w2.ownsRow c 27 1 v2' (k + 1) ((vals.take k).map (fun y => Value.int .i64 y.2) ++ [.int .i64 e])) (hg2 : (w1.setCell ⟨B6, 0, none⟩ v').grownBy w2 v2.ownBlock) (hv2 : v2'.ownBlock = v2.ownBlock ∨ v2'.ownBlock = some ((w1.setCell ⟨B6, 0, none⟩ v').heap.size + 1)) :
    Boxed w2 B7 36 v2 ∧ ToldS w D l Bn B6 B7 n rec vals c (k + 1) (w2.setCell ⟨B7, 0, none⟩ v2') ∧ A.heap.size ≤ (w2.setCell ⟨B7, 0, none⟩ v2').heap.size ∧ ∀ b, l + 1 ≤ b → b < c → (w2.setCell ⟨B7, 0, none⟩ v2').heap[b]? = A.heap[b]? := by
  obtain ⟨s1, s2, s3, s4, s5⟩ := h.sd
  have hnl := h.nl
  obtain ⟨b61, b71, o2, hz⟩ := h.mid (v' := v') hb hlc hg1
  have hvl : ∀ b, b < c → some b ≠ v.ownBlock := fun b hb0 e => by have := (own_lt hb.own.own e.symm).1; omega
  have hvl2 : ∀ b, b < c → some b ≠ v2.ownBlock := fun b hb0 e => by have := (own_lt hb.own2 e.symm).1; omega
  have hvz : ∀ g, v.ownBlock = some g → g < A.heap.size := fun g e => (own_lt hb.own.own e).2
  have hvz2 : ∀ g, v2.ownBlock = some g → g < A.heap.size := fun g e => (own_lt hb.own2 e).2
  have z1 := hg1.size
  have z2 := hg2.size
  have z3 : (w2.setCell ⟨B7, 0, none⟩ v2').heap.size = w2.heap.size := by simp [World.setCell]
  have b72 : Boxed w2 B7 36 v2 := b71.kept hg2 (hvl2 B7 (by omega))
  have g6 := grownBy_setCell' w1 B6 v'
  have g7 := grownBy_setCell' w2 B7 v2'
  have hall : ∀ b, b < A.heap.size → b ≠ B6 → b ≠ B7 → some b ≠ v.ownBlock → some b ≠ v2.ownBlock → (w2.setCell ⟨B7, 0, none⟩ v2').heap[b]? = A.heap[b]? := fun b hb h6 h7 h8 h9 =>
    (g7.block b (by omega) (by simpa using h7)).trans ((hg2.block b (by omega) h9).trans ((g6.block b (by omega) (by simpa using h6)).trans (hg1.block b hb h8)))
  have hlow : ∀ b, b < c → b ≠ B6 → b ≠ B7 → (w2.setCell ⟨B7, 0, none⟩ v2').heap[b]? = A.heap[b]? := fun b hb h6 h7 => hall b (by omega) h6 h7 (hvl b hb) (hvl2 b hb)
  have hsep : v'.ownBlock = none ∨ v'.ownBlock ≠ v2.ownBlock := by
    rcases hv1 with e | e
    · rw [e]
      cases e2 : v.ownBlock with
      | none => exact .inl rfl
      | some g => exact .inr fun e3 => hb.ne g e2 e3.symm
    · right
      rw [e]
      intro e3
      have := hvz2 _ e3.symm
      omega
  have hoff : ∀ a ∈ L ++ [p], mkProd.inK (fun b => some b ≠ v2.ownBlock) a := fun a ha => by
    rcases List.mem_append.1 ha with ha | ha
    · exact hb.off a ha
    · rw [List.mem_singleton.1 ha]
      exact mkProd.mono (a := p) hin fun b hb0 e => by have := ha0 b e.symm; omega
  have O3 := ((hO1.grown g6 (by rintro b e; cases e; left; omega)).beside hg2 hsep hoff).grown g7 (by rintro b e; cases e; left; omega)
  refine ⟨b72, ⟨?_, (hlow l hlc (by omega) (by omega)).trans h.loop, (hlow D (by omega) (by omega) (by omega)).trans h.dfr, by omega, h.sd, (hlow Bn (by omega) (by omega) (by omega)).trans h.bn, v', v2', L ++ [p], ⟨?_, b72.set v2', O3, ?_, ?_, ?_, ?_⟩⟩, by omega, fun b h1 h2 => hlow b h2 (by omega) (by omega)⟩
  · exact h.bel.trans ⟨g7.os.trans (hg2.os.trans (g6.os.trans hg1.os)), g7.tape.trans (hg2.tape.trans (g6.tape.trans hg1.tape)), g7.output.trans (hg2.output.trans (g6.output.trans hg1.output)), by omega, fun b hb0 => hlow b (by omega) (by omega) (by omega)⟩
  · exact ((b61.set v').kept hg2 (hvl2 B6 (by omega))).other (by omega) _
  · rw [List.map_append, take_snoc' hx, List.map_append, hb.abs]
    rfl
  · rw [take_snoc' hx, List.map_append]
    exact hr2.kept g7 (by
      cases e : v2'.ownBlock with
      | none => exact .inl rfl
      | some g =>
        have := (own_lt hr2 e).1
        exact .inr fun e2 => by injection e2 with e2; omega)
  · intro g e1 e2
    rcases hv2 with e | e
    · rw [e] at e2
      rcases hsep with h0 | h0
      · rw [h0] at e1; cases e1
      · exact h0 (e1.trans e2.symm)
    · rw [e] at e2
      have := (own_lt hO1.own e1).2
      injection e2 with e2
      omega
  · intro a ha
    rcases hv2 with e | e
    · rw [e]; exact hoff a ha
    · rw [e]
      exact mkProd.mono (a := a) (hO1.ink a ha) fun b hb0 e2 => by injection e2 with e2; have := hb0.2.1; omega
end
end Go.Proofs.YtgeaccoobhigcaaGreat
namespace Go.Proofs.YtgeaccoobhigcaaGreat
open Go Go.RowKit
attribute [local go_sem] Oper.semAt_some

theorem run_eql_func_nil73 (gf : Nat) (lb : Array Value) (W : World) : (binOp .eql 73 (.func (.func gf) #[] lb) .nilFunc).run Tryz.prog W = .ok (.bool false) W := by kernel_rfl
set_option maxRecDepth 100000 in
theorem eg47 (args : Array Value) (w : World) : (callFunc 47 args).run Tryz.prog w = .ok (.enter 47 args) w := rfl
theorem Tryz.info27 : (Tryz.prog.info? 27).map (fun i => (i.zero, i.size, i.bytes)) = some (some (.int .i64 0), 1, 8) := by kernel_rfl
/-- What told answers. -/
def ToldOut (w' : World) (vals : List (Pd × Int)) (x : Ending) : Prop :=
  ∃ (v v2 : Value) (c : Nat) (L : List ProdR), x = .returned (.tuple #[v, v2]) ∧ OwnD mkProd c 26 w' v L ∧ L.map ProdR.abs = vals.map Prod.fst ∧ w'.ownsRow c 27 1 v2 vals.length (vals.map fun y => .int .i64 y.2)
theorem told_out {B6 B7 c k n D : Nat} {VL : List (Pd × Int)} {W : World} {v v2 : Value} {L : List ProdR} (h : ToldB B6 B7 VL c k W v v2 L) (hD : D < c) (hk : VL.take n = VL.take k) (hkl : k ≤ VL.length) :
    ToldOut (W.drew.putObj D (.deferred none)) (VL.take n) (.returned (.tuple #[v, v2])) := by
  have hs : ∀ b, c ≤ b → b < W.heap.size → (W.drew.putObj D (.deferred none)).heap[b]? = W.heap[b]? := fun b hb _ => World.putObj_heap_other (w := W.drew) (by omega)
  rw [hk]
  refine ⟨v, v2, c, L, rfl, h.own.blocks hs (by simp), h.abs, ?_⟩
  rw [List.length_take, Nat.min_eq_left hkl]
  exact ownsRow_blocks h.own2 hs
theorem below_end {n D : Nat} {W : World} (hD : n ≤ D) : Below n W (W.drew.putObj D (.deferred none)) := ⟨rfl, rfl, rfl, by simp, fun b hb => World.putObj_heap_other (w := W.drew) (by omega)⟩
set_option maxRecDepth 100000 in
set_option maxHeartbeats 4000000 in
theorem told_any (s : ByteArray) (hs : s.size ≤ 32768) (n : Nat) (w : World) :
    Calls Tryz.prog 14 #[.string s, .int .i64 n] w fun x w' => ToldOut w' ((eachY ((toks s.data.toList).length + 1) (toks s.data.toList)).take n) x ∧ Below w.heap.size w w' := by
  have hlen := eachY_len _ (toks s.data.toList) (Nat.lt_succ_self _)
  have htl := toks_length s.data.toList
  rw [size_toList] at htl
  have hitr := fun Bt => each_iter s hs Bt
  generalize eachY _ _ = VL at hlen hitr ⊢
  have hvl : VL.length ≤ 1000000 := by omega
  clear hlen htl
  obtain ⟨i0, hi, hz0, hz1, hz2⟩ := info_parts Tryz.info26
  obtain ⟨j0, hj, hy0, hy1, hy2⟩ := info_parts Tryz.info27
  refine (callsIn_wide (n := 10)).1 ?_
  refine callsIn_of_wp_marks Tryz.func14 rfl trivial ?_
  simp only [Tryz.ntmps14, List.size_toArray, List.length_cons, List.length_nil, Nat.reduceAdd, Nat.reduceSub, Array.replicate_succ, Array.replicate_zero, List.push_toArray, List.append_toArray, List.nil_append, List.cons_append]
  have hnf := run_eql_func_nil73 47
  gi_wp2_with (refine ⟨trivial, ?_⟩; gi_at_call 25; refine (callsIn_wide.2 (readEach_any _ _)).mono ?_; rintro e W1 ⟨rfl, rfl⟩)
  have hbn0 : Boxed ((((w.alloc (.cells #[.int .i64 n] 3)).alloc (.cells #[.slice none 0 0] 32)).alloc (.cells #[.slice none 0 0] 36)).alloc (.cells #[.string s] 9)) w.heap.size 3 (.int .i64 n) := (((Boxed.new w 3 (.int .i64 n)).alloc _).alloc _).alloc _
  have hb60 : Boxed ((((w.alloc (.cells #[.int .i64 n] 3)).alloc (.cells #[.slice none 0 0] 32)).alloc (.cells #[.slice none 0 0] 36)).alloc (.cells #[.string s] 9)) (w.heap.size + 1) 32 (.slice none 0 0) := by
    have := Boxed.new (w.alloc (.cells #[.int .i64 n] 3)) 32 (.slice none 0 0); rw [World.size_alloc] at this; exact (this.alloc _).alloc _
  have hb70 : Boxed ((((w.alloc (.cells #[.int .i64 n] 3)).alloc (.cells #[.slice none 0 0] 32)).alloc (.cells #[.slice none 0 0] 36)).alloc (.cells #[.string s] 9)) (w.heap.size + 1 + 1) 36 (.slice none 0 0) := by
    have := Boxed.new ((w.alloc (.cells #[.int .i64 n] 3)).alloc (.cells #[.slice none 0 0] 32)) 36 (.slice none 0 0); rw [World.size_alloc, World.size_alloc] at this; exact this.alloc _
  have htx0 : Boxed ((((w.alloc (.cells #[.int .i64 n] 3)).alloc (.cells #[.slice none 0 0] 32)).alloc (.cells #[.slice none 0 0] 36)).alloc (.cells #[.string s] 9)) (w.heap.size + 1 + 1 + 1) 9 (.string s) := by
    have := Boxed.new (((w.alloc (.cells #[.int .i64 n] 3)).alloc (.cells #[.slice none 0 0] 32)).alloc (.cells #[.slice none 0 0] 36)) 9 (.string s); rw [World.size_alloc, World.size_alloc, World.size_alloc] at this; exact this
  have hbel : Below w.heap.size w ((((w.alloc (.cells #[.int .i64 n] 3)).alloc (.cells #[.slice none 0 0] 32)).alloc (.cells #[.slice none 0 0] 36)).alloc (.cells #[.string s] 9)) := ((((Below.refl _ w).alloc (Nat.le_refl _) _).alloc (by simp) _).alloc (by simp; omega) _).alloc (by simp; omega) _
  have hsz : ((((w.alloc (.cells #[.int .i64 n] 3)).alloc (.cells #[.slice none 0 0] 32)).alloc (.cells #[.slice none 0 0] 36)).alloc (.cells #[.string s] 9)).heap.size = w.heap.size + 1 + 1 + 1 + 1 := by simp
  generalize (((w.alloc (.cells #[.int .i64 n] 3)).alloc (.cells #[.slice none 0 0] 32)).alloc (.cells #[.slice none 0 0] 36)).alloc (.cells #[.string s] 9) = w0 at hbn0 hb60 hb70 htx0 hbel hsz ⊢
  refine rf_stmt (gf := 47) (lb := #[.pointer (some ⟨w.heap.size + 1 + 1 + 1, 0, none⟩)]) rfl eg47 ?_
  rw [hsz]
  intro fn W1 hb1 hs1 hd1 hl1
  have hbn1 : Boxed W1 w.heap.size 3 (.int .i64 n) := (hb1.block _ (by omega)).trans hbn0
  have hb61 : Boxed W1 (w.heap.size + 1) 32 (.slice none 0 0) := (hb1.block _ (by omega)).trans hb60
  have hb71 : Boxed W1 (w.heap.size + 1 + 1) 36 (.slice none 0 0) := (hb1.block _ (by omega)).trans hb70
  have htx1 : Boxed W1 (w.heap.size + 1 + 1 + 1) 9 (.string s) := (hb1.block _ (by omega)).trans htx0
  have hbw : Below w.heap.size w W1 := hbel.trans (hb1.mono (by omega))
  clear hbn0 hb60 hb70 htx0 hbel
  generalize hrec : rfRec fn _ _ _ _ (w.heap.size + 1 + 1 + 1 + 1) = rf at hl1 ⊢
  have sd : w.heap.size ≤ w.heap.size ∧ w.heap.size < w.heap.size + 1 ∧ w.heap.size + 1 < w.heap.size + 1 + 1 ∧ w.heap.size + 1 + 1 < w.heap.size + 1 + 1 + 1 + 1 ∧ w.heap.size + 1 + 1 + 1 + 1 < w.heap.size + 1 + 1 + 1 + 1 + 1 := by omega
  have hzl : W1.heap.size = w.heap.size + 1 + 1 + 1 + 1 + 1 + 1 := by omega
  generalize hBn : w.heap.size = Bn at *
  generalize hB6 : Bn + 1 = B6 at *
  generalize hB7 : B6 + 1 = B7 at *
  generalize hBt : B7 + 1 = Bt at *
  generalize hD : Bt + 1 = D at *
  generalize hl : D + 1 = l at *
  have hitr1 := hitr Bt 5 l
    (fun c k A => ToldS w D l Bn B6 B7 n (rf .ready none) VL c k A ∧ k ≤ n)
    (fun c k A => ToldS w D l Bn B6 B7 n (rf .done (some (.exit 0))) VL c n A ∧ k = n + 1) W1 htx1.cell
  rw [hzl] at hitr1
  refine (callsIn_wide.2 (hitr1
    (fun c A h1 h2 h3 => ⟨⟨by rw [hBn]; exact hbw.trans (h3.mono (by omega)), (h3.block l (by omega)).trans hl1, (h3.block D (by omega)).trans hd1, by omega, by rw [hBn]; exact sd, (h3.block Bn (by omega)).trans hbn1,
      .slice none 0 0, .slice none 0 0, [], (h3.block B6 (by omega)).trans hb61, (h3.block B7 (by omega)).trans hb71, OwnD.nil _ _ _ _, by simp, by simpa using World.ownsRow_nil A c 27 1, (by intro g e; cases e), by simp⟩, Nat.zero_le _⟩)
    (fun c k A B h hla => ⟨h.1.leaves hla, h.2⟩)
    (fun c k A B h hla => ⟨h.1.leaves hla, h.2⟩)
    (fun c k A0 A p e v hx h hc1 hc2 hla ht => ?_))).mono ?_
  · obtain ⟨h, hkn⟩ := h
    have hA := h.leaves hla
    have hlr := hA.loop
    have hkl : k < VL.length := (List.getElem?_eq_some_iff.1 hx).1
    obtain ⟨p', rfl, rfl, hmem, hin⟩ := ht
    subst hrec
    refine rf_round2 hlr rfl ?_
    intro rb
    obtain ⟨nm, ca, cn, cc, cl, aa, an, ac, al⟩ := p'
    unfold ProdR.val
    dsimp only
    have HLK := Lib.hid hx
    clear hx
    gi_wp2
    have hA1 := hA.leaves (Leaves.of_below (below_new A (.cells #[.string nm, .slice ca cn cc, .slice aa an ac] 26)))
    have hmem1 := hmem.kept (below_new A (.cells #[.string nm, .slice ca cn cc, .slice aa an ac] 26))
    have hbx1 : BoxC (A.alloc (.cells #[.string nm, .slice ca cn cc, .slice aa an ac] 26)) A.heap.size 26 [.string nm, .slice ca cn cc, .slice aa an ac] := BoxC.new A _ 26
    have hz1' : (A.alloc (.cells #[.string nm, .slice ca cn cc, .slice aa an ac] 26)).heap.size = A.heap.size + 1 := World.size_alloc _ _
    have hkeep : ∀ b, b < A.heap.size → (A.alloc (.cells #[.string nm, .slice ca cn cc, .slice aa an ac] 26)).heap[b]? = A.heap[b]? := fun b hb => Below.heap_alloc A _ b hb
    refine ⟨hA1.loop, ?_⟩
    obtain ⟨v, v2, L, htb⟩ := h.box
    have hv2z : ∀ g, v2.ownBlock = some g → g < A0.heap.size := fun g e => (own_lt htb.own2 e).2
    have hvz : ∀ g, v.ownBlock = some g → g < A0.heap.size := fun g e => (own_lt htb.own.own e).2
    have htb1 : ToldB B6 B7 VL c k (A.alloc (.cells #[.string nm, .slice ca cn cc, .slice aa an ac] 26)) v v2 L := by
      have hnl := h.nl
      obtain ⟨s1, s2, s3, s4, s5⟩ := sd
      refine htb.blocks ?_ ?_ (fun b hb hlt => ?_) (Nat.le_trans hla.size (by omega))
      · exact (hkeep B6 (Nat.lt_of_lt_of_le (by omega) hla.size)).trans (hla.block B6 (by omega) (by omega))
      · exact (hkeep B7 (Nat.lt_of_lt_of_le (by omega) hla.size)).trans (hla.block B7 (by omega) (by omega))
      · exact (hkeep b (Nat.lt_of_lt_of_le (by omega) hla.size)).trans (hla.block b hlt (by omega))
    have hAz := hla.size
    generalize hA1e : A.alloc (.cells #[.string nm, .slice ca cn cc, .slice aa an ac] 26) = A1 at *
    have hne9 : A.heap.size ≠ l := by have := lt_of_block hlr; omega
    have hot : ∀ b, b ≠ l → (A1.putObj l (.loop rb)).heap[b]? = A1.heap[b]? := fun b hb => World.putObj_heap_other hb
    have h2 := hA1.turn (rec' := rb) (by omega)
    have htb2 : ToldB B6 B7 VL c k (A1.putObj l (.loop rb)) v v2 L := by
      obtain ⟨s1, s2, s3, s4, s5⟩ := sd
      exact htb1.blocks (hot B6 (by omega)) (hot B7 (by omega)) (fun b hb _ => hot b (by omega)) (by simp)
    have hbx2 : BoxC (A1.putObj l (.loop rb)) A.heap.size 26 [.string nm, .slice ca cn cc, .slice aa an ac] := (hot _ hne9).trans hbx1
    have hmem2 : ProdR.Mem (A1.putObj l (.loop rb)) ⟨nm, ca, cn, cc, cl, aa, an, ac, al⟩ := hmem1.same hin fun b hb _ => hot b (by have := lt_of_block h.loop; omega)
    have hz2' : (A1.putObj l (.loop rb)).heap.size = A1.heap.size := by simp
    have hk2 : ∀ b, l + 1 ≤ b → b < c → (A1.putObj l (.loop rb)).heap[b]? = A.heap[b]? := fun b hb1 hb2 => (hot b (by omega)).trans (hkeep b (by omega))
    generalize A1.putObj l (.loop rb) = A2 at h2 htb2 hbx2 hmem2 hz2' hk2 ⊢
    clear hot htb1 hbx1 hmem1 hA1 hkeep hA hmem htb
    obtain ⟨ao, cv, rfl, hdp⟩ := htb2.own.deep
    have hLk : L.length = k := by have := congrArg List.length htb2.abs; simpa [Nat.min_eq_left (Nat.le_of_lt hkl)] using this
    have hc6 := htb2.b6.cell
    have hc7 := htb2.b7.cell
    have hcn := h2.bn.cell
    obtain ⟨d0, d1, d2⟩ := three_box hbx2
    have hcap := hdp.sl.2.1
    have hcap2 := hdp.sl.2.2.1
    rcases (show k = n ∨ k < n by omega) with hlast | hlast
    · have hge : (L.length : Int) < n ↔ False := by simp; omega
      have hge2 : ((n : Int) ≤ L.length) = True := by simp; omega
      clear hbx2 hmem2 hdp
      gi_wp2
      have h2n : ToldS w D l Bn B6 B7 n rb VL c n A2 := by rw [hlast] at h2; exact h2
      exact ⟨h2.loop, .inr ⟨rfl, h2n.turn (by omega), by omega⟩, by simp; omega, fun b hb1 hb2 => (World.putObj_heap_other (by omega)).trans (hk2 b hb1 hb2)⟩
    · have hge2 : ((n : Int) ≤ L.length) = False := by simp; omega
      have hln : L.length ≤ 1000000 := by omega
      have hlc : l < c := by omega
      have hcA2 : c ≤ A2.heap.size := by omega
      have hA0 : A0.heap.size ≤ A2.heap.size := by omega
      have HLA := Lib.hid hlast
      have HLK2 := Lib.hid hLk
      have HDP := Lib.hid hdp
      have hKK : ∀ b, A0.heap.size ≤ b → b < A2.heap.size → c ≤ b ∧ some b ≠ (Value.slice ao L.length cv).ownBlock := fun b hb _ => ⟨by omega, fun e => by have := hvz b e.symm; omega⟩
      clear hlast hdp hLk
      gi_wp2_with (gi_at_builtin; first
        | (refine wpListIn_push rfl (.tmp 22) (.tmp 24) 32 rfl mkProd c 26 i0 _ 64 Tryz.underlying32 hi hz0 hz1 hz2 rfl (w0 := A2) _ L ⟨nm, ca, cn, cc, cl, aa, an, ac, al⟩ rfl htb2.own _ (by omega) rfl rfl hln (by decide) hcA2 (fun b => A0.heap.size ≤ b) hmem2 hin hKK ?_; intro go' c' w9 ho9 hg9 hv9; obtain ⟨b6, b7, o2, hz9⟩ := h2.mid (v' := .slice (some go') (L.length + 1) c') htb2 hlc hg9; have hc6' := b6.cell; have hf6' := b6.frozen; have hc7' := b7.cell; have hs9 := hg9.size; clear hc6 hc7 hcn d0 d1 d2)
        | (refine wpListIn_app rfl (.tmp 26) (.tmp 28) 36 rfl c 27 j0 _ 1 8 Tryz.underlying36 hj hy0 hy1 hy2 rfl (by decide) (w0 := w9.setCell ⟨B6, 0, none⟩ (.slice (some go') (L.length + 1) c')) v2 k _ rfl o2 _ (by omega) rfl rfl (by simp [Value.oneCell']) (by omega) (by decide) (by omega) ?_; intro go2 c2 w10 hr2 hg2 hv2 _; obtain ⟨b72, hst, hsz10, hk10⟩ := h2.step htb2 hlc hcA2 HLK.out hv2z hin ho9 hg9 hv9 hr2 hg2 hv2; have hc72 := b72.cell; have hf72 := b72.frozen; clear hc6' hf6' hc7'))
      exact ⟨hst.loop, .inl ⟨rfl, hst.turn hlc, HLA.out⟩, by have h9 := hsz10; simp at h9 ⊢; omega, fun b hb1 hb2 => (World.putObj_heap_other (by omega)).trans ((hk10 b hb1 hb2).trans (hk2 b hb1 hb2))⟩
  · have hDl : D < l ∧ Bn ≤ D := by omega
    rintro e W2 ⟨hv, c, hc, ⟨h, hn⟩ | ⟨k, hk, h, hkn⟩⟩
    · have HTK := Lib.hid (show VL.take n = VL.take VL.length by rw [List.take_of_length_le hn, List.take_of_length_le (Nat.le_refl _)])
      have HKL : Hid (VL.length ≤ VL.length) := Lib.hid (Nat.le_refl _)
      subst hrec
      refine ⟨hv, .ready, none, by simp, h.loop, ?_⟩
      intro re
      have h2 := h.turn (rec' := re) (by omega)
      dsimp only
      generalize W2.putObj _ _ = W3 at h2 ⊢
      clear h
      obtain ⟨v, v2, L, htb⟩ := h2.box
      have hc6 := htb.b6.cell
      have hc7 := htb.b7.cell
      have hDr := h2.dfr
      have hbl := h2.bel
      have hmix : Tryz.prog.follows .mixedOrders = true := by kernel_rfl
      gi_wp2
      have hDr' : W3.drew.heap[D]? = some (.deferred (some [])) := hDr
      gi_region_o
      gi_wp2
      refine ⟨by simp, .inl ⟨_, _, rfl, run_takeDeferred hDr', ?_⟩⟩
      refine ⟨_, results_tmp2 rfl _ _ _, ?_⟩
      exact ⟨told_out htb (by omega) HTK.out HKL.out, hbl.trans (below_end (by omega))⟩
    · have HKL : Hid (n ≤ VL.length) := Lib.hid (by omega)
      subst hrec
      refine ⟨hv, .done, some (.exit 0), by simp, h.loop, ?_⟩
      intro re
      have h2 := h.turn (rec' := re) (by omega)
      dsimp only
      generalize W2.putObj _ _ = W3 at h2 ⊢
      clear h
      obtain ⟨v, v2, L, htb⟩ := h2.box
      have hc6 := htb.b6.cell
      have hc7 := htb.b7.cell
      have hDr := h2.dfr
      have hbl := h2.bel
      have hmix : Tryz.prog.follows .mixedOrders = true := by kernel_rfl
      gi_wp2
      have hDr' : W3.drew.heap[D]? = some (.deferred (some [])) := hDr
      gi_region_o
      gi_wp2
      refine ⟨by simp, .inl ⟨_, _, rfl, run_takeDeferred hDr', ?_⟩⟩
      refine ⟨_, results_tmp2 rfl _ _ _, ?_⟩
      exact ⟨told_out htb (by omega) rfl HKL.out, hbl.trans (below_end (by omega))⟩
end Go.Proofs.YtgeaccoobhigcaaGreat
namespace Go.Proofs.YtgeaccoobhigcaaGreat
open Go Go.RowKit

theorem eachF_one : ∀ (n : Nat) (ts : List Tk) (acc : List Pd), ts.length < n → (eachF n ts acc).2.2 = 0 → (eachF n ts acc).2.1 = -1
  | 0, _, _, h, _ => by omega
  | n + 1, ts, acc, h, h0 => by
    by_cases hk : (headT ts).kind = 5
    · rw [eachF_end hk]
    · cases hp : pProd ts with
      | bad q => rw [eachF_bad hk hp] at h0; cases h0
      | ok p ts' =>
        by_cases hs : shapeE p = 0
        · rw [eachF_next hk hp hs] at h0 ⊢
          exact eachF_one n ts' _ (by have := pProd_eats _ _ _ hp; omega) h0
        · rw [eachF_shape hk hp hs] at h0
          exact absurd h0 hs
set_option maxRecDepth 100000 in
set_option maxHeartbeats 4000000 in
theorem all8 (s : ByteArray) (hs : s.size ≤ 32768) (w : World) :
    Calls Tryz.prog 11 #[.string s] w fun x w' => AllOut w.heap.size w' (allR (toks s.data.toList)) x ∧ Below w.heap.size w w' := by
  have HE := Lib.hid (each8 s hs w)
  have ha : allR (toks s.data.toList) = if (eachR (toks s.data.toList)).2.2 = 0 then eachR (toks s.data.toList) else ([], (eachR (toks s.data.toList)).2.1, (eachR (toks s.data.toList)).2.2) := eachF_all _ _ [] (Nat.lt_succ_self _)
  have HA := Lib.hid ha
  have h1 : (eachR (toks s.data.toList)).2.2 = 0 → (eachR (toks s.data.toList)).2.1 = -1 := eachF_one _ _ [] (Nat.lt_succ_self _)
  clear ha hs
  generalize allR (toks s.data.toList) = R at HA ⊢
  generalize eachR (toks s.data.toList) = r at HE HA h1
  obtain ⟨ps, a, e⟩ := r
  simp only at HA h1
  by_cases he : e = 0
  · have e1 : (e != 0) = false := by simp [he]
    have e2 : (e == 0) = true := by simp [he]
    rw [if_pos he] at HA
    obtain rfl := h1 he
    subst he
    clear h1 e1 e2
    go_enter Tryz.func11, Tryz.ntmps11
    go_wp2_with (go_at_call 13; refine HE.out.mono ?_; rintro x w1 ⟨⟨v, rfl, hv⟩, b1⟩)
    refine bodyPost_ret (v := .tuple #[v, .int .i64 (-1), .int .i64 0]) (by simp [results, Tryz.results11, go_sem]) rfl ?_
    exact ⟨by rw [HA.out]; exact ⟨v, rfl, hv⟩, b1⟩
  · have e1 : (e != 0) = true := by simp [he]
    have e2 : (e == 0) = false := by simp [he]
    rw [if_neg he] at HA
    clear h1
    go_enter Tryz.func11, Tryz.ntmps11
    go_wp2_with (go_at_call 13; refine HE.out.mono ?_; rintro x w1 ⟨⟨v, rfl, hv⟩, b1⟩)
    exact bodyPost_ret (v := .tuple #[.slice none 0 0, .int .i64 a, .int .i64 e]) (by simp [results, Tryz.results11, go_sem]) rfl ⟨by rw [HA.out]; exact ⟨_, rfl, w.heap.size, [], Nat.le_refl _, b1.size, OwnD.nil _ _ _ _, rfl⟩, b1⟩
theorem all_val {base : Nat} {w : World} {r : List Pd × Int × Int} {x : Ending} (h : AllOut base w r x) : ∃ (ao : Option Addr) (c : Nat) (l : List ProdR), x = .returned (.tuple #[.slice ao l.length c, .int .i64 r.2.1, .int .i64 r.2.2]) ∧ SlR w 3 ao l.length c (l.flatMap ProdR.cells) ∧ (∀ p ∈ l, p.Mem w) ∧ l.map ProdR.abs = r.1 := by
  obtain ⟨v, rfl, b, l, _, _, ho, ha⟩ := h
  obtain ⟨ao, c, rfl, hd⟩ := ho.deep
  exact ⟨ao, c, l, rfl, hd.sl, hd.ok, ha⟩
set_option maxRecDepth 100000 in
set_option maxHeartbeats 4000000 in
theorem readAlls_walk (s : ByteArray) (w : World) : Calls Tryz.prog 4 #[.string s] w fun x w' => x = .returned (.bool true) ∧ Below w.heap.size w w' := by
  by_cases hz : s.size ≤ 3000
  · have HO := Lib.hid (fun w => all_any s (by omega) w)
    have HO8 := Lib.hid (fun w => all8 s (by omega) w)
    have hz' : (s.size : Int) ≤ 3000 := by omega
    generalize allR (toks s.data.toList) = r at HO HO8
    clear hz
    go_enter Tryz.func4, Tryz.ntmps4
    go_wp2_with fail
    refine (HO.out _).mono ?_
    rintro x w1 ⟨ho, b1⟩
    obtain ⟨ao, c, l, rfl, hs1, hm1, ha1⟩ := all_val ho
    have HB1 := Lib.hid b1
    have HS1 := Lib.hid hs1
    have HM1 := Lib.hid hm1
    clear ho b1 hs1 hm1 HO
    go_wp2_with fail
    refine (HO8.out _).mono ?_
    rintro x w2 ⟨ho, b2⟩
    obtain ⟨bo, d, k, rfl, hs2, hm2, ha2⟩ := all_val ho
    have hk := kProds_same l k ao bo l.length k.length c d w2 (HS1.out.kept b2) (fun p hp => (HM1.out p hp).kept b2) hs2 hm2 (ha1.trans ha2.symm)
    have HK := Lib.hid hk
    have HB2 := Lib.hid (HB1.out.trans (b2.mono HB1.out.size))
    clear ho b2 hs2 hm2 hk HS1 HM1 HB1 HO8 ha1 ha2
    go_wp2_with (first | (go_at_call 12; refine HK.out.mono ?_; rintro e w3 ⟨rfl, b3⟩) | (go_at_call 6; refine (wakes8_any _).mono ?_; rintro e w4 ⟨rfl, b4⟩))
    go_ret
    exact ⟨rfl, (HB2.out.trans (b3.mono HB2.out.size)).trans (b4.mono (HB2.out.trans (b3.mono HB2.out.size)).size)⟩
  · have hz' : (3000 : Int) < (s.size : Int) := by omega
    go_enter Tryz.func4, Tryz.ntmps4
    go_wp2_with (go_at_call 6; refine (wakes8_any _).mono ?_; rintro e w3 ⟨rfl, b3⟩)
    go_ret
    exact ⟨rfl, b3⟩
end Go.Proofs.YtgeaccoobhigcaaGreat
namespace Go.Proofs.YtgeaccoobhigcaaGreat
open Go Go.RowKit

/-- What is told, by what the document's Each answers. -/
theorem eachY_all (ts : List Tk) : eachY (ts.length + 1) ts = (eachR ts).1.map (fun p => (p, (0 : Int))) ++ (if (eachR ts).2.2 = 0 then [] else [(nilPd, (eachR ts).2.2)]) := by
  have := eachY_eq (ts.length + 1) ts [] (Nat.lt_succ_self _)
  rw [List.map_nil, List.nil_append] at this
  exact this
theorem errs_at {ps : List Pd} {e : Int} {VL : List (Pd × Int)} (h : VL = ps.map (fun p => (p, (0 : Int))) ++ (if e = 0 then [] else [(nilPd, e)])) {i : Nat} {y : Pd × Int} (hy : VL[i]? = some y) : y.2 = if i + 1 = VL.length then e else 0 := by
  have hlt := (List.getElem?_eq_some_iff.1 hy).1
  by_cases he : e = 0
  · rw [if_pos he, List.append_nil] at h
    rw [h, List.getElem?_map] at hy
    cases hp : ps[i]? with
    | none => simp [hp] at hy
    | some p =>
      simp only [hp, Option.map_some, Option.some.injEq] at hy
      subst hy
      subst he
      simp
  · rw [if_neg he] at h
    have hl : VL.length = ps.length + 1 := by rw [h]; simp
    by_cases hi : i < ps.length
    · rw [h, List.getElem?_append_left (by simpa using hi), List.getElem?_map] at hy
      cases hp : ps[i]? with
      | none => simp [hp] at hy
      | some p =>
        simp only [hp, Option.map_some, Option.some.injEq] at hy
        subst hy
        rw [if_neg (by omega)]
    · have : i = ps.length := by omega
      subst this
      rw [h, List.getElem?_append_right (by simp)] at hy
      simp at hy
      subst hy
      rw [if_pos (by omega)]
/-- The first elements of a slice. -/
theorem SlR.takeD {α : Type} {f : α → List Value} {m : Nat} (hf : ∀ x, (f x).length = m) {w : World} {ao : Option Addr} {n c k : Nat} {l : List α} (h : SlR w m ao n c (l.flatMap f)) (hk : k ≤ n) (hl : l.length = n) : SlR w m ao k c ((l.take k).flatMap f) := by
  refine ⟨by rw [rows_length hf, List.length_take]; congr 1; omega, Nat.le_trans hk h.2.1, h.2.2.1, h.2.2.2.1, fun a ha j u hj => h.2.2.2.2 a ha j u ?_⟩
  have : l.flatMap f = (l.take k).flatMap f ++ (l.drop k).flatMap f := by rw [← List.flatMap_append, List.take_append_drop]
  rw [this, List.getElem?_append_left ((List.getElem?_eq_some_iff.1 hj).1)]
  exact hj
/-- An element of a slice of numbers. -/
theorem SlR.int_at {w : World} {ao : Option Addr} {n c : Nat} {cs : List Value} {i : Nat} {u : Value} (h : SlR w 1 ao n c cs) (hi : cs[i]? = some u) : ∃ g o, ao = some ⟨g, o, none⟩ ∧ w.cell? ⟨g, o + i, none⟩ = some u := by
  have hlt := (List.getElem?_eq_some_iff.1 hi).1
  have h1 := h.1
  have h2 := h.2.1
  cases ao with
  | none => have := h.2.2.2.1 rfl; omega
  | some a =>
    have hc := h.2.2.2.2 a rfl
    obtain ⟨g, off, spot⟩ := a
    cases cs with
    | nil => simp at hlt
    | cons c0 r =>
      have h0 := hc 0 c0 (by simp)
      rw [addr_add_zero] at h0
      have hs : spot = none := World.cell?_spot h0
      subst hs
      have := hc i u hi
      rw [addr_add_lit] at this
      exact ⟨g, off, rfl, this⟩
end Go.Proofs.YtgeaccoobhigcaaGreat
namespace Go.Proofs.YtgeaccoobhigcaaGreat
open Go Go.RowKit

/-- A list of productions as it lies in memory. -/
structure LiesP (w : World) (ao : Option Addr) (n c : Nat) (R : List ProdR) : Prop where
  sl : SlR w 3 ao n c (R.flatMap ProdR.cells)
  mem : ∀ p ∈ R, p.Mem w
theorem LiesP.len {w : World} {ao : Option Addr} {n c : Nat} {R : List ProdR} (h : LiesP w ao n c R) : R.length = n := by have := h.sl.1; rw [rows_length prodR_len] at this; omega
theorem LiesP.kept {w w' : World} {ao : Option Addr} {n c : Nat} {R : List ProdR} (h : LiesP w ao n c R) (hb : Below w.heap.size w w') : LiesP w' ao n c R := ⟨h.sl.kept hb, fun p hp => (h.mem p hp).kept hb⟩
theorem LiesP.of_own {b : Nat} {w : World} {v : Value} {R : List ProdR} (h : OwnD mkProd b 26 w v R) : ∃ ao c, v = .slice ao R.length c ∧ LiesP w ao R.length c R := by
  obtain ⟨ao, c, rfl, hd⟩ := h.deep
  exact ⟨ao, c, rfl, hd.sl, hd.ok⟩
theorem LiesP.take {w : World} {ao : Option Addr} {n c k : Nat} {R : List ProdR} (h : LiesP w ao n c R) (hk : k ≤ n) : LiesP w ao k c (R.take k) :=
  ⟨h.sl.takeD prodR_len hk h.len, fun p hp => h.mem p (List.mem_of_mem_take hp)⟩
/-- What told answers, as slices. -/
theorem told_val {w : World} {vals : List (Pd × Int)} {x : Ending} (h : ToldOut w vals x) : ∃ (ao bo : Option Addr) (n c d : Nat) (L : List ProdR), x = .returned (.tuple #[.slice ao n c, .slice bo vals.length d]) ∧ LiesP w ao n c L ∧ L.map ProdR.abs = vals.map Prod.fst ∧ SlR w 1 bo vals.length d (vals.map fun y => .int .i64 y.2) := by
  obtain ⟨v, v2, c, L, rfl, ho, ha, h2⟩ := h
  obtain ⟨ao, cv, rfl, hl⟩ := LiesP.of_own ho
  obtain ⟨bo, d, rfl, hs, _⟩ := SlR.of_owns h2
  exact ⟨ao, bo, _, cv, d, L, rfl, hl, ha, hs⟩
theorem prods_same {w : World} {ao bo : Option Addr} {n m c d : Nat} {l k : List ProdR} (h : LiesP w ao n c l) (g : LiesP w bo m d k) (he : l.map ProdR.abs = k.map ProdR.abs) :
    Calls Tryz.prog 12 #[.slice ao n c, .slice bo m d] w fun e w' => e = .returned (.bool true) ∧ Below w.heap.size w w' :=
  kProds_same l k ao bo _ _ c d w h.sl h.mem g.sl g.mem he
def nilR : ProdR := ⟨⟨#[]⟩, none, 0, 0, [], none, 0, 0, []⟩
theorem nilR_mem (w : World) : nilR.Mem w := ⟨by decide, SlR.nil _ _, by simp [nilR], SlR.nil _ _, by simp [nilR]⟩
theorem nilR_in (K : Nat → Prop) : nilR.In K := ⟨InB.zero _, by simp [nilR], InB.zero _⟩
theorem nilR_abs : nilR.abs = nilPd := by unfold ProdR.abs nilPd nilR; simp [absL]
/-- The errors that were told, one by one. -/
theorem errs_cell {ps : List Pd} {e : Int} {VL : List (Pd × Int)} (h : VL = ps.map (fun p => (p, (0 : Int))) ++ (if e = 0 then [] else [(nilPd, e)])) (w : World) (bo : Option Addr) (d i : Nat) (hs : SlR w 1 bo VL.length d (VL.map fun y => .int .i64 y.2)) (hi : i < VL.length) :
    ∃ g o, bo = some ⟨g, o, none⟩ ∧ ((i + 1 = VL.length ∧ w.cell? ⟨g, o + i, none⟩ = some (.int .i64 e)) ∨ (i + 1 ≠ VL.length ∧ w.cell? ⟨g, o + i, none⟩ = some (.int .i64 0))) := by
  obtain ⟨y, hy⟩ : ∃ y, VL[i]? = some y := ⟨_, List.getElem?_eq_getElem hi⟩
  have hc := hs.int_at (i := i) (u := .int .i64 y.2) (by rw [List.getElem?_map, hy]; rfl)
  rw [errs_at h hy] at hc
  obtain ⟨g, o, h1, h2⟩ := hc
  refine ⟨g, o, h1, ?_⟩
  by_cases hl : i + 1 = VL.length
  · rw [if_pos hl] at h2; exact .inl ⟨hl, h2⟩
  · rw [if_neg hl] at h2; exact .inr ⟨hl, h2⟩
set_option maxRecDepth 100000 in
set_option maxHeartbeats 4000000 in
theorem readEach_walk (s : ByteArray) (nn : Int) (w : World) : Calls Tryz.prog 5 #[.string s, .int .i64 nn] w fun x w' => x = .returned (.bool true) ∧ Below w.heap.size w w' := by
  by_cases hz : s.size ≤ 3000
  · have HE := Lib.hid (fun w => each8 s (by omega) w)
    have HT := Lib.hid (fun n w => told_any s (by omega) n w)
    have hlen := eachY_len _ (toks s.data.toList) (Nat.lt_succ_self _)
    have htl := toks_length s.data.toList
    rw [size_toList] at htl
    have hall := eachY_all (toks s.data.toList)
    generalize eachY _ _ = VL at HT hlen hall
    generalize eachR _ = r at HE hall
    obtain ⟨ps, at_, e⟩ := r
    simp only at hall
    have hvl : VL.length ≤ 3002 := by omega
    have hz' : (s.size : Int) ≤ 3000 := by omega
    have HAL := Lib.hid hall
    clear hlen htl hz hall
    go_enter Tryz.func5, Tryz.ntmps5
    go_wp2_with fail
    refine (HE.out _).mono ?_
    rintro x w1 ⟨⟨v, rfl, b, R, hb1, hb2, ho, ha⟩, b1⟩
    replace ha : R.map ProdR.abs = ps := ha
    have HT5 : Hid (∀ w, Calls Tryz.prog 14 #[.string s, .int .i64 5000] w fun x w' => ToldOut w' (VL.take 5000) x ∧ Below w.heap.size w w') := Lib.hid (fun w => HT.out 5000 w)
    rw [List.take_of_length_le (by omega)] at HT5
    have hmix : Tryz.prog.follows .mixedOrders = true := by kernel_rfl
    obtain ⟨i0, hi, hz0, hz1, hz2⟩ := info_parts Tryz.info26
    have hall := HAL.out
    have HER := Lib.hid (errs_cell HAL.out)
    clear HAL
    have hrl : R.length ≤ 3002 := by
      have h1 := congrArg List.length hall
      have h2 := congrArg List.length ha
      simp at h1 h2
      omega
    by_cases he : e = 0
    · subst he
      rw [if_pos rfl, List.append_nil] at hall
      have HAB : Hid (R.map ProdR.abs = VL.map Prod.fst) := Lib.hid (by rw [ha, hall, List.map_map]; exact (List.map_id ps).symm)
      obtain ⟨ao, cr, rfl, hl⟩ := LiesP.of_own ho
      have HLP := Lib.hid hl
      have HB1 := Lib.hid b1
      have hrc := hl.sl.2.1
      clear hl ho b1 ha hall
      dsimp only
      generalize R.length = n at HLP hrc hrl ⊢
      generalize R = RR at HLP HAB
      go_upto_region 6 with fail
      go_upto_region 7 with (go_at_call 14; refine (HT5.out _).mono ?_; rintro x w3 ⟨ht, b3⟩; obtain ⟨a2, bo, n2, c2, d2, L2, rfl, hl2, ha2, hs2⟩ := told_val ht; have HL2 := Lib.hid hl2; have HA2 := Lib.hid ha2; have HS2 := Lib.hid hs2; have HB3 := Lib.hid b3; clear ht hl2 ha2 hs2 b3)
      have HP1 := Lib.hid (prods_same HL2.out (HLP.out.kept HB3.out) (HA2.out.trans HAB.out.symm))
      have hw := fun w => within_any nn ((n : Int) + 1) w (by omega) (by omega)
      have k0 : 0 ≤ nn % ((n : Int) + 1) := Int.emod_nonneg _ (by omega)
      have k1 : nn % ((n : Int) + 1) < (n : Int) + 1 := Int.emod_lt_of_pos _ (by omega)
      obtain ⟨k, hk⟩ : ∃ k : Nat, nn % ((n : Int) + 1) = (k : Int) := ⟨(nn % ((n : Int) + 1)).toNat, by omega⟩
      rw [hk] at k0 k1
      simp only [hk] at hw
      have HW := Lib.hid hw
      have hkn : k ≤ n := by omega
      have hkc : (k : Int) ≤ cr := by omega
      clear hw hk k0 k1
      go_wp2_with (go_at_call 12; refine HP1.out.mono ?_; rintro x w4 ⟨rfl, b4⟩; have HS4 := Lib.hid (HS2.out.kept b4); have HL4 := Lib.hid ((HLP.out.kept HB3.out).kept b4); have hb3 := HB1.out.trans (HB3.out.mono HB1.out.size); have HB4 := Lib.hid (hb3.trans (b4.mono hb3.size)); clear b4 hb3)
      have hsl := HS4.out.2.1
      have hsl2 := HS4.out.2.2.1
      have HER4 := Lib.hid (fun i => HER.out w4 bo d2 i HS4.out)
      generalize VL.length = N at *
      go_loop [10] (fun t => ∃ i : Nat, i ≤ N ∧ t = .int .i64 i) (fun t => N - (intOf t).toNat)
      case atStart => exact ⟨0, by omega, rfl⟩
      case round =>
        obtain ⟨i, hiN, rfl⟩ := hrel
        by_cases hlt : i < N
        · obtain ⟨g, o, rfl, hc⟩ := HER4.out i hlt
          rcases hc with ⟨h1, hc⟩ | ⟨h1, hc⟩
          · have e1 : ((i : Int) == (N : Int) - 1) = true := by simp; omega
            clear h1
            go_wp2
            go_round
            · exact ⟨i + 1, by omega, by go_num⟩
            · simp [intOf]; omega
          · have e1 : ((i : Int) == (N : Int) - 1) = false := by simp; omega
            clear h1
            go_wp2
            go_round
            · exact ⟨i + 1, by omega, by go_num⟩
            · simp [intOf]; omega
        · have hiN' : i = N := by omega
          subst hiN'
          clear HER HER4 HS4 hsl hsl2
          go_wp2_with (first
            | (go_at_call 15; refine (HW.out _).mono ?_; rintro x w5 ⟨rfl, rfl⟩)
            | (go_at_call 14; refine (HT.out k _).mono ?_; rintro x w6 ⟨ht, b6⟩; obtain ⟨a3, bo3, n3, c3, d3, L3, rfl, hl3, ha3, hs3⟩ := told_val ht; have HP2 := Lib.hid (prods_same hl3 ((HL4.out.kept b6).take hkn) (ha3.trans (by rw [List.map_take, List.map_take, HAB.out]))); have HB6 := Lib.hid (HB4.out.trans (b6.mono HB4.out.size)); clear ht hl3 ha3 hs3 b6)
            | (go_at_call 12; refine HP2.out.mono ?_; rintro x w7 ⟨rfl, b7⟩; have HB7 := Lib.hid (HB6.out.trans (b7.mono HB6.out.size)); clear b7)
            | (go_at_call 6; refine (wakes8_any _).mono ?_; rintro x w8 ⟨rfl, b8⟩))
          go_ret
          exact ⟨rfl, HB7.out.trans (b8.mono HB7.out.size)⟩
    · rw [if_neg he] at hall
      have HAB : Hid ((R ++ [nilR]).map ProdR.abs = VL.map Prod.fst) := Lib.hid (by rw [List.map_append, ha, hall, List.map_append, List.map_map]; show ps ++ [nilR.abs] = ps.map id ++ [nilPd]; rw [List.map_id, nilR_abs])
      have e1 : (e != 0) = true := by simp [he]
      clear ha hall he
      dsimp only
      go_upto_region 6 with (at_builtin; refine wpList_push rfl (.tmp 26) (.tmp 28) 32 rfl mkProd b 26 i0 _ 64 Tryz.underlying32 hi hz0 hz1 hz2 rfl (w0 := w1) _ R nilR rfl ho _ (by omega) rfl rfl (by simp [mkProd, nilR, ProdR.cells, Value.oneCell']) (by omega) (by decide) hb2 (fun _ => False) (nilR_mem _) (nilR_in _) (fun _ h => h.elim) ?_; intro go' c' w2 ho2 hg2)
      obtain ⟨ao, cr, hao, hl⟩ := LiesP.of_own ho2
      obtain ⟨rfl, h1, rfl⟩ : some go' = ao ∧ R.length + 1 = (R ++ [nilR]).length ∧ c' = cr := by injection hao with x1 x2 x3; exact ⟨x1, x2, x3⟩
      rw [← h1] at hl
      have HLP := Lib.hid hl
      have HB2 : Hid (Below w.heap.size w w2) := Lib.hid (below_grows b1 hg2 fun g e => by have := (own_lt ho.own e).1; omega)
      have hrc := hl.sl.2.1
      clear hl ho ho2 hao h1 b1 hg2
      generalize hn : R.length + 1 = n at HLP hrc ⊢
      replace hrl : n ≤ 3003 := by omega
      generalize R ++ [nilR] = RR at HLP HAB
      clear hn
      generalize (some go') = ao at HLP ⊢
      generalize c' = cr at HLP hrc ⊢
      go_upto_region 7 with (go_at_call 14; refine (HT5.out _).mono ?_; rintro x w3 ⟨ht, b3⟩; obtain ⟨a2, bo, n2, c2, d2, L2, rfl, hl2, ha2, hs2⟩ := told_val ht; have HL2 := Lib.hid hl2; have HA2 := Lib.hid ha2; have HS2 := Lib.hid hs2; have HB3 := Lib.hid b3; clear ht hl2 ha2 hs2 b3)
      have HP1 := Lib.hid (prods_same HL2.out (HLP.out.kept HB3.out) (HA2.out.trans HAB.out.symm))
      have hw := fun w => within_any nn ((n : Int) + 1) w (by omega) (by omega)
      have k0 : 0 ≤ nn % ((n : Int) + 1) := Int.emod_nonneg _ (by omega)
      have k1 : nn % ((n : Int) + 1) < (n : Int) + 1 := Int.emod_lt_of_pos _ (by omega)
      obtain ⟨k, hk⟩ : ∃ k : Nat, nn % ((n : Int) + 1) = (k : Int) := ⟨(nn % ((n : Int) + 1)).toNat, by omega⟩
      rw [hk] at k0 k1
      simp only [hk] at hw
      have HW := Lib.hid hw
      have hkn : k ≤ n := by omega
      have hkc : (k : Int) ≤ cr := by omega
      clear hw hk k0 k1
      go_wp2_with (go_at_call 12; refine HP1.out.mono ?_; rintro x w4 ⟨rfl, b4⟩; have HS4 := Lib.hid (HS2.out.kept b4); have HL4 := Lib.hid ((HLP.out.kept HB3.out).kept b4); have hb3 := HB2.out.trans (HB3.out.mono HB2.out.size); have HB4 := Lib.hid (hb3.trans (b4.mono hb3.size)); clear b4 hb3)
      have hsl := HS4.out.2.1
      have hsl2 := HS4.out.2.2.1
      have HER4 := Lib.hid (fun i => HER.out w4 bo d2 i HS4.out)
      generalize VL.length = N at *
      go_loop [10] (fun t => ∃ i : Nat, i ≤ N ∧ t = .int .i64 i) (fun t => N - (intOf t).toNat)
      case atStart => exact ⟨0, by omega, rfl⟩
      case round =>
        obtain ⟨i, hiN, rfl⟩ := hrel
        by_cases hlt : i < N
        · obtain ⟨g, o, rfl, hc⟩ := HER4.out i hlt
          rcases hc with ⟨h1, hc⟩ | ⟨h1, hc⟩
          · have e1 : ((i : Int) == (N : Int) - 1) = true := by simp; omega
            clear h1
            go_wp2
            go_round
            · exact ⟨i + 1, by omega, by go_num⟩
            · simp [intOf]; omega
          · have e1 : ((i : Int) == (N : Int) - 1) = false := by simp; omega
            clear h1
            go_wp2
            go_round
            · exact ⟨i + 1, by omega, by go_num⟩
            · simp [intOf]; omega
        · have hiN' : i = N := by omega
          subst hiN'
          clear HER HER4 HS4 hsl hsl2
          go_wp2_with (first
            | (go_at_call 15; refine (HW.out _).mono ?_; rintro x w5 ⟨rfl, rfl⟩)
            | (go_at_call 14; refine (HT.out k _).mono ?_; rintro x w6 ⟨ht, b6⟩; obtain ⟨a3, bo3, n3, c3, d3, L3, rfl, hl3, ha3, hs3⟩ := told_val ht; have HP2 := Lib.hid (prods_same hl3 ((HL4.out.kept b6).take hkn) (ha3.trans (by rw [List.map_take, List.map_take, HAB.out]))); have HB6 := Lib.hid (HB4.out.trans (b6.mono HB4.out.size)); clear ht hl3 ha3 hs3 b6)
            | (go_at_call 12; refine HP2.out.mono ?_; rintro x w7 ⟨rfl, b7⟩; have HB7 := Lib.hid (HB6.out.trans (b7.mono HB6.out.size)); clear b7)
            | (go_at_call 6; refine (wakes8_any _).mono ?_; rintro x w8 ⟨rfl, b8⟩))
          go_ret
          exact ⟨rfl, HB7.out.trans (b8.mono HB7.out.size)⟩
  · have hz' : (3000 : Int) < (s.size : Int) := by omega
    go_enter Tryz.func5, Tryz.ntmps5
    go_wp2_with (go_at_call 6; refine (wakes8_any _).mono ?_; rintro e w3 ⟨rfl, b3⟩)
    go_ret
    exact ⟨rfl, b3⟩
end Go.Proofs.YtgeaccoobhigcaaGreat
namespace Go.Proofs.YtgeaccoobhigcaaGreat
open Go.ChangeShapes Go.WideShapes Go.ChangeAt Go.RowKit
open Go.ChangeMaps (open_string shut_string)

theorem readEach_own : ownKnob Tryz.prog.godebug = none := by kernel_rfl
theorem readEach_laidOut : laidOutB Tryz.prog = true := by kernel_rfl

set_option maxRecDepth 100000 in
theorem readEach_lifted (os : Os) (started : os.Started) (H : Type) (enc : TypeId × Value → H) :
    ReturnsInHanded {} Tryz.checked os 5 .any (Rows.readEachSpec.pre6 enc Tryz.prog Tryz.f5 Rows.readEachRow.domain false) (Rows.readEachSpec.post enc Tryz.prog Tryz.f5 false true false false) := by
  refine returnsInHanded_of_change (C := Tryz.checked) readEach_own started (by kernel_rfl) Tryz.func5
    (ChangeSpec.witness6 (enc := enc) (C := Tryz.checked) false ⟨#[], #[.string ⟨#[]⟩, .int .i64 0], []⟩ 8 (by kernel_rfl) (by kernel_rfl) (by kernel_rfl) (by kernel_rfl)) ?_
  intro W base args ds gs before hval0 hW _ _
  have hval : ∀ (j : Nat) t v, Tryz.f5.params[j]? = some t → args[j]? = some v → Value.okWide Tryz.prog W .any base t v := hval0
  have hW' := hW
  obtain ⟨p, q, hA0, hV, rfl, hfz, hnd⟩ := hW
  have hA : DataW.TrodAll enc Tryz.prog W 0 (fun _ => true) true Tryz.f5.params.toList args.toList ds p := hA0
  rw [Tryz.params5] at hA hval
  obtain ⟨v0, vs0, d0, ds0, p0, q0, hargs, rfl, rfl, h0, r0⟩ := trodAll_cons hA
  obtain ⟨v1, vs1, d1, ds1, p1, q1, rfl, rfl, rfl, h1, r1⟩ := trodAll_cons r0
  obtain ⟨rfl, rfl, rfl⟩ := trodAll_nil r1
  obtain rfl : args = #[v0, v1] := by cases args; simp_all
  obtain ⟨rfl, rfl⟩ := trodVars_none hV
  obtain ⟨a0, rfl, rfl, rfl, w0⟩ := open_string Tryz.underlying9 (hval 0 9 v0 rfl rfl) h0
  obtain ⟨a1, rfl, rfl, rfl, w1⟩ := open_int Tryz.underlying3 (hval 1 3 v1 rfl rfl) h1
  clear hA0 hval0
  refine (readEach_walk a0 a1 W).mono fun e W' ⟨he, bel⟩ => ?_
  subst he
  exact ⟨_, rfl, _, _, _, [], _, [], hW', trodAll_mk1 (shut_bool Tryz.underlying4 _), (trodAll_cons_mk (shut_string Tryz.underlying9 w0) (trodAll_cons_mk (shut_int Tryz.underlying3 w1) trodAll_mk0)), rfl, bel.frame _, fun h => by cases h⟩

/-- THE GIVEN STATEMENT. -/
theorem readEach_holds : Rows.ReadEachSaid :=
  OpenClaim.holds_of_wide 5 Tryz.f5 rfl rfl rfl rfl rfl rfl rfl ⟨rfl, rfl, rfl, rfl, rfl⟩ rfl rfl rfl rfl rfl (by kernel_rfl) Tryz.func5 (by kernel_rfl)
    (of_decide_eq_true (by kernel_rfl)) (by unfold Func.isWrapper; first | (rw [if_pos (by decide +kernel)]; kernel_rfl) | (rw [if_neg (by decide +kernel)]; exact ⟨rfl, rfl⟩))
    (fun os started H enc _ => readEach_lifted os started H enc)
#print axioms readEach_holds
end Go.Proofs.YtgeaccoobhigcaaGreat
