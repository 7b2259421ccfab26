/-
  read.All. ponderkeep.Prods where both lists say the same; ponderkeep.CopyProds.
-/
import Derived.Test.YtgeaccoobhigcaaGreatGE
import Derived.Deep.QuietTactic
import Derived.BigQuiet
import Derived.Test.YtgeaccoobhigcaaGreatG8
namespace Go.Proofs.YtgeaccoobhigcaaGreat
open Go Go.RowKit
/-- The productions of tokens; else where and why there are none. -/
def allF : Nat → List Tk → List Pd → List Pd × Int × Int
  | 0, _, _ => ([], 0, 0)
  | n + 1, ts, acc => if (headT ts).kind = 5 then (acc, -1, 0) else
    match pProd ts with
    | .bad q => ([], (q : Int), 5)
    | .ok p ts' => if shapeE p = 0 then allF n ts' (acc ++ [p]) else ([], ((headT ts).pos : Int), shapeE p)
def allR (ts : List Tk) : List Pd × Int × Int := allF (ts.length + 1) ts []
theorem allF_end {n : Nat} {ts : List Tk} {acc : List Pd} (h : (headT ts).kind = 5) : allF (n + 1) ts acc = (acc, -1, 0) := if_pos h
theorem allF_bad {n : Nat} {ts : List Tk} {acc : List Pd} {q : Nat} (h : (headT ts).kind ≠ 5) (hp : pProd ts = .bad q) : allF (n + 1) ts acc = ([], (q : Int), 5) := by
  unfold allF; rw [if_neg h, hp]
theorem allF_shape {n : Nat} {ts : List Tk} {acc : List Pd} {p : Pd} {ts' : List Tk} (h : (headT ts).kind ≠ 5) (hp : pProd ts = .ok p ts') (hs : shapeE p ≠ 0) : allF (n + 1) ts acc = ([], ((headT ts).pos : Int), shapeE p) := by
  unfold allF; rw [if_neg h, hp]; exact if_neg hs
theorem allF_next {n : Nat} {ts : List Tk} {acc : List Pd} {p : Pd} {ts' : List Tk} (h : (headT ts).kind ≠ 5) (hp : pProd ts = .ok p ts') (hs : shapeE p = 0) : allF (n + 1) ts acc = allF n ts' (acc ++ [p]) := by
  conv => lhs; unfold allF
  rw [if_neg h, hp]; exact if_pos hs
def ProdR.In (K : Nat → Prop) (p : ProdR) : Prop := InB K p.ca p.cn ∧ (∀ c ∈ p.conds, c.In K) ∧ InB K p.aa p.an
theorem ProdR.Mem.same {K : Nat → Prop} {w w' : World} {p : ProdR} (h : p.Mem w) (hin : p.In K) (hs : SameIn K w w') : p.Mem w' :=
  ⟨h.name, h.sc.same hin.1 hs, fun c hc => (h.conds c hc).same hs (hin.2.1 c hc), h.sa.same hin.2.2 hs, h.acts⟩
def mkProd : Make ProdR := ⟨3, by omega, ProdR.cells, fun _ => rfl, fun w p => p.Mem w, fun K p => p.In K, fun a => by simp [ProdR.cells, Value.oneCell'],
  fun h hk => ⟨h.1.mono hk, fun c hc => (h.2.1 c hc).mono hk, h.2.2.mono hk⟩, fun h hin hs => h.same hin hs,
  fun {K w a} h hin => ⟨InB.both hin.1 (h.sc.inB (by omega)), fun c hc => (hin.2.1 c hc).lt (h.conds c hc), InB.both hin.2.2 (h.sa.inB (by omega))⟩⟩
theorem Tryz.info26 : (Tryz.prog.info? 26).map (fun i => (i.zero, i.size, i.bytes)) = some (some (.agg #[.string ⟨#[]⟩, .slice none 0 0, .slice none 0 0]), 3, 64) := by kernel_rfl
/-- Where the loop is; w: the world in which the reader began. -/
structure AllRun (E : Env) (w : World) (Z : List Pd × Int × Int) (v : Value) (l : List ProdR) (ts : List Tk) (k : Nat) (wr : World) : Prop where
  own : OwnD mkProd w.heap.size 26 wr v l
  mv : Mv E w wr
  rd : Rd E wr ts (-1) 0
  count : l.length + ts.length ≤ 1000000
  fuel : ts.length < k
  eq : Z = allF k ts (l.map ProdR.abs)
def AllOut (base : Nat) (w' : World) (r : List Pd × Int × Int) (x : Ending) : Prop :=
  ∃ v : Value, x = .returned (.tuple #[v, .int .i64 r.2.1, .int .i64 r.2.2]) ∧ ∃ (b : Nat) (l : List ProdR), base ≤ b ∧ b ≤ w'.heap.size ∧ OwnD mkProd b 26 w' v l ∧ l.map ProdR.abs = r.1
theorem AllRun.more {E : Env} {w wr w4 w5 : World} {Z : List Pd × Int × Int} {v v' : Value} {l : List ProdR} {ts ts' : List Tk} {k : Nat} {p : ProdR} (h : AllRun E w Z v l ts (k + 1) wr) (lows : ∀ b, E.Blk b → b < w.heap.size)
    (h5 : (headT ts).kind ≠ 5) (hp : pProd ts = .ok p.abs ts') (hs : shapeE p.abs = 0) (hm : Mv E wr w4) (hr : Rd E w4 ts' (-1) 0) (ho : OwnD mkProd w.heap.size 26 w5 v' (l ++ [p])) (hg : w4.grownBy w5 v.ownBlock) :
    AllRun E w Z v' (l ++ [p]) ts' k w5 := by
  have hown : ∀ b, v.ownBlock = some b → w.heap.size ≤ b := fun b e => (h.own.own.lt b e).1
  have he := pProd_eats _ _ _ hp
  have h1 := h.count
  have h2 := h.fuel
  refine ⟨ho, (h.mv.trans hm).grown hg fun b e => .inr (.inr (hown b e)), hr.kept hg fun b e hc => by have := hown b e; have := lows b hc; omega, by simp; omega, by omega, ?_⟩
  rw [h.eq, allF_next h5 hp hs, List.map_append]
  rfl
set_option maxRecDepth 100000 in
set_option maxHeartbeats 4000000 in
theorem all_any (s : ByteArray) (hs : s.size ≤ 32768) (w : World) :
    Calls Tryz.prog 10 #[.string s] w fun x w' => AllOut w.heap.size w' (allR (toks s.data.toList)) x ∧ Below w.heap.size w w' := by
  have HBG := Lib.hid (reader_any s hs w)
  unfold allR
  generalize toks s.data.toList = ts at HBG ⊢
  obtain ⟨Z, hZ⟩ : ∃ Z, allF (ts.length + 1) ts [] = Z := ⟨_, rfl⟩
  rw [hZ]
  obtain ⟨i0, hi, hz0, hz1, hz2⟩ := info_parts Tryz.info26
  go_enter Tryz.func10, Tryz.ntmps10
  go_wp2_with fail
  refine HBG.out.mono ?_
  rintro x w1 ⟨E, rfl, hb1, hr1, hlow, _⟩
  have hl1 : w.heap.size ≤ E.r := hlow E.r (.inl rfl)
  have hl2 : w.heap.size ≤ E.ib := hlow E.ib (.inr (.inr (.inl rfl)))
  have hr2 := hr1.lows E.r (.inl rfl)
  have hr3 := hr1.lows E.ib (.inr (.inr (.inl rfl)))
  have HLW := Lib.hid hr1.lows
  have HS : Hid (AllRun E w1 Z (.slice none 0 0) [] ts (ts.length + 1) w1) := Lib.hid ⟨OwnD.nil _ _ _ _, Mv.refl _ _, hr1, by have := hr1.len; simpa using this, by omega, hZ.symm⟩
  have HB1 := Lib.hid hb1
  have hsz1 := hb1.size
  clear hZ hr1 hb1 hlow HBG
  unfold Env.ptr
  go_wp2_with fail
  go_loopg [7] (ts.length + 1) (fun gk v wr => ∃ (v0 : Value) (l : List ProdR) (ts1 : List Tk), v0 = v ∧ Hid (AllRun E w1 Z v0 l ts1 gk wr))
  case atStart => exact ⟨_, [], ts, rfl, HS⟩
  case round =>
    clear HS
    obtain ⟨v0, l, ts1, rfl, HG⟩ := hrel
    have hgk := HG.out.fuel
    obtain ⟨gk, rfl⟩ : ∃ g, gk = g + 1 := ⟨gk - 1, by omega⟩
    have hr := HG.out.rd
    obtain ⟨c0, c1, c2, c3, c4, c5⟩ := six_boxR hr.box
    by_cases hk : (headT ts1).kind = 5
    · have e5 : (((headT ts1).kind : Int) != 5) = false := by simp [hk]
      have HZ : Hid (Z = (l.map ProdR.abs, -1, 0)) := Lib.hid (by rw [HG.out.eq, allF_end hk])
      clear hk hr
      go_wp2
      refine bodyPost_ret (v := .tuple #[v0, .int .i64 (-1), .int .i64 0]) (by simp [results, Tryz.results10, go_sem]) rfl ?_
      exact ⟨by rw [HZ.out]; exact ⟨_, rfl, w1.heap.size, l, hsz1, HG.out.mv.size, HG.out.own, rfl⟩, below_mv HB1.out HG.out.mv hl1 hl2⟩
    · have e5 : (((headT ts1).kind : Int) != 5) = true := by simp; omega
      have hP := prod_any wr hr
      unfold Env.ptr at hP
      have HP := Lib.hid hP
      have HK := Lib.hid hk
      clear hP hr hk
      go_wp2_with fail
      refine HP.out.mono ?_
      rintro x w2 ⟨hm2, ho2⟩
      have HM2 := Lib.hid hm2
      clear hm2 c0 c1 c2 c3 c4 c5 HP
      cases hp : pProd ts1 with
      | bad q =>
        rw [hp] at ho2
        have HZ : Hid (Z = ([], (q : Int), 5)) := Lib.hid (by rw [HG.out.eq, allF_bad HK.out hp])
        obtain ⟨rfl, ts', hr⟩ := ho2
        have hra := hr.alloc (.cells #[.string ⟨#[]⟩, .slice none 0 0, .slice none 0 0] 26)
        obtain ⟨c0, c1, c2, c3, c4, c5⟩ := six_boxR hra.box
        clear hr hra hp
        unfold zeroProd
        go_wp2_with fail
        go_quiet (fail)
        go_wp2
        refine bodyPost_ret (v := .tuple #[.slice none 0 0, .int .i64 q, .int .i64 5]) (by simp [results, Tryz.results10, go_sem]) rfl ?_
        have hmv := (HG.out.mv.trans HM2.out).alloc (.cells #[.string ⟨#[]⟩, .slice none 0 0, .slice none 0 0] 26)
        exact ⟨by rw [HZ.out]; exact ⟨_, rfl, w1.heap.size, [], hsz1, hmv.size, OwnD.nil _ _ _ _, rfl⟩, below_drew (below_mv HB1.out hmv hl1 hl2) _⟩
      | ok p ts' =>
        rw [hp] at ho2
        rcases ho2 with ⟨hs0, ⟨p', rfl', habs, hmem, hdc, hda⟩, hr⟩ | ⟨hs0, rfl, ts2, hr⟩
        · subst habs
          have HRW := Lib.hid (fun v' w5 => HG.out.more (v' := v') (w5 := w5) HLW.out HK.out hp hs0 (HM2.out.alloc (.cells p'.cells.toArray 26)) (hr.alloc (.cells p'.cells.toArray 26)))
          have HME := Lib.hid (hmem.kept (below_new w2 (.cells p'.cells.toArray 26)))
          have HIN : Hid (p'.In fun b => wr.heap.size ≤ b) := Lib.hid ⟨hdc.inb, hdc.ink, hda.inb⟩
          have hll : l.length ≤ 1000000 := by have := HG.out.count; omega
          have hra := hr.alloc (.cells p'.cells.toArray 26)
          obtain ⟨nm, ca, cn, cc, cl, aa, an, ac, al⟩ := p'
          unfold ProdR.val at rfl'
          dsimp only at rfl'
          subst rfl'
          unfold ProdR.cells at hra HRW HME
          dsimp only at hra HRW HME
          obtain ⟨c0, c1, c2, c3, c4, c5⟩ := six_boxR hra.box
          clear hr hra hp hmem hdc hda hs0
          go_wp2_with (at_builtin; refine wpList_push3 rfl (.tmp 37) (.tmp 39) 32 rfl mkProd 26 i0 _ 64 Tryz.underlying32 hi hz0 hz1 hz2 rfl (by omega) (E := E) (w := w1) (wr := wr) _ l ⟨nm, ca, cn, cc, cl, aa, an, ac, al⟩ rfl HG.out.own HG.out.mv (HM2.out.alloc _) hr2 hr3 HME.out HIN.out hll (w2.heap.size + 1) (by simp) rfl rfl ?_; intro go' c' w9 ho9 hg9)
          have HNX := Lib.hid (HRW.out _ _ ho9 hg9)
          clear ho9 hg9
          go_wp2
          go_roundg gk
          case rel => exact ⟨_, _, _, rfl, HNX⟩
          case measure => omega
        · have HZ : Hid (Z = ([], ((headT ts1).pos : Int), shapeE p)) := Lib.hid (by rw [HG.out.eq, allF_shape HK.out hp hs0])
          have e1 : (shapeE p != 0) = true := by simp [hs0]
          generalize shapeE p = S at *
          have hra := hr.alloc (.cells #[.string ⟨#[]⟩, .slice none 0 0, .slice none 0 0] 26)
          obtain ⟨c0, c1, c2, c3, c4, c5⟩ := six_boxR hra.box
          clear hr hra hp hs0
          unfold zeroProd
          go_wp2_with fail
          go_quiet (fail)
          go_wp2
          refine bodyPost_ret (v := .tuple #[.slice none 0 0, .int .i64 (headT ts1).pos, .int .i64 S]) (by simp [results, Tryz.results10, go_sem]) rfl ?_
          have hmv := (HG.out.mv.trans HM2.out).alloc (.cells #[.string ⟨#[]⟩, .slice none 0 0, .slice none 0 0] 26)
          exact ⟨by rw [HZ.out]; exact ⟨_, rfl, w1.heap.size, [], hsz1, hmv.size, OwnD.nil _ _ _ _, rfl⟩, below_drew (below_mv HB1.out hmv hl1 hl2) _⟩
end Go.Proofs.YtgeaccoobhigcaaGreat
namespace Go.Proofs.YtgeaccoobhigcaaGreat
open Go Go.RowKit
theorem prodR_len (p : ProdR) : p.cells.length = 3 := rfl
set_option maxRecDepth 100000 in
set_option maxHeartbeats 4000000 in
theorem kProds_same (l k : List ProdR) (ao bo : Option Addr) (n m c d : Nat) (w : World) (h : SlR w 3 ao n c (l.flatMap ProdR.cells)) (hl : ∀ p ∈ l, p.Mem w) (g : SlR w 3 bo m d (k.flatMap ProdR.cells)) (hk : ∀ p ∈ k, p.Mem w) (he : l.map ProdR.abs = k.map ProdR.abs) :
    Calls Tryz.prog 12 #[.slice ao n c, .slice bo m d] w fun e w' => e = .returned (.bool true) ∧ Below w.heap.size w w' := by
  have hln : l.length = n := by have := h.1; rw [rows_length prodR_len] at this; omega
  have hkn : k.length = m := by have := g.1; rw [rows_length prodR_len] at this; omega
  have hnm : l.length = k.length := by have := congrArg List.length he; simpa using this
  obtain rfl : n = m := by omega
  have hcap := h.2.1
  have hmx := h.2.2.1
  unfold maxLen at hmx
  have HL := Lib.hid hln
  have HL2 := Lib.hid hkn
  have HG := Lib.hid g
  have HH := Lib.hid h
  have HLM := Lib.hid hl
  have HKM := Lib.hid hk
  have HE := Lib.hid he
  clear hln hkn g h hl hk he hnm
  go_enter Tryz.func12, Tryz.ntmps12
  go_wp2
  go_loopw [5] (fun ti wr => ∃ i : Nat, i ≤ n ∧ ti = .int .i64 i ∧ Below w.heap.size w wr) (fun ti _ => n - (intOf ti).toNat)
  case atStart => exact ⟨0, by omega, rfl, Below.refl _ _⟩
  case round =>
    obtain ⟨i, hi, rfl, hb⟩ := hrel
    by_cases hlt : i < n
    · obtain ⟨x, hx⟩ : ∃ x, l[i]? = some x := ⟨_, List.getElem?_eq_getElem (by have := HL.out; omega)⟩
      obtain ⟨y, hy⟩ : ∃ y, k[i]? = some y := ⟨_, List.getElem?_eq_getElem (by have := HL2.out; omega)⟩
      have hxy : x.abs = y.abs := by
        have := congrArg (fun z => z[i]?) HE.out
        simp only [List.getElem?_map, hx, hy, Option.map_some] at this
        injection this
      have hxm := (HLM.out x (List.mem_of_getElem? hx)).kept hb
      have hym := (HKM.out y (List.mem_of_getElem? hy)).kept hb
      obtain ⟨ga, oa, rfl, hxc⟩ := (HH.out.kept hb).row_at prodR_len (by omega) hx
      obtain ⟨gb, ob, rfl, hyc⟩ := (HG.out.kept hb).row_at prodR_len (by omega) hy
      have hP := fun W (hW : Below wr.heap.size wr W) => kProd_any x y W (hxm.kept hW) (hym.kept hW)
      rw [hxy, show pdEq y.abs y.abs = true from pdEq_iff.2 rfl] at hP
      obtain ⟨xn, xca, xcn, xcc, xcs, xaa, xan, xac, xas⟩ := x
      obtain ⟨yn, yca, ycn, ycc, ycs, yaa, yan, yac, yas⟩ := y
      have x0 : wr.cell? ⟨ga, oa + i * 3, none⟩ = some (.string xn) := hxc 0 _ rfl
      have x1 : wr.cell? ⟨ga, oa + i * 3 + 1, none⟩ = some (.slice xca xcn xcc) := hxc 1 _ rfl
      have x2 : wr.cell? ⟨ga, oa + i * 3 + 2, none⟩ = some (.slice xaa xan xac) := hxc 2 _ rfl
      have y0 : wr.cell? ⟨gb, ob + i * 3, none⟩ = some (.string yn) := hyc 0 _ rfl
      have y1 : wr.cell? ⟨gb, ob + i * 3 + 1, none⟩ = some (.slice yca ycn ycc) := hyc 1 _ rfl
      have y2 : wr.cell? ⟨gb, ob + i * 3 + 2, none⟩ = some (.slice yaa yan yac) := hyc 2 _ rfl
      have hv : ProdR.val ⟨xn, xca, xcn, xcc, xcs, xaa, xan, xac, xas⟩ = .agg #[.string xn, .slice xca xcn xcc, .slice xaa xan xac] := rfl
      have hv2 : ProdR.val ⟨yn, yca, ycn, ycc, ycs, yaa, yan, yac, yas⟩ = .agg #[.string yn, .slice yca ycn ycc, .slice yaa yan yac] := rfl
      rw [hv, hv2] at hP
      have HP := Lib.hid hP
      have HB := Lib.hid hb
      have hii : (i : Int) < (n : Int) := by omega
      clear hP hxm hym hxc hyc hxy hx hy hv hv2 hb
      go_wp2
      go_region_with (go_at_call 9; refine (HP.out _ (belowD wr)).mono ?_; rintro e w5 ⟨rfl, b5⟩)
      all_goals
        go_wp2
        go_roundw
        case rel => exact ⟨i + 1, by omega, by go_num, below_trans HB.out (undrew b5)⟩
        case measure => simp [intOf]; omega
    · go_wp2
      go_ret
      exact ⟨rfl, hb⟩
end Go.Proofs.YtgeaccoobhigcaaGreat
