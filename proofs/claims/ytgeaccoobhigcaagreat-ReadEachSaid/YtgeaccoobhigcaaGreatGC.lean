/-
  The reader's clauses. Lists of conditions that are appended; how a loop over conditions goes on. The reader's conditions: negated ones, all up to a sign. The reader's conditions up to a sign, as deep as they may be. The reader's terms. The reader's preferences. The reader's acts.
-/
import Derived.Test.YtgeaccoobhigcaaGreatGB
import Derived.Test.YtgeaccoobhigcaaGreatG8
import Derived.Test.YtgeaccoobhigcaaGreatG2
import Derived.Great.BuildSlice
namespace Go.Proofs.YtgeaccoobhigcaaGreat
open Go Go.RowKit
/-- A list that the call has made comes back; where it goes wrong, some list. -/
def OwnIs {α β : Type} (M : Make α) (e : TypeId) (abs : α → β) (base : Nat) (w' : World) (r : Rs (List β)) (x : Ending) : Prop :=
  ∃ (v : Value) (l : List α), x = .returned v ∧ OwnD M base e w' v l ∧ l.length ≤ 1000001 ∧ ∀ a ts, r = .ok a ts → l.map abs = a
theorem state_test {t : Tk} : (((textB t).toList == [115, 116, 97, 116, 101]) = (t.text == [115, 116, 97, 116, 101])) := by rw [ByteArray.toList_eq, textB_list]
set_option maxRecDepth 100000 in
set_option maxHeartbeats 16000000 in
theorem clause_any {E : Env} {ts : List Tk} (w : World) (h : Rd E w ts (-1) 0) : Calls Tryz.prog 50 #[E.ptr] w fun x w' => OwnIs mkCond 43 CondR.abs w.heap.size w' (pClause ts) x ∧ Mv E w w' ∧ RdAt E w' (pClause ts) := by
  have HTK := Lib.hid (take_any _ h bOpen)
  have HLO := Lib.hid (h.lows E.r (.inl rfl))
  have HLI := Lib.hid (h.lows E.ib (.inr (.inr (.inl rfl))))
  have HLW := Lib.hid h.lows
  have H := Lib.hid h
  obtain ⟨i0, hi, hz0, hz1, hz2⟩ := info_parts Tryz.info43
  obtain ⟨Z, hZ⟩ : ∃ Z, pClause ts = Z := ⟨_, rfl⟩
  rw [hZ]
  have HZ := Lib.hid hZ
  clear h hZ
  cases hp : pTake bOpen ts with
  | bad q =>
    have HRR : Hid (Z = .bad q) := Lib.hid (by rw [← HZ.out]; unfold pClause; rw [hp]; rfl)
    rw [hp] at HTK
    clear HZ hp
    unfold Env.ptr at HTK ⊢
    unfold bOpen at HTK
    go_enter Tryz.func50, Tryz.ntmps50
    go_wp2_with fail
    refine HTK.out.mono ?_
    rintro x w1 ⟨⟨_, rfl⟩, hm, ts1, hr⟩
    have HM1 := Lib.hid hm
    have HR1 := Lib.hid hr
    have HTX := Lib.hid (text_err _ hr (by decide) 3)
    obtain ⟨c0, c1, c2, c3, c4, c5⟩ := six_boxR hr.box
    unfold Env.ptr at HTX
    clear hm hr
    by_cases hk : (headT ts1).kind = 1
    · have e1 : (((headT ts1).kind : Int) == 1) = true := by simp [hk]
      clear hk
      cases e2 : (textB (headT ts1)).toList == [115, 116, 97, 116, 101] with
      | true =>
        go_wp2_with (go_at_call 30; refine HTX.out.mono ?_; rintro x w2 ⟨rfl, rfl⟩)
        go_ret
        exact ⟨⟨_, [], rfl, OwnD.nil _ _ _ _, by simp, by intro a t e; rw [HRR.out] at e; cases e⟩, HM1.out, by rw [HRR.out]; exact ⟨_, HR1.out⟩⟩
      | false =>
        go_wp2_with (go_at_call 30; refine HTX.out.mono ?_; rintro x w2 ⟨rfl, rfl⟩)
        go_ret
        exact ⟨⟨_, [], rfl, OwnD.nil _ _ _ _, by simp, by intro a t e; rw [HRR.out] at e; cases e⟩, HM1.out, by rw [HRR.out]; exact ⟨_, HR1.out⟩⟩
    · have e1 : (((headT ts1).kind : Int) == 1) = false := by simp; omega
      clear hk
      go_wp2_with (go_at_call 30; refine HTX.out.mono ?_; rintro x w2 ⟨rfl, rfl⟩)
      go_ret
      exact ⟨⟨_, [], rfl, OwnD.nil _ _ _ _, by simp, by intro a t e; rw [HRR.out] at e; cases e⟩, HM1.out, by rw [HRR.out]; exact ⟨_, HR1.out⟩⟩
  | ok _ ts1 =>
    have HZ1 : Hid (Z = (pText 3 (if goalHere (headT ts1) then ts1.tail else ts1)).bind fun id ts2 => pEnds (pItem id (goalHere (headT ts1))) bShut ts2) := Lib.hid (by rw [← HZ.out]; unfold pClause; rw [hp]; rfl)
    rw [hp] at HTK
    clear HZ hp
    unfold Env.ptr at HTK ⊢
    unfold bOpen at HTK
    go_enter Tryz.func50, Tryz.ntmps50
    go_wp2_with fail
    refine HTK.out.mono ?_
    rintro x w1 ⟨⟨_, rfl⟩, hm, hr⟩
    have HM1 := Lib.hid hm
    have HR1 : Hid (Rd E w1 ts1 (-1) 0) := Lib.hid hr
    obtain ⟨c0, c1, c2, c3, c4, c5⟩ := six_boxR HR1.out.box
    clear hm hr HTK
    by_cases hk : (headT ts1).kind = 1
    · have e1 : (((headT ts1).kind : Int) == 1) = true := by simp [hk]
      cases ht : (headT ts1).text == [115, 116, 97, 116, 101] with
      | true =>
        have e2 : ((textB (headT ts1)).toList == [115, 116, 97, 116, 101]) = true := by rw [state_test]; exact ht
        have hg : goalHere (headT ts1) = true := by unfold goalHere; simp only [hk, ht]; rfl
        have HST := Lib.hid (step_any w1 HR1.out ⟨by omega, by omega⟩)
        rw [hg] at HZ1
        simp only [if_true] at HZ1
        clear hg ht hk
        unfold Env.ptr at HST
        go_wp2_with fail
        refine HST.out.mono ?_
        rintro x w2 ⟨⟨_, rfl⟩, hm, hr⟩
        have HM2 := Lib.hid (HM1.out.trans hm)
        have HR2 := Lib.hid hr
        clear hm hr c0 c1 c2 c3 c4 c5 HST
        generalize ts1.tail = ts2 at *
        go_wp2_with fail
        have HTX := Lib.hid (text_any _ HR2.out 3 (by omega))
        unfold Env.ptr at HTX
        refine HTX.out.mono ?_
        rintro x w3 ⟨⟨id, rfl, hid, hiq⟩, hm, hr⟩
        have HM3 := Lib.hid (HM2.out.trans hm)
        clear hm HTX
        cases hp : pText 3 ts2 with
        | bad q =>
          rw [hp] at hr
          obtain ⟨ts3, hr⟩ := hr
          have HRR : Hid (Z = .bad q) := Lib.hid (by rw [HZ1.out, hp]; rfl)
          have HR3 := Lib.hid hr
          obtain ⟨c0, c1, c2, c3, c4, c5⟩ := six_boxR hr.box
          clear hr hp hiq
          go_wp2
          go_ret
          exact ⟨⟨_, [], rfl, OwnD.nil _ _ _ _, by simp, by intro a t e; rw [HRR.out] at e; cases e⟩, HM3.out, by rw [HRR.out]; exact ⟨_, HR3.out⟩⟩
        | ok id' ts3 =>
          rw [hp] at hr
          obtain rfl : id = id' := hiq _ _ hp
          obtain ⟨R, hR0⟩ : ∃ R, pEnds (pItem id true) bShut ts3 = R := ⟨_, rfl⟩
          have HZR : Hid (Z = R) := Lib.hid (by rw [HZ1.out, hp, ← hR0]; rfl)
          have HR0 := Lib.hid hR0
          have HR3 : Hid (Rd E w3 ts3 (-1) 0) := Lib.hid hr
          have HID := Lib.hid hid
          obtain ⟨c0, c1, c2, c3, c4, c5⟩ := six_boxR HR3.out.box
          have HIT := Lib.hid (item_any w3 HR3.out id true hid)
          have HLEN := Lib.hid HR3.out.len
          clear hr hp hiq HZ1 hid hR0
          unfold Env.ptr at HIT
          go_wp2_with fail
          refine HIT.out.mono ?_
          rintro x w4 ⟨⟨⟨yk, yg, yi, ya1, ya2, ya3, ya, yv1, yv2, yv3, yv, yacc, yc1, yc2, yc3, yc⟩, rfl, hmem, hin, hq⟩, hm, hr⟩
          have hg := Grows.first (M := mkCond) (e := 43) (abs := CondR.abs) (E := E) (w := w) (p := pItem id true) (stop := bShut) (ts := ts3) (u := CondR.mk yk yg yi ya1 ya2 ya3 ya yv1 yv2 yv3 yv yacc yc1 yc2 yc3 yc) (tmp := #[.int .i64 yk, .bool yg, .string yi, .slice ya1 ya2 ya3, .slice yv1 yv2 yv3, .bool yacc, .slice yc1 yc2 yc3]) (HM3.out.trans hm) rfl hmem (CondR.In.mono hin fun b hb => Nat.le_trans HM3.out.size hb) HLEN.out (pItem_eats id true) hr hq
          rw [HR0.out] at hg
          obtain ⟨n0, hg⟩ := hg
          have HG := Lib.hid hg
          clear hg hmem hin hq hm hr HIT HM1 HM2 HM3 HR3 HLEN c0 c1 c2 c3 c4 c5
          unfold CondR.val
          simp only
          go_wp2
          go_loopg [5] n0 (fun gk v wr => ∃ l : List CondR, Hid (Grows mkCond 43 CondR.abs E w R (pItem id true) bShut v l gk wr))
          case atStart => exact ⟨_, HG⟩
          case round =>
            clear HG
            obtain ⟨l, HG⟩ := hrel
            obtain ⟨ao, c, rfl, _⟩ := HG.out.deep
            rcases HG.out.goes with ⟨ts5, hr, hlen, hcnt, hR⟩ | ⟨ts5, q, hr, hR⟩
            · obtain ⟨c0, c1, c2, c3, c4, c5⟩ := six_boxR hr.box
              obtain ⟨gk, rfl⟩ : ∃ g, gk = g + 1 := ⟨gk - 1, by omega⟩
              have hI := is_any _ hr bShut
              cases hb : isB (headT ts5) bShut with
              | true =>
                rw [hb] at hI
                rw [rest_stop hb] at hR
                have hT := take_any _ hr bShut
                unfold pTake at hT
                rw [hb] at hT
                simp only [if_true, RdAt] at hT
                have HI := Lib.hid hI
                have HT := Lib.hid hT
                have HRR := Lib.hid (HZR.out.trans hR)
                have hll : l.length ≤ 1000001 := HG.out.len
                clear hR hr hlen hcnt hI hT hb
                unfold Env.ptr bShut at HI HT
                go_wp2_with (go_at_call 32; refine HI.out.mono ?_; rintro x w7 ⟨rfl, rfl⟩)
                refine HT.out.mono ?_
                rintro x w8 ⟨⟨_, rfl⟩, hm, hr⟩
                have HO8 := Lib.hid (HG.out.own.moved hm HLO.out HLI.out)
                have HM8 := Lib.hid (HG.out.mv.trans hm)
                have HR8 := Lib.hid hr
                clear hm hr c0 c1 c2 c3 c4 c5
                go_wp2
                go_ret
                exact ⟨⟨_, _, rfl, HO8.out, hll, by intro a t e; rw [HRR.out] at e; cases e; rfl⟩, HM8.out, by rw [HRR.out]; exact HR8.out⟩
              | false =>
                rw [hb] at hI
                have HT := Lib.hid (item_any wr hr id true HID.out)
                have HI := Lib.hid hI
                have HMR := Lib.hid (fun u w0 w' v' => Grows.more (u := u) (w0 := w0) (w' := w') (v' := v') HG.out HLW.out hlen hcnt hR hb (pItem_eats id true))
                have hll : l.length ≤ 1000000 := by simp at hcnt; omega
                clear hR hr hlen hcnt hI hb
                unfold Env.ptr at HI HT
                unfold bShut at HI
                go_wp2_with (go_at_call 32; refine HI.out.mono ?_; rintro x w7 ⟨rfl, rfl⟩)
                refine HT.out.mono ?_
                rintro x w8 ⟨⟨⟨zk, zg, zi, za1, za2, za3, za, zv1, zv2, zv3, zv, zacc, zc1, zc2, zc3, zc⟩, rfl, hmem, hin, hq⟩, hm, hr⟩
                have HM := Lib.hid hm
                have HMEM := Lib.hid hmem
                have HIN := Lib.hid hin
                have HQ := Lib.hid hq
                have HR8 := Lib.hid hr
                clear hm hmem hin hq hr
                unfold CondR.val
                simp only
                go_wp2_with (at_builtin; refine wpList_push3 rfl (.tmp 54) (.tmp 59) 23 rfl mkCond 43 i0 _ 112 Tryz.underlying23 hi hz0 hz1 hz2 rfl (by omega) (E := E) (w := w) (wr := wr) (w0 := w8) _ l (CondR.mk zk zg zi za1 za2 za3 za zv1 zv2 zv3 zv zacc zc1 zc2 zc3 zc) rfl HG.out.own HG.out.mv HM.out HLO.out HLI.out HMEM.out HIN.out hll _ rfl rfl rfl ?_; intro go' c' w9 ho9 hg9)
                have HN := Lib.hid (HMR.out _ _ _ _ HM.out HR8.out HQ.out ho9 hg9)
                clear ho9 hg9 c0 c1 c2 c3 c4 c5
                go_wp2
                go_roundg gk
                case rel => exact ⟨_, HN⟩
                case measure => omega
            · obtain ⟨c0, c1, c2, c3, c4, c5⟩ := six_boxR hr.box
              have HT := Lib.hid (take_err _ hr (by decide) bShut)
              have HRR := Lib.hid (HZR.out.trans hR)
              have HR := Lib.hid hr
              have hll : l.length ≤ 1000001 := HG.out.len
              clear hR hr
              unfold Env.ptr bShut at HT
              go_wp2_with fail
              refine HT.out.mono ?_
              rintro x w8 ⟨⟨_, rfl⟩, rfl⟩
              clear c0 c1 c2 c3 c4 c5
              go_wp2
              go_ret
              exact ⟨⟨_, _, rfl, HG.out.own, hll, by intro a t e; rw [HRR.out] at e; cases e⟩, HG.out.mv, by rw [HRR.out]; exact ⟨_, HR.out⟩⟩
      | false =>
        have e2 : ((textB (headT ts1)).toList == [115, 116, 97, 116, 101]) = false := by rw [state_test]; exact ht
        have hg : goalHere (headT ts1) = false := by unfold goalHere; simp only [hk, ht]; rfl
        rw [hg] at HZ1
        simp only [Bool.false_eq_true, if_false] at HZ1
        have HM2 := HM1
        have HR2 := HR1
        clear hg ht hk
        generalize hts2 : ts1 = ts2 at *
        go_wp2_with fail
        have HTX := Lib.hid (text_any _ HR2.out 3 (by omega))
        unfold Env.ptr at HTX
        refine HTX.out.mono ?_
        rintro x w3 ⟨⟨id, rfl, hid, hiq⟩, hm, hr⟩
        have HM3 := Lib.hid (HM2.out.trans hm)
        clear hm HTX
        cases hp : pText 3 ts2 with
        | bad q =>
          rw [hp] at hr
          obtain ⟨ts3, hr⟩ := hr
          have HRR : Hid (Z = .bad q) := Lib.hid (by rw [HZ1.out, hp]; rfl)
          have HR3 := Lib.hid hr
          obtain ⟨c0, c1, c2, c3, c4, c5⟩ := six_boxR hr.box
          clear hr hp hiq
          go_wp2
          go_ret
          exact ⟨⟨_, [], rfl, OwnD.nil _ _ _ _, by simp, by intro a t e; rw [HRR.out] at e; cases e⟩, HM3.out, by rw [HRR.out]; exact ⟨_, HR3.out⟩⟩
        | ok id' ts3 =>
          rw [hp] at hr
          obtain rfl : id = id' := hiq _ _ hp
          obtain ⟨R, hR0⟩ : ∃ R, pEnds (pItem id false) bShut ts3 = R := ⟨_, rfl⟩
          have HZR : Hid (Z = R) := Lib.hid (by rw [HZ1.out, hp, ← hR0]; rfl)
          have HR0 := Lib.hid hR0
          have HR3 : Hid (Rd E w3 ts3 (-1) 0) := Lib.hid hr
          have HID := Lib.hid hid
          obtain ⟨c0, c1, c2, c3, c4, c5⟩ := six_boxR HR3.out.box
          have HIT := Lib.hid (item_any w3 HR3.out id false hid)
          have HLEN := Lib.hid HR3.out.len
          clear hr hp hiq HZ1 hid hR0
          unfold Env.ptr at HIT
          go_wp2_with fail
          refine HIT.out.mono ?_
          rintro x w4 ⟨⟨⟨yk, yg, yi, ya1, ya2, ya3, ya, yv1, yv2, yv3, yv, yacc, yc1, yc2, yc3, yc⟩, rfl, hmem, hin, hq⟩, hm, hr⟩
          have hg := Grows.first (M := mkCond) (e := 43) (abs := CondR.abs) (E := E) (w := w) (p := pItem id false) (stop := bShut) (ts := ts3) (u := CondR.mk yk yg yi ya1 ya2 ya3 ya yv1 yv2 yv3 yv yacc yc1 yc2 yc3 yc) (tmp := #[.int .i64 yk, .bool yg, .string yi, .slice ya1 ya2 ya3, .slice yv1 yv2 yv3, .bool yacc, .slice yc1 yc2 yc3]) (HM3.out.trans hm) rfl hmem (CondR.In.mono hin fun b hb => Nat.le_trans HM3.out.size hb) HLEN.out (pItem_eats id false) hr hq
          rw [HR0.out] at hg
          obtain ⟨n0, hg⟩ := hg
          have HG := Lib.hid hg
          clear hg hmem hin hq hm hr HIT HM1 HM2 HM3 HR3 HLEN c0 c1 c2 c3 c4 c5
          unfold CondR.val
          simp only
          go_wp2
          go_loopg [5] n0 (fun gk v wr => ∃ l : List CondR, Hid (Grows mkCond 43 CondR.abs E w R (pItem id false) bShut v l gk wr))
          case atStart => exact ⟨_, HG⟩
          case round =>
            clear HG
            obtain ⟨l, HG⟩ := hrel
            obtain ⟨ao, c, rfl, _⟩ := HG.out.deep
            rcases HG.out.goes with ⟨ts5, hr, hlen, hcnt, hR⟩ | ⟨ts5, q, hr, hR⟩
            · obtain ⟨c0, c1, c2, c3, c4, c5⟩ := six_boxR hr.box
              obtain ⟨gk, rfl⟩ : ∃ g, gk = g + 1 := ⟨gk - 1, by omega⟩
              have hI := is_any _ hr bShut
              cases hb : isB (headT ts5) bShut with
              | true =>
                rw [hb] at hI
                rw [rest_stop hb] at hR
                have hT := take_any _ hr bShut
                unfold pTake at hT
                rw [hb] at hT
                simp only [if_true, RdAt] at hT
                have HI := Lib.hid hI
                have HT := Lib.hid hT
                have HRR := Lib.hid (HZR.out.trans hR)
                have hll : l.length ≤ 1000001 := HG.out.len
                clear hR hr hlen hcnt hI hT hb
                unfold Env.ptr bShut at HI HT
                go_wp2_with (go_at_call 32; refine HI.out.mono ?_; rintro x w7 ⟨rfl, rfl⟩)
                refine HT.out.mono ?_
                rintro x w8 ⟨⟨_, rfl⟩, hm, hr⟩
                have HO8 := Lib.hid (HG.out.own.moved hm HLO.out HLI.out)
                have HM8 := Lib.hid (HG.out.mv.trans hm)
                have HR8 := Lib.hid hr
                clear hm hr c0 c1 c2 c3 c4 c5
                go_wp2
                go_ret
                exact ⟨⟨_, _, rfl, HO8.out, hll, by intro a t e; rw [HRR.out] at e; cases e; rfl⟩, HM8.out, by rw [HRR.out]; exact HR8.out⟩
              | false =>
                rw [hb] at hI
                have HT := Lib.hid (item_any wr hr id false HID.out)
                have HI := Lib.hid hI
                have HMR := Lib.hid (fun u w0 w' v' => Grows.more (u := u) (w0 := w0) (w' := w') (v' := v') HG.out HLW.out hlen hcnt hR hb (pItem_eats id false))
                have hll : l.length ≤ 1000000 := by simp at hcnt; omega
                clear hR hr hlen hcnt hI hb
                unfold Env.ptr at HI HT
                unfold bShut at HI
                go_wp2_with (go_at_call 32; refine HI.out.mono ?_; rintro x w7 ⟨rfl, rfl⟩)
                refine HT.out.mono ?_
                rintro x w8 ⟨⟨⟨zk, zg, zi, za1, za2, za3, za, zv1, zv2, zv3, zv, zacc, zc1, zc2, zc3, zc⟩, rfl, hmem, hin, hq⟩, hm, hr⟩
                have HM := Lib.hid hm
                have HMEM := Lib.hid hmem
                have HIN := Lib.hid hin
                have HQ := Lib.hid hq
                have HR8 := Lib.hid hr
                clear hm hmem hin hq hr
                unfold CondR.val
                simp only
                go_wp2_with (at_builtin; refine wpList_push3 rfl (.tmp 54) (.tmp 59) 23 rfl mkCond 43 i0 _ 112 Tryz.underlying23 hi hz0 hz1 hz2 rfl (by omega) (E := E) (w := w) (wr := wr) (w0 := w8) _ l (CondR.mk zk zg zi za1 za2 za3 za zv1 zv2 zv3 zv zacc zc1 zc2 zc3 zc) rfl HG.out.own HG.out.mv HM.out HLO.out HLI.out HMEM.out HIN.out hll _ rfl rfl rfl ?_; intro go' c' w9 ho9 hg9)
                have HN := Lib.hid (HMR.out _ _ _ _ HM.out HR8.out HQ.out ho9 hg9)
                clear ho9 hg9 c0 c1 c2 c3 c4 c5
                go_wp2
                go_roundg gk
                case rel => exact ⟨_, HN⟩
                case measure => omega
            · obtain ⟨c0, c1, c2, c3, c4, c5⟩ := six_boxR hr.box
              have HT := Lib.hid (take_err _ hr (by decide) bShut)
              have HRR := Lib.hid (HZR.out.trans hR)
              have HR := Lib.hid hr
              have hll : l.length ≤ 1000001 := HG.out.len
              clear hR hr
              unfold Env.ptr bShut at HT
              go_wp2_with fail
              refine HT.out.mono ?_
              rintro x w8 ⟨⟨_, rfl⟩, rfl⟩
              clear c0 c1 c2 c3 c4 c5
              go_wp2
              go_ret
              exact ⟨⟨_, _, rfl, HG.out.own, hll, by intro a t e; rw [HRR.out] at e; cases e⟩, HG.out.mv, by rw [HRR.out]; exact ⟨_, HR.out⟩⟩
    · have e1 : (((headT ts1).kind : Int) == 1) = false := by simp; omega
      have hg : goalHere (headT ts1) = false := by unfold goalHere; simp [hk]
      rw [hg] at HZ1
      simp only [Bool.false_eq_true, if_false] at HZ1
      have HM2 := HM1
      have HR2 := HR1
      clear hg hk
      generalize hts2 : ts1 = ts2 at *
      go_wp2_with fail
      have HTX := Lib.hid (text_any _ HR2.out 3 (by omega))
      unfold Env.ptr at HTX
      refine HTX.out.mono ?_
      rintro x w3 ⟨⟨id, rfl, hid, hiq⟩, hm, hr⟩
      have HM3 := Lib.hid (HM2.out.trans hm)
      clear hm HTX
      cases hp : pText 3 ts2 with
      | bad q =>
        rw [hp] at hr
        obtain ⟨ts3, hr⟩ := hr
        have HRR : Hid (Z = .bad q) := Lib.hid (by rw [HZ1.out, hp]; rfl)
        have HR3 := Lib.hid hr
        obtain ⟨c0, c1, c2, c3, c4, c5⟩ := six_boxR hr.box
        clear hr hp hiq
        go_wp2
        go_ret
        exact ⟨⟨_, [], rfl, OwnD.nil _ _ _ _, by simp, by intro a t e; rw [HRR.out] at e; cases e⟩, HM3.out, by rw [HRR.out]; exact ⟨_, HR3.out⟩⟩
      | ok id' ts3 =>
        rw [hp] at hr
        obtain rfl : id = id' := hiq _ _ hp
        obtain ⟨R, hR0⟩ : ∃ R, pEnds (pItem id false) bShut ts3 = R := ⟨_, rfl⟩
        have HZR : Hid (Z = R) := Lib.hid (by rw [HZ1.out, hp, ← hR0]; rfl)
        have HR0 := Lib.hid hR0
        have HR3 : Hid (Rd E w3 ts3 (-1) 0) := Lib.hid hr
        have HID := Lib.hid hid
        obtain ⟨c0, c1, c2, c3, c4, c5⟩ := six_boxR HR3.out.box
        have HIT := Lib.hid (item_any w3 HR3.out id false hid)
        have HLEN := Lib.hid HR3.out.len
        clear hr hp hiq HZ1 hid hR0
        unfold Env.ptr at HIT
        go_wp2_with fail
        refine HIT.out.mono ?_
        rintro x w4 ⟨⟨⟨yk, yg, yi, ya1, ya2, ya3, ya, yv1, yv2, yv3, yv, yacc, yc1, yc2, yc3, yc⟩, rfl, hmem, hin, hq⟩, hm, hr⟩
        have hg := Grows.first (M := mkCond) (e := 43) (abs := CondR.abs) (E := E) (w := w) (p := pItem id false) (stop := bShut) (ts := ts3) (u := CondR.mk yk yg yi ya1 ya2 ya3 ya yv1 yv2 yv3 yv yacc yc1 yc2 yc3 yc) (tmp := #[.int .i64 yk, .bool yg, .string yi, .slice ya1 ya2 ya3, .slice yv1 yv2 yv3, .bool yacc, .slice yc1 yc2 yc3]) (HM3.out.trans hm) rfl hmem (CondR.In.mono hin fun b hb => Nat.le_trans HM3.out.size hb) HLEN.out (pItem_eats id false) hr hq
        rw [HR0.out] at hg
        obtain ⟨n0, hg⟩ := hg
        have HG := Lib.hid hg
        clear hg hmem hin hq hm hr HIT HM1 HM2 HM3 HR3 HLEN c0 c1 c2 c3 c4 c5
        unfold CondR.val
        simp only
        go_wp2
        go_loopg [5] n0 (fun gk v wr => ∃ l : List CondR, Hid (Grows mkCond 43 CondR.abs E w R (pItem id false) bShut v l gk wr))
        case atStart => exact ⟨_, HG⟩
        case round =>
          clear HG
          obtain ⟨l, HG⟩ := hrel
          obtain ⟨ao, c, rfl, _⟩ := HG.out.deep
          rcases HG.out.goes with ⟨ts5, hr, hlen, hcnt, hR⟩ | ⟨ts5, q, hr, hR⟩
          · obtain ⟨c0, c1, c2, c3, c4, c5⟩ := six_boxR hr.box
            obtain ⟨gk, rfl⟩ : ∃ g, gk = g + 1 := ⟨gk - 1, by omega⟩
            have hI := is_any _ hr bShut
            cases hb : isB (headT ts5) bShut with
            | true =>
              rw [hb] at hI
              rw [rest_stop hb] at hR
              have hT := take_any _ hr bShut
              unfold pTake at hT
              rw [hb] at hT
              simp only [if_true, RdAt] at hT
              have HI := Lib.hid hI
              have HT := Lib.hid hT
              have HRR := Lib.hid (HZR.out.trans hR)
              have hll : l.length ≤ 1000001 := HG.out.len
              clear hR hr hlen hcnt hI hT hb
              unfold Env.ptr bShut at HI HT
              go_wp2_with (go_at_call 32; refine HI.out.mono ?_; rintro x w7 ⟨rfl, rfl⟩)
              refine HT.out.mono ?_
              rintro x w8 ⟨⟨_, rfl⟩, hm, hr⟩
              have HO8 := Lib.hid (HG.out.own.moved hm HLO.out HLI.out)
              have HM8 := Lib.hid (HG.out.mv.trans hm)
              have HR8 := Lib.hid hr
              clear hm hr c0 c1 c2 c3 c4 c5
              go_wp2
              go_ret
              exact ⟨⟨_, _, rfl, HO8.out, hll, by intro a t e; rw [HRR.out] at e; cases e; rfl⟩, HM8.out, by rw [HRR.out]; exact HR8.out⟩
            | false =>
              rw [hb] at hI
              have HT := Lib.hid (item_any wr hr id false HID.out)
              have HI := Lib.hid hI
              have HMR := Lib.hid (fun u w0 w' v' => Grows.more (u := u) (w0 := w0) (w' := w') (v' := v') HG.out HLW.out hlen hcnt hR hb (pItem_eats id false))
              have hll : l.length ≤ 1000000 := by simp at hcnt; omega
              clear hR hr hlen hcnt hI hb
              unfold Env.ptr at HI HT
              unfold bShut at HI
              go_wp2_with (go_at_call 32; refine HI.out.mono ?_; rintro x w7 ⟨rfl, rfl⟩)
              refine HT.out.mono ?_
              rintro x w8 ⟨⟨⟨zk, zg, zi, za1, za2, za3, za, zv1, zv2, zv3, zv, zacc, zc1, zc2, zc3, zc⟩, rfl, hmem, hin, hq⟩, hm, hr⟩
              have HM := Lib.hid hm
              have HMEM := Lib.hid hmem
              have HIN := Lib.hid hin
              have HQ := Lib.hid hq
              have HR8 := Lib.hid hr
              clear hm hmem hin hq hr
              unfold CondR.val
              simp only
              go_wp2_with (at_builtin; refine wpList_push3 rfl (.tmp 54) (.tmp 59) 23 rfl mkCond 43 i0 _ 112 Tryz.underlying23 hi hz0 hz1 hz2 rfl (by omega) (E := E) (w := w) (wr := wr) (w0 := w8) _ l (CondR.mk zk zg zi za1 za2 za3 za zv1 zv2 zv3 zv zacc zc1 zc2 zc3 zc) rfl HG.out.own HG.out.mv HM.out HLO.out HLI.out HMEM.out HIN.out hll _ rfl rfl rfl ?_; intro go' c' w9 ho9 hg9)
              have HN := Lib.hid (HMR.out _ _ _ _ HM.out HR8.out HQ.out ho9 hg9)
              clear ho9 hg9 c0 c1 c2 c3 c4 c5
              go_wp2
              go_roundg gk
              case rel => exact ⟨_, HN⟩
              case measure => omega
          · obtain ⟨c0, c1, c2, c3, c4, c5⟩ := six_boxR hr.box
            have HT := Lib.hid (take_err _ hr (by decide) bShut)
            have HRR := Lib.hid (HZR.out.trans hR)
            have HR := Lib.hid hr
            have hll : l.length ≤ 1000001 := HG.out.len
            clear hR hr
            unfold Env.ptr bShut at HT
            go_wp2_with fail
            refine HT.out.mono ?_
            rintro x w8 ⟨⟨_, rfl⟩, rfl⟩
            clear c0 c1 c2 c3 c4 c5
            go_wp2
            go_ret
            exact ⟨⟨_, _, rfl, HG.out.own, hll, by intro a t e; rw [HRR.out] at e; cases e⟩, HG.out.mv, by rw [HRR.out]; exact ⟨_, HR.out⟩⟩
end Go.Proofs.YtgeaccoobhigcaaGreat
namespace Go.Proofs.YtgeaccoobhigcaaGreat
open Go Go.RowKit
section
variable {α : Type} {M : Make α} {base : Nat} {e : TypeId} {w w' : World} {v : Value} {l : List α}
theorem OwnD.pushes {w1 : World} {v' : Value} {m : Nat} {l2 : List α} {K : Nat → Prop} (h : OwnD M base e w v l) (hm : m = l.length + l2.length) (hown : w1.ownsRow base e M.size v' m (l.flatMap M.cells ++ l2.flatMap M.cells))
    (hg : w.grownBy w1 v.ownBlock) (hv : v'.ownBlock = v.ownBlock ∨ v'.ownBlock = some w.heap.size) (hx : ∀ x ∈ l2, M.ok w x) (hxk : ∀ x ∈ l2, M.inK K x) (hK : ∀ b, K b → b < w.heap.size → base ≤ b ∧ some b ≠ v.ownBlock) :
    OwnD M base e w1 v' (l ++ l2) := by
  have hsz := hg.size
  have hlt : ∀ g, v'.ownBlock = some g → g < w1.heap.size := fun g hg => (hown.lt _ hg).2
  have hstep : ∀ a, M.inK (fun b => base ≤ b ∧ b < w.heap.size ∧ some b ≠ v.ownBlock) a → M.inK (fun b => base ≤ b ∧ b < w1.heap.size ∧ some b ≠ v'.ownBlock) a := fun a ha => M.mono ha fun b hb => ⟨hb.1, by omega, by
    rcases hv with hv | hv
    · rw [hv]; exact hb.2.2
    · rw [hv]; intro e; injection e with e; omega⟩
  have hs : SameIn (fun b => base ≤ b ∧ b < w.heap.size ∧ some b ≠ v.ownBlock) w w1 := fun b hb hl => hg.block b hl hb.2.2
  have hx' : ∀ x ∈ l2, M.inK (fun b => base ≤ b ∧ b < w.heap.size ∧ some b ≠ v.ownBlock) x := fun x hx2 => M.mono (M.lt (hx x hx2) (hxk x hx2)) fun b hb => ⟨(hK b hb.1 hb.2).1, hb.2, (hK b hb.1 hb.2).2⟩
  refine ⟨by simpa [hm] using hown, fun a ha => ?_, fun a ha => ?_⟩
  · rcases List.mem_append.1 ha with ha | ha
    · exact M.same (h.ok a ha) (h.ink a ha) hs
    · exact M.same (hx a ha) (hx' a ha) hs
  · rcases List.mem_append.1 ha with ha | ha
    · exact hstep a (h.ink a ha)
    · exact hstep a (hx' a ha)
theorem run_append_none {P : Program} {t e : TypeId} {i : TypeInfo} (ty : TypeId) (ht : P.underlying t = some (.slice e)) (hi : P.info? e = some i) (hown : w.ownsRow base e M.size v l.length (l.flatMap M.cells)) :
    (Builtin.append_ #[t, t] ty #[v, .slice none 0 0]).run P w = .ok v w := by
  rcases hown.2 with ⟨rfl, _⟩ | ⟨g, cap, cur, rfl, _, hg, hn, _⟩
  · simp [Builtin.append_, run_underlying ht, sizeOf, typeInfo, hi, Builtin.lenOf, Builtin.firstCells]
  · simp [Builtin.append_, run_underlying ht, sizeOf, typeInfo, hi, Builtin.lenOf, Builtin.firstCells, loadCells, storeCells, hn]
theorem wpList_pushes {P : Program} {ops : Array Oper} {rest : List Oper} {o : Oper} {a : Act} {Q : Exit → Act → World → Prop} (hgd : o.guard = none) (s x : Operand) (t : TypeId)
    (ho : o.op = .call { callee := .builtin .append, args := #[s, x], argTypes := #[t, t] })
    (M : Make α) (e : TypeId) (i : TypeInfo) (z : Value) (bytes : Nat) (ht : P.underlying t = some (.slice e)) (hi : P.info? e = some i) (hz : i.zero = some z)
    (hsize : i.size = M.size) (hby : i.bytes = bytes) (hzs : z.cells.size = M.size) (hbytes : bytes ≤ 1000) {E : Env} {w wr w0 : World}
    (v v2 : Value) (l l2 : List α) (hs : a.eval s = v) (hx : a.eval x = v2) (hown : OwnD M w.heap.size e wr v l) (hm : Mv E w wr) (hm2 : Mv E wr w0) (hr : E.r < w.heap.size) (hib : E.ib < w.heap.size)
    (hown2 : OwnD M wr.heap.size e w0 v2 l2) (hln : l.length ≤ 1000000) (hln2 : l2.length ≤ 1000001)
    (h : ∀ v' w', OwnD M w.heap.size e w' v' (l ++ l2) → w0.grownBy w' v.ownBlock → wpList P ops Q rest (a.put o.dst v') w') : wpList P ops Q (o :: rest) a w0 := by
  have hO := hown.moved hm2 hr hib
  have hvl : ∀ b, v.ownBlock = some b → b < wr.heap.size := fun b e => (hown.own.lt b e).2
  have hbase : w.heap.size ≤ w0.heap.size := Nat.le_trans hm.size hm2.size
  refine wpList_plain hgd fun Z hZ => ?_
  unfold Oper.wp execOp
  rcases hown2.own.2 with ⟨rfl, hl2⟩ | ⟨g, cap, cur, rfl, hb, hg, hn, hc, hsz, htake⟩
  · have : l2 = [] := List.eq_nil_of_length_eq_zero hl2
    subst this
    have hrun := run_append_none (P := P) (w := w0) (i := i) o.type ht hi hO.own
    simp only [ho, resolve, invoke, builtin, Sem.run_bind, Sem.run_pure, Result.andThen_ok, List.map_toArray, List.map_cons, List.map_nil, hs, hx, hrun]
    exact hZ _ _ (h v w0 (by simpa using hO) (grownBy_refl _ _))
  · have hcell : ∀ j u, (l2.flatMap M.cells)[j]? = some u → w0.cell? ((⟨g, 0, none⟩ : Addr).add j) = some u := by
      have h2 : CellsAt w0 ⟨g, 0, none⟩ (l2.flatMap M.cells) := CellsAt.of_block hg 0 _ fun j u hj => by
        rw [← htake, List.getElem?_take] at hj
        split at hj
        · rw [Nat.zero_add]; simpa using hj
        · cases hj
      exact h2
    have hone : ∀ u ∈ l2.flatMap M.cells, u.oneCell' = true := fun u hu => by
      obtain ⟨a, _, ha⟩ := List.mem_flatMap.1 hu
      exact M.one a u ha
    obtain ⟨v', w', hrun, h2, h3, _, h5⟩ := run_append_own_at (P := P) w0 w.heap.size t o.type e i z M.size bytes ht hi hz hsize hby hzs M.pos v l.length (l.flatMap M.cells) hO.own ⟨g, 0, none⟩ l2.length cap (l2.flatMap M.cells) (rows_length M.len _) hcell hone (by unfold maxLen; omega)
      (by have := Nat.mul_le_mul (show l.length + l2.length ≤ 2000001 by omega) hbytes; omega) hbase
    simp only [ho, resolve, invoke, builtin, Sem.run_bind, Sem.run_pure, Result.andThen_ok, List.map_toArray, List.map_cons, List.map_nil, hs, hx, hrun]
    refine hZ _ _ (h v' w' (hO.pushes (K := fun b => wr.heap.size ≤ b) rfl h2 h3 h5 hown2.ok (fun x hx => M.mono (hown2.ink x hx) fun b hb => hb.1) fun b hb _ => ⟨Nat.le_trans hm.size hb, fun e => ?_⟩) h3)
    have := hvl b e.symm
    omega
end
/-- What comes of the rest: what was read stands ahead. -/
def contF (p : Pr (List Cd)) (stop : ByteArray) (n : Nat) (acc : List Cd) (ts : List Tk) : Rs (List Cd) := (pMany p stop n ts).bind fun m t => .ok (acc ++ m.flatten) t
/-- The conditions up to a sign. -/
def pConds (n : Nat) (stop : ByteArray) : Pr (List Cd) := fun ts => (pMany1 (pCond n) stop ts).bind fun l t => .ok l.flatten t
section
variable {p : Pr (List Cd)} {stop : ByteArray} {n : Nat} {acc a : List Cd} {ts ts' : List Tk} {q : Nat}
theorem contF_first {k : Nat} (h : pCond k ts = .ok a ts') : pConds k stop ts = contF (pCond k) stop (ts'.length + 1) a ts' := by
  unfold pConds pMany1 contF
  rw [h]
  simp only [Rs.bind]
  cases pMany (pCond k) stop (ts'.length + 1) ts' with
  | bad q => rfl
  | ok m t => rfl
theorem contF_first_bad {k : Nat} (h : pCond k ts = .bad q) : pConds k stop ts = .bad q := by
  unfold pConds pMany1
  rw [h]
  rfl
theorem contF_next (hs : isB (headT ts) stop = false) (h : p ts = .ok a ts') : contF p stop (n + 1) acc ts = contF p stop n (acc ++ a) ts' := by
  unfold contF
  conv => lhs; unfold pMany
  rw [hs, h]
  simp only [Bool.false_eq_true, if_false, Rs.bind]
  cases pMany p stop n ts' with
  | bad q => rfl
  | ok m t => simp
theorem contF_bad (hs : isB (headT ts) stop = false) (h : p ts = .bad q) : contF p stop (n + 1) acc ts = .bad q := by
  unfold contF
  conv => lhs; unfold pMany
  rw [hs, h]
  rfl
theorem contF_stop (hs : isB (headT ts) stop = true) : contF p stop (n + 1) acc ts = .ok acc ts := by
  unfold contF
  conv => lhs; unfold pMany
  rw [hs]
  simp [Rs.bind]
end
/-- No more are read than there are tokens. -/
theorem pMany_count {α : Type} {p : Pr α} (hp : Eats p) (stop : ByteArray) : ∀ (n : Nat) (ts : List Tk) (l : List α) (ts' : List Tk), pMany p stop n ts = .ok l ts' → l.length + ts'.length ≤ ts.length
  | 0, ts, a, ts', h => absurd h bad_not
  | n + 1, ts, a, ts', h => by
    unfold pMany at h
    split at h
    · cases h; simp
    · obtain ⟨x, t, h1, h2⟩ := bind_ok.1 h
      obtain ⟨l, t2, h3, h4⟩ := bind_ok.1 h2
      cases h4
      have := hp _ _ _ h1
      have := pMany_count hp stop n _ _ _ h3
      simp only [List.length_cons]
      omega
theorem pEnds_count {α : Type} {p : Pr α} (hp : Eats p) {stop : ByteArray} {ts : List Tk} {l : List α} {ts' : List Tk} (h : pEnds p stop ts = .ok l ts') : l.length + ts'.length ≤ ts.length := by
  obtain ⟨x, t, h1, h2⟩ := bind_ok.1 h
  obtain ⟨y, t1, h3, h4⟩ := bind_ok.1 h1
  obtain ⟨z, t2, h5, h6⟩ := bind_ok.1 h4
  obtain ⟨_, t3, h7, h8⟩ := bind_ok.1 h2
  cases h6
  cases h8
  have := hp _ _ _ h3
  have := pMany_count hp stop _ _ _ _ h5
  have := pTake_eats _ _ _ _ h7
  simp only [List.length_cons]
  omega
theorem pClause_count {ts : List Tk} {l : List Cd} {ts' : List Tk} (h : pClause ts = .ok l ts') : l.length + ts'.length ≤ ts.length := by
  obtain ⟨_, t1, h1, h⟩ := bind_ok.1 h
  obtain ⟨x, t2, h2, h⟩ := bind_ok.1 h
  have := pTake_eats _ _ _ _ h1
  have := if_tail (goalHere (headT t1)) t1
  have := pText_eats 3 (by omega) _ _ _ h2
  have := pEnds_count (pItem_eats x _) h
  omega
theorem negOf_length (l : List Cd) : (negOf l).length = 1 := by
  unfold negOf
  split
  · split <;> rfl
  · rfl
theorem pCond_count : ∀ (n : Nat) (ts : List Tk) (l : List Cd) (ts' : List Tk), pCond n ts = .ok l ts' → l.length + ts'.length ≤ ts.length
  | 0, ts, a, ts', h => absurd h bad_not
  | n + 1, ts, a, ts', h => by
    have h1 := tail_len ts
    have h2 := tail_len ts.tail
    unfold pCond at h
    split at h
    · split at h
      · obtain ⟨x, t, h3, h⟩ := bind_ok.1 h
        cases h
        have := pEnds_eats (pCond_eats n) _ _ _ _ h3
        simp only [List.length_cons, List.length_nil]
        omega
      · obtain ⟨x, t, h3, h⟩ := bind_ok.1 h
        cases h
        have := pClause_eats _ _ _ h3
        rw [negOf_length]
        omega
    · exact pClause_count h
end Go.Proofs.YtgeaccoobhigcaaGreat
namespace Go.Proofs.YtgeaccoobhigcaaGreat
open Go Go.RowKit
/-- Conditions that the call has made come back; where it goes wrong, some conditions. -/
def OwnAny (base : Nat) (w' : World) (r : Rs (List Cd)) (x : Ending) : Prop := ∃ (v : Value) (l : List CondR), x = .returned v ∧ OwnD mkCond base 43 w' v l ∧ ∀ a ts, r = .ok a ts → l.map CondR.abs = a
def CondsSpec (n : Nat) : Prop := ∀ (E : Env) (w : World) (ts : List Tk) (stop : ByteArray), Rd E w ts (-1) 0 → ts.length < n →
  Calls Tryz.prog 31 #[E.ptr, .string stop] w fun x w' => OwnAny w.heap.size w' (pConds n stop ts) x ∧ Mv E w w' ∧ RdAt E w' (pConds n stop ts)
def NegSpec (n : Nat) : Prop := ∀ (E : Env) (w : World) (ts : List Tk), Rd E w ts (-1) 0 → ts.length < n + 1 → isB (headT ts) bMinus = true →
  Calls Tryz.prog 49 #[E.ptr] w fun x w' => OwnIs mkCond 43 CondR.abs w.heap.size w' (pCond (n + 1) ts) x ∧ Mv E w w' ∧ RdAt E w' (pCond (n + 1) ts)
theorem all_own {E : Env} {w w5 : World} {ao : Option Addr} {c : Nat} {l : List CondR} (hm : Mv E w w5) (hd : Deep mkCond (fun b => w.heap.size ≤ b) w5 ao l.length c l) :
    OwnD mkCond w.heap.size 43 (w5.alloc (.cells #[.int .i64 3, .bool false, .string ⟨#[]⟩, .slice none 0 0, .slice none 0 0, .bool false, .slice ao l.length c] 43)) (.slice (some ⟨w5.heap.size, 0, none⟩) 1 1) [.mk 3 false ⟨#[]⟩ none 0 0 [] none 0 0 [] false ao l.length c l] :=
  OwnD.one mkCond 43 (tmp := #[.int .i64 3, .bool false, .string ⟨#[]⟩, .slice none 0 0, .slice none 0 0, .bool false, .slice ao l.length c]) (CondR.mk 3 false ⟨#[]⟩ none 0 0 [] none 0 0 [] false ao l.length c l) rfl hm.size (CondR.Mem.mk (nil_strings _ rfl) ⟨SlR.nil _ _, by simp⟩ ⟨SlR.nil _ _, by simp⟩ hd.sl hd.ok)
    (CondR.In.mk (InB.zero _) (by simp) (InB.zero _) (by simp) hd.inb hd.ink)
theorem all_abs {ao : Option Addr} {n c : Nat} {l : List CondR} {fl : List Cd} (h : l.map CondR.abs = fl) : [CondR.mk 3 false ⟨#[]⟩ none 0 0 [] none 0 0 [] false ao n c l].map CondR.abs = [allOf fl] := by
  simp only [List.map_cons, List.map_nil, CondR.abs, absL_map, h]
  rfl
theorem neg_all {n : Nat} {ts : List Tk} : (pEnds (pCond n) bRight ts).bind (fun l t => .ok [allOf l.flatten] t) = (pConds n bRight ts).bind fun fl t => (pTake bRight t).bind fun _ t' => .ok [allOf fl] t' := by
  unfold pEnds pConds
  cases pMany1 (pCond n) bRight ts with
  | bad q => rfl
  | ok l t =>
    simp only [Rs.bind]
    cases pTake bRight t with
    | bad q => rfl
    | ok _ t' => rfl
theorem OwnD.rebase {α : Type} {M : Make α} {base base' : Nat} {e : TypeId} {w : World} {v : Value} {l : List α} (h : OwnD M base e w v l) (hb : base' ≤ base) : OwnD M base' e w v l := by
  refine ⟨⟨h.own.1, ?_⟩, h.ok, fun a ha => M.mono (h.ink a ha) fun b hk => ⟨Nat.le_trans hb hk.1, hk.2⟩⟩
  rcases h.own.2 with h2 | ⟨g, cap, cur, hv, hbg, h3⟩
  · exact .inl h2
  · exact .inr ⟨g, cap, cur, hv, Nat.le_trans hb hbg, h3⟩
theorem OwnD.head {base : Nat} {w : World} {v : Value} {k : Int} {g : Bool} {id : ByteArray} {aa : Option Addr} {an ac : Nat} {al : List TestR} {va : Option Addr} {vn vc : Nat} {vl : List TestR} {acc : Bool} {ca : Option Addr} {cn cc : Nat} {cs : List CondR}
    (h : OwnD mkCond base 43 w v [.mk k g id aa an ac al va vn vc vl acc ca cn cc cs]) : ∃ b c, v = .slice (some ⟨b, 0, none⟩) 1 c ∧ base ≤ b ∧ 1 ≤ c ∧ w.cell? ⟨b, 0, none⟩ = some (.int .i64 k) ∧ w.frozen? ⟨b, 0, none⟩ = false ∧
      ∀ k', OwnD mkCond base 43 (w.setCell ⟨b, 0, none⟩ (.int .i64 k')) v [.mk k' g id aa an ac al va vn vc vl acc ca cn cc cs] := by
  rcases h.own.2 with ⟨_, h0⟩ | ⟨b, cap, cur, rfl, hb, hg, hn, hc, hsz, htake⟩
  · simp at h0
  · have hcs : cur.toList.take 7 = [.int .i64 k, .bool g, .string id, .slice aa an ac, .slice va vn vc, .bool acc, .slice ca cn cc] := by
      have := htake
      simp only [List.flatMap_cons, List.flatMap_nil, List.append_nil, List.length_cons, List.length_nil] at this
      exact this
    have h0 : cur[0]? = some (.int .i64 k) := by
      have : (cur.toList.take 7)[0]? = some (.int .i64 k) := by rw [hcs]; rfl
      rw [List.getElem?_take] at this
      simpa using this
    refine ⟨b, cap, rfl, hb, hn, ?_, ?_, fun k' => ?_⟩
    · rw [cell_of_row w b 0 cur 43 (0, 0) hg]; exact h0
    · simp [World.frozen?, hg]
    · have hset := setCell_eq_setRow w b 0 cur 43 (0, 0) (.int .i64 k') hg
      have hrow : (w.setCell ⟨b, 0, none⟩ (.int .i64 k')).heap[b]? = some (.cells (cur.setIfInBounds 0 (.int .i64 k')) 43 (0, 0)) := by rw [hset]; exact setRow_heap w b cur _ 43 _ hg
      have hgr := grownBy_setCell w ⟨b, 0, none⟩ (.int .i64 k')
      have hm : CondR.Mem w (.mk k g id aa an ac al va vn vc vl acc ca cn cc cs) := h.ok _ (List.mem_singleton.2 rfl)
      have hi : CondR.In (fun x => base ≤ x ∧ x < w.heap.size ∧ some x ≠ (Value.slice (some ⟨b, 0, none⟩) 1 cap).ownBlock) (.mk k g id aa an ac al va vn vc vl acc ca cn cc cs) := h.ink _ (List.mem_singleton.2 rfl)
      have hs : SameIn (fun x => base ≤ x ∧ x < w.heap.size ∧ some x ≠ (Value.slice (some ⟨b, 0, none⟩) 1 cap).ownBlock) w (w.setCell ⟨b, 0, none⟩ (.int .i64 k')) := sameIn_of_grown hgr fun x hx e => hx.2.2 (by simpa [Value.ownBlock] using e)
      have hm2 : CondR.Mem _ (.mk k g id aa an ac al va vn vc vl acc ca cn cc cs) := CondR.Mem.same hs hm hi
      refine ⟨⟨by simp [mkCond, CondR.cells], .inr ⟨b, cap, _, rfl, hb, hrow, hn, hc, by simpa using hsz, ?_⟩⟩, fun a ha => ?_, fun a ha => ?_⟩
      · simp only [List.flatMap_cons, List.flatMap_nil, List.append_nil]
        show ((cur.setIfInBounds 0 (.int .i64 k')).toList.take 7) = [.int .i64 k', .bool g, .string id, .slice aa an ac, .slice va vn vc, .bool acc, .slice ca cn cc]
        rw [Array.toList_setIfInBounds, List.take_set, hcs]
        rfl
      · rw [List.mem_singleton.1 ha]
        cases hm2 with
        | mk p1 p2 p3 p4 p5 => exact .mk p1 p2 p3 p4 p5
      · rw [List.mem_singleton.1 ha]
        have hi2 : CondR.In (fun x => base ≤ x ∧ x < (w.setCell ⟨b, 0, none⟩ (.int .i64 k')).heap.size ∧ some x ≠ (Value.slice (some ⟨b, 0, none⟩) 1 cap).ownBlock) (.mk k g id aa an ac al va vn vc vl acc ca cn cc cs) := CondR.In.mono hi fun x hx => ⟨hx.1, Nat.lt_of_lt_of_le hx.2.1 hgr.size, hx.2.2⟩
        cases hi2 with
        | mk p1 p2 p3 p4 p5 p6 => exact .mk p1 p2 p3 p4 p5 p6
set_option maxRecDepth 100000 in
set_option maxHeartbeats 16000000 in
theorem neg_of_conds {n : Nat} (IH : CondsSpec n) : NegSpec n := by
  intro E w ts h hn hmin
  have hk := isB_kind hmin
  have HS := Lib.hid (step_any w h ⟨by omega, by omega⟩)
  have HLO := Lib.hid (h.lows E.r (.inl rfl))
  have HLI := Lib.hid (h.lows E.ib (.inr (.inr (.inl rfl))))
  have hlt : ts.tail.length < ts.length := tail_lt (by omega)
  have HIH := Lib.hid IH
  obtain ⟨Z, hZ⟩ : ∃ Z, pCond (n + 1) ts = Z := ⟨_, rfl⟩
  rw [hZ]
  have HZ : Hid (Z = if isB (headT ts.tail) bLeft then (pConds n bRight ts.tail.tail).bind (fun fl t => (pTake bRight t).bind fun _ t' => .ok [allOf fl] t') else (pClause ts.tail).bind fun l ts => .ok (negOf l) ts) := Lib.hid (by
    rw [← hZ, ← neg_all]
    conv => lhs; unfold pCond
    rw [if_pos hmin])
  clear h IH hk hmin hZ
  generalize ts.tail = ts1 at *
  unfold Env.ptr at HS ⊢
  go_enter Tryz.func49, Tryz.ntmps49
  go_wp2_with fail
  refine HS.out.mono ?_
  rintro x w1 ⟨⟨_, rfl⟩, hm, hr⟩
  have HI := Lib.hid (is_any w1 hr bLeft)
  have HM1 := Lib.hid hm
  have HR1 := Lib.hid hr
  clear hm hr HS
  cases hb : isB (headT ts1) bLeft with
  | true =>
    have hk := isB_kind hb
    have HST := Lib.hid (step_any w1 HR1.out ⟨by omega, by omega⟩)
    have hlt2 : ts1.tail.length < ts1.length := tail_lt (by omega)
    have HZ2 : Hid (Z = (pConds n bRight ts1.tail).bind (fun fl t => (pTake bRight t).bind fun _ t' => .ok [allOf fl] t')) := Lib.hid (by rw [HZ.out, hb]; rfl)
    rw [hb] at HI
    clear hb hk HZ
    generalize ts1.tail = ts2 at *
    unfold Env.ptr at HI HST
    unfold bLeft at HI
    go_wp2_with (go_at_call 32; refine HI.out.mono ?_; rintro x w2 ⟨rfl, rfl⟩)
    refine HST.out.mono ?_
    rintro x w3 ⟨⟨_, rfl⟩, hm, hr⟩
    have HM3 := Lib.hid (HM1.out.trans hm)
    have HC := Lib.hid (HIH.out E w3 ts2 bRight hr (by omega))
    clear hm hr HST HI HR1
    unfold Env.ptr at HC
    go_wp2_with fail
    refine HC.out.mono ?_
    rintro x w4 ⟨⟨v, l, rfl, ho, hq⟩, hm, hr⟩
    obtain ⟨ao, c, rfl, hd⟩ := ho.deep
    have HM4 := Lib.hid (HM3.out.trans hm)
    have HD4 := Lib.hid (hd.mono (K' := fun b => w.heap.size ≤ b) fun b hb => Nat.le_trans HM3.out.size hb)
    clear ho hd hm HC
    cases hp : pConds n bRight ts2 with
    | bad q =>
      rw [hp] at hr
      obtain ⟨ts3, hr⟩ := hr
      have HRR : Hid (Z = .bad q) := Lib.hid (by rw [HZ2.out, hp]; rfl)
      have HT := Lib.hid (take_err _ hr (by decide) bRight)
      have HR4 := Lib.hid hr
      clear hr hp hq HZ2
      unfold Env.ptr bRight at HT
      go_wp2_with fail
      refine HT.out.mono ?_
      rintro x w5 ⟨⟨_, rfl⟩, rfl⟩
      have HO := Lib.hid (all_own (w := w) HM4.out HD4.out)
      have HM9 := Lib.hid (HM4.out.alloc (.cells #[.int .i64 3, .bool false, .string ⟨#[]⟩, .slice none 0 0, .slice none 0 0, .bool false, .slice ao l.length c] 43))
      go_wp2
      go_ret
      exact ⟨⟨_, _, rfl, HO.out, by simp, by intro a t e; rw [HRR.out] at e; cases e⟩, HM9.out, by rw [HRR.out]; exact ⟨_, HR4.out.alloc _⟩⟩
    | ok fl ts3 =>
      rw [hp] at hr
      have HF : Hid (l.map CondR.abs = fl) := Lib.hid (hq _ _ hp)
      have HZ3 : Hid (Z = (pTake bRight ts3).bind fun _ t' => .ok [allOf fl] t') := Lib.hid (by rw [HZ2.out, hp]; rfl)
      have HR4 : Hid (Rd E w4 ts3 (-1) 0) := Lib.hid hr
      have HT := Lib.hid (take_any w4 HR4.out bRight)
      obtain ⟨U, hU⟩ : ∃ U, pTake bRight ts3 = U := ⟨_, rfl⟩
      rw [hU] at HT HZ3
      clear hr hp hq HZ2 hU
      unfold Env.ptr bRight at HT
      go_wp2_with fail
      refine HT.out.mono ?_
      rintro x w5 ⟨⟨_, rfl⟩, hm, hr⟩
      have HM5 := Lib.hid (HM4.out.trans hm)
      have HD5 := Lib.hid (HD4.out.same (hm.same fun b hb => ⟨by have := HLO.out; omega, by have := HLI.out; omega⟩))
      have HR5 := Lib.hid hr
      clear hm hr
      have HO := Lib.hid (all_own (w := w) HM5.out HD5.out)
      have HM9 := Lib.hid (HM5.out.alloc (.cells #[.int .i64 3, .bool false, .string ⟨#[]⟩, .slice none 0 0, .slice none 0 0, .bool false, .slice ao l.length c] 43))
      go_wp2
      go_ret
      exact ⟨⟨_, _, rfl, HO.out, by simp, by intro a t e; rw [HZ3.out] at e; obtain ⟨_, _, _, e⟩ := bind_ok.1 e; cases e; exact all_abs HF.out⟩, HM9.out, by rw [HZ3.out]; exact RdAt.bind (RdAt.alloc HR5.out _) fun _ _ => ⟨_, rfl⟩⟩
  | false =>
    have HZ2 : Hid (Z = (pClause ts1).bind fun l ts => .ok (negOf l) ts) := Lib.hid (by rw [HZ.out, hb]; rfl)
    have HC := Lib.hid (clause_any w1 HR1.out)
    rw [hb] at HI
    clear hb HZ HIH
    unfold Env.ptr at HI HC
    unfold bLeft at HI
    go_wp2_with (go_at_call 32; refine HI.out.mono ?_; rintro x w2 ⟨rfl, rfl⟩)
    refine HC.out.mono ?_
    rintro x w4 ⟨⟨v, l, rfl, ho, hln, hq⟩, hm, hr⟩
    have HM4 := Lib.hid (HM1.out.trans hm)
    clear HC HI hm
    cases hp : pClause ts1 with
    | bad q =>
      rw [hp] at hr
      obtain ⟨ts3, hr⟩ := hr
      have HRR : Hid (Z = .bad q) := Lib.hid (by rw [HZ2.out, hp]; rfl)
      have HR4 := Lib.hid hr
      obtain ⟨c0, c1, c2, c3, c4, c5⟩ := six_boxR hr.box
      clear hr hp hq HZ2 ho
      go_wp2
      go_ret
      exact ⟨⟨_, [], rfl, OwnD.nil _ _ _ _, by simp, by intro a t e; rw [HRR.out] at e; cases e⟩, HM4.out, by rw [HRR.out]; exact ⟨_, HR4.out⟩⟩
    | ok fl ts3 =>
      rw [hp] at hr
      have hF : l.map CondR.abs = fl := hq _ _ hp
      subst hF
      have HR4 : Hid (Rd E w4 ts3 (-1) 0) := Lib.hid hr
      have HZ3 : Hid (Z = .ok (negOf (l.map CondR.abs)) ts3) := Lib.hid (by rw [HZ2.out, hp]; rfl)
      have HO := Lib.hid ho
      have HSZ1 := Lib.hid HM1.out.size
      obtain ⟨c0, c1, c2, c3, c4, c5⟩ := six_boxR HR4.out.box
      clear hr hp hq HZ2 ho
      by_cases h1 : l.length = 1
      · match l, h1 with
        | [.mk k g id aa an ac al va vn vc vl acc ca cn cc cs], _ =>
          obtain ⟨b, c, rfl, hbb, hcc, k0, kf, hset⟩ := HO.out.head
          by_cases hk : k = 1
          · subst hk
            have HSET := Lib.hid (hset 2)
            have HBB := Lib.hid hbb
            clear hset hbb
            go_wp2
            go_ret
            refine ⟨⟨_, [.mk 2 g id aa an ac al va vn vc vl acc ca cn cc cs], rfl, ?_, by simp, ?_⟩, ?_, ?_⟩
            · exact (HSET.out.rebase HSZ1.out)
            · intro a t e
              rw [HZ3.out] at e
              cases e
              rfl
            · exact HM4.out.new (grownBy_setCell _ _ _) (Nat.le_trans HSZ1.out HBB.out)
            · rw [HZ3.out]
              exact Rd.new HR1.out HR4.out (grownBy_setCell _ _ _) HBB.out
          · have ek : (k == 1) = false := by simp [hk]
            have HNG : Hid (negOf ([CondR.mk k g id aa an ac al va vn vc vl acc ca cn cc cs].map CondR.abs) = [allOf ([CondR.mk k g id aa an ac al va vn vc vl acc ca cn cc cs].map CondR.abs)]) := Lib.hid (by simp only [List.map_cons, List.map_nil, CondR.abs, negOf, if_neg hk])
            obtain ⟨ao, c', hv, hd⟩ := HO.out.deep
            have hd2 := hd.mono (K' := fun b => w.heap.size ≤ b) fun b hb => Nat.le_trans HSZ1.out hb
            simp only [List.length_cons, List.length_nil, Nat.zero_add, Value.slice.injEq, true_and] at hv
            obtain ⟨rfl, rfl⟩ := hv
            have HALL := Lib.hid (all_own (w := w) HM4.out hd2)
            have HM9 := Lib.hid (HM4.out.alloc (.cells #[.int .i64 3, .bool false, .string ⟨#[]⟩, .slice none 0 0, .slice none 0 0, .bool false, .slice (some ⟨b, 0, none⟩) 1 c] 43))
            clear hset hbb hk hd hd2
            go_wp2
            go_ret
            exact ⟨⟨_, _, rfl, HALL.out, by simp, by intro a t e; rw [HZ3.out] at e; cases e; rw [HNG.out]; exact all_abs rfl⟩, HM9.out, by rw [HZ3.out]; exact HR4.out.alloc _⟩
      · have e1 : ((l.length : Int) == 1) = false := by simp; omega
        have HNG : Hid (negOf (l.map CondR.abs) = [allOf (l.map CondR.abs)]) := Lib.hid (by
          match l, h1 with
          | [], _ => rfl
          | [x], h => exact absurd rfl h
          | x :: y :: r, _ => simp only [List.map_cons]; cases CondR.abs x; rfl)
        obtain ⟨ao, c, rfl, hd⟩ := HO.out.deep
        have HD4 := Lib.hid (hd.mono (K' := fun b => w.heap.size ≤ b) fun b hb => Nat.le_trans HSZ1.out hb)
        clear h1 hd
        have HO := Lib.hid (all_own (w := w) HM4.out HD4.out)
        have HM9 := Lib.hid (HM4.out.alloc (.cells #[.int .i64 3, .bool false, .string ⟨#[]⟩, .slice none 0 0, .slice none 0 0, .bool false, .slice ao l.length c] 43))
        go_wp2
        go_ret
        exact ⟨⟨_, _, rfl, HO.out, by simp, by intro a t e; rw [HZ3.out] at e; cases e; rw [HNG.out]; exact all_abs rfl⟩, HM9.out, by rw [HZ3.out]; exact HR4.out.alloc _⟩
end Go.Proofs.YtgeaccoobhigcaaGreat
namespace Go.Proofs.YtgeaccoobhigcaaGreat
open Go Go.RowKit
structure CondsRun (E : Env) (w : World) (Z : Rs (List Cd)) (stop : ByteArray) (n : Nat) (v : Value) (l : List CondR) (first : Bool) (k : Nat) (wr : World) : Prop where
  own : OwnD mkCond w.heap.size 43 wr v l
  mv : Mv E w wr
  goes : (∃ ts, Rd E wr ts (-1) 0 ∧ ts.length < n ∧ l.length + ts.length ≤ 1000000 ∧ ((first = true ∧ l = [] ∧ ts.length + 1 < k ∧ Z = pConds n stop ts) ∨ (first = false ∧ ts.length < k ∧ Z = contF (pCond n) stop k (l.map CondR.abs) ts))) ∨ (∃ (ts : List Tk) (q : Nat), Rd E wr ts q 5 ∧ Z = .bad q)
section
variable {E : Env} {w wr w0 w' : World} {Z : Rs (List Cd)} {stop : ByteArray} {n k : Nat} {v v' : Value} {l l2 : List CondR} {ts : List Tk}
/-- One more reading: the world ahead of the append. -/
theorem CondsRun.more {k' : Nat} {b : Bool} (h : CondsRun E w Z stop n v l b k wr) (lows : ∀ b, E.Blk b → b < w.heap.size) (hn : ts.length < n) (hcnt : l.length + ts.length ≤ 1000000) (hm : Mv E wr w0) (hr : RdAt E w0 (pCond n ts)) (hq : ∀ a t, pCond n ts = .ok a t → l2.map CondR.abs = a)
    (hZ : (∀ q, pCond n ts = .bad q → Z = .bad q) ∧ ∀ a t, pCond n ts = .ok a t → t.length < k' ∧ Z = contF (pCond n) stop k' (l.map CondR.abs ++ a) t)
    (ho : OwnD mkCond w.heap.size 43 w' v' (l ++ l2)) (hg : w0.grownBy w' v.ownBlock) : CondsRun E w Z stop n v' (l ++ l2) false k' w' := by
  have hown : ∀ b, v.ownBlock = some b → w.heap.size ≤ b := fun b e => (h.own.own.lt b e).1
  have hnb : ∀ b, v.ownBlock = some b → ¬ E.Blk b := fun b hb hc => by have := hown b hb; have := lows b hc; omega
  refine ⟨ho, (h.mv.trans hm).grown hg fun b e => .inr (.inr (hown b e)), ?_⟩
  cases hp : pCond n ts with
  | bad q =>
    rw [hp] at hr
    obtain ⟨ts', hr⟩ := hr
    exact .inr ⟨ts', q, hr.kept hg hnb, hZ.1 q hp⟩
  | ok a ts' =>
    rw [hp] at hr hq
    have h1 := pCond_eats _ _ _ _ hp
    have h2 := pCond_count _ _ _ _ hp
    have h3 := hq _ _ rfl
    have h4 : l2.length = a.length := by rw [← h3, List.length_map]
    obtain ⟨z1, z2⟩ := hZ.2 a ts' hp
    refine .inl ⟨ts', Rd.kept (E := E) (w := w0) hr hg hnb, by omega, by rw [List.length_append]; omega, .inr ⟨rfl, z1, ?_⟩⟩
    rw [List.map_append, h3]
    exact z2
end
theorem pCond_minus {m : Nat} {ts : List Tk} (h : isB (headT ts) bMinus = false) : pCond (m + 1) ts = pClause ts := by
  conv => lhs; unfold pCond
  rw [h]
  rfl
set_option maxRecDepth 100000 in
set_option maxHeartbeats 16000000 in
theorem conds_of_neg {m : Nat} (IH : NegSpec m) : CondsSpec (m + 1) := by
  intro E w ts stop h hn
  have HLO := Lib.hid (h.lows E.r (.inl rfl))
  have HLI := Lib.hid (h.lows E.ib (.inr (.inr (.inl rfl))))
  have HLW := Lib.hid h.lows
  have HIH := Lib.hid IH
  obtain ⟨i0, hi, hz0, hz1, hz2⟩ := info_parts Tryz.info43
  obtain ⟨Z, hZ⟩ : ∃ Z, pConds (m + 1) stop ts = Z := ⟨_, rfl⟩
  rw [hZ]
  have HS : Hid (CondsRun E w Z stop (m + 1) (.slice none 0 0) [] true (ts.length + 2) w) := Lib.hid ⟨OwnD.nil _ _ _ _, Mv.refl _ _, .inl ⟨ts, h, hn, by have := h.len; simpa using this, .inl ⟨rfl, rfl, by omega, hZ.symm⟩⟩⟩
  clear h IH hZ hn
  unfold Env.ptr
  go_enter Tryz.func31, Tryz.ntmps31
  go_wp2
  go_loopg [5, 6] (ts.length + 2) (fun gk v fv wr => ∃ (l : List CondR) (b : Bool), fv = .bool b ∧ Hid (CondsRun E w Z stop (m + 1) v l b gk wr))
  case atStart => exact ⟨[], true, rfl, HS⟩
  case round =>
    clear HS
    obtain ⟨l, b, rfl, HG⟩ := hrel
    rcases HG.out.goes with ⟨ts1, hr, hlen, hcnt, hc⟩ | ⟨ts1, q, hr, hR⟩
    · obtain ⟨c0, c1, c2, c3, c4, c5⟩ := six_boxR hr.box
      have HR := Lib.hid hr
      rcases hc with ⟨rfl, rfl, hgk, hZ⟩ | ⟨rfl, hgk, hZ⟩
      · have HZ : Hid ((∀ q, pCond (m + 1) ts1 = .bad q → Z = .bad q) ∧ ∀ a t, pCond (m + 1) ts1 = .ok a t → t.length < ts1.length + 1 ∧ Z = contF (pCond (m + 1)) stop (t.length + 1) (([] : List CondR).map CondR.abs ++ a) t) := Lib.hid ⟨fun q hp => hZ.trans (contF_first_bad hp), fun a t hp => ⟨by have := pCond_eats _ _ _ _ hp; omega, by rw [hZ, contF_first hp]; rfl⟩⟩
        obtain ⟨U, hU⟩ : ∃ U, pCond (m + 1) ts1 = U := ⟨_, rfl⟩
        clear hr hZ
        obtain ⟨KK, hKK, HZK⟩ : ∃ KK, KK < gk ∧ Hid ((∀ q, pCond (m + 1) ts1 = .bad q → Z = .bad q) ∧ ∀ a t, pCond (m + 1) ts1 = .ok a t → t.length < KK ∧ Z = contF (pCond (m + 1)) stop KK (([] : List CondR).map CondR.abs ++ a) t) := by
          cases hp : pCond (m + 1) ts1 with
          | bad q => exact ⟨0, by omega, Lib.hid ⟨(fun q' e => by cases e; exact HZ.out.1 q hp), (fun a t e => by cases e)⟩⟩
          | ok a t => exact ⟨t.length + 1, by have := pCond_eats _ _ _ _ hp; omega, Lib.hid ⟨(fun q' e => by cases e), (fun a' t' e => by cases e; exact ⟨Nat.lt_succ_self _, (HZ.out.2 a t hp).2⟩)⟩⟩
        clear hU HZ
        have HIM := Lib.hid (is_any _ HR.out bMinus)
        have hll : ([] : List CondR).length ≤ 1000000 := by simp
        cases hmi : isB (headT ts1) bMinus with
        | true =>
          have HNG := Lib.hid (HIH.out E wr ts1 HR.out hlen hmi)
          rw [hmi] at HIM
          clear hmi
          unfold Env.ptr at HIM HNG
          unfold bMinus at HIM
          go_wp2_with (go_at_call 32; refine HIM.out.mono ?_; rintro x w7 ⟨rfl, rfl⟩)
          refine HNG.out.mono ?_
          rintro x w8 ⟨⟨v2, l2, rfl, ho2, hl2, hq2⟩, hm, hr⟩
          have HM := Lib.hid hm
          have HO2 := Lib.hid ho2
          have HL2 := Lib.hid hl2

          have HMR := Lib.hid (fun k' hz w9 v9 => HG.out.more (k' := k') (ts := ts1) (l2 := l2) (w0 := w8) (w' := w9) (v' := v9) HLW.out hlen hcnt hm hr hq2 hz)
          clear hm ho2 hl2 hq2 hr c0 c1 c2 c3 c4 c5
          go_wp2_with (at_builtin; refine wpList_pushes rfl (.tmp 23) (.tmp 25) 23 rfl mkCond 43 i0 _ 112 Tryz.underlying23 hi hz0 hz1 hz2 rfl (by omega) (E := E) (w := w) (wr := wr) (w0 := w8) _ v2 [] l2 rfl rfl HG.out.own HG.out.mv HM.out HLO.out HLI.out HO2.out hll HL2.out ?_; intro v9 w9 ho9 hg9)
          have HN : Hid (CondsRun E w Z stop (m + 1) v9 ([] ++ l2) false KK w9) := Lib.hid (HMR.out KK HZK.out _ _ ho9 hg9)
          clear ho9 hg9
          go_wp2
          go_roundg KK
          case rel => exact ⟨_, false, rfl, HN⟩
          case measure => omega
        | false =>
          have HNG := Lib.hid (clause_any wr HR.out)
          have hpc : pCond (m + 1) ts1 = pClause ts1 := pCond_minus hmi
          have HPC := Lib.hid hpc
          rw [hmi] at HIM
          clear hmi hpc
          unfold Env.ptr at HIM HNG
          unfold bMinus at HIM
          go_wp2_with (go_at_call 32; refine HIM.out.mono ?_; rintro x w7 ⟨rfl, rfl⟩)
          refine HNG.out.mono ?_
          rintro x w8 ⟨⟨v2, l2, rfl, ho2, hl2, hq2⟩, hm, hr⟩
          have HM := Lib.hid hm
          have HO2 := Lib.hid ho2
          have HL2 := Lib.hid hl2
          rw [← HPC.out] at hr hq2
          have HMR := Lib.hid (fun k' hz w9 v9 => HG.out.more (k' := k') (ts := ts1) (l2 := l2) (w0 := w8) (w' := w9) (v' := v9) HLW.out hlen hcnt hm hr hq2 hz)
          clear hm ho2 hl2 hq2 hr c0 c1 c2 c3 c4 c5
          go_wp2_with (at_builtin; refine wpList_pushes rfl (.tmp 27) (.tmp 29) 23 rfl mkCond 43 i0 _ 112 Tryz.underlying23 hi hz0 hz1 hz2 rfl (by omega) (E := E) (w := w) (wr := wr) (w0 := w8) _ v2 [] l2 rfl rfl HG.out.own HG.out.mv HM.out HLO.out HLI.out HO2.out hll HL2.out ?_; intro v9 w9 ho9 hg9)
          have HN : Hid (CondsRun E w Z stop (m + 1) v9 ([] ++ l2) false KK w9) := Lib.hid (HMR.out KK HZK.out _ _ ho9 hg9)
          clear ho9 hg9
          go_wp2
          go_roundg KK
          case rel => exact ⟨_, false, rfl, HN⟩
          case measure => omega
      · obtain ⟨gk, rfl⟩ : ∃ g, gk = g + 1 := ⟨gk - 1, by omega⟩
        have hI := is_any _ HR.out stop
        cases hb : isB (headT ts1) stop with
        | true =>
          rw [hb] at hI
          rw [contF_stop hb] at hZ
          have HI := Lib.hid hI
          have HRR := Lib.hid hZ
          clear hr hZ hI hb
          unfold Env.ptr at HI
          go_wp2_with (go_at_call 32; refine HI.out.mono ?_; rintro x w7 ⟨rfl, rfl⟩)
          go_ret
          exact ⟨⟨_, _, rfl, HG.out.own, by intro a t e; rw [HRR.out] at e; cases e; rfl⟩, HG.out.mv, by rw [HRR.out]; exact HR.out⟩
        | false =>
          rw [hb] at hI
          have HI := Lib.hid hI
          have HZ : Hid ((∀ q, pCond (m + 1) ts1 = .bad q → Z = .bad q) ∧ ∀ a t, pCond (m + 1) ts1 = .ok a t → t.length < gk ∧ Z = contF (pCond (m + 1)) stop gk (l.map CondR.abs ++ a) t) := Lib.hid ⟨fun q hp => hZ.trans (contF_bad hb hp), fun a t hp => ⟨by have := pCond_eats _ _ _ _ hp; omega, by rw [hZ, contF_next hb hp]⟩⟩
          clear hr hZ hI hb
          unfold Env.ptr at HI
          go_wp2_with fail
          refine HI.out.mono ?_
          rintro x w7 ⟨rfl, rfl⟩
          have HIM := Lib.hid (is_any _ HR.out bMinus)
          have hll : l.length ≤ 1000000 := by omega
          cases hmi : isB (headT ts1) bMinus with
          | true =>
            have HNG := Lib.hid (HIH.out E wr ts1 HR.out hlen hmi)
            rw [hmi] at HIM
            clear hmi
            unfold Env.ptr at HIM HNG
            unfold bMinus at HIM
            go_wp2_with (go_at_call 32; refine HIM.out.mono ?_; rintro x w7 ⟨rfl, rfl⟩)
            refine HNG.out.mono ?_
            rintro x w8 ⟨⟨v2, l2, rfl, ho2, hl2, hq2⟩, hm, hr⟩
            have HM := Lib.hid hm
            have HO2 := Lib.hid ho2
            have HL2 := Lib.hid hl2

            have HMR := Lib.hid (fun k' hz w9 v9 => HG.out.more (k' := k') (ts := ts1) (l2 := l2) (w0 := w8) (w' := w9) (v' := v9) HLW.out hlen hcnt hm hr hq2 hz)
            clear hm ho2 hl2 hq2 hr c0 c1 c2 c3 c4 c5
            go_wp2_with (at_builtin; refine wpList_pushes rfl (.tmp 23) (.tmp 25) 23 rfl mkCond 43 i0 _ 112 Tryz.underlying23 hi hz0 hz1 hz2 rfl (by omega) (E := E) (w := w) (wr := wr) (w0 := w8) _ v2 l l2 rfl rfl HG.out.own HG.out.mv HM.out HLO.out HLI.out HO2.out hll HL2.out ?_; intro v9 w9 ho9 hg9)
            have HN : Hid (CondsRun E w Z stop (m + 1) v9 (l ++ l2) false gk w9) := Lib.hid (HMR.out gk HZ.out _ _ ho9 hg9)
            clear ho9 hg9
            go_wp2
            go_roundg gk
            case rel => exact ⟨_, false, rfl, HN⟩
            case measure => omega
          | false =>
            have HNG := Lib.hid (clause_any wr HR.out)
            have hpc : pCond (m + 1) ts1 = pClause ts1 := pCond_minus hmi
            have HPC := Lib.hid hpc
            rw [hmi] at HIM
            clear hmi hpc
            unfold Env.ptr at HIM HNG
            unfold bMinus at HIM
            go_wp2_with (go_at_call 32; refine HIM.out.mono ?_; rintro x w7 ⟨rfl, rfl⟩)
            refine HNG.out.mono ?_
            rintro x w8 ⟨⟨v2, l2, rfl, ho2, hl2, hq2⟩, hm, hr⟩
            have HM := Lib.hid hm
            have HO2 := Lib.hid ho2
            have HL2 := Lib.hid hl2
            rw [← HPC.out] at hr hq2
            have HMR := Lib.hid (fun k' hz w9 v9 => HG.out.more (k' := k') (ts := ts1) (l2 := l2) (w0 := w8) (w' := w9) (v' := v9) HLW.out hlen hcnt hm hr hq2 hz)
            clear hm ho2 hl2 hq2 hr c0 c1 c2 c3 c4 c5
            go_wp2_with (at_builtin; refine wpList_pushes rfl (.tmp 27) (.tmp 29) 23 rfl mkCond 43 i0 _ 112 Tryz.underlying23 hi hz0 hz1 hz2 rfl (by omega) (E := E) (w := w) (wr := wr) (w0 := w8) _ v2 l l2 rfl rfl HG.out.own HG.out.mv HM.out HLO.out HLI.out HO2.out hll HL2.out ?_; intro v9 w9 ho9 hg9)
            have HN : Hid (CondsRun E w Z stop (m + 1) v9 (l ++ l2) false gk w9) := Lib.hid (HMR.out gk HZ.out _ _ ho9 hg9)
            clear ho9 hg9
            go_wp2
            go_roundg gk
            case rel => exact ⟨_, false, rfl, HN⟩
            case measure => omega
    · obtain ⟨c0, c1, c2, c3, c4, c5⟩ := six_boxR hr.box
      have HRR := Lib.hid hR
      have HR := Lib.hid hr
      clear hR hr
      go_wp2
      go_ret
      exact ⟨⟨_, _, rfl, HG.out.own, by intro a t e; rw [HRR.out] at e; cases e⟩, HG.out.mv, by rw [HRR.out]; exact ⟨_, HR.out⟩⟩
theorem conds_any : ∀ n, CondsSpec n
  | 0 => fun E w ts stop h hn => absurd hn (by omega)
  | m + 1 => conds_of_neg (neg_of_conds (conds_any m))
end Go.Proofs.YtgeaccoobhigcaaGreat
namespace Go.Proofs.YtgeaccoobhigcaaGreat
open Go Go.RowKit
/-- A term comes back; where it goes wrong, some term. -/
def TmIs (r : Rs Tm) (x : Ending) : Prop := ∃ t : Tm, x = .returned t.val ∧ ((t.a.v.size ≤ 1000000 ∧ t.a.s.t.size ≤ 1000000) ∧ t.b.v.size ≤ 1000000 ∧ t.b.s.t.size ≤ 1000000) ∧ ∀ a ts, r = .ok a ts → t = a
theorem Tryz.sz49 : (Tryz.prog.info? 49).map (·.size) = some 9 := by kernel_rfl
theorem nil_size : (⟨#[]⟩ : ByteArray).size ≤ 1000000 := by decide
/-- What a term has read so far. -/
structure TParts (E : Env) (w : World) (b1 : Nat) (t : Tm) (wr : World) : Prop where
  mv : Mv E w wr
  res : BoxC wr w.heap.size 49 [.int .i64 0, .string ⟨#[]⟩, .int .i64 0, .string ⟨#[]⟩, .int .i64 0, .string ⟨#[]⟩, .int .i64 0, .string ⟨#[]⟩, .int .i64 0]
  low : w.heap.size < b1
  box : BoxC wr b1 49 [.int .i64 t.op, .string t.a.v, .int .i64 t.a.s.k, .string t.a.s.t, .int .i64 t.a.s.n, .string t.b.v, .int .i64 t.b.s.k, .string t.b.s.t, .int .i64 t.b.s.n]
theorem TParts.moved {E : Env} {w wr w' : World} {b1 : Nat} {t : Tm} (h : TParts E w b1 t wr) (m : Mv E wr w') (hr : E.r < w.heap.size) (hi : E.ib < w.heap.size) : TParts E w b1 t w' :=
  ⟨h.mv.trans m, m.box h.res (by omega) (by omega), h.low, m.box h.box (by have := h.low; omega) (by have := h.low; omega)⟩
theorem TParts.put {E : Env} {w wr w' : World} {b1 : Nat} {t t' : Tm} (h : TParts E w b1 t wr) (g : wr.grownBy w' (some b1)) (hb : BoxC w' b1 49 [.int .i64 t'.op, .string t'.a.v, .int .i64 t'.a.s.k, .string t'.a.s.t, .int .i64 t'.a.s.n, .string t'.b.v, .int .i64 t'.b.s.k, .string t'.b.s.t, .int .i64 t'.b.s.n]) : TParts E w b1 t' w' :=
  ⟨h.mv.new g (Nat.le_of_lt h.low), h.res.grown g (by have := h.low; simp; omega), h.low, hb⟩
theorem nine_boxR {w : World} {g : Nat} {a0 a1 a2 a3 a4 a5 a6 a7 a8 : Value} {t : TypeId} (h : BoxC w g t [a0, a1, a2, a3, a4, a5, a6, a7, a8]) :
    w.cell? ⟨g, 0, none⟩ = some a0 ∧ w.cell? ⟨g, 1, none⟩ = some a1 ∧ w.cell? ⟨g, 2, none⟩ = some a2 ∧ w.cell? ⟨g, 3, none⟩ = some a3 ∧ w.cell? ⟨g, 4, none⟩ = some a4 ∧ w.cell? ⟨g, 5, none⟩ = some a5 ∧ w.cell? ⟨g, 6, none⟩ = some a6 ∧ w.cell? ⟨g, 7, none⟩ = some a7 ∧ w.cell? ⟨g, 8, none⟩ = some a8 :=
  ⟨h.at_ rfl, h.at_ rfl, h.at_ rfl, h.at_ rfl, h.at_ rfl, h.at_ rfl, h.at_ rfl, h.at_ rfl, h.at_ rfl⟩
set_option maxRecDepth 100000 in
set_option maxHeartbeats 16000000 in
theorem term_any {E : Env} {ts : List Tk} (w : World) (h : Rd E w ts (-1) 0) : Calls Tryz.prog 52 #[E.ptr] w fun x w' => TmIs (pTerm ts) x ∧ Mv E w w' ∧ RdAt E w' (pTerm ts) := by
  have hw := h.alloc (.cells #[.int .i64 0, .string ⟨#[]⟩, .int .i64 0, .string ⟨#[]⟩, .int .i64 0, .string ⟨#[]⟩, .int .i64 0, .string ⟨#[]⟩, .int .i64 0] 49)
  have HI := Lib.hid (is_any _ hw bOpen)
  have HX : Hid (BoxC (w.alloc (.cells #[.int .i64 0, .string ⟨#[]⟩, .int .i64 0, .string ⟨#[]⟩, .int .i64 0, .string ⟨#[]⟩, .int .i64 0, .string ⟨#[]⟩, .int .i64 0] 49)) w.heap.size 49 [.int .i64 0, .string ⟨#[]⟩, .int .i64 0, .string ⟨#[]⟩, .int .i64 0, .string ⟨#[]⟩, .int .i64 0, .string ⟨#[]⟩, .int .i64 0]) := Lib.hid (BoxC.new w _ 49)
  have HM0 : Hid (Mv E w (w.alloc (.cells #[.int .i64 0, .string ⟨#[]⟩, .int .i64 0, .string ⟨#[]⟩, .int .i64 0, .string ⟨#[]⟩, .int .i64 0, .string ⟨#[]⟩, .int .i64 0] 49))) := Lib.hid ((Mv.refl E w).alloc _)
  have HLO := Lib.hid (h.lows E.r (.inl rfl))
  have HLI := Lib.hid (h.lows E.ib (.inr (.inr (.inl rfl))))
  have HR0 := Lib.hid hw
  have H := Lib.hid h
  obtain ⟨R, hR⟩ : ∃ R, pTerm ts = R := ⟨_, rfl⟩
  rw [hR]
  unfold pTerm at hR
  clear hw h
  cases hb : isB (headT ts) bOpen with
  | false =>
    rw [hb] at HI hR
    simp only [Bool.false_eq_true, if_false] at hR
    have HR := Lib.hid hR
    have HA := Lib.hid (readAtom_any _ HR0.out)
    clear hb hR
    unfold Env.ptr at HI HA ⊢
    unfold bOpen at HI
    go_enter Tryz.func52, Tryz.ntmps52
    go_wp2_with (go_at_call 32; refine HI.out.mono ?_; rintro x w1 ⟨rfl, rfl⟩)
    refine HA.out.mono ?_
    rintro x w2 ⟨⟨⟨av, ak, at_, an⟩, rfl, hs, hq⟩, hm, hr⟩
    have HX2 := Lib.hid (hm.box HX.out (by have := HLO.out; omega) (by have := HLI.out; omega))
    have HM2 := Lib.hid (HM0.out.trans hm)
    have HR2 := Lib.hid hr
    have HSZ := Lib.hid hs
    have HQ := Lib.hid hq
    clear hm hr hs hq
    unfold Am.val
    simp only
    go_wp2_with (refine wpList_box rfl 49 (.tmp 2) (.tmp 9) rfl w.heap.size 0 _ [.int .i64 0, .string av, .int .i64 ak, .string at_, .int .i64 an, .string ⟨#[]⟩, .int .i64 0, .string ⟨#[]⟩, .int .i64 0] rfl rfl rfl HX2.out Tryz.sz49 (by simp) (by simp [Value.oneCell']) _ rfl ?_; intro w3 B3 g3; have HB3 := Lib.hid B3; have HG3 := Lib.hid g3; clear B3 g3)
    obtain ⟨d0, d1, d2, d3, d4, d5, d6, d7, d8⟩ := nine_boxR HB3.out
    refine bodyPost_ret (v := .agg #[.int .i64 0, .string av, .int .i64 ak, .string at_, .int .i64 an, .string ⟨#[]⟩, .int .i64 0, .string ⟨#[]⟩, .int .i64 0]) (by simp [results, Tryz.results52, go_sem, d0, d1, d2, d3, d4, d5, d6, d7, d8]) rfl ⟨⟨⟨0, ⟨av, ak, at_, an⟩, nilAm⟩, rfl, ⟨HSZ.out, nil_size, nil_size⟩, ?_⟩, HM2.out.new HG3.out (Nat.le_refl _), ?_⟩
    · intro a t e
      rw [← HR.out] at e
      obtain ⟨b, t2, h1, h2⟩ := bind_ok.1 e
      cases h2
      rw [← HQ.out _ _ h1]
    · rw [← HR.out]
      exact RdAt.bind (RdAt.new H.out HR2.out HG3.out (Nat.le_refl _)) fun _ _ => ⟨_, rfl⟩
  | true =>
    have hk := isB_kind hb
    rw [hb] at HI hR
    simp only [if_true] at hR
    have HST := Lib.hid (step_any _ HR0.out ⟨by omega, by omega⟩)
    have HR := Lib.hid hR
    clear hb hR hk
    generalize ts.tail = ts1 at *
    unfold Env.ptr at HI HST ⊢
    unfold bOpen at HI
    go_enter Tryz.func52, Tryz.ntmps52
    go_wp2_with (go_at_call 32; refine HI.out.mono ?_; rintro x w1 ⟨rfl, rfl⟩)
    refine HST.out.mono ?_
    rintro x w3 ⟨⟨_, rfl⟩, hm, hr⟩
    have HM3 := Lib.hid (HM0.out.trans hm)
    have HP3 : Hid (TParts E w w3.heap.size ⟨0, nilAm, nilAm⟩ (w3.alloc (.cells #[.int .i64 0, .string ⟨#[]⟩, .int .i64 0, .string ⟨#[]⟩, .int .i64 0, .string ⟨#[]⟩, .int .i64 0, .string ⟨#[]⟩, .int .i64 0] 49))) := Lib.hid ⟨HM3.out.alloc _, (hm.box HX.out (by have := HLO.out; omega) (by have := HLI.out; omega)).alloc _, (hm.box HX.out (by have := HLO.out; omega) (by have := HLI.out; omega)).lt, BoxC.new w3 _ 49⟩
    have HR3 := Lib.hid (hr.alloc (.cells #[.int .i64 0, .string ⟨#[]⟩, .int .i64 0, .string ⟨#[]⟩, .int .i64 0, .string ⟨#[]⟩, .int .i64 0, .string ⟨#[]⟩, .int .i64 0] 49))
    have HOP := Lib.hid (rOp_any (textB (headT ts1)))
    rw [textB_list] at HOP
    obtain ⟨c0, c1, c2, c3, c4, c5⟩ := six_boxR HR3.out.box
    have hl3 := HP3.out.low
    clear hm hr HST HI HX HM0 HR0
    have hoh : opHere (headT ts1) = if (headT ts1).kind = 4 then opN (headT ts1).text else 0 := rfl
    by_cases hk : (headT ts1).kind = 4
    · have e4 : (((headT ts1).kind : Int) == 4) = true := by simp [hk]
      rw [if_pos hk] at hoh
      rw [← hoh] at HOP
      by_cases ho : opHere (headT ts1) = 0
      · rw [ho] at HOP
        have HRR : Hid (R = badAt ts1) := Lib.hid (by rw [← HR.out, if_pos ho])
        clear hoh ho hk HR
        go_upto_region 7 with (first | (go_at_call 77; refine (HOP.out _).mono ?_; rintro x w4 ⟨rfl, rfl⟩) | (refine wpList_box rfl 3 (.tmp 25) (.tmp 24) rfl w3.heap.size 0 _ [.int .i64 0] rfl rfl rfl HP3.out.box Tryz.sz3 (by simp) (by simp [Value.oneCell']) _ rfl ?_; intro w5 B5 g5; have HP5 := Lib.hid (HP3.out.put (t' := ⟨0, nilAm, nilAm⟩) g5 B5); have HR5 := Lib.hid (Rd.new H.out HR3.out g5 (Nat.le_of_lt hl3)); have k0 := B5.at_ (j := 0) rfl; clear B5 g5))
        have HBD := Lib.hid (bad_ok _ HR5.out)
        clear c0 c1 c2 c3 c4 c5
        unfold Env.ptr at HBD
        go_wp2_with fail
        refine HBD.out.mono ?_
        rintro x w6 ⟨⟨_, rfl⟩, hm, hr⟩
        have HP9 := Lib.hid (HP5.out.moved hm HLO.out HLI.out)
        have HR9 := Lib.hid hr
        clear hm hr
        obtain ⟨f0, f1, f2, f3, f4, f5, f6, f7, f8⟩ := nine_boxR HP9.out.box
        simp only [nilAm, nilSm] at f0 f1 f2 f3 f4 f5 f6 f7 f8
        go_wp2_with (refine wpList_box rfl 49 (.tmp 2) (.tmp 31) rfl w.heap.size 0 _ [.int .i64 0, .string ⟨#[]⟩, .int .i64 0, .string ⟨#[]⟩, .int .i64 0, .string ⟨#[]⟩, .int .i64 0, .string ⟨#[]⟩, .int .i64 0] rfl rfl rfl HP9.out.res Tryz.sz49 (by simp) (by simp [Value.oneCell']) _ rfl ?_; intro w19 B19 g19; have HB19 := Lib.hid B19; have HG19 := Lib.hid g19; clear B19 g19 f0 f1 f2 f3 f4 f5 f6 f7 f8)
        obtain ⟨d0, d1, d2, d3, d4, d5, d6, d7, d8⟩ := nine_boxR HB19.out
        refine bodyPost_ret (v := .agg #[.int .i64 0, .string ⟨#[]⟩, .int .i64 0, .string ⟨#[]⟩, .int .i64 0, .string ⟨#[]⟩, .int .i64 0, .string ⟨#[]⟩, .int .i64 0]) (by simp [results, Tryz.results52, go_sem, d0, d1, d2, d3, d4, d5, d6, d7, d8]) rfl ⟨⟨⟨0, nilAm, nilAm⟩, rfl, ⟨⟨nil_size, nil_size⟩, nil_size, nil_size⟩, ?_⟩, HP9.out.mv.new HG19.out (Nat.le_refl _), ?_⟩
        · intro a t e
          rw [HRR.out] at e
          cases e
        · rw [HRR.out]; exact ⟨_, H.out.new HR9.out HG19.out (Nat.le_refl _)⟩
      · have eo : (opHere (headT ts1) == 0) = false := by simp [ho]
        have HRR : Hid (R = (pAtom ts1.tail).bind fun a ts1' => (pAtom ts1').bind fun b ts2 => (pTake bShut ts2).bind fun _ ts3 => .ok ⟨opHere (headT ts1), a, b⟩ ts3) := Lib.hid (by rw [← HR.out, if_neg ho])
        have HSP := Lib.hid (fun W (hW : Rd E W ts1 (-1) 0) => step_any W hW ⟨by omega, by omega⟩)
        generalize opHere (headT ts1) = op at *
        clear hoh ho hk HR
        unfold Env.ptr at HSP
        go_wp2_with (first | (go_at_call 77; refine (HOP.out _).mono ?_; rintro x w4 ⟨rfl, rfl⟩) | (refine wpList_box rfl 3 (.tmp 25) (.tmp 24) rfl w3.heap.size 0 _ [.int .i64 op] rfl rfl rfl HP3.out.box Tryz.sz3 (by simp) (by simp [Value.oneCell']) _ rfl ?_; intro w5 B5 g5; have HP5 := Lib.hid (HP3.out.put (t' := ⟨op, nilAm, nilAm⟩) g5 B5); have HR5 := Lib.hid (Rd.new H.out HR3.out g5 (Nat.le_of_lt hl3)); have k0 := B5.at_ (j := 0) rfl; clear B5 g5 c0 c1 c2 c3 c4 c5))
        refine (HSP.out _ HR5.out).mono ?_
        rintro x w6 ⟨⟨_, rfl⟩, hm, hr⟩
        have HP6 := Lib.hid (HP5.out.moved hm HLO.out HLI.out)
        have HA6 := Lib.hid (readAtom_any w6 hr)
        clear hm hr k0 HSP HP5 HR5
        generalize ts1.tail = ts2 at *
        unfold Env.ptr at HA6
        go_wp2_with fail
        refine HA6.out.mono ?_
        rintro x w7 ⟨⟨⟨av, ak, at_, an⟩, rfl, hs, hq⟩, hm, hr⟩
        have HP7 := Lib.hid (HP6.out.moved hm HLO.out HLI.out)
        have HR7 := Lib.hid hr
        have HSA := Lib.hid hs
        have HQA := Lib.hid hq
        clear hm hr hs hq HA6 HP6
        unfold Am.val
        simp only
        go_upto_region 12 with (refine wpList_box rfl 47 (.tmp 36) (.tmp 35) rfl w3.heap.size 1 _ [.string av, .int .i64 ak, .string at_, .int .i64 an] rfl rfl rfl HP7.out.box Tryz.sz47 (by simp) (by simp [Value.oneCell']) _ rfl ?_; intro w8 B8 g8; have HP8 := Lib.hid (HP7.out.put (t' := ⟨op, ⟨av, ak, at_, an⟩, nilAm⟩) g8 B8); have HR8 := Lib.hid (RdAt.new H.out HR7.out g8 (Nat.le_of_lt hl3)); clear B8 g8)
        cases hp : pAtom ts2 with
        | bad q =>
          have HR8' := HR8.out
          rw [hp] at HR8'
          obtain ⟨ts3, hr⟩ := HR8'
          have HRQ : Hid (R = .bad q) := Lib.hid (by rw [HRR.out, hp]; rfl)
          obtain ⟨c0, c1, c2, c3, c4, c5⟩ := six_boxR hr.box
          have HT := Lib.hid (take_err _ hr (by decide) bShut)
          have HR9 := Lib.hid hr
          clear hr hp HRR
          unfold Env.ptr bShut at HT
          go_wp2_with fail
          refine HT.out.mono ?_
          rintro x w9 ⟨⟨_, rfl⟩, rfl⟩
          clear c0 c1 c2 c3 c4 c5
          obtain ⟨f0, f1, f2, f3, f4, f5, f6, f7, f8⟩ := nine_boxR HP8.out.box
          simp only [nilAm, nilSm] at f0 f1 f2 f3 f4 f5 f6 f7 f8
          go_wp2_with (refine wpList_box rfl 49 (.tmp 2) (.tmp 47) rfl w.heap.size 0 _ [.int .i64 op, .string av, .int .i64 ak, .string at_, .int .i64 an, .string ⟨#[]⟩, .int .i64 0, .string ⟨#[]⟩, .int .i64 0] rfl rfl rfl HP8.out.res Tryz.sz49 (by simp) (by simp [Value.oneCell']) _ rfl ?_; intro w19 B19 g19; have HB19 := Lib.hid B19; have HG19 := Lib.hid g19; clear B19 g19 f0 f1 f2 f3 f4 f5 f6 f7 f8)
          obtain ⟨d0, d1, d2, d3, d4, d5, d6, d7, d8⟩ := nine_boxR HB19.out
          refine bodyPost_ret (v := .agg #[.int .i64 op, .string av, .int .i64 ak, .string at_, .int .i64 an, .string ⟨#[]⟩, .int .i64 0, .string ⟨#[]⟩, .int .i64 0]) (by simp [results, Tryz.results52, go_sem, d0, d1, d2, d3, d4, d5, d6, d7, d8]) rfl ⟨⟨⟨op, ⟨av, ak, at_, an⟩, nilAm⟩, rfl, ⟨HSA.out, nil_size, nil_size⟩, ?_⟩, HP8.out.mv.new HG19.out (Nat.le_refl _), ?_⟩
          · intro a t e
            rw [HRQ.out] at e
            cases e
          · rw [HRQ.out]; exact ⟨_, H.out.new HR9.out HG19.out (Nat.le_refl _)⟩
        | ok a1 ts3 =>
          have HR8' := HR8.out
          rw [hp] at HR8'
          have HR9 : Hid (Rd E w8 ts3 (-1) 0) := Lib.hid HR8'
          have HAE : Hid ((⟨av, ak, at_, an⟩ : Am) = a1) := Lib.hid (HQA.out _ _ hp)
          have HRS : Hid (R = (pAtom ts3).bind fun b ts2 => (pTake bShut ts2).bind fun _ ts3 => .ok ⟨op, a1, b⟩ ts3) := Lib.hid (by rw [HRR.out, hp]; rfl)
          obtain ⟨c0, c1, c2, c3, c4, c5⟩ := six_boxR HR8'.box
          have HB9 := Lib.hid (readAtom_any w8 HR8')
          clear hp HRR HR8' HR8 HQA
          unfold Env.ptr at HB9
          go_wp2_with fail
          refine HB9.out.mono ?_
          rintro x w10 ⟨⟨⟨bv, bk, bt, bn⟩, rfl, hs, hq⟩, hm, hr⟩
          have HP10 := Lib.hid (HP8.out.moved hm HLO.out HLI.out)
          have HR10 := Lib.hid hr
          have HSB := Lib.hid hs
          have HQB := Lib.hid hq
          clear hm hr hs hq HB9 HP8 c0 c1 c2 c3 c4 c5
          unfold Am.val
          simp only
          go_upto_region 14 with (refine wpList_box rfl 47 (.tmp 44) (.tmp 43) rfl w3.heap.size 5 _ [.string bv, .int .i64 bk, .string bt, .int .i64 bn] rfl rfl rfl HP10.out.box Tryz.sz47 (by simp) (by simp [Value.oneCell']) _ rfl ?_; intro w11 B11 g11; have HP11 := Lib.hid (HP10.out.put (t' := ⟨op, ⟨av, ak, at_, an⟩, ⟨bv, bk, bt, bn⟩⟩) g11 B11); have HR11 := Lib.hid (RdAt.new H.out HR10.out g11 (Nat.le_of_lt hl3)); clear B11 g11)
          cases hp : pAtom ts3 with
          | bad q =>
            have HR8' := HR11.out
            rw [hp] at HR8'
            obtain ⟨ts4, hr⟩ := HR8'
            have HRQ : Hid (R = .bad q) := Lib.hid (by rw [HRS.out, hp]; rfl)
            have HT := Lib.hid (take_err _ hr (by decide) bShut)
            have HR12 := Lib.hid hr
            clear hr hp HRS
            unfold Env.ptr bShut at HT
            go_wp2_with fail
            refine HT.out.mono ?_
            rintro x w12 ⟨⟨_, rfl⟩, rfl⟩
            obtain ⟨f0, f1, f2, f3, f4, f5, f6, f7, f8⟩ := nine_boxR HP11.out.box
            simp only at f0 f1 f2 f3 f4 f5 f6 f7 f8
            go_wp2_with (refine wpList_box rfl 49 (.tmp 2) (.tmp 47) rfl w.heap.size 0 _ [.int .i64 op, .string av, .int .i64 ak, .string at_, .int .i64 an, .string bv, .int .i64 bk, .string bt, .int .i64 bn] rfl rfl rfl HP11.out.res Tryz.sz49 (by simp) (by simp [Value.oneCell']) _ rfl ?_; intro w19 B19 g19; have HB19 := Lib.hid B19; have HG19 := Lib.hid g19; clear B19 g19 f0 f1 f2 f3 f4 f5 f6 f7 f8)
            obtain ⟨d0, d1, d2, d3, d4, d5, d6, d7, d8⟩ := nine_boxR HB19.out
            refine bodyPost_ret (v := .agg #[.int .i64 op, .string av, .int .i64 ak, .string at_, .int .i64 an, .string bv, .int .i64 bk, .string bt, .int .i64 bn]) (by simp [results, Tryz.results52, go_sem, d0, d1, d2, d3, d4, d5, d6, d7, d8]) rfl ⟨⟨⟨op, ⟨av, ak, at_, an⟩, ⟨bv, bk, bt, bn⟩⟩, rfl, ⟨HSA.out, HSB.out⟩, ?_⟩, HP11.out.mv.new HG19.out (Nat.le_refl _), ?_⟩
            · intro a t e
              rw [HRQ.out] at e
              cases e
            · rw [HRQ.out]; exact ⟨_, H.out.new HR12.out HG19.out (Nat.le_refl _)⟩
          | ok b1 ts4 =>
            have HR8' := HR11.out
            rw [hp] at HR8'
            have HR12 : Hid (Rd E w11 ts4 (-1) 0) := Lib.hid HR8'
            have HBE : Hid ((⟨bv, bk, bt, bn⟩ : Am) = b1) := Lib.hid (HQB.out _ _ hp)
            have HRU : Hid (R = (pTake bShut ts4).bind fun _ ts3 => .ok ⟨op, a1, b1⟩ ts3) := Lib.hid (by rw [HRS.out, hp]; rfl)
            have HT := Lib.hid (take_any w11 HR12.out bShut)
            obtain ⟨U, hU⟩ : ∃ U, pTake bShut ts4 = U := ⟨_, rfl⟩
            rw [hU] at HT HRU
            clear hp HRS HR8' HR11 HQB hU
            unfold Env.ptr bShut at HT
            go_wp2_with fail
            refine HT.out.mono ?_
            rintro x w12 ⟨⟨_, rfl⟩, hm, hr⟩
            have HP12 := Lib.hid (HP11.out.moved hm HLO.out HLI.out)
            have HR13 := Lib.hid hr
            clear hm hr
            obtain ⟨f0, f1, f2, f3, f4, f5, f6, f7, f8⟩ := nine_boxR HP12.out.box
            simp only at f0 f1 f2 f3 f4 f5 f6 f7 f8
            go_wp2_with (refine wpList_box rfl 49 (.tmp 2) (.tmp 47) rfl w.heap.size 0 _ [.int .i64 op, .string av, .int .i64 ak, .string at_, .int .i64 an, .string bv, .int .i64 bk, .string bt, .int .i64 bn] rfl rfl rfl HP12.out.res Tryz.sz49 (by simp) (by simp [Value.oneCell']) _ rfl ?_; intro w19 B19 g19; have HB19 := Lib.hid B19; have HG19 := Lib.hid g19; clear B19 g19 f0 f1 f2 f3 f4 f5 f6 f7 f8)
            obtain ⟨d0, d1, d2, d3, d4, d5, d6, d7, d8⟩ := nine_boxR HB19.out
            refine bodyPost_ret (v := .agg #[.int .i64 op, .string av, .int .i64 ak, .string at_, .int .i64 an, .string bv, .int .i64 bk, .string bt, .int .i64 bn]) (by simp [results, Tryz.results52, go_sem, d0, d1, d2, d3, d4, d5, d6, d7, d8]) rfl ⟨⟨⟨op, ⟨av, ak, at_, an⟩, ⟨bv, bk, bt, bn⟩⟩, rfl, ⟨HSA.out, HSB.out⟩, ?_⟩, HP12.out.mv.new HG19.out (Nat.le_refl _), ?_⟩
            · intro a t e
              rw [HRU.out] at e
              obtain ⟨_, _, _, e⟩ := bind_ok.1 e
              cases e
              rw [HAE.out, HBE.out]
            · rw [HRU.out]; exact RdAt.bind (RdAt.new H.out HR13.out HG19.out (Nat.le_refl _)) fun _ _ => ⟨_, rfl⟩
    · have e4 : (((headT ts1).kind : Int) == 4) = false := by simp; omega
      rw [if_neg hk] at hoh
      have HRR : Hid (R = badAt ts1) := Lib.hid (by rw [← HR.out, if_pos hoh])
      clear hoh hk HR
      have HBD := Lib.hid (bad_ok _ HR3.out)
      unfold Env.ptr at HBD
      go_wp2_with fail
      refine HBD.out.mono ?_
      rintro x w6 ⟨⟨_, rfl⟩, hm, hr⟩
      have HP9 := Lib.hid (HP3.out.moved hm HLO.out HLI.out)
      have HR9 := Lib.hid hr
      clear hm hr c0 c1 c2 c3 c4 c5
      obtain ⟨f0, f1, f2, f3, f4, f5, f6, f7, f8⟩ := nine_boxR HP9.out.box
      simp only [nilAm, nilSm] at f0 f1 f2 f3 f4 f5 f6 f7 f8
      go_wp2_with (refine wpList_box rfl 49 (.tmp 2) (.tmp 31) rfl w.heap.size 0 _ [.int .i64 0, .string ⟨#[]⟩, .int .i64 0, .string ⟨#[]⟩, .int .i64 0, .string ⟨#[]⟩, .int .i64 0, .string ⟨#[]⟩, .int .i64 0] rfl rfl rfl HP9.out.res Tryz.sz49 (by simp) (by simp [Value.oneCell']) _ rfl ?_; intro w19 B19 g19; have HB19 := Lib.hid B19; have HG19 := Lib.hid g19; clear B19 g19 f0 f1 f2 f3 f4 f5 f6 f7 f8)
      obtain ⟨d0, d1, d2, d3, d4, d5, d6, d7, d8⟩ := nine_boxR HB19.out
      refine bodyPost_ret (v := .agg #[.int .i64 0, .string ⟨#[]⟩, .int .i64 0, .string ⟨#[]⟩, .int .i64 0, .string ⟨#[]⟩, .int .i64 0, .string ⟨#[]⟩, .int .i64 0]) (by simp [results, Tryz.results52, go_sem, d0, d1, d2, d3, d4, d5, d6, d7, d8]) rfl ⟨⟨⟨0, nilAm, nilAm⟩, rfl, ⟨⟨nil_size, nil_size⟩, nil_size, nil_size⟩, ?_⟩, HP9.out.mv.new HG19.out (Nat.le_refl _), ?_⟩
      · intro a t e
        rw [HRR.out] at e
        cases e
      · rw [HRR.out]; exact ⟨_, H.out.new HR9.out HG19.out (Nat.le_refl _)⟩
end Go.Proofs.YtgeaccoobhigcaaGreat
namespace Go.Proofs.YtgeaccoobhigcaaGreat
open Go Go.RowKit
/-- What reading changes, and a block besides. -/
structure Mv2 (E : Env) (b : Nat) (w w' : World) : Prop where
  os : w'.os = w.os
  tape : w'.tape = w.tape
  output : w'.output = w.output
  size : w.heap.size ≤ w'.heap.size
  block : ∀ k, k < w.heap.size → k ≠ E.r → k ≠ E.ib → k ≠ b → w'.heap[k]? = w.heap[k]?
section
variable {E : Env} {b : Nat} {w0 w w' w2 : World}
theorem Mv2.of_mv (h : Mv E w w') : Mv2 E b w w' := ⟨h.os, h.tape, h.output, h.size, fun k h1 h2 h3 _ => h.block k h1 h2 h3⟩
theorem Mv2.of_grown (g : w.grownBy w' (some b)) : Mv2 E b w w' := ⟨g.os, g.tape, g.output, g.size, fun k h1 _ _ h4 => g.block k h1 (fun e => h4 (by injection e))⟩
theorem Mv2.trans (h : Mv2 E b w w') (k : Mv2 E b w' w2) : Mv2 E b w w2 :=
  ⟨k.os.trans h.os, k.tape.trans h.tape, k.output.trans h.output, Nat.le_trans h.size k.size, fun x h1 h2 h3 h4 => (k.block x (Nat.lt_of_lt_of_le h1 h.size) h2 h3 h4).trans (h.block x h1 h2 h3 h4)⟩
theorem Mv2.mv (h : Mv E w0 w) (hb : w0.heap.size ≤ b) (k : Mv2 E b w w') : Mv E w0 w' :=
  ⟨k.os.trans h.os, k.tape.trans h.tape, k.output.trans h.output, Nat.le_trans h.size k.size, fun x h1 h2 h3 => (k.block x (Nat.lt_of_lt_of_le h1 h.size) h2 h3 (by omega)).trans (h.block x h1 h2 h3)⟩
end
theorem RdAt.kept {α : Type} {E : Env} {w w' : World} {r : Rs α} {row : Option Nat} (h : RdAt E w r) (g : w.grownBy w' row) (hr : ∀ b, row = some b → ¬ E.Blk b) : RdAt E w' r := by
  cases r with
  | bad p => obtain ⟨ts, h⟩ := h; exact ⟨ts, h.kept g hr⟩
  | ok a ts => exact Rd.kept (E := E) (w := w) h g hr
/-- What a preference is, behind reading it. -/
def PrefIs (b : Nat) (a : Ac) (w' : World) (r : Rs (Int × Am)) : Prop := ∃ (q : Int) (o : Am), BoxC w' b 51 ({ a with pref := q, other := o } : Ac).cells ∧ (o.v.size ≤ 1000000 ∧ o.s.t.size ≤ 1000000) ∧ ∀ x ts, r = .ok x ts → (q, o) = x
set_option maxRecDepth 100000 in
set_option maxHeartbeats 16000000 in
theorem pref_any {E : Env} {ts : List Tk} {b : Nat} {a : Ac} (w : World) (h : Rd E w ts (-1) 0) (hb : BoxC w b 51 a.cells) (ho : a.other = nilAm) (hnb : ¬ E.Blk b) :
    Calls Tryz.prog 53 #[E.ptr, .pointer (some ⟨b, 0, none⟩)] w fun x w' => (∃ v, x = .returned v) ∧ Mv2 E b w w' ∧ RdAt E w' (pPref ts) ∧ PrefIs b a w' (pPref ts) := by
  have hbr : b ≠ E.r := fun e => hnb (.inl e)
  have hbi : b ≠ E.ib := fun e => hnb (.inr (.inr (.inl e)))
  obtain ⟨id, attr, value, p0, other⟩ := a
  simp only at ho
  subst ho
  have HB := Lib.hid hb
  have HNB := Lib.hid hnb
  have H := Lib.hid h
  obtain ⟨R, hR⟩ : ∃ R, pPref ts = R := ⟨_, rfl⟩
  rw [hR]
  unfold pPref at hR
  have hph : prefHere (headT ts) = if (headT ts).kind = 4 then prefN (headT ts).text else (0, 0) := rfl
  have hfirst : ∀ w2, w.grownBy w2 (some b) → Rd E w2 ts (-1) 0 := fun w2 g => h.kept g (by rintro b' e; cases e; exact hnb)
  have HFI := Lib.hid hfirst
  clear h hb hnb hfirst
  by_cases hk : (headT ts).kind = 4
  · rw [if_pos hk] at hph
    have e4 : (((headT ts).kind : Int) != 4) = false := by simp [hk]
    have hs : (textB (headT ts)).toList = (headT ts).text := by rw [ByteArray.toList_eq, textB_list]
    have HST := Lib.hid (fun W (hW : Rd E W ts (-1) 0) => step_any W hW ⟨by omega, by omega⟩)
    clear hk
    unfold prefN at hph
    rw [← hs] at hph
    clear hs
    by_cases h0 : (textB (headT ts)).toList = [43]
    · have e10 : ((textB (headT ts)).toList == [43]) = true := by simp [h0]
      have hph2 : prefHere (headT ts) = (1, 0) := by rw [hph, h0]; rfl
      rw [hph2] at hR
      clear hph hph2 h0
      unfold Env.ptr at HST ⊢
      go_enter Tryz.func53, Tryz.ntmps53
      go_wp2_with (first | (refine wpList_box rfl 3 (.tmp 7) (.const (.int .i64 1)) rfl b 14 _ [.int .i64 1] rfl rfl rfl HB.out Tryz.sz3 (by simp [Ac.cells, Am.cells, Tm.cells, Sm.cells]) (by simp [Value.oneCell']) (({ id := id, attr := attr, value := value, pref := 1, other := nilAm } : Ac).cells) rfl ?_; intro w2 B2 g2; have HB2 := Lib.hid B2; have HR2 := Lib.hid (HFI.out _ g2); have HM2 : Hid (Mv2 E b w w2) := Lib.hid (.of_grown g2); obtain ⟨c0, c1, c2, c3, c4, c5⟩ := six_boxR HR2.out.box; clear B2 g2))
      refine (HST.out _ HR2.out).mono ?_
      rintro x w4 ⟨⟨_, rfl⟩, hm, hr⟩
      have HB4 := Lib.hid (hm.box HB2.out hbr hbi)
      have HM4 : Hid (Mv2 E b w w4) := Lib.hid (HM2.out.trans (.of_mv hm))
      have HR4 := Lib.hid hr
      clear hm hr
      have HR : Hid (R = .ok (1, nilAm) ts.tail) := Lib.hid (by rw [← hR]; rfl)
      clear hR
      go_wp2
      go_end0
      exact ⟨⟨_, rfl⟩, HM4.out, by rw [HR.out]; exact HR4.out, 1, nilAm, HB4.out, ⟨nil_size, nil_size⟩, by intro x t e; rw [HR.out] at e; cases e; rfl⟩
    have e10 : ((textB (headT ts)).toList == [43]) = false := by simp [h0]
    by_cases h1 : (textB (headT ts)).toList = [45]
    · have e11 : ((textB (headT ts)).toList == [45]) = true := by simp [h1]
      have hph2 : prefHere (headT ts) = (2, 0) := by rw [hph, h1]; rfl
      rw [hph2] at hR
      clear hph hph2 h0 h1
      unfold Env.ptr at HST ⊢
      go_enter Tryz.func53, Tryz.ntmps53
      go_wp2_with (first | (refine wpList_box rfl 3 (.tmp 7) (.const (.int .i64 1)) rfl b 14 _ [.int .i64 1] rfl rfl rfl HB.out Tryz.sz3 (by simp [Ac.cells, Am.cells, Tm.cells, Sm.cells]) (by simp [Value.oneCell']) (({ id := id, attr := attr, value := value, pref := 1, other := nilAm } : Ac).cells) rfl ?_; intro w2 B2 g2; have HB2 := Lib.hid B2; have HR2 := Lib.hid (HFI.out _ g2); have HM2 : Hid (Mv2 E b w w2) := Lib.hid (.of_grown g2); obtain ⟨c0, c1, c2, c3, c4, c5⟩ := six_boxR HR2.out.box; clear B2 g2) | (refine wpList_box rfl 3 (.tmp 25) (.const (.int .i64 2)) rfl b 14 _ [.int .i64 2] rfl rfl rfl HB2.out Tryz.sz3 (by simp [Ac.cells, Am.cells, Tm.cells, Sm.cells]) (by simp [Value.oneCell']) (({ id := id, attr := attr, value := value, pref := 2, other := nilAm } : Ac).cells) rfl ?_; intro w3 B3 g3; have HB3 := Lib.hid B3; have HR3 := Lib.hid (HR2.out.kept g3 (by rintro b' e; cases e; exact HNB.out)); have HM3 : Hid (Mv2 E b w w3) := Lib.hid (HM2.out.trans (.of_grown g3)); clear B3 g3))
      refine (HST.out _ HR3.out).mono ?_
      rintro x w4 ⟨⟨_, rfl⟩, hm, hr⟩
      have HB4 := Lib.hid (hm.box HB3.out hbr hbi)
      have HM4 : Hid (Mv2 E b w w4) := Lib.hid (HM3.out.trans (.of_mv hm))
      have HR4 := Lib.hid hr
      clear hm hr
      have HR : Hid (R = .ok (2, nilAm) ts.tail) := Lib.hid (by rw [← hR]; rfl)
      clear hR
      go_wp2
      go_end0
      exact ⟨⟨_, rfl⟩, HM4.out, by rw [HR.out]; exact HR4.out, 2, nilAm, HB4.out, ⟨nil_size, nil_size⟩, by intro x t e; rw [HR.out] at e; cases e; rfl⟩
    have e11 : ((textB (headT ts)).toList == [45]) = false := by simp [h1]
    by_cases h2 : (textB (headT ts)).toList = [33]
    · have e12 : ((textB (headT ts)).toList == [33]) = true := by simp [h2]
      have hph2 : prefHere (headT ts) = (3, 0) := by rw [hph, h2]; rfl
      rw [hph2] at hR
      clear hph hph2 h0 h1 h2
      unfold Env.ptr at HST ⊢
      go_enter Tryz.func53, Tryz.ntmps53
      go_wp2_with (first | (refine wpList_box rfl 3 (.tmp 7) (.const (.int .i64 1)) rfl b 14 _ [.int .i64 1] rfl rfl rfl HB.out Tryz.sz3 (by simp [Ac.cells, Am.cells, Tm.cells, Sm.cells]) (by simp [Value.oneCell']) (({ id := id, attr := attr, value := value, pref := 1, other := nilAm } : Ac).cells) rfl ?_; intro w2 B2 g2; have HB2 := Lib.hid B2; have HR2 := Lib.hid (HFI.out _ g2); have HM2 : Hid (Mv2 E b w w2) := Lib.hid (.of_grown g2); obtain ⟨c0, c1, c2, c3, c4, c5⟩ := six_boxR HR2.out.box; clear B2 g2) | (refine wpList_box rfl 3 (.tmp 30) (.const (.int .i64 3)) rfl b 14 _ [.int .i64 3] rfl rfl rfl HB2.out Tryz.sz3 (by simp [Ac.cells, Am.cells, Tm.cells, Sm.cells]) (by simp [Value.oneCell']) (({ id := id, attr := attr, value := value, pref := 3, other := nilAm } : Ac).cells) rfl ?_; intro w3 B3 g3; have HB3 := Lib.hid B3; have HR3 := Lib.hid (HR2.out.kept g3 (by rintro b' e; cases e; exact HNB.out)); have HM3 : Hid (Mv2 E b w w3) := Lib.hid (HM2.out.trans (.of_grown g3)); clear B3 g3))
      refine (HST.out _ HR3.out).mono ?_
      rintro x w4 ⟨⟨_, rfl⟩, hm, hr⟩
      have HB4 := Lib.hid (hm.box HB3.out hbr hbi)
      have HM4 : Hid (Mv2 E b w w4) := Lib.hid (HM3.out.trans (.of_mv hm))
      have HR4 := Lib.hid hr
      clear hm hr
      have HR : Hid (R = .ok (3, nilAm) ts.tail) := Lib.hid (by rw [← hR]; rfl)
      clear hR
      go_wp2
      go_end0
      exact ⟨⟨_, rfl⟩, HM4.out, by rw [HR.out]; exact HR4.out, 3, nilAm, HB4.out, ⟨nil_size, nil_size⟩, by intro x t e; rw [HR.out] at e; cases e; rfl⟩
    have e12 : ((textB (headT ts)).toList == [33]) = false := by simp [h2]
    by_cases h3 : (textB (headT ts)).toList = [126]
    · have e13 : ((textB (headT ts)).toList == [126]) = true := by simp [h3]
      have hph2 : prefHere (headT ts) = (4, 0) := by rw [hph, h3]; rfl
      rw [hph2] at hR
      clear hph hph2 h0 h1 h2 h3
      unfold Env.ptr at HST ⊢
      go_enter Tryz.func53, Tryz.ntmps53
      go_wp2_with (first | (refine wpList_box rfl 3 (.tmp 7) (.const (.int .i64 1)) rfl b 14 _ [.int .i64 1] rfl rfl rfl HB.out Tryz.sz3 (by simp [Ac.cells, Am.cells, Tm.cells, Sm.cells]) (by simp [Value.oneCell']) (({ id := id, attr := attr, value := value, pref := 1, other := nilAm } : Ac).cells) rfl ?_; intro w2 B2 g2; have HB2 := Lib.hid B2; have HR2 := Lib.hid (HFI.out _ g2); have HM2 : Hid (Mv2 E b w w2) := Lib.hid (.of_grown g2); obtain ⟨c0, c1, c2, c3, c4, c5⟩ := six_boxR HR2.out.box; clear B2 g2) | (refine wpList_box rfl 3 (.tmp 35) (.const (.int .i64 4)) rfl b 14 _ [.int .i64 4] rfl rfl rfl HB2.out Tryz.sz3 (by simp [Ac.cells, Am.cells, Tm.cells, Sm.cells]) (by simp [Value.oneCell']) (({ id := id, attr := attr, value := value, pref := 4, other := nilAm } : Ac).cells) rfl ?_; intro w3 B3 g3; have HB3 := Lib.hid B3; have HR3 := Lib.hid (HR2.out.kept g3 (by rintro b' e; cases e; exact HNB.out)); have HM3 : Hid (Mv2 E b w w3) := Lib.hid (HM2.out.trans (.of_grown g3)); clear B3 g3))
      refine (HST.out _ HR3.out).mono ?_
      rintro x w4 ⟨⟨_, rfl⟩, hm, hr⟩
      have HB4 := Lib.hid (hm.box HB3.out hbr hbi)
      have HM4 : Hid (Mv2 E b w w4) := Lib.hid (HM3.out.trans (.of_mv hm))
      have HR4 := Lib.hid hr
      clear hm hr
      have HR : Hid (R = .ok (4, nilAm) ts.tail) := Lib.hid (by rw [← hR]; rfl)
      clear hR
      go_wp2
      go_end0
      exact ⟨⟨_, rfl⟩, HM4.out, by rw [HR.out]; exact HR4.out, 4, nilAm, HB4.out, ⟨nil_size, nil_size⟩, by intro x t e; rw [HR.out] at e; cases e; rfl⟩
    have e13 : ((textB (headT ts)).toList == [126]) = false := by simp [h3]
    by_cases h4 : (textB (headT ts)).toList = [62]
    · have e14 : ((textB (headT ts)).toList == [62]) = true := by simp [h4]
      have hph2 : prefHere (headT ts) = (5, 8) := by rw [hph, h4]; rfl
      rw [hph2] at hR
      clear hph hph2 h0 h1 h2 h3 h4
      unfold Env.ptr at HST ⊢
      go_enter Tryz.func53, Tryz.ntmps53
      go_wp2_with (first | (refine wpList_box rfl 3 (.tmp 7) (.const (.int .i64 1)) rfl b 14 _ [.int .i64 1] rfl rfl rfl HB.out Tryz.sz3 (by simp [Ac.cells, Am.cells, Tm.cells, Sm.cells]) (by simp [Value.oneCell']) (({ id := id, attr := attr, value := value, pref := 1, other := nilAm } : Ac).cells) rfl ?_; intro w2 B2 g2; have HB2 := Lib.hid B2; have HR2 := Lib.hid (HFI.out _ g2); have HM2 : Hid (Mv2 E b w w2) := Lib.hid (.of_grown g2); obtain ⟨c0, c1, c2, c3, c4, c5⟩ := six_boxR HR2.out.box; clear B2 g2) | (refine wpList_box rfl 3 (.tmp 40) (.const (.int .i64 5)) rfl b 14 _ [.int .i64 5] rfl rfl rfl HB2.out Tryz.sz3 (by simp [Ac.cells, Am.cells, Tm.cells, Sm.cells]) (by simp [Value.oneCell']) (({ id := id, attr := attr, value := value, pref := 5, other := nilAm } : Ac).cells) rfl ?_; intro w3 B3 g3; have HB3 := Lib.hid B3; have HR3 := Lib.hid (HR2.out.kept g3 (by rintro b' e; cases e; exact HNB.out)); have HM3 : Hid (Mv2 E b w w3) := Lib.hid (HM2.out.trans (.of_grown g3)); clear B3 g3))
      refine (HST.out _ HR3.out).mono ?_
      rintro x w4 ⟨⟨_, rfl⟩, hm, hr⟩
      have HB4 := Lib.hid (hm.box HB3.out hbr hbi)
      have HM4 : Hid (Mv2 E b w w4) := Lib.hid (HM3.out.trans (.of_mv hm))
      have HR4 := Lib.hid hr
      clear hm hr
      have HBG := Lib.hid (begun_any w4 HR4.out)
      cases ha : atomHere (headT ts.tail) with
      | false =>
        rw [ha] at HBG
        have HR : Hid (R = .ok (5, nilAm) ts.tail) := Lib.hid (by rw [← hR, ha]; rfl)
        clear hR ha
        unfold Env.ptr at HBG
        go_wp2_with (go_at_call 78; refine HBG.out.mono ?_; rintro x w5 ⟨rfl, rfl⟩)
        go_end0
        exact ⟨⟨_, rfl⟩, HM4.out, by rw [HR.out]; exact HR4.out, 5, nilAm, HB4.out, ⟨nil_size, nil_size⟩, by intro x t e; rw [HR.out] at e; cases e; rfl⟩
      | true =>
        rw [ha] at HBG
        have HR : Hid (R = (pAtom ts.tail).bind fun a ts1 => .ok (8, a) ts1) := Lib.hid (by rw [← hR, ha]; rfl)
        clear hR ha
        unfold Env.ptr at HBG
        go_wp2_with (first | (go_at_call 78; refine HBG.out.mono ?_; rintro x w5 ⟨rfl, rfl⟩) | (refine wpList_box rfl 3 (.tmp 62) (.tmp 60) rfl b 14 _ [.int .i64 8] rfl rfl rfl HB4.out Tryz.sz3 (by simp [Ac.cells, Am.cells, Tm.cells, Sm.cells]) (by simp [Value.oneCell']) (({ id := id, attr := attr, value := value, pref := 8, other := nilAm } : Ac).cells) rfl ?_; intro w6 B6 g6; have HB6 := Lib.hid B6; have HR6 := Lib.hid (Rd.kept (E := E) HR4.out g6 (by rintro b' e; cases e; exact HNB.out)); have HM6 : Hid (Mv2 E b w w6) := Lib.hid (HM4.out.trans (.of_grown g6)); clear B6 g6))
        have HA := Lib.hid (readAtom_any w6 HR6.out)
        unfold Env.ptr at HA
        refine HA.out.mono ?_
        rintro x w7 ⟨⟨⟨av, ak, at_, an⟩, rfl, hs, hq⟩, hm, hr⟩
        have HB7 := Lib.hid (hm.box HB6.out hbr hbi)
        have HM7 : Hid (Mv2 E b w w7) := Lib.hid (HM6.out.trans (.of_mv hm))
        have HR7 := Lib.hid hr
        have HSZ := Lib.hid hs
        have HQ := Lib.hid hq
        clear hm hr hs hq
        unfold Am.val
        simp only
        go_wp2_with (refine wpList_box rfl 47 (.tmp 67) (.tmp 65) rfl b 15 _ [.string av, .int .i64 ak, .string at_, .int .i64 an] rfl rfl rfl HB7.out Tryz.sz47 (by simp [Ac.cells, Am.cells, Tm.cells, Sm.cells]) (by simp [Value.oneCell']) (({ id := id, attr := attr, value := value, pref := 8, other := ⟨av, ak, at_, an⟩ } : Ac).cells) rfl ?_; intro w8 B8 g8; have HB8 := Lib.hid B8; have HR8 := Lib.hid (RdAt.kept HR7.out g8 (by rintro b' e; cases e; exact HNB.out)); have HM8 : Hid (Mv2 E b w w8) := Lib.hid (HM7.out.trans (.of_grown g8)); clear B8 g8)
        go_end0
        exact ⟨⟨_, rfl⟩, HM8.out, by rw [HR.out]; exact RdAt.bind HR8.out fun _ _ => ⟨_, rfl⟩, 8, ⟨av, ak, at_, an⟩, HB8.out, HSZ.out, by intro x t e; rw [HR.out] at e; obtain ⟨y, t2, h1, h2⟩ := bind_ok.1 e; cases h2; rw [← HQ.out _ _ h1]⟩
    have e14 : ((textB (headT ts)).toList == [62]) = false := by simp [h4]
    by_cases h5 : (textB (headT ts)).toList = [60]
    · have e15 : ((textB (headT ts)).toList == [60]) = true := by simp [h5]
      have hph2 : prefHere (headT ts) = (6, 9) := by rw [hph, h5]; rfl
      rw [hph2] at hR
      clear hph hph2 h0 h1 h2 h3 h4 h5
      unfold Env.ptr at HST ⊢
      go_enter Tryz.func53, Tryz.ntmps53
      go_wp2_with (first | (refine wpList_box rfl 3 (.tmp 7) (.const (.int .i64 1)) rfl b 14 _ [.int .i64 1] rfl rfl rfl HB.out Tryz.sz3 (by simp [Ac.cells, Am.cells, Tm.cells, Sm.cells]) (by simp [Value.oneCell']) (({ id := id, attr := attr, value := value, pref := 1, other := nilAm } : Ac).cells) rfl ?_; intro w2 B2 g2; have HB2 := Lib.hid B2; have HR2 := Lib.hid (HFI.out _ g2); have HM2 : Hid (Mv2 E b w w2) := Lib.hid (.of_grown g2); obtain ⟨c0, c1, c2, c3, c4, c5⟩ := six_boxR HR2.out.box; clear B2 g2) | (refine wpList_box rfl 3 (.tmp 45) (.const (.int .i64 6)) rfl b 14 _ [.int .i64 6] rfl rfl rfl HB2.out Tryz.sz3 (by simp [Ac.cells, Am.cells, Tm.cells, Sm.cells]) (by simp [Value.oneCell']) (({ id := id, attr := attr, value := value, pref := 6, other := nilAm } : Ac).cells) rfl ?_; intro w3 B3 g3; have HB3 := Lib.hid B3; have HR3 := Lib.hid (HR2.out.kept g3 (by rintro b' e; cases e; exact HNB.out)); have HM3 : Hid (Mv2 E b w w3) := Lib.hid (HM2.out.trans (.of_grown g3)); clear B3 g3))
      refine (HST.out _ HR3.out).mono ?_
      rintro x w4 ⟨⟨_, rfl⟩, hm, hr⟩
      have HB4 := Lib.hid (hm.box HB3.out hbr hbi)
      have HM4 : Hid (Mv2 E b w w4) := Lib.hid (HM3.out.trans (.of_mv hm))
      have HR4 := Lib.hid hr
      clear hm hr
      have HBG := Lib.hid (begun_any w4 HR4.out)
      cases ha : atomHere (headT ts.tail) with
      | false =>
        rw [ha] at HBG
        have HR : Hid (R = .ok (6, nilAm) ts.tail) := Lib.hid (by rw [← hR, ha]; rfl)
        clear hR ha
        unfold Env.ptr at HBG
        go_wp2_with (go_at_call 78; refine HBG.out.mono ?_; rintro x w5 ⟨rfl, rfl⟩)
        go_end0
        exact ⟨⟨_, rfl⟩, HM4.out, by rw [HR.out]; exact HR4.out, 6, nilAm, HB4.out, ⟨nil_size, nil_size⟩, by intro x t e; rw [HR.out] at e; cases e; rfl⟩
      | true =>
        rw [ha] at HBG
        have HR : Hid (R = (pAtom ts.tail).bind fun a ts1 => .ok (9, a) ts1) := Lib.hid (by rw [← hR, ha]; rfl)
        clear hR ha
        unfold Env.ptr at HBG
        go_wp2_with (first | (go_at_call 78; refine HBG.out.mono ?_; rintro x w5 ⟨rfl, rfl⟩) | (refine wpList_box rfl 3 (.tmp 62) (.tmp 60) rfl b 14 _ [.int .i64 9] rfl rfl rfl HB4.out Tryz.sz3 (by simp [Ac.cells, Am.cells, Tm.cells, Sm.cells]) (by simp [Value.oneCell']) (({ id := id, attr := attr, value := value, pref := 9, other := nilAm } : Ac).cells) rfl ?_; intro w6 B6 g6; have HB6 := Lib.hid B6; have HR6 := Lib.hid (Rd.kept (E := E) HR4.out g6 (by rintro b' e; cases e; exact HNB.out)); have HM6 : Hid (Mv2 E b w w6) := Lib.hid (HM4.out.trans (.of_grown g6)); clear B6 g6))
        have HA := Lib.hid (readAtom_any w6 HR6.out)
        unfold Env.ptr at HA
        refine HA.out.mono ?_
        rintro x w7 ⟨⟨⟨av, ak, at_, an⟩, rfl, hs, hq⟩, hm, hr⟩
        have HB7 := Lib.hid (hm.box HB6.out hbr hbi)
        have HM7 : Hid (Mv2 E b w w7) := Lib.hid (HM6.out.trans (.of_mv hm))
        have HR7 := Lib.hid hr
        have HSZ := Lib.hid hs
        have HQ := Lib.hid hq
        clear hm hr hs hq
        unfold Am.val
        simp only
        go_wp2_with (refine wpList_box rfl 47 (.tmp 67) (.tmp 65) rfl b 15 _ [.string av, .int .i64 ak, .string at_, .int .i64 an] rfl rfl rfl HB7.out Tryz.sz47 (by simp [Ac.cells, Am.cells, Tm.cells, Sm.cells]) (by simp [Value.oneCell']) (({ id := id, attr := attr, value := value, pref := 9, other := ⟨av, ak, at_, an⟩ } : Ac).cells) rfl ?_; intro w8 B8 g8; have HB8 := Lib.hid B8; have HR8 := Lib.hid (RdAt.kept HR7.out g8 (by rintro b' e; cases e; exact HNB.out)); have HM8 : Hid (Mv2 E b w w8) := Lib.hid (HM7.out.trans (.of_grown g8)); clear B8 g8)
        go_end0
        exact ⟨⟨_, rfl⟩, HM8.out, by rw [HR.out]; exact RdAt.bind HR8.out fun _ _ => ⟨_, rfl⟩, 9, ⟨av, ak, at_, an⟩, HB8.out, HSZ.out, by intro x t e; rw [HR.out] at e; obtain ⟨y, t2, h1, h2⟩ := bind_ok.1 e; cases h2; rw [← HQ.out _ _ h1]⟩
    have e15 : ((textB (headT ts)).toList == [60]) = false := by simp [h5]
    by_cases h6 : (textB (headT ts)).toList = [61]
    · have e16 : ((textB (headT ts)).toList == [61]) = true := by simp [h6]
      have hph2 : prefHere (headT ts) = (7, 10) := by rw [hph, h6]; rfl
      rw [hph2] at hR
      clear hph hph2 h0 h1 h2 h3 h4 h5 h6
      unfold Env.ptr at HST ⊢
      go_enter Tryz.func53, Tryz.ntmps53
      go_wp2_with (first | (refine wpList_box rfl 3 (.tmp 7) (.const (.int .i64 1)) rfl b 14 _ [.int .i64 1] rfl rfl rfl HB.out Tryz.sz3 (by simp [Ac.cells, Am.cells, Tm.cells, Sm.cells]) (by simp [Value.oneCell']) (({ id := id, attr := attr, value := value, pref := 1, other := nilAm } : Ac).cells) rfl ?_; intro w2 B2 g2; have HB2 := Lib.hid B2; have HR2 := Lib.hid (HFI.out _ g2); have HM2 : Hid (Mv2 E b w w2) := Lib.hid (.of_grown g2); obtain ⟨c0, c1, c2, c3, c4, c5⟩ := six_boxR HR2.out.box; clear B2 g2) | (refine wpList_box rfl 3 (.tmp 50) (.const (.int .i64 7)) rfl b 14 _ [.int .i64 7] rfl rfl rfl HB2.out Tryz.sz3 (by simp [Ac.cells, Am.cells, Tm.cells, Sm.cells]) (by simp [Value.oneCell']) (({ id := id, attr := attr, value := value, pref := 7, other := nilAm } : Ac).cells) rfl ?_; intro w3 B3 g3; have HB3 := Lib.hid B3; have HR3 := Lib.hid (HR2.out.kept g3 (by rintro b' e; cases e; exact HNB.out)); have HM3 : Hid (Mv2 E b w w3) := Lib.hid (HM2.out.trans (.of_grown g3)); clear B3 g3))
      refine (HST.out _ HR3.out).mono ?_
      rintro x w4 ⟨⟨_, rfl⟩, hm, hr⟩
      have HB4 := Lib.hid (hm.box HB3.out hbr hbi)
      have HM4 : Hid (Mv2 E b w w4) := Lib.hid (HM3.out.trans (.of_mv hm))
      have HR4 := Lib.hid hr
      clear hm hr
      have HBG := Lib.hid (begun_any w4 HR4.out)
      cases ha : atomHere (headT ts.tail) with
      | false =>
        rw [ha] at HBG
        have HR : Hid (R = .ok (7, nilAm) ts.tail) := Lib.hid (by rw [← hR, ha]; rfl)
        clear hR ha
        unfold Env.ptr at HBG
        go_wp2_with (go_at_call 78; refine HBG.out.mono ?_; rintro x w5 ⟨rfl, rfl⟩)
        go_end0
        exact ⟨⟨_, rfl⟩, HM4.out, by rw [HR.out]; exact HR4.out, 7, nilAm, HB4.out, ⟨nil_size, nil_size⟩, by intro x t e; rw [HR.out] at e; cases e; rfl⟩
      | true =>
        rw [ha] at HBG
        have HR : Hid (R = (pAtom ts.tail).bind fun a ts1 => .ok (10, a) ts1) := Lib.hid (by rw [← hR, ha]; rfl)
        clear hR ha
        unfold Env.ptr at HBG
        go_wp2_with (first | (go_at_call 78; refine HBG.out.mono ?_; rintro x w5 ⟨rfl, rfl⟩) | (refine wpList_box rfl 3 (.tmp 62) (.tmp 60) rfl b 14 _ [.int .i64 10] rfl rfl rfl HB4.out Tryz.sz3 (by simp [Ac.cells, Am.cells, Tm.cells, Sm.cells]) (by simp [Value.oneCell']) (({ id := id, attr := attr, value := value, pref := 10, other := nilAm } : Ac).cells) rfl ?_; intro w6 B6 g6; have HB6 := Lib.hid B6; have HR6 := Lib.hid (Rd.kept (E := E) HR4.out g6 (by rintro b' e; cases e; exact HNB.out)); have HM6 : Hid (Mv2 E b w w6) := Lib.hid (HM4.out.trans (.of_grown g6)); clear B6 g6))
        have HA := Lib.hid (readAtom_any w6 HR6.out)
        unfold Env.ptr at HA
        refine HA.out.mono ?_
        rintro x w7 ⟨⟨⟨av, ak, at_, an⟩, rfl, hs, hq⟩, hm, hr⟩
        have HB7 := Lib.hid (hm.box HB6.out hbr hbi)
        have HM7 : Hid (Mv2 E b w w7) := Lib.hid (HM6.out.trans (.of_mv hm))
        have HR7 := Lib.hid hr
        have HSZ := Lib.hid hs
        have HQ := Lib.hid hq
        clear hm hr hs hq
        unfold Am.val
        simp only
        go_wp2_with (refine wpList_box rfl 47 (.tmp 67) (.tmp 65) rfl b 15 _ [.string av, .int .i64 ak, .string at_, .int .i64 an] rfl rfl rfl HB7.out Tryz.sz47 (by simp [Ac.cells, Am.cells, Tm.cells, Sm.cells]) (by simp [Value.oneCell']) (({ id := id, attr := attr, value := value, pref := 10, other := ⟨av, ak, at_, an⟩ } : Ac).cells) rfl ?_; intro w8 B8 g8; have HB8 := Lib.hid B8; have HR8 := Lib.hid (RdAt.kept HR7.out g8 (by rintro b' e; cases e; exact HNB.out)); have HM8 : Hid (Mv2 E b w w8) := Lib.hid (HM7.out.trans (.of_grown g8)); clear B8 g8)
        go_end0
        exact ⟨⟨_, rfl⟩, HM8.out, by rw [HR.out]; exact RdAt.bind HR8.out fun _ _ => ⟨_, rfl⟩, 10, ⟨av, ak, at_, an⟩, HB8.out, HSZ.out, by intro x t e; rw [HR.out] at e; obtain ⟨y, t2, h1, h2⟩ := bind_ok.1 e; cases h2; rw [← HQ.out _ _ h1]⟩
    have e16 : ((textB (headT ts)).toList == [61]) = false := by simp [h6]
    have hph2 : prefHere (headT ts) = (0, 0) := by rw [hph]; simp only [h0, h1, h2, h3, h4, h5, h6, if_false]
    rw [hph2] at hR
    simp only [if_true] at hR
    have HR := Lib.hid hR
    clear hph hph2 hR h0 h1 h2 h3 h4 h5 h6
    unfold Env.ptr
    go_enter Tryz.func53, Tryz.ntmps53
    go_wp2_with (refine wpList_box rfl 3 (.tmp 7) (.const (.int .i64 1)) rfl b 14 _ [.int .i64 1] rfl rfl rfl HB.out Tryz.sz3 (by simp [Ac.cells, Am.cells, Tm.cells, Sm.cells]) (by simp [Value.oneCell']) (({ id := id, attr := attr, value := value, pref := 1, other := nilAm } : Ac).cells) rfl ?_; intro w2 B2 g2; have HB2 := Lib.hid B2; have HR2 := Lib.hid (HFI.out _ g2); have HM2 : Hid (Mv2 E b w w2) := Lib.hid (.of_grown g2); obtain ⟨c0, c1, c2, c3, c4, c5⟩ := six_boxR HR2.out.box; clear B2 g2)
    refine bodyPost_ret (results_none rfl _ _ _) rfl ?_
    exact ⟨⟨_, rfl⟩, HM2.out, by rw [← HR.out]; exact HR2.out, 1, nilAm, HB2.out, ⟨nil_size, nil_size⟩, by intro x t e; rw [← HR.out] at e; cases e; rfl⟩
  · rw [if_neg hk] at hph
    have e4 : (((headT ts).kind : Int) != 4) = true := by simp; omega
    rw [hph] at hR
    simp only [if_true] at hR
    have HR := Lib.hid hR
    clear hk hph hR
    unfold Env.ptr
    go_enter Tryz.func53, Tryz.ntmps53
    go_wp2_with (refine wpList_box rfl 3 (.tmp 7) (.const (.int .i64 1)) rfl b 14 _ [.int .i64 1] rfl rfl rfl HB.out Tryz.sz3 (by simp [Ac.cells, Am.cells, Tm.cells, Sm.cells]) (by simp [Value.oneCell']) (({ id := id, attr := attr, value := value, pref := 1, other := nilAm } : Ac).cells) rfl ?_; intro w2 B2 g2; have HB2 := Lib.hid B2; have HR2 := Lib.hid (HFI.out _ g2); have HM2 : Hid (Mv2 E b w w2) := Lib.hid (.of_grown g2); obtain ⟨c0, c1, c2, c3, c4, c5⟩ := six_boxR HR2.out.box; clear B2 g2)
    refine bodyPost_ret (results_none rfl _ _ _) rfl ?_
    exact ⟨⟨_, rfl⟩, HM2.out, by rw [← HR.out]; exact HR2.out, 1, nilAm, HB2.out, ⟨nil_size, nil_size⟩, by intro x t e; rw [← HR.out] at e; cases e; rfl⟩
end Go.Proofs.YtgeaccoobhigcaaGreat
namespace Go.Proofs.YtgeaccoobhigcaaGreat
open Go Go.RowKit
theorem am_big {a : Am} (h : a.v.size ≤ 1000000 ∧ a.s.t.size ≤ 1000000) : a.Big := ⟨Nat.le_trans h.1 (by decide), Nat.le_trans h.2 (by decide)⟩
theorem wpList_slice1 {P : Program} {ops : Array Oper} {rest : List Oper} {o : Oper} {a : Act} {w : World} {Q : Exit → Act → World → Prop} (hg : o.guard = none) (t : TypeId) (x : Operand) (ho : o.op = .buildSlice t 1 #[(0, x)])
    (e : TypeId) (C : Array Value) (hx : a.eval x = .agg C) (ie : TypeInfo) (z : Value)
    (hu : P.underlying t = some (.slice e)) (hie : P.info? e = some ie) (hz : ie.zero = some z) (hn : C.size = ie.size) (hp : 0 < C.size) (hs : C.size ≤ 1000)
    (h : wpList P ops Q rest (a.put o.dst (.slice (some ⟨w.heap.size, 0, none⟩) 1 1)) (w.alloc (.cells C e))) : wpList P ops Q (o :: rest) a w := by
  refine wpList_buildSlice hg t e 1 _ ho C ie z hu hie hz (by rw [← hn]; omega) (by rw [← hn]; omega) ?_ h
  obtain ⟨r, hr, hsz, hk⟩ := Great.fill_dense (s := ie.size) (by rw [← hn]; exact hp) [.agg C] 0 ((Array.range (1 * ie.size)).map (z.cells[· % z.cells.size]!)) (by intro v hv; rw [List.mem_singleton.1 hv]; exact hn) (by simp)
  have e1 : ((#[(0, x)] : Array (Nat × Operand)).map fun (i, x) => (i, a.eval x)).toList = (([.agg C] : List Value).zipIdx 0).map fun x => (x.2, x.1) := by simp [hx]
  rw [e1, hr]
  congr 1
  apply Array.ext
  · rw [hsz]; simp [hn]
  · intro k h1 h2
    have h3 := hk k
    rw [hn] at h2
    rw [if_pos ⟨by omega, by simp; omega⟩, Array.getElem?_eq_getElem h1] at h3
    have h4 : k / ie.size = 0 := Nat.div_eq_of_lt h2
    rw [h4, Nat.mod_eq_of_lt h2] at h3
    have h5 : k < C.size := by omega
    simp only [Value.cells, Nat.sub_zero, List.getElem?_cons_zero, Option.bind_some, Array.getElem?_eq_getElem h5] at h3
    exact Option.some.inj h3
theorem acts_zero {i0 : TypeInfo} {z0 : Value} (hi : Tryz.prog.info? 51 = some i0) (hz : i0.zero = some z0) : z0.cells.size = 19 := by
  have h : ((Tryz.prog.info? 51).bind fun i => i.zero).map (fun z => z.cells.size) = some 19 := by kernel_rfl
  rw [hi] at h
  simp only [Option.bind_some, hz, Option.map_some, Option.some.injEq] at h
  exact h
/-- Actions that the call has made come back; where it goes wrong, some actions. -/
def ActsIs (base : Nat) (w' : World) (r : Rs (List Ac)) (x : Ending) : Prop := ∃ (v : Value) (l : List Ac), x = .returned v ∧ OwnD mkAct base 51 w' v l ∧ l.length ≤ 1000001 ∧ ∀ a ts, r = .ok a ts → l = a
def nilTm : Tm := ⟨0, nilAm, nilAm⟩
set_option maxRecDepth 100000 in
theorem act_built (id : ByteArray) : Tryz.prog.built 51 [(0, .string id)] = some (Ac.mk id nilAm nilTm 0 nilAm).cells.toArray := by kernel_rfl
theorem ac_all (a : Ac) : a.cells.toArray.all (·.oneCell') = true := by simp [Ac.cells, Am.cells, Sm.cells, Tm.cells, Value.oneCell']
theorem wpList_build_to {P : Program} {ops : Array Oper} {rest : List Oper} {o : Oper} {a : Act} {w : World} {Q : Exit → Act → World → Prop} (hg : o.guard = none) (t : TypeId) (k : Nat) (x : Operand) (ho : o.op = .build t #[(k, x)]) (v : Value) (hx : a.eval x = v) (V : Array Value)
    (hV : P.built t [(k, v)] = some V)
    (h : wpList P ops Q rest (a.put o.dst (.agg V)) w) : wpList P ops Q (o :: rest) a w := by
  have hV2 : P.built t ((#[(k, x)] : Array (Nat × Operand)).map fun (i, x) => (i, a.eval x)).toList = some V := by simpa [hx] using hV
  refine wpList_build hg t _ ho (by rw [hV2]; rfl) ?_
  rw [hV2]
  exact h
structure ActsRun (E : Env) (w : World) (Z : Rs (List Ac)) (p : Pr Ac) (stop : ByteArray) (v : Value) (l : List Ac) (first : Bool) (k : Nat) (wr : World) : Prop where
  own : OwnD mkAct w.heap.size 51 wr v l
  mv : Mv E w wr
  goes : (∃ ts, Rd E wr ts (-1) 0 ∧ l.length + ts.length ≤ 1000000 ∧ ((first = true ∧ l = [] ∧ ts.length + 1 < k ∧ Z = pEnds p stop ts) ∨ (first = false ∧ ts.length < k ∧ Z = rest p stop k l ts))) ∨ (∃ (ts : List Tk) (q : Nat), Rd E wr ts q 5 ∧ Z = .bad q)
  len : l.length ≤ 1000001
theorem ActsRun.more {E : Env} {w wr w0 w' : World} {Z : Rs (List Ac)} {p : Pr Ac} {stop : ByteArray} {v v' : Value} {l : List Ac} {first : Bool} {k k' : Nat} {u : Ac} {ts : List Tk} (h : ActsRun E w Z p stop v l first k wr) (lows : ∀ b, E.Blk b → b < w.heap.size) (he : Eats p)
    (hcnt : l.length + ts.length ≤ 1000000) (hm : Mv E wr w0) (hr : RdAt E w0 (p ts)) (hq : ∀ a t, p ts = .ok a t → u = a)
    (hZ : (∀ q, p ts = .bad q → Z = .bad q) ∧ ∀ a t, p ts = .ok a t → t.length < k' ∧ Z = rest p stop k' (l ++ [a]) t)
    (ho : OwnD mkAct w.heap.size 51 w' v' (l ++ [u])) (hg : w0.grownBy w' v.ownBlock) : ActsRun E w Z p stop v' (l ++ [u]) false k' w' := by
  have hown : ∀ b, v.ownBlock = some b → w.heap.size ≤ b := fun b e => (h.own.own.lt b e).1
  have hnb : ∀ b, v.ownBlock = some b → ¬ E.Blk b := fun b hb hc => by have := hown b hb; have := lows b hc; omega
  refine ⟨ho, (h.mv.trans hm).grown hg fun b e => .inr (.inr (hown b e)), ?_, by simp; omega⟩
  cases hp : p ts with
  | bad q =>
    rw [hp] at hr
    obtain ⟨ts', hr⟩ := hr
    exact .inr ⟨ts', q, hr.kept hg hnb, hZ.1 q hp⟩
  | ok a ts' =>
    rw [hp] at hr hq
    have h1 := he _ _ _ hp
    have h3 := hq _ _ rfl
    obtain ⟨z1, z2⟩ := hZ.2 a ts' hp
    refine .inl ⟨ts', Rd.kept (E := E) (w := w0) hr hg hnb, by simp; omega, .inr ⟨rfl, z1, ?_⟩⟩
    rw [h3]
    exact z2
set_option maxRecDepth 100000 in
set_option maxHeartbeats 16000000 in
theorem acts_any {E : Env} {ts : List Tk} (w : World) (h : Rd E w ts (-1) 0) : Calls Tryz.prog 33 #[E.ptr] w fun x w' => ActsIs w.heap.size w' (pActs ts) x ∧ Mv E w w' ∧ RdAt E w' (pActs ts) := by
  have HTK := Lib.hid (take_any _ h bOpen)
  have HLO := Lib.hid (h.lows E.r (.inl rfl))
  have HLI := Lib.hid (h.lows E.ib (.inr (.inr (.inl rfl))))
  have HLW := Lib.hid h.lows
  obtain ⟨i0, z0, hi, hz0, hz1, hz2⟩ := acts_info
  have hzs : z0.cells.size = 19 := acts_zero hi hz0
  obtain ⟨Z, hZ⟩ : ∃ Z, pActs ts = Z := ⟨_, rfl⟩
  rw [hZ]
  have HZ := Lib.hid hZ
  clear h hZ
  cases hp : pTake bOpen ts with
  | bad q =>
    have HRR : Hid (Z = .bad q) := Lib.hid (by rw [← HZ.out]; unfold pActs; rw [hp]; rfl)
    rw [hp] at HTK
    clear HZ hp
    unfold Env.ptr at HTK ⊢
    unfold bOpen at HTK
    go_enter Tryz.func33, Tryz.ntmps33
    go_wp2_with fail
    refine HTK.out.mono ?_
    rintro x w1 ⟨⟨_, rfl⟩, hm, ts1, hr⟩
    have HM1 := Lib.hid hm
    have HTX := Lib.hid (text_err _ hr (by decide) 3)
    have HT := Lib.hid (take_err _ hr (by decide) bShut)
    have HR1 := Lib.hid hr
    obtain ⟨c0, c1, c2, c3, c4, c5⟩ := six_boxR hr.box
    unfold Env.ptr at HTX HT
    unfold bShut at HT
    clear hm hr
    go_wp2_with (go_at_call 30; refine HTX.out.mono ?_; rintro x w2 ⟨rfl, rfl⟩)
    go_loopg [4, 5] 0 (fun gk v fv wr => ∃ b : Bool, v = .slice none 0 0 ∧ fv = .bool b ∧ wr = w1)
    case atStart => exact ⟨true, rfl, rfl, rfl⟩
    case round =>
      obtain ⟨b, rfl, rfl, rfl⟩ := hrel
      go_wp2_with fail
      refine HT.out.mono ?_
      rintro x w8 ⟨⟨_, rfl⟩, rfl⟩
      clear c0 c1 c2 c3 c4 c5
      go_wp2
      go_ret
      exact ⟨⟨_, [], rfl, OwnD.nil _ _ _ _, by simp, by intro a t e; rw [HRR.out] at e; cases e⟩, HM1.out, by rw [HRR.out]; exact ⟨_, HR1.out⟩⟩
  | ok _ ts1 =>
    have HZ1 : Hid (Z = (pText 3 ts1).bind fun id ts2 => pEnds (pAct id) bShut ts2) := Lib.hid (by rw [← HZ.out]; unfold pActs; rw [hp]; rfl)
    rw [hp] at HTK
    clear HZ hp
    unfold Env.ptr at HTK ⊢
    unfold bOpen at HTK
    go_enter Tryz.func33, Tryz.ntmps33
    go_wp2_with fail
    refine HTK.out.mono ?_
    rintro x w1 ⟨⟨_, rfl⟩, hm, hr⟩
    have HM1 := Lib.hid hm
    have HR1 : Hid (Rd E w1 ts1 (-1) 0) := Lib.hid hr
    have HTX := Lib.hid (text_any w1 HR1.out 3 (by omega))
    clear hm hr HTK
    unfold Env.ptr at HTX
    go_wp2_with fail
    refine HTX.out.mono ?_
    rintro x w2 ⟨⟨id, rfl, hid, hiq⟩, hm, hr⟩
    have HM2 := Lib.hid (HM1.out.trans hm)
    clear hm HTX
    cases hp : pText 3 ts1 with
    | bad q =>
      rw [hp] at hr
      obtain ⟨ts3, hr⟩ := hr
      have HRR : Hid (Z = .bad q) := Lib.hid (by rw [HZ1.out, hp]; rfl)
      have HR1 := Lib.hid hr
      have HM1 := HM2
      have HT := Lib.hid (take_err _ hr (by decide) bShut)
      obtain ⟨c0, c1, c2, c3, c4, c5⟩ := six_boxR hr.box
      unfold Env.ptr at HT
      unfold bShut at HT
      clear hr hp hiq
      go_wp2
      go_loopg [4, 5] 0 (fun gk v fv wr => ∃ b : Bool, v = .slice none 0 0 ∧ fv = .bool b ∧ wr = w2)
      case atStart => exact ⟨true, rfl, rfl, rfl⟩
      case round =>
        obtain ⟨b, rfl, rfl, rfl⟩ := hrel
        go_wp2_with fail
        refine HT.out.mono ?_
        rintro x w8 ⟨⟨_, rfl⟩, rfl⟩
        clear c0 c1 c2 c3 c4 c5
        go_wp2
        go_ret
        exact ⟨⟨_, [], rfl, OwnD.nil _ _ _ _, by simp, by intro a t e; rw [HRR.out] at e; cases e⟩, HM1.out, by rw [HRR.out]; exact ⟨_, HR1.out⟩⟩
    | ok id' ts3 =>
      rw [hp] at hr
      obtain rfl : id = id' := hiq _ _ hp
      have HR3 : Hid (Rd E w2 ts3 (-1) 0) := Lib.hid hr
      have HID := Lib.hid hid
      have HS : Hid (ActsRun E w Z (pAct id) bShut (.slice none 0 0) [] true (ts3.length + 2) w2) := Lib.hid ⟨OwnD.nil _ _ _ _, HM2.out, .inl ⟨ts3, HR3.out, by have := HR3.out.len; simpa using this, .inl ⟨rfl, rfl, by omega, by rw [HZ1.out, hp]; rfl⟩⟩, by simp⟩
      clear hr hp hiq hid HZ1 HR3 HM2 HM1 HR1
      go_wp2
      go_loopg [4, 5] (ts3.length + 2) (fun gk v fv wr => ∃ (l : List Ac) (b : Bool), fv = .bool b ∧ Hid (ActsRun E w Z (pAct id) bShut v l b gk wr))
      case atStart => exact ⟨[], true, rfl, HS⟩
      case round => as_aux_lemma =>
        clear HS
        obtain ⟨l, b, rfl, HG⟩ := hrel
        rcases HG.out.goes with ⟨ts5, hr, hcnt, hc⟩ | ⟨ts5, q, hr, hR⟩
        · obtain ⟨c0, c1, c2, c3, c4, c5⟩ := six_boxR hr.box
          have HR := Lib.hid hr
          rcases hc with ⟨rfl, rfl, hgk, hZ⟩ | ⟨rfl, hgk, hZ⟩
          · obtain ⟨KK, hKK, HZK⟩ : ∃ KK, KK < gk ∧ Hid ((∀ q, pAct id ts5 = .bad q → Z = .bad q) ∧ ∀ a t, pAct id ts5 = .ok a t → t.length < KK ∧ Z = rest (pAct id) bShut KK (([] : List Ac) ++ [a]) t) := by
              cases hp : pAct id ts5 with
              | bad q => exact ⟨0, by omega, Lib.hid ⟨(fun q' e => by cases e; rw [hZ, rest_first_bad hp]), (fun a t e => by cases e)⟩⟩
              | ok a t => exact ⟨t.length + 1, by have := pAct_eats _ _ _ _ hp; omega, Lib.hid ⟨(fun q' e => by cases e), (fun a' t' e => by cases e; exact ⟨Nat.lt_succ_self _, by rw [hZ, rest_first hp]; rfl⟩)⟩⟩
            clear hr hZ
            go_upto_region 7 with fail
            have hll : (([] : List Ac)).length ≤ 1000000 := by simp
            have hbt := act_built id
            have hcl0 := ac_len (Ac.mk id nilAm nilTm 0 nilAm)
            have hc10 := ac_all (Ac.mk id nilAm nilTm 0 nilAm)
            obtain ⟨C0, hC0⟩ : ∃ C0, (Ac.mk id nilAm nilTm 0 nilAm).cells = C0 := ⟨_, rfl⟩
            rw [hC0] at hbt hcl0 hc10
            have HBT := Lib.hid hbt
            have HCL0 := Lib.hid hcl0
            have HC10 := Lib.hid hc10
            have HB1 : Hid (BoxC (wr.alloc (.cells C0.toArray 51)) wr.heap.size 51 (Ac.mk id nilAm nilTm 0 nilAm).cells) := Lib.hid (by rw [hC0]; exact BoxC.new wr C0 51)
            clear hbt hcl0 hc10 hC0
            have HM1 : Hid (Mv E wr (wr.alloc (.cells C0.toArray 51))) := Lib.hid ((Mv.refl E wr).alloc _)
            have hRA := HR.out.alloc (.cells C0.toArray 51)
            have HTK := Lib.hid (take_any _ hRA bHat)
            have hRr : E.r < wr.heap.size := HR.out.lows E.r (.inl rfl)
            have hRi : E.ib < wr.heap.size := HR.out.lows E.ib (.inr (.inr (.inl rfl)))
            have hnb : ¬ E.Blk wr.heap.size := fun hc => Nat.lt_irrefl _ (HR.out.lows _ hc)
            have HNB := Lib.hid hnb
            clear hRA hnb
            unfold Env.ptr bHat at HTK
            go_wp2_with (first | (refine wpList_build_to (o := ⟨some 25, _, _, _, _, _⟩) rfl 51 0 (.tmp 24) rfl (.string id) rfl C0.toArray HBT.out ?_) | (refine wpList_store_agg (o := ⟨none, .store 51 _ _, _, _, _, _⟩) agg69 rfl _ _ rfl C0.toArray 51 _ rfl rfl (by simp [HCL0.out]) rfl HC10.out ?_))
            refine HTK.out.mono ?_
            rintro x w10 ⟨⟨_, rfl⟩, hm, hr⟩
            have HBK := Lib.hid (hm.box HB1.out (by omega) (by omega))
            have HMK := Lib.hid (HM1.out.trans hm)
            clear hm HB1 HM1 HTK c0 c1 c2 c3 c4 c5
            cases hp : pTake bHat ts5 with
            | bad q =>
              unfold bHat at hp
              rw [hp] at hr
              obtain ⟨ts6, hr⟩ := hr
              have HRR : Hid (Z = .bad q) := Lib.hid (HZK.out.1 q (by unfold pAct; unfold bHat; rw [hp]; rfl))
              have HRQ := Lib.hid hr
              obtain ⟨c0, c1, c2, c3, c4, c5⟩ := six_boxR hr.box
              clear hr HZK
              go_wp2
              go_ret
              exact ⟨⟨_, [], rfl, OwnD.nil _ _ _ _, by simp, by intro a t e; rw [HRR.out] at e; cases e⟩, HG.out.mv.trans HMK.out, by rw [HRR.out]; exact ⟨_, HRQ.out⟩⟩
            | ok _ ts6 => as_aux_lemma =>
              unfold bHat at hp
              rw [hp] at hr
              have HPA : Hid (pAct id ts5 = (pAtom ts6).bind fun a ts2 => (pTerm ts2).bind fun v ts3 => (pPref ts3).bind fun q ts4 => .ok ⟨id, a, v, q.1, q.2⟩ ts4) := Lib.hid (by unfold pAct; unfold bHat; rw [hp]; rfl)
              have HR6 : Hid (Rd E w10 ts6 (-1) 0) := Lib.hid hr
              have HAT := Lib.hid (readAtom_any w10 HR6.out)
              obtain ⟨c0, c1, c2, c3, c4, c5⟩ := six_boxR HR6.out.box
              clear hr hp
              unfold Env.ptr at HAT
              go_wp2_with fail
              refine HAT.out.mono ?_
              rintro x w11 ⟨⟨⟨av, ak, at_, an⟩, rfl, hsa, hqa⟩, hm, hr⟩
              have HB11 := Lib.hid (hm.box HBK.out (by omega) (by omega))
              have HM11 := Lib.hid (HMK.out.trans hm)
              have HR11 := Lib.hid hr
              have HSA := Lib.hid hsa
              have HQA := Lib.hid hqa
              clear hm hr hsa hqa HAT HR6 HBK HMK c0 c1 c2 c3 c4 c5
              unfold Am.val
              simp only
              go_upto_region 12 with (refine wpList_box rfl 47 (.tmp 35) (.tmp 34) rfl wr.heap.size 1 _ [.string av, .int .i64 ak, .string at_, .int .i64 an] rfl rfl rfl HB11.out Tryz.sz47 (by simp [Ac.cells, Am.cells, Tm.cells, Sm.cells]) (by simp [Value.oneCell']) (({ id := id, attr := ⟨av, ak, at_, an⟩, value := nilTm, pref := 0, other := nilAm } : Ac).cells) rfl ?_; intro w12 B12 g12; have HB12 := Lib.hid B12; have HMK := Lib.hid (HM11.out.new g12 (Nat.le_refl _)); have HR12 := Lib.hid (RdAt.kept HR11.out g12 (by rintro b' e; cases e; exact HNB.out)); clear B12 g12)
              cases hp : pAtom ts6 with
              | bad q =>
                have hr := HR12.out
                rw [hp] at hr
                obtain ⟨ts7, hr⟩ := hr
                have HRR : Hid (Z = .bad q) := Lib.hid (HZK.out.1 q (by rw [HPA.out, hp]; rfl))
                have HRQ := Lib.hid hr
                obtain ⟨c0, c1, c2, c3, c4, c5⟩ := six_boxR hr.box
                clear hr hp HZK HR12
                go_wp2
                go_ret
                exact ⟨⟨_, [], rfl, OwnD.nil _ _ _ _, by simp, by intro a t e; rw [HRR.out] at e; cases e⟩, HG.out.mv.trans HMK.out, by rw [HRR.out]; exact ⟨_, HRQ.out⟩⟩
              | ok a1 ts7 => as_aux_lemma =>
                have hr := HR12.out
                rw [hp] at hr
                have HAE : Hid ((⟨av, ak, at_, an⟩ : Am) = a1) := Lib.hid (HQA.out _ _ hp)
                have HPB : Hid (pAct id ts5 = (pTerm ts7).bind fun v ts3 => (pPref ts3).bind fun q ts4 => .ok ⟨id, a1, v, q.1, q.2⟩ ts4) := Lib.hid (by rw [HPA.out, hp]; rfl)
                have HR13 : Hid (Rd E w12 ts7 (-1) 0) := Lib.hid hr
                have HTE := Lib.hid (term_any w12 HR13.out)
                obtain ⟨c0, c1, c2, c3, c4, c5⟩ := six_boxR HR13.out.box
                clear hr hp HPA HQA HR12 HR11
                unfold Env.ptr at HTE
                go_wp2_with fail
                refine HTE.out.mono ?_
                rintro x w13 ⟨⟨⟨op, ⟨xv, xk, xt, xn⟩, ⟨yv, yk, yt, yn⟩⟩, rfl, hst, hqt⟩, hm, hr⟩
                have HB13 := Lib.hid (hm.box HB12.out (by omega) (by omega))
                have HM13 := Lib.hid (HMK.out.trans hm)
                have HR14 := Lib.hid hr
                have HST := Lib.hid hst
                have HQT := Lib.hid hqt
                clear hm hr hst hqt HTE HR13 HB12 HMK c0 c1 c2 c3 c4 c5
                unfold Tm.val
                simp only
                go_upto_region 15 with (refine wpList_box rfl 49 (.tmp 43) (.tmp 42) rfl wr.heap.size 5 _ [.int .i64 op, .string xv, .int .i64 xk, .string xt, .int .i64 xn, .string yv, .int .i64 yk, .string yt, .int .i64 yn] rfl rfl rfl HB13.out Tryz.sz49 (by simp [Ac.cells, Am.cells, Tm.cells, Sm.cells]) (by simp [Value.oneCell']) (({ id := id, attr := ⟨av, ak, at_, an⟩, value := ⟨op, ⟨xv, xk, xt, xn⟩, ⟨yv, yk, yt, yn⟩⟩, pref := 0, other := nilAm } : Ac).cells) rfl ?_; intro w14 B14 g14; have HB14 := Lib.hid B14; have HMK := Lib.hid (HM13.out.new g14 (Nat.le_refl _)); have HR15 := Lib.hid (RdAt.kept HR14.out g14 (by rintro b' e; cases e; exact HNB.out)); clear B14 g14)
                cases hp : pTerm ts7 with
                | bad q =>
                  have hr := HR15.out
                  rw [hp] at hr
                  obtain ⟨ts8, hr⟩ := hr
                  have HRR : Hid (Z = .bad q) := Lib.hid (HZK.out.1 q (by rw [HPB.out, hp]; rfl))
                  have HRQ := Lib.hid hr
                  obtain ⟨c0, c1, c2, c3, c4, c5⟩ := six_boxR hr.box
                  clear hr hp HZK HR15
                  go_wp2
                  go_ret
                  exact ⟨⟨_, [], rfl, OwnD.nil _ _ _ _, by simp, by intro a t e; rw [HRR.out] at e; cases e⟩, HG.out.mv.trans HMK.out, by rw [HRR.out]; exact ⟨_, HRQ.out⟩⟩
                | ok t1 ts8 => as_aux_lemma =>
                  have hr := HR15.out
                  rw [hp] at hr
                  have HTT : Hid ((⟨op, ⟨xv, xk, xt, xn⟩, ⟨yv, yk, yt, yn⟩⟩ : Tm) = t1) := Lib.hid (HQT.out _ _ hp)
                  have HPC : Hid (pAct id ts5 = (pPref ts8).bind fun q ts4 => .ok ⟨id, a1, t1, q.1, q.2⟩ ts4) := Lib.hid (by rw [HPB.out, hp]; rfl)
                  have HR16 : Hid (Rd E w14 ts8 (-1) 0) := Lib.hid hr
                  have HPR := Lib.hid (pref_any w14 HR16.out HB14.out rfl HNB.out)
                  obtain ⟨c0, c1, c2, c3, c4, c5⟩ := six_boxR HR16.out.box
                  clear hr hp HPB HQT HR15 HR14
                  unfold Env.ptr at HPR
                  go_wp2_with fail
                  refine HPR.out.mono ?_
                  rintro x w15 ⟨⟨_, rfl⟩, hm, hr, q, oa, hbx, hso, hqo⟩
                  have hmk : Mv E wr w15 := Mv2.mv HMK.out (Nat.le_refl _) hm
                  have hbig : (Ac.mk id ⟨av, ak, at_, an⟩ ⟨op, ⟨xv, xk, xt, xn⟩, ⟨yv, yk, yt, yn⟩⟩ q oa).Big := ⟨Nat.le_trans HID.out (by decide), am_big HSA.out, am_big HST.out.1, am_big HST.out.2, am_big hso⟩
                  have hrr : RdAt E w15 (pAct id ts5) := by rw [HPC.out]; exact RdAt.bind hr fun _ _ => ⟨_, rfl⟩
                  have hqq : ∀ a t, pAct id ts5 = .ok a t → Ac.mk id ⟨av, ak, at_, an⟩ ⟨op, ⟨xv, xk, xt, xn⟩, ⟨yv, yk, yt, yn⟩⟩ q oa = a := by
                    intro a t e
                    rw [HPC.out] at e
                    obtain ⟨y, t2, h1, h2⟩ := bind_ok.1 e
                    cases h2
                    rw [← hqo _ _ h1, HAE.out, HTT.out]
                  simp only at hbx
                  generalize Ac.mk id ⟨av, ak, at_, an⟩ ⟨op, ⟨xv, xk, xt, xn⟩, ⟨yv, yk, yt, yn⟩⟩ q oa = u at hbx hbig hqq
                  have HBX := Lib.hid (fun j x (h : u.cells[j]? = some x) => by rw [addr_add_lit, Nat.zero_add]; exact hbx.at_ h : ∀ j x, u.cells[j]? = some x → w15.cell? ((⟨wr.heap.size, 0, none⟩ : Addr).add j) = some x)
                  have HCL := Lib.hid (ac_len u)
                  have HBG := Lib.hid hbig
                  have HM15 := Lib.hid hmk
                  have HMR := Lib.hid (fun k' hz w9 v9 => HG.out.more (k' := k') (ts := ts5) (u := u) (w0 := w15) (w' := w9) (v' := v9) HLW.out (pAct_eats id) hcnt hmk hrr hqq hz)
                  clear hm hr hbx hso hqo hmk hbig hrr hqq HPR HR16 HB14 HMK HPC HAE HTT c0 c1 c2 c3 c4 c5
                  obtain ⟨C, hC⟩ : ∃ C, u.cells = C := ⟨_, rfl⟩
                  rw [hC] at HBX HCL
                  have HCC := Lib.hid hC
                  clear hC
                  go_wp2_with (first | (refine wpList_load_agg (o := ⟨some 52, _, _, _, _, _⟩) agg69 rfl _ rfl ⟨wr.heap.size, 0, none⟩ rfl C HBX.out HCL.out ?_) | (refine wpList_slice1 (o := ⟨some 53, _, _, _, _, _⟩) rfl 24 (.tmp 52) rfl 51 C.toArray rfl i0 z0 Tryz.underlying24 hi hz0 (by rw [hz1]; simp [HCL.out]) (by simp [HCL.out]) (by simp [HCL.out]) ?_) | (at_builtin; refine wpList_push3 rfl (.tmp 51) (.tmp 53) 24 rfl mkAct 51 i0 _ 224 Tryz.underlying24 hi hz0 hz1 hz2 hzs (by omega) (E := E) (w := w) (wr := wr) (w0 := w15) _ [] u rfl HG.out.own HG.out.mv HM15.out HLO.out HLI.out HBG.out trivial hll _ rfl rfl (by rw [← HCC.out]; rfl) ?_; intro go' c' w16 ho16 hg16))
                  have HN : Hid (ActsRun E w Z (pAct id) bShut (.slice (some go') ([].length + 1) c') ([] ++ [u]) false KK w16) := Lib.hid (HMR.out KK HZK.out _ _ ho16 hg16)
                  clear ho16 hg16
                  go_wp2
                  go_roundg KK
                  case rel => exact ⟨_, false, rfl, HN⟩
                  case measure => omega
          · obtain ⟨gk, rfl⟩ : ∃ g, gk = g + 1 := ⟨gk - 1, by omega⟩
            have hI := is_any _ HR.out bShut
            cases hb : isB (headT ts5) bShut with
            | true =>
              rw [hb] at hI
              rw [rest_stop hb] at hZ
              have hT := take_any _ hr bShut
              unfold pTake at hT
              rw [hb] at hT
              simp only [if_true, RdAt] at hT
              have HI := Lib.hid hI
              have HT := Lib.hid hT
              have HRR := Lib.hid hZ
              have hll : l.length ≤ 1000001 := HG.out.len
              clear hr hZ hI hb hT
              unfold Env.ptr bShut at HI HT
              go_wp2_with (go_at_call 32; refine HI.out.mono ?_; rintro x w7 ⟨rfl, rfl⟩)
              refine HT.out.mono ?_
              rintro x w8 ⟨⟨_, rfl⟩, hm, hr⟩
              have HO8 := Lib.hid (HG.out.own.moved hm HLO.out HLI.out)
              have HM8 := Lib.hid (HG.out.mv.trans hm)
              have HR8 := Lib.hid hr
              clear hm hr c0 c1 c2 c3 c4 c5
              go_wp2
              go_ret
              exact ⟨⟨_, _, rfl, HO8.out, hll, by intro a t e; rw [HRR.out] at e; cases e; rfl⟩, HM8.out, by rw [HRR.out]; exact HR8.out⟩
            | false =>
              rw [hb] at hI
              have HI := Lib.hid hI
              have HZK : Hid ((∀ q, pAct id ts5 = .bad q → Z = .bad q) ∧ ∀ a t, pAct id ts5 = .ok a t → t.length < gk ∧ Z = rest (pAct id) bShut gk (l ++ [a]) t) := Lib.hid ⟨(fun q hp => hZ.trans (rest_bad hb hp)), (fun a t hp => ⟨by have := pAct_eats _ _ _ _ hp; omega, by rw [hZ, rest_next hb hp]⟩)⟩
              clear hr hZ hI hb
              unfold Env.ptr bShut at HI
              go_upto_region 7 with (go_at_call 32; refine HI.out.mono ?_; rintro x w7 ⟨rfl, rfl⟩)
              have hll : (l).length ≤ 1000000 := by omega
              have hbt := act_built id
              have hcl0 := ac_len (Ac.mk id nilAm nilTm 0 nilAm)
              have hc10 := ac_all (Ac.mk id nilAm nilTm 0 nilAm)
              obtain ⟨C0, hC0⟩ : ∃ C0, (Ac.mk id nilAm nilTm 0 nilAm).cells = C0 := ⟨_, rfl⟩
              rw [hC0] at hbt hcl0 hc10
              have HBT := Lib.hid hbt
              have HCL0 := Lib.hid hcl0
              have HC10 := Lib.hid hc10
              have HB1 : Hid (BoxC (wr.alloc (.cells C0.toArray 51)) wr.heap.size 51 (Ac.mk id nilAm nilTm 0 nilAm).cells) := Lib.hid (by rw [hC0]; exact BoxC.new wr C0 51)
              clear hbt hcl0 hc10 hC0
              have HM1 : Hid (Mv E wr (wr.alloc (.cells C0.toArray 51))) := Lib.hid ((Mv.refl E wr).alloc _)
              have hRA := HR.out.alloc (.cells C0.toArray 51)
              have HTK := Lib.hid (take_any _ hRA bHat)
              have hRr : E.r < wr.heap.size := HR.out.lows E.r (.inl rfl)
              have hRi : E.ib < wr.heap.size := HR.out.lows E.ib (.inr (.inr (.inl rfl)))
              have hnb : ¬ E.Blk wr.heap.size := fun hc => Nat.lt_irrefl _ (HR.out.lows _ hc)
              have HNB := Lib.hid hnb
              clear hRA hnb
              unfold Env.ptr bHat at HTK
              go_wp2_with (first | (refine wpList_build_to (o := ⟨some 25, _, _, _, _, _⟩) rfl 51 0 (.tmp 24) rfl (.string id) rfl C0.toArray HBT.out ?_) | (refine wpList_store_agg (o := ⟨none, .store 51 _ _, _, _, _, _⟩) agg69 rfl _ _ rfl C0.toArray 51 _ rfl rfl (by simp [HCL0.out]) rfl HC10.out ?_))
              refine HTK.out.mono ?_
              rintro x w10 ⟨⟨_, rfl⟩, hm, hr⟩
              have HBK := Lib.hid (hm.box HB1.out (by omega) (by omega))
              have HMK := Lib.hid (HM1.out.trans hm)
              clear hm HB1 HM1 HTK c0 c1 c2 c3 c4 c5
              cases hp : pTake bHat ts5 with
              | bad q =>
                unfold bHat at hp
                rw [hp] at hr
                obtain ⟨ts6, hr⟩ := hr
                have HRR : Hid (Z = .bad q) := Lib.hid (HZK.out.1 q (by unfold pAct; unfold bHat; rw [hp]; rfl))
                have HRQ := Lib.hid hr
                obtain ⟨c0, c1, c2, c3, c4, c5⟩ := six_boxR hr.box
                clear hr HZK
                go_wp2
                go_ret
                exact ⟨⟨_, [], rfl, OwnD.nil _ _ _ _, by simp, by intro a t e; rw [HRR.out] at e; cases e⟩, HG.out.mv.trans HMK.out, by rw [HRR.out]; exact ⟨_, HRQ.out⟩⟩
              | ok _ ts6 => as_aux_lemma =>
                unfold bHat at hp
                rw [hp] at hr
                have HPA : Hid (pAct id ts5 = (pAtom ts6).bind fun a ts2 => (pTerm ts2).bind fun v ts3 => (pPref ts3).bind fun q ts4 => .ok ⟨id, a, v, q.1, q.2⟩ ts4) := Lib.hid (by unfold pAct; unfold bHat; rw [hp]; rfl)
                have HR6 : Hid (Rd E w10 ts6 (-1) 0) := Lib.hid hr
                have HAT := Lib.hid (readAtom_any w10 HR6.out)
                obtain ⟨c0, c1, c2, c3, c4, c5⟩ := six_boxR HR6.out.box
                clear hr hp
                unfold Env.ptr at HAT
                go_wp2_with fail
                refine HAT.out.mono ?_
                rintro x w11 ⟨⟨⟨av, ak, at_, an⟩, rfl, hsa, hqa⟩, hm, hr⟩
                have HB11 := Lib.hid (hm.box HBK.out (by omega) (by omega))
                have HM11 := Lib.hid (HMK.out.trans hm)
                have HR11 := Lib.hid hr
                have HSA := Lib.hid hsa
                have HQA := Lib.hid hqa
                clear hm hr hsa hqa HAT HR6 HBK HMK c0 c1 c2 c3 c4 c5
                unfold Am.val
                simp only
                go_upto_region 12 with (refine wpList_box rfl 47 (.tmp 35) (.tmp 34) rfl wr.heap.size 1 _ [.string av, .int .i64 ak, .string at_, .int .i64 an] rfl rfl rfl HB11.out Tryz.sz47 (by simp [Ac.cells, Am.cells, Tm.cells, Sm.cells]) (by simp [Value.oneCell']) (({ id := id, attr := ⟨av, ak, at_, an⟩, value := nilTm, pref := 0, other := nilAm } : Ac).cells) rfl ?_; intro w12 B12 g12; have HB12 := Lib.hid B12; have HMK := Lib.hid (HM11.out.new g12 (Nat.le_refl _)); have HR12 := Lib.hid (RdAt.kept HR11.out g12 (by rintro b' e; cases e; exact HNB.out)); clear B12 g12)
                cases hp : pAtom ts6 with
                | bad q =>
                  have hr := HR12.out
                  rw [hp] at hr
                  obtain ⟨ts7, hr⟩ := hr
                  have HRR : Hid (Z = .bad q) := Lib.hid (HZK.out.1 q (by rw [HPA.out, hp]; rfl))
                  have HRQ := Lib.hid hr
                  obtain ⟨c0, c1, c2, c3, c4, c5⟩ := six_boxR hr.box
                  clear hr hp HZK HR12
                  go_wp2
                  go_ret
                  exact ⟨⟨_, [], rfl, OwnD.nil _ _ _ _, by simp, by intro a t e; rw [HRR.out] at e; cases e⟩, HG.out.mv.trans HMK.out, by rw [HRR.out]; exact ⟨_, HRQ.out⟩⟩
                | ok a1 ts7 => as_aux_lemma =>
                  have hr := HR12.out
                  rw [hp] at hr
                  have HAE : Hid ((⟨av, ak, at_, an⟩ : Am) = a1) := Lib.hid (HQA.out _ _ hp)
                  have HPB : Hid (pAct id ts5 = (pTerm ts7).bind fun v ts3 => (pPref ts3).bind fun q ts4 => .ok ⟨id, a1, v, q.1, q.2⟩ ts4) := Lib.hid (by rw [HPA.out, hp]; rfl)
                  have HR13 : Hid (Rd E w12 ts7 (-1) 0) := Lib.hid hr
                  have HTE := Lib.hid (term_any w12 HR13.out)
                  obtain ⟨c0, c1, c2, c3, c4, c5⟩ := six_boxR HR13.out.box
                  clear hr hp HPA HQA HR12 HR11
                  unfold Env.ptr at HTE
                  go_wp2_with fail
                  refine HTE.out.mono ?_
                  rintro x w13 ⟨⟨⟨op, ⟨xv, xk, xt, xn⟩, ⟨yv, yk, yt, yn⟩⟩, rfl, hst, hqt⟩, hm, hr⟩
                  have HB13 := Lib.hid (hm.box HB12.out (by omega) (by omega))
                  have HM13 := Lib.hid (HMK.out.trans hm)
                  have HR14 := Lib.hid hr
                  have HST := Lib.hid hst
                  have HQT := Lib.hid hqt
                  clear hm hr hst hqt HTE HR13 HB12 HMK c0 c1 c2 c3 c4 c5
                  unfold Tm.val
                  simp only
                  go_upto_region 15 with (refine wpList_box rfl 49 (.tmp 43) (.tmp 42) rfl wr.heap.size 5 _ [.int .i64 op, .string xv, .int .i64 xk, .string xt, .int .i64 xn, .string yv, .int .i64 yk, .string yt, .int .i64 yn] rfl rfl rfl HB13.out Tryz.sz49 (by simp [Ac.cells, Am.cells, Tm.cells, Sm.cells]) (by simp [Value.oneCell']) (({ id := id, attr := ⟨av, ak, at_, an⟩, value := ⟨op, ⟨xv, xk, xt, xn⟩, ⟨yv, yk, yt, yn⟩⟩, pref := 0, other := nilAm } : Ac).cells) rfl ?_; intro w14 B14 g14; have HB14 := Lib.hid B14; have HMK := Lib.hid (HM13.out.new g14 (Nat.le_refl _)); have HR15 := Lib.hid (RdAt.kept HR14.out g14 (by rintro b' e; cases e; exact HNB.out)); clear B14 g14)
                  cases hp : pTerm ts7 with
                  | bad q =>
                    have hr := HR15.out
                    rw [hp] at hr
                    obtain ⟨ts8, hr⟩ := hr
                    have HRR : Hid (Z = .bad q) := Lib.hid (HZK.out.1 q (by rw [HPB.out, hp]; rfl))
                    have HRQ := Lib.hid hr
                    obtain ⟨c0, c1, c2, c3, c4, c5⟩ := six_boxR hr.box
                    clear hr hp HZK HR15
                    go_wp2
                    go_ret
                    exact ⟨⟨_, [], rfl, OwnD.nil _ _ _ _, by simp, by intro a t e; rw [HRR.out] at e; cases e⟩, HG.out.mv.trans HMK.out, by rw [HRR.out]; exact ⟨_, HRQ.out⟩⟩
                  | ok t1 ts8 => as_aux_lemma =>
                    have hr := HR15.out
                    rw [hp] at hr
                    have HTT : Hid ((⟨op, ⟨xv, xk, xt, xn⟩, ⟨yv, yk, yt, yn⟩⟩ : Tm) = t1) := Lib.hid (HQT.out _ _ hp)
                    have HPC : Hid (pAct id ts5 = (pPref ts8).bind fun q ts4 => .ok ⟨id, a1, t1, q.1, q.2⟩ ts4) := Lib.hid (by rw [HPB.out, hp]; rfl)
                    have HR16 : Hid (Rd E w14 ts8 (-1) 0) := Lib.hid hr
                    have HPR := Lib.hid (pref_any w14 HR16.out HB14.out rfl HNB.out)
                    obtain ⟨c0, c1, c2, c3, c4, c5⟩ := six_boxR HR16.out.box
                    clear hr hp HPB HQT HR15 HR14
                    unfold Env.ptr at HPR
                    go_wp2_with fail
                    refine HPR.out.mono ?_
                    rintro x w15 ⟨⟨_, rfl⟩, hm, hr, q, oa, hbx, hso, hqo⟩
                    have hmk : Mv E wr w15 := Mv2.mv HMK.out (Nat.le_refl _) hm
                    have hbig : (Ac.mk id ⟨av, ak, at_, an⟩ ⟨op, ⟨xv, xk, xt, xn⟩, ⟨yv, yk, yt, yn⟩⟩ q oa).Big := ⟨Nat.le_trans HID.out (by decide), am_big HSA.out, am_big HST.out.1, am_big HST.out.2, am_big hso⟩
                    have hrr : RdAt E w15 (pAct id ts5) := by rw [HPC.out]; exact RdAt.bind hr fun _ _ => ⟨_, rfl⟩
                    have hqq : ∀ a t, pAct id ts5 = .ok a t → Ac.mk id ⟨av, ak, at_, an⟩ ⟨op, ⟨xv, xk, xt, xn⟩, ⟨yv, yk, yt, yn⟩⟩ q oa = a := by
                      intro a t e
                      rw [HPC.out] at e
                      obtain ⟨y, t2, h1, h2⟩ := bind_ok.1 e
                      cases h2
                      rw [← hqo _ _ h1, HAE.out, HTT.out]
                    simp only at hbx
                    generalize Ac.mk id ⟨av, ak, at_, an⟩ ⟨op, ⟨xv, xk, xt, xn⟩, ⟨yv, yk, yt, yn⟩⟩ q oa = u at hbx hbig hqq
                    have HBX := Lib.hid (fun j x (h : u.cells[j]? = some x) => by rw [addr_add_lit, Nat.zero_add]; exact hbx.at_ h : ∀ j x, u.cells[j]? = some x → w15.cell? ((⟨wr.heap.size, 0, none⟩ : Addr).add j) = some x)
                    have HCL := Lib.hid (ac_len u)
                    have HBG := Lib.hid hbig
                    have HM15 := Lib.hid hmk
                    have HMR := Lib.hid (fun k' hz w9 v9 => HG.out.more (k' := k') (ts := ts5) (u := u) (w0 := w15) (w' := w9) (v' := v9) HLW.out (pAct_eats id) hcnt hmk hrr hqq hz)
                    clear hm hr hbx hso hqo hmk hbig hrr hqq HPR HR16 HB14 HMK HPC HAE HTT c0 c1 c2 c3 c4 c5
                    obtain ⟨C, hC⟩ : ∃ C, u.cells = C := ⟨_, rfl⟩
                    rw [hC] at HBX HCL
                    have HCC := Lib.hid hC
                    clear hC
                    go_wp2_with (first | (refine wpList_load_agg (o := ⟨some 52, _, _, _, _, _⟩) agg69 rfl _ rfl ⟨wr.heap.size, 0, none⟩ rfl C HBX.out HCL.out ?_) | (refine wpList_slice1 (o := ⟨some 53, _, _, _, _, _⟩) rfl 24 (.tmp 52) rfl 51 C.toArray rfl i0 z0 Tryz.underlying24 hi hz0 (by rw [hz1]; simp [HCL.out]) (by simp [HCL.out]) (by simp [HCL.out]) ?_) | (at_builtin; refine wpList_push3 rfl (.tmp 51) (.tmp 53) 24 rfl mkAct 51 i0 _ 224 Tryz.underlying24 hi hz0 hz1 hz2 hzs (by omega) (E := E) (w := w) (wr := wr) (w0 := w15) _ l u rfl HG.out.own HG.out.mv HM15.out HLO.out HLI.out HBG.out trivial hll _ rfl rfl (by rw [← HCC.out]; rfl) ?_; intro go' c' w16 ho16 hg16))
                    have HN : Hid (ActsRun E w Z (pAct id) bShut (.slice (some go') (l.length + 1) c') (l ++ [u]) false gk w16) := Lib.hid (HMR.out gk HZK.out _ _ ho16 hg16)
                    clear ho16 hg16
                    go_wp2
                    go_roundg gk
                    case rel => exact ⟨_, false, rfl, HN⟩
                    case measure => omega
        · obtain ⟨c0, c1, c2, c3, c4, c5⟩ := six_boxR hr.box
          have HT := Lib.hid (take_err _ hr (by decide) bShut)
          have HRR := Lib.hid hR
          have HR := Lib.hid hr
          have hll : l.length ≤ 1000001 := HG.out.len
          clear hR hr
          unfold Env.ptr bShut at HT
          go_wp2_with fail
          refine HT.out.mono ?_
          rintro x w8 ⟨⟨_, rfl⟩, rfl⟩
          clear c0 c1 c2 c3 c4 c5
          go_wp2
          go_ret
          exact ⟨⟨_, _, rfl, HG.out.own, hll, by intro a t e; rw [HRR.out] at e; cases e⟩, HG.out.mv, by rw [HRR.out]; exact ⟨_, HR.out⟩⟩
end Go.Proofs.YtgeaccoobhigcaaGreat
