/-
  The document's reader: an item. The document's reader: a clause. The document's reader: conditions, as deep as they may be. The document's reader: a term.
-/
import Derived.Test.YtgeaccoobhigcaaGreatXA
import Derived.Test.YtgeaccoobhigcaaGreatGC
namespace Go.Proofs.YtgeaccoobhigcaaGreat
open Go Go.RowKit

theorem bPlus_ne : (bPlus.data.toList == []) = false := rfl
theorem bMinus_ne : (bMinus.data.toList == []) = false := rfl
theorem bHat_ne : (bHat.data.toList == []) = false := rfl
def setAcc (b : Bool) : Cd → Cd | .mk k g i a v _ l => .mk k g i a v b l
theorem take_bind {α β : Type} {r : Rs α} {s : ByteArray} (hs : (s.data.toList == []) = false) (f : List Tk → Rs β) : ((r.bind fun _ ts => pTok 4 s ts).bind fun _ ts => f ts) = r.bind fun _ ts => (pTake s ts).bind fun _ ts => f ts := by
  cases r with
  | bad q => rfl
  | ok a ts =>
    simp only [Rs.bind]
    rw [← pTok_take hs]
    cases pTok 4 s ts with
    | bad q => rfl
    | ok b t => rfl
set_option maxRecDepth 100000 in
set_option maxHeartbeats 4000000 in
theorem item8 {α : Type} {E : Env} {r : Rs α} (w : World) (h : Q8 E w r) (goal : Bool) (id : ByteArray) (hid : id.size ≤ 1000000) : Calls Tryz.prog 86 #[E.ptr, .bool goal, .string id] w fun x w' => CdIs w.heap.size w' (r.bind fun _ ts => pItem id goal ts) x ∧ Mv E w w' ∧ Q8 E w' (r.bind fun _ ts => pItem id goal ts) := by
  have hw := (h.alloc (.cells #[.int .i64 0, .bool false, .string ⟨#[]⟩, .slice none 0 0, .slice none 0 0, .bool false, .slice none 0 0] 43)).alloc (.cells #[.int .i64 1, .bool goal, .string id, .slice none 0 0, .slice none 0 0, .bool false, .slice none 0 0] 43)
  have HI := Lib.hid (sign8 _ hw bMinus)
  have HP0 : Hid (Parts E w 1 goal id none 0 0 [] none 0 0 [] false ((w.alloc (.cells #[.int .i64 0, .bool false, .string ⟨#[]⟩, .slice none 0 0, .slice none 0 0, .bool false, .slice none 0 0] 43)).alloc (.cells #[.int .i64 1, .bool goal, .string id, .slice none 0 0, .slice none 0 0, .bool false, .slice none 0 0] 43))) := Lib.hid ⟨((Mv.refl E w).alloc _).alloc _, (BoxC.new w _ 43).alloc _, BoxC.new_at' (by simp), Deep.nil _ _ _, Deep.nil _ _ _⟩
  have HLO := Lib.hid h.lows
  have HLJ : Hid (E.ib < w.heap.size) := Lib.hid (by have := h.one; have := h.lows; omega)
  have H := Lib.hid h
  have HID := Lib.hid hid
  obtain ⟨R, hR⟩ : ∃ R, (r.bind fun _ ts => pItem id goal ts) = R := ⟨_, rfl⟩
  rw [hR]
  cases hb : isQ r 4 bMinus with
  | false =>
    rw [hb] at HI
    obtain ⟨r1, hr1⟩ : ∃ r1, r = r1 := ⟨_, rfl⟩
    have HPI : Hid (R = ((r1.bind fun _ ts => pTok 4 ⟨#[94]⟩ ts).bind fun _ ts => pField ts).bind fun a ts2 => (pIf (fieldHere (headT ts2)) pField [] ts2).bind fun v ts3 => .ok (.mk 1 goal id a v (isB (headT ts3) bPlus) []) (if isB (headT ts3) bPlus then ts3.tail else ts3)) := Lib.hid (by
      rw [take_bind (s := ⟨#[94]⟩) rfl, ← hR, ← hr1]
      cases r with
      | bad q => rfl
      | ok a ts =>
        rw [isQ_sign bMinus_ne] at hb
        simp only [Rs.bind]
        unfold pItem
        rw [hb]
        show (pTake bHat ts).bind _ = ((pTake bHat ts).bind _).bind _
        cases pTake bHat ts with
        | bad q => rfl
        | ok b t => rfl)
    have HW := Lib.hid hw
    rw [hr1] at HW
    clear hw h hR hid hb hr1
    unfold Env.ptr at HI ⊢
    unfold bMinus at HI
    go_enter Tryz.func86, Tryz.ntmps86
    go_wp2_with (first | (go_at_call 40; refine HI.out.mono ?_; rintro x w1 ⟨rfl, b1⟩))
    have HPA := Lib.hid (HP0.out.moved (Mv.of_below b1) HLO.out HLJ.out)
    have HRA := Lib.hid (HW.out.below b1)
    clear b1 HP0 HW HI
    have HTK := Lib.hid (take8 _ HRA.out 4 (by decide) bHat 4 rfl)
    unfold Env.ptr bHat at HTK
    refine HTK.out.mono ?_
    rintro x w4 ⟨⟨_, rfl, _⟩, hm, hr⟩
    have HP4 := Lib.hid (HPA.out.moved hm HLO.out HLJ.out)
    have HR4 := Lib.hid hr
    clear hm hr HTK
    go_wp2_with fail
    refine (field8 _ HR4.out).mono ?_
    rintro x w5 ⟨⟨ao, an, ac, al, rfl, hd, hn, hq⟩, hm, hr⟩
    have HD5 := Lib.hid (hd.mono (K' := fun b => w.heap.size + 2 ≤ b) (fun b hb => by have := HP4.out.box.lt; omega))
    have HP5 := Lib.hid (HP4.out.moved hm HLO.out HLJ.out)
    obtain ⟨r3, hr3⟩ : ∃ r3, ((r1.bind fun _ ts => pTok 4 ⟨#[94]⟩ ts).bind fun _ ts => pField ts) = r3 := ⟨_, rfl⟩
    rw [hr3] at hq hr
    have HE3 : Hid (R = r3.bind fun a ts2 => (pIf (fieldHere (headT ts2)) pField [] ts2).bind fun v ts3 => .ok (.mk 1 goal id a v (isB (headT ts3) bPlus) []) (if isB (headT ts3) bPlus then ts3.tail else ts3)) := Lib.hid (by rw [HPI.out, ← hr3])
    have HQ5 := Lib.hid hq
    have HR5 := Lib.hid hr
    clear hd hn hq hm hr hr3 HPI HRA
    go_wp2_with (refine wpList_box rfl 41 (.tmp 25) (.tmp 24) rfl (w.heap.size + 1) 3 _ [.slice ao an ac] rfl rfl rfl HP5.out.box Tryz.sz41 (by simp) (by simp [Value.oneCell']) _ rfl ?_; intro w6 B6 g6; have HP6 := Lib.hid (HP5.out.put g6 B6 HD5.out HP5.out.v); have HR6 := Lib.hid (Q8.new H.out HR5.out g6 (by omega)); clear B6 g6)
    have HF := Lib.hid (isField8 _ HR6.out)
    cases hf : fieldQ r3 with
    | false =>
      rw [hf] at HF
      obtain ⟨rc, hrc⟩ : ∃ rc : Rs Cd, (r3.bind fun a ts2 => .ok (.mk 1 goal id a [] false []) ts2) = rc := ⟨_, rfl⟩
      have HE : Hid (R = rc.bind fun c ts => .ok (setAcc (isB (headT ts) bPlus) c) (if isB (headT ts) bPlus then ts.tail else ts)) := Lib.hid (by
        rw [HE3.out, ← hrc]
        cases r3 with
        | bad q => rfl
        | ok a ts2 =>
          have hf' : fieldHere (headT ts2) = false := hf
          simp only [Rs.bind]
          rw [hf']
          rfl)
      have HCQ : Hid (∀ c ts, rc = .ok c ts → (CondR.mk 1 goal id ao an ac al none 0 0 [] false none 0 0 []).abs = c) := Lib.hid (by
        intro c ts e
        rw [← hrc] at e
        obtain ⟨a, t2, e1, e2⟩ := bind_ok.1 e
        cases e2
        rw [← HQ5.out _ _ e1]
        rfl)
      refine HF.out.mono ?_
      rintro x w7 ⟨rfl, b7⟩
      have HP7 := Lib.hid (HP6.out.moved (Mv.of_below b7) HLO.out HLJ.out)
      have HRC : Hid (Q8 E w7 rc) := Lib.hid (by rw [← hrc]; exact (HR6.out.below b7).of)
      clear hf hrc b7 HF HR6 HP6 HR5 HP5 HE3 HQ5
      go_wp2_with fail
      cases hpl : isQ rc 4 bPlus with
      | false =>
        have HPL := Lib.hid (sign8 _ HRC.out bPlus)
        rw [hpl] at HPL
        have HRR : Hid (R = rc.bind fun c ts3 => .ok (setAcc false c) ts3) := Lib.hid (by
          rw [HE.out]
          cases rc with
          | bad q => rfl
          | ok b ts3 =>
            rw [isQ_sign bPlus_ne] at hpl
            simp only [Rs.bind]
            rw [hpl]
            rfl)
        unfold Env.ptr bPlus at HPL
        refine HPL.out.mono ?_
        rintro x w16 ⟨rfl, b16⟩
        have HP16 := Lib.hid (HP7.out.moved (Mv.of_below b16) HLO.out HLJ.out)
        have HQ16 := Lib.hid (HRC.out.below b16)
        clear b16 hpl
        obtain ⟨f0, f1, f2, f3, f4, f5, f6⟩ := seven_box HP16.out.box
        go_wp2_with (refine wpList_box rfl 43 (.tmp 6) (.tmp 41) rfl w.heap.size 0 _ [.int .i64 1, .bool goal, .string id, .slice ao an ac, .slice none 0 0, .bool false, .slice none 0 0] rfl rfl rfl HP16.out.res Tryz.sz43 (by simp) (by simp [Value.oneCell']) _ rfl ?_; intro w20 B20 g20; have HB20 := Lib.hid B20; have HG20 := Lib.hid g20; clear B20 g20 f0 f1 f2 f3 f4 f5 f6)
        obtain ⟨d0, d1, d2, d3, d4, d5, d6⟩ := seven_box HB20.out
        obtain ⟨q1, q2⟩ := HP16.out.cond HG20.out HID.out
        refine bodyPost_ret (v := .agg #[.int .i64 1, .bool goal, .string id, .slice ao an ac, .slice none 0 0, .bool false, .slice none 0 0]) (by simp [results, Tryz.results86, go_sem, d0, d1, d2, d3, d4, d5, d6]) rfl ⟨⟨.mk 1 goal id ao an ac al none 0 0 [] false none 0 0 [], rfl, q1, q2, ?_⟩, HP16.out.mv.new HG20.out (Nat.le_refl _), ?_⟩
        · intro x t e
          rw [HRR.out] at e
          obtain ⟨b, t2, e1, e2⟩ := bind_ok.1 e
          cases e2
          rw [← HCQ.out _ _ e1]
          rfl
        · rw [HRR.out]
          exact (Q8.new H.out HQ16.out HG20.out (Nat.le_refl _)).of
      | true =>
        have HPL := Lib.hid (sign8 _ HRC.out bPlus)
        rw [hpl] at HPL
        obtain ⟨b0, ts3, hqe, ht3⟩ := isQ_true hpl
        rw [tokB_sign _ bPlus_ne] at ht3
        have hk3 := isB_kind ht3
        have hq8 := HRC.out
        have hval := HCQ.out _ _ hqe
        rw [hqe] at hq8
        obtain ⟨k3, hQ3, rfl⟩ := hq8
        have hkl3 : k3 ≤ 1000000 := by have := hQ3.lt; have := hQ3.good.len; omega
        have HQ3 := Lib.hid hQ3
        have HN3 := Lib.hid (fun w1 (b : Below w7.heap.size w7 w1) w2 g hbx => (hQ3.below b).next (b := ()) (w' := w2) (show (headT (E.L.drop k3)).kind ≠ 5 ∧ (headT (E.L.drop k3)).kind ≠ 6 by omega) g hbx)
        have HRR : Hid (R = .ok (setAcc true b0) (E.L.drop k3).tail) := Lib.hid (by
          rw [HE.out, hqe]
          simp only [Rs.bind]
          rw [ht3]
          rfl)
        have HVL := Lib.hid hval
        clear hpl hqe ht3 hk3 hQ3 hval
        unfold Env.ptr bPlus at HPL
        obtain ⟨e0, e1, e2, e3, e4, e5, e6⟩ := seven_box HP7.out.box
        go_wp2_with (first | (refine HPL.out.mono ?_; rintro x w16 ⟨rfl, b16⟩; have HP16 := Lib.hid (HP7.out.moved (Mv.of_below b16) HLO.out HLJ.out); have HQ16 := Lib.hid (HQ3.out.below b16); have HB16 := Lib.hid b16; obtain ⟨c0, c1, c2⟩ := three_box (HQ3.out.below b16).box; clear b16 e0 e1 e2 e3 e4 e5 e6) | (refine wpList_box rfl 3 (.tmp 39) (.tmp 37) rfl E.r 1 _ [.int .i64 ((k3 : Int) + 1)] rfl rfl rfl HQ16.out.box Tryz.sz3' (by simp) (by simp [Value.oneCell']) [.slice E.ao E.n E.c, .int .i64 ((k3 : Int) + 1), .bool false] rfl ?_; intro w17 B17 g17; have HP17 := Lib.hid (HP16.out.moved (Mv.setR (Mv.refl E _) g17) HLO.out HLJ.out); have HR17 := Lib.hid (HN3.out _ HB16.out _ g17 B17); clear B17 g17 c0 c1 c2) | (refine wpList_box rfl 4 (.tmp 40) (.const (.bool true)) rfl (w.heap.size + 1) 5 _ [.bool true] rfl rfl rfl HP17.out.box Tryz.sz4' (by simp) (by simp [Value.oneCell']) _ rfl ?_; intro w18 B18 g18; have HP18 := Lib.hid (HP17.out.put g18 B18 HP17.out.a HP17.out.v); have HR18 := Lib.hid (Q8.new H.out HR17.out g18 (by omega)); clear B18 g18; obtain ⟨f0, f1, f2, f3, f4, f5, f6⟩ := seven_box HP18.out.box) | (refine wpList_box rfl 43 (.tmp 6) (.tmp 41) rfl w.heap.size 0 _ [.int .i64 1, .bool goal, .string id, .slice ao an ac, .slice none 0 0, .bool true, .slice none 0 0] rfl rfl rfl HP18.out.res Tryz.sz43 (by simp) (by simp [Value.oneCell']) _ rfl ?_; intro w20 B20 g20; have HB20 := Lib.hid B20; have HG20 := Lib.hid g20; clear B20 g20 f0 f1 f2 f3 f4 f5 f6))
        obtain ⟨d0, d1, d2, d3, d4, d5, d6⟩ := seven_box HB20.out
        obtain ⟨q1, q2⟩ := HP18.out.cond HG20.out HID.out
        refine bodyPost_ret (v := .agg #[.int .i64 1, .bool goal, .string id, .slice ao an ac, .slice none 0 0, .bool true, .slice none 0 0]) (by simp [results, Tryz.results86, go_sem, d0, d1, d2, d3, d4, d5, d6]) rfl ⟨⟨.mk 1 goal id ao an ac al none 0 0 [] true none 0 0 [], rfl, q1, q2, ?_⟩, HP18.out.mv.new HG20.out (Nat.le_refl _), ?_⟩
        · intro x t e
          rw [HRR.out] at e
          cases e
          rw [← HVL.out]
          rfl
        · rw [HRR.out]
          exact Q8.new H.out HR18.out HG20.out (Nat.le_refl _)
    | true =>
      rw [hf] at HF
      obtain ⟨a0, ts2, hqe, ht2⟩ : ∃ a ts, r3 = .ok a ts ∧ fieldHere (headT ts) = true := by
        cases r3 with
        | bad q => cases hf
        | ok a ts => exact ⟨a, ts, rfl, hf⟩
      subst hqe
      have HA := Lib.hid (HQ5.out _ _ rfl)
      obtain ⟨rc, hrc⟩ : ∃ rc : Rs Cd, ((pField ts2).bind fun v ts3 => .ok (.mk 1 goal id a0 v false []) ts3) = rc := ⟨_, rfl⟩
      have HE : Hid (R = rc.bind fun c ts => .ok (setAcc (isB (headT ts) bPlus) c) (if isB (headT ts) bPlus then ts.tail else ts)) := Lib.hid (by
        rw [HE3.out, ← hrc]
        simp only [Rs.bind]
        rw [ht2]
        show (pField ts2).bind _ = _
        cases pField ts2 with
        | bad q => rfl
        | ok v ts3 => rfl)
      have HRC0 := Lib.hid hrc
      refine HF.out.mono ?_
      rintro x w7 ⟨rfl, b7⟩
      have HP7 := Lib.hid (HP6.out.moved (Mv.of_below b7) HLO.out HLJ.out)
      have HR7 := Lib.hid (HR6.out.below b7)
      clear hf hrc b7 HF HR6 HP6 HR5 HP5 HE3 HQ5 ht2
      go_wp2_with fail
      refine (field8 _ HR7.out).mono ?_
      rintro x w8 ⟨⟨vo, vn, vc, vl, rfl, hd, hn, hq⟩, hm, hr⟩
      have HD8 := Lib.hid (hd.mono (K' := fun b => w.heap.size + 2 ≤ b) (fun b hb => by have := HP7.out.box.lt; omega))
      have HP8 := Lib.hid (HP7.out.moved hm HLO.out HLJ.out)
      have HR8 : Hid (Q8 E w8 rc) := Lib.hid (by rw [← HRC0.out]; exact Q8.of hr)
      have HCQ : Hid (∀ c ts, rc = .ok c ts → (CondR.mk 1 goal id ao an ac al vo vn vc vl false none 0 0 []).abs = c) := Lib.hid (by
        intro c ts e
        rw [← HRC0.out] at e
        obtain ⟨v, t2, e1, e2⟩ := bind_ok.1 e
        cases e2
        rw [← HA.out, ← hq _ _ e1]
        rfl)
      clear hd hn hq hm hr HR7
      go_wp2_with (refine wpList_box rfl 41 (.tmp 30) (.tmp 29) rfl (w.heap.size + 1) 4 _ [.slice vo vn vc] rfl rfl rfl HP8.out.box Tryz.sz41 (by simp) (by simp [Value.oneCell']) _ rfl ?_; intro w9 B9 g9; have HP9 := Lib.hid (HP8.out.put g9 B9 HP8.out.a HD8.out); have HRC := Lib.hid (Q8.new H.out HR8.out g9 (by omega)); clear B9 g9)
      cases hpl : isQ rc 4 bPlus with
      | false =>
        have HPL := Lib.hid (sign8 _ HRC.out bPlus)
        rw [hpl] at HPL
        have HRR : Hid (R = rc.bind fun c ts3 => .ok (setAcc false c) ts3) := Lib.hid (by
          rw [HE.out]
          cases rc with
          | bad q => rfl
          | ok b ts3 =>
            rw [isQ_sign bPlus_ne] at hpl
            simp only [Rs.bind]
            rw [hpl]
            rfl)
        unfold Env.ptr bPlus at HPL
        refine HPL.out.mono ?_
        rintro x w16 ⟨rfl, b16⟩
        have HP16 := Lib.hid (HP9.out.moved (Mv.of_below b16) HLO.out HLJ.out)
        have HQ16 := Lib.hid (HRC.out.below b16)
        clear b16 hpl
        obtain ⟨f0, f1, f2, f3, f4, f5, f6⟩ := seven_box HP16.out.box
        go_wp2_with (refine wpList_box rfl 43 (.tmp 6) (.tmp 41) rfl w.heap.size 0 _ [.int .i64 1, .bool goal, .string id, .slice ao an ac, .slice vo vn vc, .bool false, .slice none 0 0] rfl rfl rfl HP16.out.res Tryz.sz43 (by simp) (by simp [Value.oneCell']) _ rfl ?_; intro w20 B20 g20; have HB20 := Lib.hid B20; have HG20 := Lib.hid g20; clear B20 g20 f0 f1 f2 f3 f4 f5 f6)
        obtain ⟨d0, d1, d2, d3, d4, d5, d6⟩ := seven_box HB20.out
        obtain ⟨q1, q2⟩ := HP16.out.cond HG20.out HID.out
        refine bodyPost_ret (v := .agg #[.int .i64 1, .bool goal, .string id, .slice ao an ac, .slice vo vn vc, .bool false, .slice none 0 0]) (by simp [results, Tryz.results86, go_sem, d0, d1, d2, d3, d4, d5, d6]) rfl ⟨⟨.mk 1 goal id ao an ac al vo vn vc vl false none 0 0 [], rfl, q1, q2, ?_⟩, HP16.out.mv.new HG20.out (Nat.le_refl _), ?_⟩
        · intro x t e
          rw [HRR.out] at e
          obtain ⟨b, t2, e1, e2⟩ := bind_ok.1 e
          cases e2
          rw [← HCQ.out _ _ e1]
          rfl
        · rw [HRR.out]
          exact (Q8.new H.out HQ16.out HG20.out (Nat.le_refl _)).of
      | true =>
        have HPL := Lib.hid (sign8 _ HRC.out bPlus)
        rw [hpl] at HPL
        obtain ⟨b0, ts3, hqe, ht3⟩ := isQ_true hpl
        rw [tokB_sign _ bPlus_ne] at ht3
        have hk3 := isB_kind ht3
        have hq8 := HRC.out
        have hval := HCQ.out _ _ hqe
        rw [hqe] at hq8
        obtain ⟨k3, hQ3, rfl⟩ := hq8
        have hkl3 : k3 ≤ 1000000 := by have := hQ3.lt; have := hQ3.good.len; omega
        have HQ3 := Lib.hid hQ3
        have HN3 := Lib.hid (fun w1 (b : Below w9.heap.size w9 w1) w2 g hbx => (hQ3.below b).next (b := ()) (w' := w2) (show (headT (E.L.drop k3)).kind ≠ 5 ∧ (headT (E.L.drop k3)).kind ≠ 6 by omega) g hbx)
        have HRR : Hid (R = .ok (setAcc true b0) (E.L.drop k3).tail) := Lib.hid (by
          rw [HE.out, hqe]
          simp only [Rs.bind]
          rw [ht3]
          rfl)
        have HVL := Lib.hid hval
        clear hpl hqe ht3 hk3 hQ3 hval
        unfold Env.ptr bPlus at HPL
        obtain ⟨e0, e1, e2, e3, e4, e5, e6⟩ := seven_box HP9.out.box
        go_wp2_with (first | (refine HPL.out.mono ?_; rintro x w16 ⟨rfl, b16⟩; have HP16 := Lib.hid (HP9.out.moved (Mv.of_below b16) HLO.out HLJ.out); have HQ16 := Lib.hid (HQ3.out.below b16); have HB16 := Lib.hid b16; obtain ⟨c0, c1, c2⟩ := three_box (HQ3.out.below b16).box; clear b16 e0 e1 e2 e3 e4 e5 e6) | (refine wpList_box rfl 3 (.tmp 39) (.tmp 37) rfl E.r 1 _ [.int .i64 ((k3 : Int) + 1)] rfl rfl rfl HQ16.out.box Tryz.sz3' (by simp) (by simp [Value.oneCell']) [.slice E.ao E.n E.c, .int .i64 ((k3 : Int) + 1), .bool false] rfl ?_; intro w17 B17 g17; have HP17 := Lib.hid (HP16.out.moved (Mv.setR (Mv.refl E _) g17) HLO.out HLJ.out); have HR17 := Lib.hid (HN3.out _ HB16.out _ g17 B17); clear B17 g17 c0 c1 c2) | (refine wpList_box rfl 4 (.tmp 40) (.const (.bool true)) rfl (w.heap.size + 1) 5 _ [.bool true] rfl rfl rfl HP17.out.box Tryz.sz4' (by simp) (by simp [Value.oneCell']) _ rfl ?_; intro w18 B18 g18; have HP18 := Lib.hid (HP17.out.put g18 B18 HP17.out.a HP17.out.v); have HR18 := Lib.hid (Q8.new H.out HR17.out g18 (by omega)); clear B18 g18; obtain ⟨f0, f1, f2, f3, f4, f5, f6⟩ := seven_box HP18.out.box) | (refine wpList_box rfl 43 (.tmp 6) (.tmp 41) rfl w.heap.size 0 _ [.int .i64 1, .bool goal, .string id, .slice ao an ac, .slice vo vn vc, .bool true, .slice none 0 0] rfl rfl rfl HP18.out.res Tryz.sz43 (by simp) (by simp [Value.oneCell']) _ rfl ?_; intro w20 B20 g20; have HB20 := Lib.hid B20; have HG20 := Lib.hid g20; clear B20 g20 f0 f1 f2 f3 f4 f5 f6))
        obtain ⟨d0, d1, d2, d3, d4, d5, d6⟩ := seven_box HB20.out
        obtain ⟨q1, q2⟩ := HP18.out.cond HG20.out HID.out
        refine bodyPost_ret (v := .agg #[.int .i64 1, .bool goal, .string id, .slice ao an ac, .slice vo vn vc, .bool true, .slice none 0 0]) (by simp [results, Tryz.results86, go_sem, d0, d1, d2, d3, d4, d5, d6]) rfl ⟨⟨.mk 1 goal id ao an ac al vo vn vc vl true none 0 0 [], rfl, q1, q2, ?_⟩, HP18.out.mv.new HG20.out (Nat.le_refl _), ?_⟩
        · intro x t e
          rw [HRR.out] at e
          cases e
          rw [← HVL.out]
          rfl
        · rw [HRR.out]
          exact Q8.new H.out HR18.out HG20.out (Nat.le_refl _)
  | true =>
    rw [hb] at HI
    obtain ⟨a1, ts1, rfl, ht1⟩ := isQ_true hb
    rw [tokB_sign _ bMinus_ne] at ht1
    have hk1 := isB_kind ht1
    obtain ⟨k, hQ, rfl⟩ := hw
    have hkl : k ≤ 1000000 := by have := hQ.lt; have := hQ.good.len; omega
    have HQ0 := Lib.hid hQ
    have HN := Lib.hid (fun w1 (b : Below ((w.alloc (.cells #[.int .i64 0, .bool false, .string ⟨#[]⟩, .slice none 0 0, .slice none 0 0, .bool false, .slice none 0 0] 43)).alloc (.cells #[.int .i64 1, .bool goal, .string id, .slice none 0 0, .slice none 0 0, .bool false, .slice none 0 0] 43)).heap.size ((w.alloc (.cells #[.int .i64 0, .bool false, .string ⟨#[]⟩, .slice none 0 0, .slice none 0 0, .bool false, .slice none 0 0] 43)).alloc (.cells #[.int .i64 1, .bool goal, .string id, .slice none 0 0, .slice none 0 0, .bool false, .slice none 0 0] 43)) w1) w2 g hbx => (hQ.below b).next (b := ()) (w' := w2) (show (headT (E.L.drop k)).kind ≠ 5 ∧ (headT (E.L.drop k)).kind ≠ 6 by omega) g hbx)
    obtain ⟨r1, hr1⟩ : ∃ r1, Rs.ok () (E.L.drop k).tail = r1 := ⟨_, rfl⟩
    have HPI : Hid (R = ((r1.bind fun _ ts => pTok 4 ⟨#[94]⟩ ts).bind fun _ ts => pField ts).bind fun a ts2 => (pIf (fieldHere (headT ts2)) pField [] ts2).bind fun v ts3 => .ok (.mk 2 goal id a v (isB (headT ts3) bPlus) []) (if isB (headT ts3) bPlus then ts3.tail else ts3)) := Lib.hid (by
      rw [take_bind (s := ⟨#[94]⟩) rfl, ← hR, ← hr1]
      simp only [Rs.bind]
      unfold pItem
      rw [ht1]
      simp only [if_true]
      show (pTake bHat _).bind _ = ((pTake bHat _).bind _).bind _
      cases pTake bHat (E.L.drop k).tail with
      | bad q => rfl
      | ok b t => rfl)
    rw [hr1] at HN
    clear h hR hid hb hr1 hQ ht1 hk1
    unfold Env.ptr at HI ⊢
    unfold bMinus at HI
    go_enter Tryz.func86, Tryz.ntmps86
    go_wp2_with (first | (go_at_call 40; refine HI.out.mono ?_; rintro x w1 ⟨rfl, b1⟩; have HP1 := Lib.hid (HP0.out.moved (Mv.of_below b1) HLO.out HLJ.out); have HQ1 := Lib.hid (HQ0.out.below b1); have HB1 := Lib.hid b1; obtain ⟨c0, c1, c2⟩ := three_box (HQ0.out.below b1).box; clear b1) | (refine wpList_box rfl 3 (.tmp 19) (.tmp 17) rfl E.r 1 _ [.int .i64 ((k : Int) + 1)] rfl rfl rfl HQ1.out.box Tryz.sz3' (by simp) (by simp [Value.oneCell']) [.slice E.ao E.n E.c, .int .i64 ((k : Int) + 1), .bool false] rfl ?_; intro w2 B2 g2; have HP2 := Lib.hid (HP1.out.moved (Mv.setR (Mv.refl E _) g2) HLO.out HLJ.out); have HR2 := Lib.hid (HN.out _ HB1.out _ g2 B2); clear B2 g2 c0 c1 c2) | (refine wpList_box rfl 3 (.tmp 20) (.const (.int .i64 2)) rfl (w.heap.size + 1) 0 _ [.int .i64 2] rfl rfl rfl HP2.out.box Tryz.sz3' (by simp) (by simp [Value.oneCell']) _ rfl ?_; intro w3 B3 g3; have HPA := Lib.hid (HP2.out.put g3 B3 HP2.out.a HP2.out.v); have HRA := Lib.hid (Q8.new H.out HR2.out g3 (by omega)); clear B3 g3))
    clear HP2 HR2 HP1 HQ1 HB1 HN HQ0 HI HP0
    have HTK := Lib.hid (take8 _ HRA.out 4 (by decide) bHat 4 rfl)
    unfold Env.ptr bHat at HTK
    refine HTK.out.mono ?_
    rintro x w4 ⟨⟨_, rfl, _⟩, hm, hr⟩
    have HP4 := Lib.hid (HPA.out.moved hm HLO.out HLJ.out)
    have HR4 := Lib.hid hr
    clear hm hr HTK
    go_wp2_with fail
    refine (field8 _ HR4.out).mono ?_
    rintro x w5 ⟨⟨ao, an, ac, al, rfl, hd, hn, hq⟩, hm, hr⟩
    have HD5 := Lib.hid (hd.mono (K' := fun b => w.heap.size + 2 ≤ b) (fun b hb => by have := HP4.out.box.lt; omega))
    have HP5 := Lib.hid (HP4.out.moved hm HLO.out HLJ.out)
    obtain ⟨r3, hr3⟩ : ∃ r3, ((r1.bind fun _ ts => pTok 4 ⟨#[94]⟩ ts).bind fun _ ts => pField ts) = r3 := ⟨_, rfl⟩
    rw [hr3] at hq hr
    have HE3 : Hid (R = r3.bind fun a ts2 => (pIf (fieldHere (headT ts2)) pField [] ts2).bind fun v ts3 => .ok (.mk 2 goal id a v (isB (headT ts3) bPlus) []) (if isB (headT ts3) bPlus then ts3.tail else ts3)) := Lib.hid (by rw [HPI.out, ← hr3])
    have HQ5 := Lib.hid hq
    have HR5 := Lib.hid hr
    clear hd hn hq hm hr hr3 HPI HRA
    go_wp2_with (refine wpList_box rfl 41 (.tmp 25) (.tmp 24) rfl (w.heap.size + 1) 3 _ [.slice ao an ac] rfl rfl rfl HP5.out.box Tryz.sz41 (by simp) (by simp [Value.oneCell']) _ rfl ?_; intro w6 B6 g6; have HP6 := Lib.hid (HP5.out.put g6 B6 HD5.out HP5.out.v); have HR6 := Lib.hid (Q8.new H.out HR5.out g6 (by omega)); clear B6 g6)
    have HF := Lib.hid (isField8 _ HR6.out)
    cases hf : fieldQ r3 with
    | false =>
      rw [hf] at HF
      obtain ⟨rc, hrc⟩ : ∃ rc : Rs Cd, (r3.bind fun a ts2 => .ok (.mk 2 goal id a [] false []) ts2) = rc := ⟨_, rfl⟩
      have HE : Hid (R = rc.bind fun c ts => .ok (setAcc (isB (headT ts) bPlus) c) (if isB (headT ts) bPlus then ts.tail else ts)) := Lib.hid (by
        rw [HE3.out, ← hrc]
        cases r3 with
        | bad q => rfl
        | ok a ts2 =>
          have hf' : fieldHere (headT ts2) = false := hf
          simp only [Rs.bind]
          rw [hf']
          rfl)
      have HCQ : Hid (∀ c ts, rc = .ok c ts → (CondR.mk 2 goal id ao an ac al none 0 0 [] false none 0 0 []).abs = c) := Lib.hid (by
        intro c ts e
        rw [← hrc] at e
        obtain ⟨a, t2, e1, e2⟩ := bind_ok.1 e
        cases e2
        rw [← HQ5.out _ _ e1]
        rfl)
      refine HF.out.mono ?_
      rintro x w7 ⟨rfl, b7⟩
      have HP7 := Lib.hid (HP6.out.moved (Mv.of_below b7) HLO.out HLJ.out)
      have HRC : Hid (Q8 E w7 rc) := Lib.hid (by rw [← hrc]; exact (HR6.out.below b7).of)
      clear hf hrc b7 HF HR6 HP6 HR5 HP5 HE3 HQ5
      go_wp2_with fail
      cases hpl : isQ rc 4 bPlus with
      | false =>
        have HPL := Lib.hid (sign8 _ HRC.out bPlus)
        rw [hpl] at HPL
        have HRR : Hid (R = rc.bind fun c ts3 => .ok (setAcc false c) ts3) := Lib.hid (by
          rw [HE.out]
          cases rc with
          | bad q => rfl
          | ok b ts3 =>
            rw [isQ_sign bPlus_ne] at hpl
            simp only [Rs.bind]
            rw [hpl]
            rfl)
        unfold Env.ptr bPlus at HPL
        refine HPL.out.mono ?_
        rintro x w16 ⟨rfl, b16⟩
        have HP16 := Lib.hid (HP7.out.moved (Mv.of_below b16) HLO.out HLJ.out)
        have HQ16 := Lib.hid (HRC.out.below b16)
        clear b16 hpl
        obtain ⟨f0, f1, f2, f3, f4, f5, f6⟩ := seven_box HP16.out.box
        go_wp2_with (refine wpList_box rfl 43 (.tmp 6) (.tmp 41) rfl w.heap.size 0 _ [.int .i64 2, .bool goal, .string id, .slice ao an ac, .slice none 0 0, .bool false, .slice none 0 0] rfl rfl rfl HP16.out.res Tryz.sz43 (by simp) (by simp [Value.oneCell']) _ rfl ?_; intro w20 B20 g20; have HB20 := Lib.hid B20; have HG20 := Lib.hid g20; clear B20 g20 f0 f1 f2 f3 f4 f5 f6)
        obtain ⟨d0, d1, d2, d3, d4, d5, d6⟩ := seven_box HB20.out
        obtain ⟨q1, q2⟩ := HP16.out.cond HG20.out HID.out
        refine bodyPost_ret (v := .agg #[.int .i64 2, .bool goal, .string id, .slice ao an ac, .slice none 0 0, .bool false, .slice none 0 0]) (by simp [results, Tryz.results86, go_sem, d0, d1, d2, d3, d4, d5, d6]) rfl ⟨⟨.mk 2 goal id ao an ac al none 0 0 [] false none 0 0 [], rfl, q1, q2, ?_⟩, HP16.out.mv.new HG20.out (Nat.le_refl _), ?_⟩
        · intro x t e
          rw [HRR.out] at e
          obtain ⟨b, t2, e1, e2⟩ := bind_ok.1 e
          cases e2
          rw [← HCQ.out _ _ e1]
          rfl
        · rw [HRR.out]
          exact (Q8.new H.out HQ16.out HG20.out (Nat.le_refl _)).of
      | true =>
        have HPL := Lib.hid (sign8 _ HRC.out bPlus)
        rw [hpl] at HPL
        obtain ⟨b0, ts3, hqe, ht3⟩ := isQ_true hpl
        rw [tokB_sign _ bPlus_ne] at ht3
        have hk3 := isB_kind ht3
        have hq8 := HRC.out
        have hval := HCQ.out _ _ hqe
        rw [hqe] at hq8
        obtain ⟨k3, hQ3, rfl⟩ := hq8
        have hkl3 : k3 ≤ 1000000 := by have := hQ3.lt; have := hQ3.good.len; omega
        have HQ3 := Lib.hid hQ3
        have HN3 := Lib.hid (fun w1 (b : Below w7.heap.size w7 w1) w2 g hbx => (hQ3.below b).next (b := ()) (w' := w2) (show (headT (E.L.drop k3)).kind ≠ 5 ∧ (headT (E.L.drop k3)).kind ≠ 6 by omega) g hbx)
        have HRR : Hid (R = .ok (setAcc true b0) (E.L.drop k3).tail) := Lib.hid (by
          rw [HE.out, hqe]
          simp only [Rs.bind]
          rw [ht3]
          rfl)
        have HVL := Lib.hid hval
        clear hpl hqe ht3 hk3 hQ3 hval
        unfold Env.ptr bPlus at HPL
        obtain ⟨e0, e1, e2, e3, e4, e5, e6⟩ := seven_box HP7.out.box
        go_wp2_with (first | (refine HPL.out.mono ?_; rintro x w16 ⟨rfl, b16⟩; have HP16 := Lib.hid (HP7.out.moved (Mv.of_below b16) HLO.out HLJ.out); have HQ16 := Lib.hid (HQ3.out.below b16); have HB16 := Lib.hid b16; obtain ⟨c0, c1, c2⟩ := three_box (HQ3.out.below b16).box; clear b16 e0 e1 e2 e3 e4 e5 e6) | (refine wpList_box rfl 3 (.tmp 39) (.tmp 37) rfl E.r 1 _ [.int .i64 ((k3 : Int) + 1)] rfl rfl rfl HQ16.out.box Tryz.sz3' (by simp) (by simp [Value.oneCell']) [.slice E.ao E.n E.c, .int .i64 ((k3 : Int) + 1), .bool false] rfl ?_; intro w17 B17 g17; have HP17 := Lib.hid (HP16.out.moved (Mv.setR (Mv.refl E _) g17) HLO.out HLJ.out); have HR17 := Lib.hid (HN3.out _ HB16.out _ g17 B17); clear B17 g17 c0 c1 c2) | (refine wpList_box rfl 4 (.tmp 40) (.const (.bool true)) rfl (w.heap.size + 1) 5 _ [.bool true] rfl rfl rfl HP17.out.box Tryz.sz4' (by simp) (by simp [Value.oneCell']) _ rfl ?_; intro w18 B18 g18; have HP18 := Lib.hid (HP17.out.put g18 B18 HP17.out.a HP17.out.v); have HR18 := Lib.hid (Q8.new H.out HR17.out g18 (by omega)); clear B18 g18; obtain ⟨f0, f1, f2, f3, f4, f5, f6⟩ := seven_box HP18.out.box) | (refine wpList_box rfl 43 (.tmp 6) (.tmp 41) rfl w.heap.size 0 _ [.int .i64 2, .bool goal, .string id, .slice ao an ac, .slice none 0 0, .bool true, .slice none 0 0] rfl rfl rfl HP18.out.res Tryz.sz43 (by simp) (by simp [Value.oneCell']) _ rfl ?_; intro w20 B20 g20; have HB20 := Lib.hid B20; have HG20 := Lib.hid g20; clear B20 g20 f0 f1 f2 f3 f4 f5 f6))
        obtain ⟨d0, d1, d2, d3, d4, d5, d6⟩ := seven_box HB20.out
        obtain ⟨q1, q2⟩ := HP18.out.cond HG20.out HID.out
        refine bodyPost_ret (v := .agg #[.int .i64 2, .bool goal, .string id, .slice ao an ac, .slice none 0 0, .bool true, .slice none 0 0]) (by simp [results, Tryz.results86, go_sem, d0, d1, d2, d3, d4, d5, d6]) rfl ⟨⟨.mk 2 goal id ao an ac al none 0 0 [] true none 0 0 [], rfl, q1, q2, ?_⟩, HP18.out.mv.new HG20.out (Nat.le_refl _), ?_⟩
        · intro x t e
          rw [HRR.out] at e
          cases e
          rw [← HVL.out]
          rfl
        · rw [HRR.out]
          exact Q8.new H.out HR18.out HG20.out (Nat.le_refl _)
    | true =>
      rw [hf] at HF
      obtain ⟨a0, ts2, hqe, ht2⟩ : ∃ a ts, r3 = .ok a ts ∧ fieldHere (headT ts) = true := by
        cases r3 with
        | bad q => cases hf
        | ok a ts => exact ⟨a, ts, rfl, hf⟩
      subst hqe
      have HA := Lib.hid (HQ5.out _ _ rfl)
      obtain ⟨rc, hrc⟩ : ∃ rc : Rs Cd, ((pField ts2).bind fun v ts3 => .ok (.mk 2 goal id a0 v false []) ts3) = rc := ⟨_, rfl⟩
      have HE : Hid (R = rc.bind fun c ts => .ok (setAcc (isB (headT ts) bPlus) c) (if isB (headT ts) bPlus then ts.tail else ts)) := Lib.hid (by
        rw [HE3.out, ← hrc]
        simp only [Rs.bind]
        rw [ht2]
        show (pField ts2).bind _ = _
        cases pField ts2 with
        | bad q => rfl
        | ok v ts3 => rfl)
      have HRC0 := Lib.hid hrc
      refine HF.out.mono ?_
      rintro x w7 ⟨rfl, b7⟩
      have HP7 := Lib.hid (HP6.out.moved (Mv.of_below b7) HLO.out HLJ.out)
      have HR7 := Lib.hid (HR6.out.below b7)
      clear hf hrc b7 HF HR6 HP6 HR5 HP5 HE3 HQ5 ht2
      go_wp2_with fail
      refine (field8 _ HR7.out).mono ?_
      rintro x w8 ⟨⟨vo, vn, vc, vl, rfl, hd, hn, hq⟩, hm, hr⟩
      have HD8 := Lib.hid (hd.mono (K' := fun b => w.heap.size + 2 ≤ b) (fun b hb => by have := HP7.out.box.lt; omega))
      have HP8 := Lib.hid (HP7.out.moved hm HLO.out HLJ.out)
      have HR8 : Hid (Q8 E w8 rc) := Lib.hid (by rw [← HRC0.out]; exact Q8.of hr)
      have HCQ : Hid (∀ c ts, rc = .ok c ts → (CondR.mk 2 goal id ao an ac al vo vn vc vl false none 0 0 []).abs = c) := Lib.hid (by
        intro c ts e
        rw [← HRC0.out] at e
        obtain ⟨v, t2, e1, e2⟩ := bind_ok.1 e
        cases e2
        rw [← HA.out, ← hq _ _ e1]
        rfl)
      clear hd hn hq hm hr HR7
      go_wp2_with (refine wpList_box rfl 41 (.tmp 30) (.tmp 29) rfl (w.heap.size + 1) 4 _ [.slice vo vn vc] rfl rfl rfl HP8.out.box Tryz.sz41 (by simp) (by simp [Value.oneCell']) _ rfl ?_; intro w9 B9 g9; have HP9 := Lib.hid (HP8.out.put g9 B9 HP8.out.a HD8.out); have HRC := Lib.hid (Q8.new H.out HR8.out g9 (by omega)); clear B9 g9)
      cases hpl : isQ rc 4 bPlus with
      | false =>
        have HPL := Lib.hid (sign8 _ HRC.out bPlus)
        rw [hpl] at HPL
        have HRR : Hid (R = rc.bind fun c ts3 => .ok (setAcc false c) ts3) := Lib.hid (by
          rw [HE.out]
          cases rc with
          | bad q => rfl
          | ok b ts3 =>
            rw [isQ_sign bPlus_ne] at hpl
            simp only [Rs.bind]
            rw [hpl]
            rfl)
        unfold Env.ptr bPlus at HPL
        refine HPL.out.mono ?_
        rintro x w16 ⟨rfl, b16⟩
        have HP16 := Lib.hid (HP9.out.moved (Mv.of_below b16) HLO.out HLJ.out)
        have HQ16 := Lib.hid (HRC.out.below b16)
        clear b16 hpl
        obtain ⟨f0, f1, f2, f3, f4, f5, f6⟩ := seven_box HP16.out.box
        go_wp2_with (refine wpList_box rfl 43 (.tmp 6) (.tmp 41) rfl w.heap.size 0 _ [.int .i64 2, .bool goal, .string id, .slice ao an ac, .slice vo vn vc, .bool false, .slice none 0 0] rfl rfl rfl HP16.out.res Tryz.sz43 (by simp) (by simp [Value.oneCell']) _ rfl ?_; intro w20 B20 g20; have HB20 := Lib.hid B20; have HG20 := Lib.hid g20; clear B20 g20 f0 f1 f2 f3 f4 f5 f6)
        obtain ⟨d0, d1, d2, d3, d4, d5, d6⟩ := seven_box HB20.out
        obtain ⟨q1, q2⟩ := HP16.out.cond HG20.out HID.out
        refine bodyPost_ret (v := .agg #[.int .i64 2, .bool goal, .string id, .slice ao an ac, .slice vo vn vc, .bool false, .slice none 0 0]) (by simp [results, Tryz.results86, go_sem, d0, d1, d2, d3, d4, d5, d6]) rfl ⟨⟨.mk 2 goal id ao an ac al vo vn vc vl false none 0 0 [], rfl, q1, q2, ?_⟩, HP16.out.mv.new HG20.out (Nat.le_refl _), ?_⟩
        · intro x t e
          rw [HRR.out] at e
          obtain ⟨b, t2, e1, e2⟩ := bind_ok.1 e
          cases e2
          rw [← HCQ.out _ _ e1]
          rfl
        · rw [HRR.out]
          exact (Q8.new H.out HQ16.out HG20.out (Nat.le_refl _)).of
      | true =>
        have HPL := Lib.hid (sign8 _ HRC.out bPlus)
        rw [hpl] at HPL
        obtain ⟨b0, ts3, hqe, ht3⟩ := isQ_true hpl
        rw [tokB_sign _ bPlus_ne] at ht3
        have hk3 := isB_kind ht3
        have hq8 := HRC.out
        have hval := HCQ.out _ _ hqe
        rw [hqe] at hq8
        obtain ⟨k3, hQ3, rfl⟩ := hq8
        have hkl3 : k3 ≤ 1000000 := by have := hQ3.lt; have := hQ3.good.len; omega
        have HQ3 := Lib.hid hQ3
        have HN3 := Lib.hid (fun w1 (b : Below w9.heap.size w9 w1) w2 g hbx => (hQ3.below b).next (b := ()) (w' := w2) (show (headT (E.L.drop k3)).kind ≠ 5 ∧ (headT (E.L.drop k3)).kind ≠ 6 by omega) g hbx)
        have HRR : Hid (R = .ok (setAcc true b0) (E.L.drop k3).tail) := Lib.hid (by
          rw [HE.out, hqe]
          simp only [Rs.bind]
          rw [ht3]
          rfl)
        have HVL := Lib.hid hval
        clear hpl hqe ht3 hk3 hQ3 hval
        unfold Env.ptr bPlus at HPL
        obtain ⟨e0, e1, e2, e3, e4, e5, e6⟩ := seven_box HP9.out.box
        go_wp2_with (first | (refine HPL.out.mono ?_; rintro x w16 ⟨rfl, b16⟩; have HP16 := Lib.hid (HP9.out.moved (Mv.of_below b16) HLO.out HLJ.out); have HQ16 := Lib.hid (HQ3.out.below b16); have HB16 := Lib.hid b16; obtain ⟨c0, c1, c2⟩ := three_box (HQ3.out.below b16).box; clear b16 e0 e1 e2 e3 e4 e5 e6) | (refine wpList_box rfl 3 (.tmp 39) (.tmp 37) rfl E.r 1 _ [.int .i64 ((k3 : Int) + 1)] rfl rfl rfl HQ16.out.box Tryz.sz3' (by simp) (by simp [Value.oneCell']) [.slice E.ao E.n E.c, .int .i64 ((k3 : Int) + 1), .bool false] rfl ?_; intro w17 B17 g17; have HP17 := Lib.hid (HP16.out.moved (Mv.setR (Mv.refl E _) g17) HLO.out HLJ.out); have HR17 := Lib.hid (HN3.out _ HB16.out _ g17 B17); clear B17 g17 c0 c1 c2) | (refine wpList_box rfl 4 (.tmp 40) (.const (.bool true)) rfl (w.heap.size + 1) 5 _ [.bool true] rfl rfl rfl HP17.out.box Tryz.sz4' (by simp) (by simp [Value.oneCell']) _ rfl ?_; intro w18 B18 g18; have HP18 := Lib.hid (HP17.out.put g18 B18 HP17.out.a HP17.out.v); have HR18 := Lib.hid (Q8.new H.out HR17.out g18 (by omega)); clear B18 g18; obtain ⟨f0, f1, f2, f3, f4, f5, f6⟩ := seven_box HP18.out.box) | (refine wpList_box rfl 43 (.tmp 6) (.tmp 41) rfl w.heap.size 0 _ [.int .i64 2, .bool goal, .string id, .slice ao an ac, .slice vo vn vc, .bool true, .slice none 0 0] rfl rfl rfl HP18.out.res Tryz.sz43 (by simp) (by simp [Value.oneCell']) _ rfl ?_; intro w20 B20 g20; have HB20 := Lib.hid B20; have HG20 := Lib.hid g20; clear B20 g20 f0 f1 f2 f3 f4 f5 f6))
        obtain ⟨d0, d1, d2, d3, d4, d5, d6⟩ := seven_box HB20.out
        obtain ⟨q1, q2⟩ := HP18.out.cond HG20.out HID.out
        refine bodyPost_ret (v := .agg #[.int .i64 2, .bool goal, .string id, .slice ao an ac, .slice vo vn vc, .bool true, .slice none 0 0]) (by simp [results, Tryz.results86, go_sem, d0, d1, d2, d3, d4, d5, d6]) rfl ⟨⟨.mk 2 goal id ao an ac al vo vn vc vl true none 0 0 [], rfl, q1, q2, ?_⟩, HP18.out.mv.new HG20.out (Nat.le_refl _), ?_⟩
        · intro x t e
          rw [HRR.out] at e
          cases e
          rw [← HVL.out]
          rfl
        · rw [HRR.out]
          exact Q8.new H.out HR18.out HG20.out (Nat.le_refl _)
end Go.Proofs.YtgeaccoobhigcaaGreat
namespace Go.Proofs.YtgeaccoobhigcaaGreat
open Go Go.RowKit

def bState : ByteArray := ⟨#[115, 116, 97, 116, 101]⟩
theorem tokB_state (t : Tk) : tokB t 1 bState = goalHere t := rfl
set_option maxRecDepth 100000 in
set_option maxHeartbeats 4000000 in
theorem clause8 {α : Type} {E : Env} {r : Rs α} (w : World) (h : Q8 E w r) : Calls Tryz.prog 66 #[E.ptr] w fun x w' => OwnIs mkCond 43 CondR.abs w.heap.size w' (r.bind fun _ ts => pClause ts) x ∧ Mv E w w' ∧ Q8 E w' (r.bind fun _ ts => pClause ts) := by
  have HTK := Lib.hid (take8 w h 4 (by decide) bOpen 4 rfl)
  have HLO := Lib.hid h.lows
  have HLJ : Hid (E.ib < w.heap.size) := Lib.hid (by have := h.one; have := h.lows; omega)
  have H := Lib.hid h
  obtain ⟨i0, hi, hz0, hz1, hz2⟩ := info_parts Tryz.info43
  obtain ⟨Z, hZ⟩ : ∃ Z, (r.bind fun _ ts => pClause ts) = Z := ⟨_, rfl⟩
  rw [hZ]
  obtain ⟨r1, hr1⟩ : ∃ r1, (r.bind fun _ ts => pTok 4 bOpen ts) = r1 := ⟨_, rfl⟩
  have HE1 : Hid (Z = r1.bind fun _ ts1 => (pText 3 (if goalHere (headT ts1) then ts1.tail else ts1)).bind fun id ts2 => pEnds (pItem id (goalHere (headT ts1))) bShut ts2) := Lib.hid (by
    rw [← hr1, take_bind (s := bOpen) rfl, ← hZ]
    rfl)
  rw [hr1] at HTK
  clear h hZ hr1
  unfold Env.ptr bOpen at *
  go_enter Tryz.func66, Tryz.ntmps66
  go_wp2_with fail
  refine HTK.out.mono ?_
  rintro x w1 ⟨⟨_, rfl, _⟩, hm, hr⟩
  have HM1 := Lib.hid hm
  have HR1 := Lib.hid hr
  clear hm hr HTK
  have HIS := Lib.hid (is8 _ HR1.out 1 bState 1 rfl)
  cases hg : isQ r1 1 bState with
  | false =>
    rw [hg] at HIS
    obtain ⟨gl, hgl⟩ : ∃ gl, gl = false := ⟨_, rfl⟩
    obtain ⟨r2, hr2⟩ : ∃ r2, r1 = r2 := ⟨_, rfl⟩
    have HE2 : Hid (Z = r2.bind fun _ ts1 => (pText 3 ts1).bind fun id ts2 => pEnds (pItem id gl) ⟨#[41]⟩ ts2) := Lib.hid (by
      rw [HE1.out, hr2, hgl]
      subst hr2
      cases r1 with
      | bad q => rfl
      | ok a ts =>
        have : goalHere (headT ts) = false := hg
        simp only [Rs.bind]
        rw [this]
        rfl)
    clear HE1 hg
    unfold Env.ptr bState at HIS
    go_wp2_with (first | (go_at_call 22; refine HIS.out.mono ?_; rintro x w2 ⟨rfl, b2⟩))
    rw [← hgl]
    have HMA := Lib.hid (HM1.out.trans (Mv.of_below b2))
    have HRA := Lib.hid (HR1.out.below b2)
    rw [hr2] at HRA
    clear b2 HM1 HR1 HIS hr2 hgl
    have HTX := Lib.hid (take8 _ HRA.out 3 (by decide) ⟨#[]⟩ 3 rfl)
    unfold Env.ptr at HTX
    refine HTX.out.mono ?_
    rintro x w3 ⟨⟨s, rfl, hs, hsq⟩, hm, hr⟩
    have HM3 := Lib.hid (HMA.out.trans hm)
    obtain ⟨r3, hr3⟩ : ∃ r3, (r2.bind fun _ ts => pTok 3 ⟨#[]⟩ ts) = r3 := ⟨_, rfl⟩
    rw [hr3] at hr hsq
    have HE : Hid ((r3.bind fun _ ts => pEnds (pItem s gl) ⟨#[41]⟩ ts) = Z) := Lib.hid (by
      rw [HE2.out, ← hr3]
      cases r2 with
      | bad q => rfl
      | ok a ts =>
        simp only [Rs.bind]
        rw [← pTok_text]
        cases hp : pTok 3 ⟨#[]⟩ ts with
        | bad q => rfl
        | ok id t =>
          have := hsq id t (by rw [← hr3]; exact hp)
          subst this
          rfl)
    have HR3 := Lib.hid hr
    have HS := Lib.hid hs
    clear hm hr hs hsq hr3 HTX HRA HMA HE2
    go_wp2_with fail
    refine (item8 _ HR3.out gl s HS.out).mono ?_
    rintro x w4 ⟨⟨c', rfl, hmem, hin, hq⟩, hm, hr⟩
    have hg := Grows8.first (M := mkCond) (e := 43) (abs := CondR.abs) (E := E) (w := w) (p := pItem s gl) (stop := ⟨#[41]⟩) (u := c') (tmp := c'.cells.toArray) HR3.out (HM3.out.trans hm) rfl hmem (CondR.In.mono hin fun b hb => Nat.le_trans HM3.out.size hb) (pItem_eats s gl) hr hq
    rw [HE.out] at hg
    obtain ⟨n0, hg⟩ := hg
    have HG := Lib.hid hg
    clear hg hmem hin hq hm hr HM3 HR3 HE
    obtain ⟨yk, yg, yi, ya1, ya2, ya3, ya, yv1, yv2, yv3, yv, yacc, yc1, yc2, yc3, yc⟩ := c'
    unfold CondR.val
    simp only
    rw [show (CondR.cells (.mk yk yg yi ya1 ya2 ya3 ya yv1 yv2 yv3 yv yacc yc1 yc2 yc3 yc)).toArray = #[.int .i64 yk, .bool yg, .string yi, .slice ya1 ya2 ya3, .slice yv1 yv2 yv3, .bool yacc, .slice yc1 yc2 yc3] from rfl] at HG
    go_wp2
    go_loopg [5] n0 (fun gk v wr => ∃ l : List CondR, Hid (Grows8 mkCond 43 CondR.abs E w Z (pItem s gl) ⟨#[41]⟩ v l gk wr))
    case atStart => exact ⟨_, HG⟩
    case round =>
      clear HG
      obtain ⟨l, HG⟩ := hrel
      obtain ⟨ao, c, rfl, hd⟩ := HG.out.deep
      clear hd
      rcases HG.out.goes with ⟨ts1, hr, hlen, hcnt, hR⟩ | ⟨q, hr, hR⟩
      · obtain ⟨k1, hQ1, rfl⟩ := hr
        obtain ⟨c0, c1, c2⟩ := three_box hQ1.box
        have hr : Q8 E wr (.ok () (E.L.drop k1)) := hQ1.q8
        obtain ⟨gk, rfl⟩ : ∃ g, gk = g + 1 := ⟨gk - 1, by omega⟩
        have hI := sign8 _ hr ⟨#[41]⟩
        rw [isQ_sign rfl] at hI
        cases hb : isB (headT (E.L.drop k1)) ⟨#[41]⟩ with
        | true =>
          rw [hb] at hI
          rw [rest_stop hb] at hR
          have hp : ((Rs.ok () (E.L.drop k1)).bind fun _ ts => pTok 4 ⟨#[41]⟩ ts) = .ok (textB (headT (E.L.drop k1))) (E.L.drop k1).tail := by
            show pTok 4 ⟨#[41]⟩ (E.L.drop k1) = _
            unfold pTok
            rw [tokB_sign _ rfl, hb]
            rfl
          have hT := fun W (b : Below wr.heap.size wr W) => take8 W (hr.below b) 4 (by decide) ⟨#[41]⟩ 4 rfl
          rw [hp] at hT
          have HI := Lib.hid hI
          have HT := Lib.hid hT
          have HRR := Lib.hid hR
          have hll : l.length ≤ 1000001 := HG.out.len
          clear hR hr hlen hcnt hI hT hb hp hQ1
          generalize textB (headT (E.L.drop k1)) = TT at HT
          unfold Env.ptr at HI HT
          go_wp2_with (first | (go_at_call 40; refine HI.out.mono ?_; rintro x w13 ⟨rfl, b3⟩))
          refine (HT.out _ b3).mono ?_
          rintro x w14 ⟨⟨_, rfl, _⟩, hm0, hr⟩
          have hm : Mv E wr w14 := (Mv.of_below b3).trans hm0
          have HO4 := Lib.hid (HG.out.own.moved hm HLO.out HLJ.out)
          have HM4 := Lib.hid (HG.out.mv.trans hm)
          have HR4 := Lib.hid hr
          clear hm hr hm0 b3 c0 c1 c2
          go_wp2
          go_ret
          exact ⟨⟨_, l, rfl, HO4.out, hll, by intro a t e; rw [HRR.out] at e; cases e; rfl⟩, HM4.out, by rw [HRR.out]; exact HR4.out⟩
        | false =>
          rw [hb] at hI
          have HI := Lib.hid hI
          have HG3 := Lib.hid (fun w3 (b : Below wr.heap.size wr w3) => HG.out.below H.out b)
          have HT := Lib.hid (fun w3 (b : Below wr.heap.size wr w3) => item8 w3 (hr.below b) gl s HS.out)
          have HMR := Lib.hid (fun w3 (b : Below wr.heap.size wr w3) u w0 w' v' => Grows8.more (u := u) (w0 := w0) (w' := w') (v' := v') H.out (HG.out.below H.out b) hlen hcnt hR hb (pItem_eats s gl))
          have hll : l.length ≤ 1000000 := by simp at hcnt; omega
          clear hR hr hlen hcnt hI hb hQ1
          unfold Env.ptr at HI HT
          go_wp2_with (first | (go_at_call 40; refine HI.out.mono ?_; rintro x w13 ⟨rfl, b3⟩))
          refine (HT.out _ b3).mono ?_
          rintro x w14 ⟨⟨u, rfl, hmem, hin, hq⟩, hm, hr⟩
          have HM := Lib.hid hm
          have HMEM := Lib.hid hmem
          have HIN := Lib.hid hin
          have HQ := Lib.hid hq
          have HR4 := Lib.hid hr
          have HG4 := Lib.hid (HG3.out _ b3)
          have HMR4 := Lib.hid (HMR.out _ b3)
          clear hm hmem hin hq hr HG3 HMR b3
          obtain ⟨zk, zg, zi, za1, za2, za3, za, zv1, zv2, zv3, zv, zacc, zc1, zc2, zc3, zc⟩ := u
          unfold CondR.val
          simp only
          go_wp2_with (at_builtin; refine wpList_push3 rfl (.tmp 35) (.tmp 40) 23 rfl mkCond 43 i0 _ 112 Tryz.underlying23 hi hz0 hz1 hz2 rfl (by omega) (E := E) (w := w) (wr := w13) (w0 := w14) _ l (CondR.mk zk zg zi za1 za2 za3 za zv1 zv2 zv3 zv zacc zc1 zc2 zc3 zc) rfl HG4.out.own HG4.out.mv HM.out HLO.out HLJ.out HMEM.out HIN.out hll _ rfl rfl rfl ?_; intro go' c' w5 ho5 hg5)
          have HN := Lib.hid (HMR4.out _ _ _ _ HM.out HR4.out HQ.out ho5 hg5)
          clear ho5 hg5 c0 c1 c2
          go_wp2
          go_roundg gk
          case rel => exact ⟨_, HN⟩
          case measure => omega
      · obtain ⟨k1, hQ1, he1⟩ := hr
        obtain ⟨c0, c1, c2⟩ := three_box hQ1.box
        have hr : Q8 E wr (.bad q : Rs Unit) := ⟨k1, hQ1, he1⟩
        have HT := Lib.hid (take8 _ hr 4 (by decide) ⟨#[41]⟩ 4 rfl)
        have HRR := Lib.hid hR
        have hll : l.length ≤ 1000001 := HG.out.len
        clear hR hr hQ1
        unfold Env.ptr at HT
        go_wp2_with fail
        refine HT.out.mono ?_
        rintro x w14 ⟨⟨_, rfl, _⟩, hm, hr⟩
        have HO4 := Lib.hid (HG.out.own.moved hm HLO.out HLJ.out)
        have HM4 := Lib.hid (HG.out.mv.trans hm)
        have HR4 := Lib.hid hr
        clear hm hr c0 c1 c2
        go_wp2
        go_ret
        exact ⟨⟨_, l, rfl, HO4.out, hll, by intro a t e; rw [HRR.out] at e; cases e⟩, HM4.out, by rw [HRR.out]; exact HR4.out⟩
  | true =>
    rw [hg] at HIS
    obtain ⟨a1, ts1, hqe, ht1⟩ := isQ_true hg
    subst hqe
    have hgh : goalHere (headT ts1) = true := ht1
    have hk1 : (headT ts1).kind = 1 := by
      unfold goalHere at hgh
      simp only [Bool.and_eq_true, decide_eq_true_eq] at hgh
      exact hgh.1
    obtain ⟨k, hQ, rfl⟩ := HR1.out
    have hkl : k ≤ 1000000 := by have := hQ.lt; have := hQ.good.len; omega
    have HQ0 := Lib.hid hQ
    have HN := Lib.hid (fun wA (b : Below w1.heap.size w1 wA) w2 g hbx => (hQ.below b).next (b := ()) (w' := w2) (show (headT (E.L.drop k)).kind ≠ 5 ∧ (headT (E.L.drop k)).kind ≠ 6 by omega) g hbx)
    obtain ⟨gl, hgl⟩ : ∃ gl, gl = true := ⟨_, rfl⟩
    obtain ⟨r2, hr2⟩ : ∃ r2, Rs.ok () (E.L.drop k).tail = r2 := ⟨_, rfl⟩
    have HE2 : Hid (Z = r2.bind fun _ ts1 => (pText 3 ts1).bind fun id ts2 => pEnds (pItem id gl) ⟨#[41]⟩ ts2) := Lib.hid (by
      rw [HE1.out, ← hr2, hgl]
      simp only [Rs.bind]
      rw [hgh]
      rfl)
    rw [hr2] at HN
    clear HE1 hg hgh hk1 ht1 hQ hr2
    unfold Env.ptr bState at HIS
    go_wp2_with (first | (go_at_call 22; refine HIS.out.mono ?_; rintro x w2 ⟨rfl, b2⟩; have HQ2 := Lib.hid (HQ0.out.below b2); have HB2 := Lib.hid b2; obtain ⟨c0, c1, c2⟩ := three_box (HQ0.out.below b2).box; clear b2) | (refine wpList_box rfl 3 (.tmp 17) (.tmp 15) rfl E.r 1 _ [.int .i64 ((k : Int) + 1)] rfl rfl rfl HQ2.out.box Tryz.sz3' (by simp) (by simp [Value.oneCell']) [.slice E.ao E.n E.c, .int .i64 ((k : Int) + 1), .bool false] rfl ?_; intro w3 B3 g3; have HMA := Lib.hid (Mv.setR (HM1.out.trans (Mv.of_below HB2.out)) g3); have HRA := Lib.hid (HN.out _ HB2.out _ g3 B3); clear B3 g3 c0 c1 c2))
    rw [← hgl]
    clear HM1 HR1 HIS HN HQ0 HQ2 HB2 hgl
    have HTX := Lib.hid (take8 _ HRA.out 3 (by decide) ⟨#[]⟩ 3 rfl)
    unfold Env.ptr at HTX
    refine HTX.out.mono ?_
    rintro x w3 ⟨⟨s, rfl, hs, hsq⟩, hm, hr⟩
    have HM3 := Lib.hid (HMA.out.trans hm)
    obtain ⟨r3, hr3⟩ : ∃ r3, (r2.bind fun _ ts => pTok 3 ⟨#[]⟩ ts) = r3 := ⟨_, rfl⟩
    rw [hr3] at hr hsq
    have HE : Hid ((r3.bind fun _ ts => pEnds (pItem s gl) ⟨#[41]⟩ ts) = Z) := Lib.hid (by
      rw [HE2.out, ← hr3]
      cases r2 with
      | bad q => rfl
      | ok a ts =>
        simp only [Rs.bind]
        rw [← pTok_text]
        cases hp : pTok 3 ⟨#[]⟩ ts with
        | bad q => rfl
        | ok id t =>
          have := hsq id t (by rw [← hr3]; exact hp)
          subst this
          rfl)
    have HR3 := Lib.hid hr
    have HS := Lib.hid hs
    clear hm hr hs hsq hr3 HTX HRA HMA HE2
    go_wp2_with fail
    refine (item8 _ HR3.out gl s HS.out).mono ?_
    rintro x w4 ⟨⟨c', rfl, hmem, hin, hq⟩, hm, hr⟩
    have hg := Grows8.first (M := mkCond) (e := 43) (abs := CondR.abs) (E := E) (w := w) (p := pItem s gl) (stop := ⟨#[41]⟩) (u := c') (tmp := c'.cells.toArray) HR3.out (HM3.out.trans hm) rfl hmem (CondR.In.mono hin fun b hb => Nat.le_trans HM3.out.size hb) (pItem_eats s gl) hr hq
    rw [HE.out] at hg
    obtain ⟨n0, hg⟩ := hg
    have HG := Lib.hid hg
    clear hg hmem hin hq hm hr HM3 HR3 HE
    obtain ⟨yk, yg, yi, ya1, ya2, ya3, ya, yv1, yv2, yv3, yv, yacc, yc1, yc2, yc3, yc⟩ := c'
    unfold CondR.val
    simp only
    rw [show (CondR.cells (.mk yk yg yi ya1 ya2 ya3 ya yv1 yv2 yv3 yv yacc yc1 yc2 yc3 yc)).toArray = #[.int .i64 yk, .bool yg, .string yi, .slice ya1 ya2 ya3, .slice yv1 yv2 yv3, .bool yacc, .slice yc1 yc2 yc3] from rfl] at HG
    go_wp2
    go_loopg [5] n0 (fun gk v wr => ∃ l : List CondR, Hid (Grows8 mkCond 43 CondR.abs E w Z (pItem s gl) ⟨#[41]⟩ v l gk wr))
    case atStart => exact ⟨_, HG⟩
    case round =>
      clear HG
      obtain ⟨l, HG⟩ := hrel
      obtain ⟨ao, c, rfl, hd⟩ := HG.out.deep
      clear hd
      rcases HG.out.goes with ⟨ts1, hr, hlen, hcnt, hR⟩ | ⟨q, hr, hR⟩
      · obtain ⟨k1, hQ1, rfl⟩ := hr
        obtain ⟨c0, c1, c2⟩ := three_box hQ1.box
        have hr : Q8 E wr (.ok () (E.L.drop k1)) := hQ1.q8
        obtain ⟨gk, rfl⟩ : ∃ g, gk = g + 1 := ⟨gk - 1, by omega⟩
        have hI := sign8 _ hr ⟨#[41]⟩
        rw [isQ_sign rfl] at hI
        cases hb : isB (headT (E.L.drop k1)) ⟨#[41]⟩ with
        | true =>
          rw [hb] at hI
          rw [rest_stop hb] at hR
          have hp : ((Rs.ok () (E.L.drop k1)).bind fun _ ts => pTok 4 ⟨#[41]⟩ ts) = .ok (textB (headT (E.L.drop k1))) (E.L.drop k1).tail := by
            show pTok 4 ⟨#[41]⟩ (E.L.drop k1) = _
            unfold pTok
            rw [tokB_sign _ rfl, hb]
            rfl
          have hT := fun W (b : Below wr.heap.size wr W) => take8 W (hr.below b) 4 (by decide) ⟨#[41]⟩ 4 rfl
          rw [hp] at hT
          have HI := Lib.hid hI
          have HT := Lib.hid hT
          have HRR := Lib.hid hR
          have hll : l.length ≤ 1000001 := HG.out.len
          clear hR hr hlen hcnt hI hT hb hp hQ1
          generalize textB (headT (E.L.drop k1)) = TT at HT
          unfold Env.ptr at HI HT
          go_wp2_with (first | (go_at_call 40; refine HI.out.mono ?_; rintro x w13 ⟨rfl, b3⟩))
          refine (HT.out _ b3).mono ?_
          rintro x w14 ⟨⟨_, rfl, _⟩, hm0, hr⟩
          have hm : Mv E wr w14 := (Mv.of_below b3).trans hm0
          have HO4 := Lib.hid (HG.out.own.moved hm HLO.out HLJ.out)
          have HM4 := Lib.hid (HG.out.mv.trans hm)
          have HR4 := Lib.hid hr
          clear hm hr hm0 b3 c0 c1 c2
          go_wp2
          go_ret
          exact ⟨⟨_, l, rfl, HO4.out, hll, by intro a t e; rw [HRR.out] at e; cases e; rfl⟩, HM4.out, by rw [HRR.out]; exact HR4.out⟩
        | false =>
          rw [hb] at hI
          have HI := Lib.hid hI
          have HG3 := Lib.hid (fun w3 (b : Below wr.heap.size wr w3) => HG.out.below H.out b)
          have HT := Lib.hid (fun w3 (b : Below wr.heap.size wr w3) => item8 w3 (hr.below b) gl s HS.out)
          have HMR := Lib.hid (fun w3 (b : Below wr.heap.size wr w3) u w0 w' v' => Grows8.more (u := u) (w0 := w0) (w' := w') (v' := v') H.out (HG.out.below H.out b) hlen hcnt hR hb (pItem_eats s gl))
          have hll : l.length ≤ 1000000 := by simp at hcnt; omega
          clear hR hr hlen hcnt hI hb hQ1
          unfold Env.ptr at HI HT
          go_wp2_with (first | (go_at_call 40; refine HI.out.mono ?_; rintro x w13 ⟨rfl, b3⟩))
          refine (HT.out _ b3).mono ?_
          rintro x w14 ⟨⟨u, rfl, hmem, hin, hq⟩, hm, hr⟩
          have HM := Lib.hid hm
          have HMEM := Lib.hid hmem
          have HIN := Lib.hid hin
          have HQ := Lib.hid hq
          have HR4 := Lib.hid hr
          have HG4 := Lib.hid (HG3.out _ b3)
          have HMR4 := Lib.hid (HMR.out _ b3)
          clear hm hmem hin hq hr HG3 HMR b3
          obtain ⟨zk, zg, zi, za1, za2, za3, za, zv1, zv2, zv3, zv, zacc, zc1, zc2, zc3, zc⟩ := u
          unfold CondR.val
          simp only
          go_wp2_with (at_builtin; refine wpList_push3 rfl (.tmp 35) (.tmp 40) 23 rfl mkCond 43 i0 _ 112 Tryz.underlying23 hi hz0 hz1 hz2 rfl (by omega) (E := E) (w := w) (wr := w13) (w0 := w14) _ l (CondR.mk zk zg zi za1 za2 za3 za zv1 zv2 zv3 zv zacc zc1 zc2 zc3 zc) rfl HG4.out.own HG4.out.mv HM.out HLO.out HLJ.out HMEM.out HIN.out hll _ rfl rfl rfl ?_; intro go' c' w5 ho5 hg5)
          have HN := Lib.hid (HMR4.out _ _ _ _ HM.out HR4.out HQ.out ho5 hg5)
          clear ho5 hg5 c0 c1 c2
          go_wp2
          go_roundg gk
          case rel => exact ⟨_, HN⟩
          case measure => omega
      · obtain ⟨k1, hQ1, he1⟩ := hr
        obtain ⟨c0, c1, c2⟩ := three_box hQ1.box
        have hr : Q8 E wr (.bad q : Rs Unit) := ⟨k1, hQ1, he1⟩
        have HT := Lib.hid (take8 _ hr 4 (by decide) ⟨#[41]⟩ 4 rfl)
        have HRR := Lib.hid hR
        have hll : l.length ≤ 1000001 := HG.out.len
        clear hR hr hQ1
        unfold Env.ptr at HT
        go_wp2_with fail
        refine HT.out.mono ?_
        rintro x w14 ⟨⟨_, rfl, _⟩, hm, hr⟩
        have HO4 := Lib.hid (HG.out.own.moved hm HLO.out HLJ.out)
        have HM4 := Lib.hid (HG.out.mv.trans hm)
        have HR4 := Lib.hid hr
        clear hm hr c0 c1 c2
        go_wp2
        go_ret
        exact ⟨⟨_, l, rfl, HO4.out, hll, by intro a t e; rw [HRR.out] at e; cases e⟩, HM4.out, by rw [HRR.out]; exact HR4.out⟩
end Go.Proofs.YtgeaccoobhigcaaGreat
namespace Go.Proofs.YtgeaccoobhigcaaGreat
open Go Go.RowKit

def Conds8 (n : Nat) : Prop := ∀ (α : Type) (E : Env) (w : World) (r : Rs α), Q8 E w r → (∀ a ts, r = .ok a ts → ts.length < n) →
  Calls Tryz.prog 39 #[E.ptr] w fun x w' => OwnIs mkCond 43 CondR.abs w.heap.size w' (r.bind fun _ ts => pCond n ts) x ∧ Mv E w w' ∧ Q8 E w' (r.bind fun _ ts => pCond n ts)
set_option maxRecDepth 100000 in
set_option maxHeartbeats 4000000 in
theorem conds8_clause {α : Type} {E : Env} {r : Rs α} {n : Nat} (w : World) (h : Q8 E w r) (hb : isQ r 4 bMinus = false) (hR : (r.bind fun _ ts => pCond n ts) = r.bind fun _ ts => pClause ts) :
    Calls Tryz.prog 39 #[E.ptr] w fun x w' => OwnIs mkCond 43 CondR.abs w.heap.size w' (r.bind fun _ ts => pCond n ts) x ∧ Mv E w w' ∧ Q8 E w' (r.bind fun _ ts => pCond n ts) := by
  rw [hR]
  have HI := Lib.hid (sign8 w h bMinus)
  rw [hb] at HI
  have HC := Lib.hid (fun w' (b : Below w.heap.size w w') => clause8 w' (h.below b))
  generalize (r.bind fun _ ts => pClause ts) = R at HC ⊢
  clear h hb hR
  unfold Env.ptr bMinus at *
  go_enter Tryz.func39, Tryz.ntmps39
  go_wp2_with (first | (go_at_call 40; refine HI.out.mono ?_; rintro x w1 ⟨rfl, b1⟩))
  refine (HC.out _ b1).mono ?_
  rintro x w2 ⟨⟨v, l, rfl, ho, hl, hq⟩, hm, hr⟩
  have HO := Lib.hid (ho.rebase b1.size)
  have HM := Lib.hid ((Mv.of_below b1).trans hm)
  have HR := Lib.hid hr
  have HQ := Lib.hid hq
  clear ho hm hr hq b1
  go_wp2
  go_ret
  exact ⟨⟨_, l, rfl, HO.out, hl, HQ.out⟩, HM.out, HR.out⟩
/-- How a loop over conditions stands. -/
structure CRun8 (E : Env) (w : World) (Z : Rs (List Cd)) (m : Nat) (stop : ByteArray) (v : Value) (l : List CondR) (k : Nat) (wr : World) : Prop where
  own : OwnD mkCond w.heap.size 43 wr v l
  mv : Mv E w wr
  goes : (∃ ts, Q8 E wr (.ok () ts) ∧ ts.length < m ∧ l.length + ts.length ≤ 1000000 ∧ ts.length < k ∧ Z = contF (pCond m) stop k (l.map CondR.abs) ts) ∨ (∃ q, Q8 E wr (.bad q : Rs Unit) ∧ Z = .bad q)
section
variable {γ : Type} {E : Env} {w wr w0 w' : World} {Z : Rs (List Cd)} {m : Nat} {stop : ByteArray} {k : Nat} {v v' : Value} {l l2 : List CondR} {ts : List Tk} {r0 : Rs γ}
theorem CRun8.below {w3 : World} (_h0 : Q8 E w r0) (h : CRun8 E w Z m stop v l k wr) (b : Below wr.heap.size wr w3) : CRun8 E w Z m stop v l k w3 := by
  refine ⟨h.own.kept b, h.mv.trans (Mv.of_below b), ?_⟩
  rcases h.goes with ⟨ts, h1, h2⟩ | ⟨q, h1, h2⟩
  · exact .inl ⟨ts, h1.below b, h2⟩
  · exact .inr ⟨q, h1.below b, h2⟩
/-- The first ones have been read. -/
theorem CRun8.first {w1 w2 : World} (h1 : Q8 E w1 (.ok () ts)) (hl : ts.length < m) (hm : Mv E w w2) (ho : OwnD mkCond w.heap.size 43 w2 v l) (hr : Q8 E w2 (pCond m ts)) (hq : ∀ a t, pCond m ts = .ok a t → l.map CondR.abs = a) :
    ∃ k, CRun8 E w (pConds m stop ts) m stop v l k w2 := by
  cases hp : pCond m ts with
  | bad q =>
    rw [hp] at hr
    exact ⟨0, ho, hm, .inr ⟨q, hr, contF_first_bad hp⟩⟩
  | ok a t =>
    rw [hp] at hr hq
    have h2 := pCond_eats _ _ _ _ hp
    have h3 := pCond_count _ _ _ _ hp
    have h4 := hq _ _ rfl
    have h5 : l.length = a.length := by rw [← h4, List.length_map]
    have h6 := h1.ok_size.2
    exact ⟨t.length + 1, ho, hm, .inl ⟨t, hr, by omega, by omega, Nat.lt_succ_self _, by rw [h4]; exact contF_first hp⟩⟩
/-- More have been read: the world ahead of the append. -/
theorem CRun8.more (h0 : Q8 E w r0) (h : CRun8 E w Z m stop v l (k + 1) wr) (hts : ts.length < m) (hcnt : l.length + ts.length ≤ 1000000) (hlen : ts.length < k + 1) (hR : Z = contF (pCond m) stop (k + 1) (l.map CondR.abs) ts) (hb : isB (headT ts) stop = false)
    (hm : Mv E wr w0) (hr : Q8 E w0 (pCond m ts)) (hq : ∀ a t, pCond m ts = .ok a t → l2.map CondR.abs = a) (ho : OwnD mkCond w.heap.size 43 w' v' (l ++ l2)) (hg : w0.grownBy w' v.ownBlock) : CRun8 E w Z m stop v' (l ++ l2) k w' := by
  have hown : ∀ b, v.ownBlock = some b → w.heap.size ≤ b := fun b e => (h.own.own.lt b e).1
  refine ⟨ho, (h.mv.trans hm).grown hg fun b e => .inr (.inr (hown b e)), ?_⟩
  cases hp : pCond m ts with
  | bad q =>
    rw [hp] at hr
    exact .inr ⟨q, h0.newRow hr hg hown, hR.trans (contF_bad hb hp)⟩
  | ok a t =>
    rw [hp] at hr hq
    have h2 := pCond_eats _ _ _ _ hp
    have h3 := pCond_count _ _ _ _ hp
    have h4 := hq _ _ rfl
    have h5 : l2.length = a.length := by rw [← h4, List.length_map]
    refine .inl ⟨t, h0.newRow hr hg hown, by omega, by rw [List.length_append]; omega, by omega, ?_⟩
    rw [hR, contF_next hb hp, List.map_append, h4]
end

set_option maxRecDepth 100000 in
set_option maxHeartbeats 16000000 in
theorem conds8_neg {α : Type} {E : Env} {a : α} {ts : List Tk} {m : Nat} (IH : Conds8 m) (w : World) (h : Q8 E w (.ok a ts)) (hn : ts.length < m + 1) (hmin : isB (headT ts) bMinus = true) :
    Calls Tryz.prog 39 #[E.ptr] w fun x w' => OwnIs mkCond 43 CondR.abs w.heap.size w' (pCond (m + 1) ts) x ∧ Mv E w w' ∧ Q8 E w' (pCond (m + 1) ts) := by
  have hk := isB_kind hmin
  have hI := sign8 w h bMinus
  rw [isQ_sign bMinus_ne, hmin] at hI
  have HLO := Lib.hid h.lows
  have HLJ : Hid (E.ib < w.heap.size) := Lib.hid (by have := h.one; have := h.lows; omega)
  have HW := Lib.hid h
  have hlt : ts.tail.length < ts.length := tail_lt (by omega)
  have HIH := Lib.hid IH
  obtain ⟨i0, hi, hz0, hz1, hz2⟩ := info_parts Tryz.info43
  obtain ⟨Z, hZ⟩ : ∃ Z, pCond (m + 1) ts = Z := ⟨_, rfl⟩
  rw [hZ]
  have HZ : Hid (Z = if isB (headT ts.tail) bLeft then (pConds m bRight ts.tail.tail).bind (fun fl t => (pTake bRight t).bind fun _ t' => .ok [allOf fl] t') else (pClause ts.tail).bind fun l ts => .ok (negOf l) ts) := Lib.hid (by
    rw [← hZ, ← neg_all]
    conv => lhs; unfold pCond
    rw [if_pos hmin])
  obtain ⟨k, hQ, rfl⟩ := h
  have hkl : k ≤ 1000000 := by have := hQ.lt; have := hQ.good.len; omega
  have HQ0 := Lib.hid hQ
  have HN := Lib.hid (fun wA (b : Below w.heap.size w wA) w2 g hbx => (hQ.below b).next (b := ()) (w' := w2) (show (headT (E.L.drop k)).kind ≠ 5 ∧ (headT (E.L.drop k)).kind ≠ 6 by omega) g hbx)
  have HI := Lib.hid hI
  clear IH hk hmin hZ hI hQ
  generalize (E.L.drop k).tail = ts1 at *
  generalize E.L.drop k = ts0 at *
  unfold Env.ptr bMinus at *
  go_enter Tryz.func39, Tryz.ntmps39
  go_wp2_with (first | (go_at_call 40; refine HI.out.mono ?_; rintro x w1 ⟨rfl, b1⟩; have HQ1 := Lib.hid (HQ0.out.below b1); have HB1 := Lib.hid b1; obtain ⟨c0, c1, c2⟩ := three_box (HQ0.out.below b1).box; clear b1) | (refine wpList_box rfl 3 (.tmp 16) (.tmp 14) rfl E.r 1 _ [.int .i64 ((k : Int) + 1)] rfl rfl rfl HQ1.out.box Tryz.sz3' (by simp) (by simp [Value.oneCell']) [.slice E.ao E.n E.c, .int .i64 ((k : Int) + 1), .bool false] rfl ?_; intro w2 B3 g3; have HM2 := Lib.hid (Mv.setR (Mv.of_below HB1.out) g3); have HR2 := Lib.hid (HN.out _ HB1.out _ g3 B3); clear B3 g3 c0 c1 c2))
  clear HI HQ0 HN HQ1 HB1
  have HI := Lib.hid (sign8 w2 HR2.out bLeft)
  rw [isQ_sign bLeft_ne] at HI
  have HC := Lib.hid (fun w' (b : Below w2.heap.size w2 w') => clause8 w' (HR2.out.below b))
  unfold Env.ptr bLeft at HI
  cases hb : isB (headT ts1) ⟨#[123]⟩ with
  | false =>
    rw [hb] at HI
    unfold Env.ptr at HC
    go_wp2_with (first | (go_at_call 40; refine HI.out.mono ?_; rintro x w3 ⟨rfl, b3⟩))
    refine (HC.out _ b3).mono ?_
    rintro x w4 ⟨⟨v, l, rfl, ho, hln, hq⟩, hm, hr⟩
    have HM4 := Lib.hid (HM2.out.trans ((Mv.of_below b3).trans hm))
    have HSZ1 : Hid (w.heap.size ≤ w3.heap.size) := Lib.hid (Nat.le_trans HM2.out.size b3.size)
    obtain ⟨R1, hR1⟩ : ∃ R1, ((Rs.ok () ts1).bind fun _ ts => pClause ts) = R1 := ⟨_, rfl⟩
    have HZ3 : Hid (Z = R1.bind fun l ts => .ok (negOf l) ts) := Lib.hid (by rw [HZ.out, ← hR1, show isB (headT ts1) bLeft = false from hb]; rfl)
    rw [hR1] at hr hq
    have HR4 := Lib.hid hr
    have HO := Lib.hid ho
    have HQ := Lib.hid hq
    clear HC HI hm hr hq ho b3 hb HZ HM2 HR2 hR1
    by_cases h1 : l.length = 1
    · match l, h1 with
      | [.mk k g id aa an ac al va vn vc vl acc ca cn cc cs], _ =>
        obtain ⟨b, c, rfl, hbb, hcc, k0, kf, hset⟩ := HO.out.head
        by_cases hk : k = 1
        · subst hk
          have HSET := Lib.hid (hset 2)
          have HBB := Lib.hid hbb
          clear hset hbb
          go_wp2
          go_ret
          refine ⟨⟨_, [.mk 2 g id aa an ac al va vn vc vl acc ca cn cc cs], rfl, ?_, by simp, ?_⟩, ?_, ?_⟩
          · exact (HSET.out.rebase HSZ1.out)
          · intro a t e
            rw [HZ3.out] at e
            obtain ⟨b, t2, e1, e2⟩ := bind_ok.1 e
            cases e2
            rw [← HQ.out _ _ e1]
            rfl
          · exact HM4.out.new (grownBy_setCell _ _ _) (Nat.le_trans HSZ1.out HBB.out)
          · rw [HZ3.out]
            exact (Q8.new HW.out HR4.out (grownBy_setCell _ _ _) (Nat.le_trans HSZ1.out HBB.out)).of
        · have ek : (k == 1) = false := by simp [hk]
          have HNG : Hid (negOf ([CondR.mk k g id aa an ac al va vn vc vl acc ca cn cc cs].map CondR.abs) = [allOf ([CondR.mk k g id aa an ac al va vn vc vl acc ca cn cc cs].map CondR.abs)]) := Lib.hid (by simp only [List.map_cons, List.map_nil, CondR.abs, negOf, if_neg hk])
          obtain ⟨ao, c', hv, hd⟩ := HO.out.deep
          have hd2 := hd.mono (K' := fun b => w.heap.size ≤ b) fun b hb => Nat.le_trans HSZ1.out hb
          simp only [List.length_cons, List.length_nil, Nat.zero_add, Value.slice.injEq, true_and] at hv
          obtain ⟨rfl, rfl⟩ := hv
          have HALL := Lib.hid (all_own (w := w) HM4.out hd2)
          have HM9 := Lib.hid (HM4.out.alloc (.cells #[.int .i64 3, .bool false, .string ⟨#[]⟩, .slice none 0 0, .slice none 0 0, .bool false, .slice (some ⟨b, 0, none⟩) 1 c] 43))
          have HR9 := Lib.hid (HR4.out.alloc (.cells #[.int .i64 3, .bool false, .string ⟨#[]⟩, .slice none 0 0, .slice none 0 0, .bool false, .slice (some ⟨b, 0, none⟩) 1 c] 43))
          clear hset hbb hk hd hd2
          go_wp2
          go_ret
          exact ⟨⟨_, _, rfl, HALL.out, by simp, by
            intro a t e
            rw [HZ3.out] at e
            obtain ⟨b, t2, e1, e2⟩ := bind_ok.1 e
            cases e2
            rw [← HQ.out _ _ e1, HNG.out]
            exact all_abs rfl⟩, HM9.out, by rw [HZ3.out]; exact HR9.out.of⟩
    · have e1 : ((l.length : Int) == 1) = false := by simp; omega
      have HNG : Hid (negOf (l.map CondR.abs) = [allOf (l.map CondR.abs)]) := Lib.hid (by
        match l, h1 with
        | [], _ => rfl
        | [x], h => exact absurd rfl h
        | x :: y :: r, _ => simp only [List.map_cons]; cases CondR.abs x; rfl)
      obtain ⟨ao, c, rfl, hd⟩ := HO.out.deep
      have HD4 := Lib.hid (hd.mono (K' := fun b => w.heap.size ≤ b) fun b hb => Nat.le_trans HSZ1.out hb)
      clear h1 hd
      have HALL := Lib.hid (all_own (w := w) HM4.out HD4.out)
      have HM9 := Lib.hid (HM4.out.alloc (.cells #[.int .i64 3, .bool false, .string ⟨#[]⟩, .slice none 0 0, .slice none 0 0, .bool false, .slice ao l.length c] 43))
      have HR9 := Lib.hid (HR4.out.alloc (.cells #[.int .i64 3, .bool false, .string ⟨#[]⟩, .slice none 0 0, .slice none 0 0, .bool false, .slice ao l.length c] 43))
      go_wp2
      go_ret
      exact ⟨⟨_, _, rfl, HALL.out, by simp, by
        intro a t e
        rw [HZ3.out] at e
        obtain ⟨b, t2, e1, e2⟩ := bind_ok.1 e
        cases e2
        rw [← HQ.out _ _ e1, HNG.out]
        exact all_abs rfl⟩, HM9.out, by rw [HZ3.out]; exact HR9.out.of⟩
  | true =>
    rw [hb] at HI
    obtain ⟨k2, hQ2, hts⟩ := HR2.out
    have hkl2 : k2 ≤ 1000000 := by have := hQ2.lt; have := hQ2.good.len; omega
    have HQ2 := Lib.hid hQ2
    have hkb := isB_kind hb
    have HN2 := Lib.hid (fun wA (b : Below w2.heap.size w2 wA) w3 g hbx => (hQ2.below b).next (b := ()) (w' := w3) (show (headT (E.L.drop k2)).kind ≠ 5 ∧ (headT (E.L.drop k2)).kind ≠ 6 by rw [hts]; omega) g hbx)
    have hlt2 : ts1.tail.length < ts1.length := tail_lt (by omega)
    have HZ2 : Hid (Z = (pConds m bRight ts1.tail).bind (fun fl t => (pTake bRight t).bind fun _ t' => .ok [allOf fl] t')) := Lib.hid (by rw [HZ.out, show isB (headT ts1) bLeft = true from hb]; rfl)
    rw [hts] at HN2
    clear HZ hb hkb hQ2 hts HC
    generalize ts1.tail = ts2 at *
    go_wp2_with (first | (go_at_call 40; refine HI.out.mono ?_; rintro x w3 ⟨rfl, b3⟩; have HQ3 := Lib.hid (HQ2.out.below b3); have HB3 := Lib.hid b3; obtain ⟨c0, c1, c2⟩ := three_box (HQ2.out.below b3).box; clear b3) | (refine wpList_box rfl 3 (.tmp 45) (.tmp 43) rfl E.r 1 _ [.int .i64 ((k2 : Int) + 1)] rfl rfl rfl HQ3.out.box Tryz.sz3' (by simp) (by simp [Value.oneCell']) [.slice E.ao E.n E.c, .int .i64 ((k2 : Int) + 1), .bool false] rfl ?_; intro w4 B3 g3; have HM4 := Lib.hid (Mv.setR (HM2.out.trans (Mv.of_below HB3.out)) g3); have HR4 := Lib.hid (HN2.out _ HB3.out _ g3 B3); clear B3 g3 c0 c1 c2))
    clear HI HM2 HR2 HQ2 HN2 HQ3 HB3
    have HC := Lib.hid (HIH.out Unit E w4 (.ok () ts2) HR4.out (fun a t e => by cases e; omega))
    unfold Env.ptr at HC
    refine HC.out.mono ?_
    rintro x w5 ⟨⟨v, l, rfl, ho, hln, hq⟩, hm, hr⟩
    have hg := CRun8.first (w := w) (stop := bRight) HR4.out (by omega) (HM4.out.trans hm) (ho.rebase HM4.out.size) hr hq
    obtain ⟨n0, hg⟩ := hg
    obtain ⟨ZZ, hZZ⟩ : ∃ ZZ, pConds m bRight ts2 = ZZ := ⟨_, rfl⟩
    rw [hZZ] at hg HZ2
    have HG := Lib.hid hg
    clear hg ho hq hm hr HC HR4 HM4 hZZ
    go_wp2
    go_loopg [4] n0 (fun gk v wr => ∃ l : List CondR, l.length ≤ 3000000 ∧ Hid (CRun8 E w ZZ m bRight v l gk wr))
    case atStart => exact ⟨_, by omega, HG⟩
    case round =>
      clear HG hln
      obtain ⟨l, hln, HG⟩ := hrel
      rcases HG.out.goes with ⟨ts1, hr, hlen, hcnt, hgk, hR⟩ | ⟨q, hr, hR⟩
      · obtain ⟨k1, hQ1, rfl⟩ := hr
        obtain ⟨c0, c1, c2⟩ := three_box hQ1.box
        have hr : Q8 E wr (.ok () (E.L.drop k1)) := hQ1.q8
        obtain ⟨gk, rfl⟩ : ∃ g, gk = g + 1 := ⟨gk - 1, by omega⟩
        have hI := sign8 _ hr bRight
        rw [isQ_sign bRight_ne] at hI
        cases hb : isB (headT (E.L.drop k1)) bRight with
        | true =>
          rw [hb] at hI
          rw [contF_stop hb] at hR
          have hp : ((Rs.ok () (E.L.drop k1)).bind fun _ ts => pTok 4 bRight ts) = .ok (textB (headT (E.L.drop k1))) (E.L.drop k1).tail := by
            show pTok 4 bRight (E.L.drop k1) = _
            unfold pTok
            rw [tokB_sign _ bRight_ne, hb]
            rfl
          have hT := fun W (b : Below wr.heap.size wr W) => take8 W (hr.below b) 4 (by decide) bRight 4 rfl
          rw [hp] at hT
          have HI := Lib.hid hI
          have HT := Lib.hid hT
          have HRR : Hid (Z = .ok [allOf (l.map CondR.abs)] (E.L.drop k1).tail) := Lib.hid (by
            rw [HZ2.out, hR]
            simp only [Rs.bind]
            unfold pTake
            rw [hb]
            rfl)
          obtain ⟨ao, c, rfl, hd⟩ := HG.out.own.deep
          have HD := Lib.hid hd
          clear hR hr hlen hcnt hI hT hb hp hQ1 hd
          generalize textB (headT (E.L.drop k1)) = TT at HT
          unfold Env.ptr bRight at HI HT
          go_wp2_with (first | (go_at_call 40; refine HI.out.mono ?_; rintro x w13 ⟨rfl, b3⟩))
          refine (HT.out _ b3).mono ?_
          rintro x w14 ⟨⟨_, rfl, _⟩, hm0, hr⟩
          have hm : Mv E wr w14 := (Mv.of_below b3).trans hm0
          have HD4 := Lib.hid (HD.out.same (hm.same fun b hb => ⟨by have := HLO.out; omega, by have := HLO.out; have := HLJ.out; omega⟩))
          have HM4 := Lib.hid (HG.out.mv.trans hm)
          have HR4 := Lib.hid hr
          have HALL := Lib.hid (all_own (w := w) HM4.out HD4.out)
          have HM9 := Lib.hid (HM4.out.alloc (.cells #[.int .i64 3, .bool false, .string ⟨#[]⟩, .slice none 0 0, .slice none 0 0, .bool false, .slice ao l.length c] 43))
          have HR9 := Lib.hid (HR4.out.alloc (.cells #[.int .i64 3, .bool false, .string ⟨#[]⟩, .slice none 0 0, .slice none 0 0, .bool false, .slice ao l.length c] 43))
          clear hm hr hm0 c0 c1 c2
          go_wp2
          go_ret
          exact ⟨⟨_, _, rfl, HALL.out, by simp, by intro a t e; rw [HRR.out] at e; cases e; exact all_abs rfl⟩, HM9.out, by rw [HRR.out]; exact HR9.out⟩
        | false =>
          rw [hb] at hI
          have HI := Lib.hid hI
          have HG3 := Lib.hid (fun w3 (b : Below wr.heap.size wr w3) => HG.out.below HW.out b)
          have HT := Lib.hid (fun w3 (b : Below wr.heap.size wr w3) => HIH.out Unit E w3 (.ok () (E.L.drop k1)) (hr.below b) (fun a t e => by cases e; exact hlen))
          have HMR := Lib.hid (fun w3 (b : Below wr.heap.size wr w3) l2 w0 w' v' => CRun8.more (l2 := l2) (w0 := w0) (w' := w') (v' := v') HW.out (HG.out.below HW.out b) hlen hcnt hgk hR hb)
          have hll : l.length ≤ 1000000 := by omega
          clear hR hr hlen hcnt hI hb hQ1
          unfold Env.ptr bRight at HI
          unfold Env.ptr at HT
          go_wp2_with (first | (go_at_call 40; refine HI.out.mono ?_; rintro x w13 ⟨rfl, b3⟩))
          refine (HT.out _ b3).mono ?_
          rintro x w14 ⟨⟨v2, l2, rfl, ho2, hl2, hq2⟩, hm, hr⟩
          have HM := Lib.hid hm
          have HO2 := Lib.hid ho2
          have HQ2 := Lib.hid hq2
          have HR4 := Lib.hid hr
          have HG4 := Lib.hid (HG3.out _ b3)
          have HMR4 := Lib.hid (HMR.out _ b3)
          clear hm ho2 hq2 hr HG3 HMR b3 c0 c1 c2
          go_wp2_with (at_builtin; refine wpList_pushes rfl (.tmp 58) (.tmp 60) 23 rfl mkCond 43 i0 _ 112 Tryz.underlying23 hi hz0 hz1 hz2 rfl (by omega) (E := E) (w := w) (wr := w13) (w0 := w14) _ v2 l l2 rfl rfl HG4.out.own HG4.out.mv HM.out HLO.out HLJ.out HO2.out hll hl2 ?_; intro v9 w9 ho9 hg9)
          have HN := Lib.hid (HMR4.out _ _ _ _ HM.out HR4.out HQ2.out ho9 hg9)
          clear ho9 hg9
          go_wp2
          go_roundg gk
          case rel => exact ⟨_, by rw [List.length_append]; omega, HN⟩
          case measure => omega
      · obtain ⟨k1, hQ1, he1⟩ := hr
        obtain ⟨c0, c1, c2⟩ := three_box hQ1.box
        have hr : Q8 E wr (.bad q : Rs Unit) := ⟨k1, hQ1, he1⟩
        have HT := Lib.hid (take8 _ hr 4 (by decide) bRight 4 rfl)
        have HRR : Hid (Z = .bad q) := Lib.hid (by rw [HZ2.out, hR]; rfl)
        obtain ⟨ao, c, rfl, hd⟩ := HG.out.own.deep
        have HD := Lib.hid hd
        clear hR hr hQ1 hd
        unfold Env.ptr bRight at HT
        go_wp2_with fail
        refine HT.out.mono ?_
        rintro x w14 ⟨⟨_, rfl, _⟩, hm0, hr⟩
        have hm : Mv E wr w14 := hm0
        have HD4 := Lib.hid (HD.out.same (hm.same fun b hb => ⟨by have := HLO.out; omega, by have := HLO.out; have := HLJ.out; omega⟩))
        have HM4 := Lib.hid (HG.out.mv.trans hm)
        have HR4 := Lib.hid hr
        have HALL := Lib.hid (all_own (w := w) HM4.out HD4.out)
        have HM9 := Lib.hid (HM4.out.alloc (.cells #[.int .i64 3, .bool false, .string ⟨#[]⟩, .slice none 0 0, .slice none 0 0, .bool false, .slice ao l.length c] 43))
        have HR9 := Lib.hid (HR4.out.alloc (.cells #[.int .i64 3, .bool false, .string ⟨#[]⟩, .slice none 0 0, .slice none 0 0, .bool false, .slice ao l.length c] 43))
        clear hm hr hm0 c0 c1 c2
        go_wp2
        go_ret
        exact ⟨⟨_, _, rfl, HALL.out, by simp, by intro a t e; rw [HRR.out] at e; cases e⟩, HM9.out, by rw [HRR.out]; exact HR9.out⟩
theorem conds8_bad {α : Type} {E : Env} {r : Rs α} {n : Nat} (w : World) (h : Q8 E w r) (hn : ∀ a ts, r = .ok a ts → False) :
    Calls Tryz.prog 39 #[E.ptr] w fun x w' => OwnIs mkCond 43 CondR.abs w.heap.size w' (r.bind fun _ ts => pCond n ts) x ∧ Mv E w w' ∧ Q8 E w' (r.bind fun _ ts => pCond n ts) := by
  cases r with
  | bad q => exact conds8_clause w h rfl rfl
  | ok a ts => exact (hn a ts rfl).elim
theorem conds8 : ∀ n, Conds8 n
  | 0 => fun α E w r h hn => conds8_bad w h fun a ts e => by have := hn a ts e; omega
  | m + 1 => fun α E w r h hn => by
    cases r with
    | bad q => exact conds8_clause w h rfl rfl
    | ok a ts =>
      cases hb : isB (headT ts) bMinus with
      | false => exact conds8_clause w h (by rw [isQ_sign bMinus_ne]; exact hb) (show pCond (m + 1) ts = pClause ts from pCond_minus hb)
      | true => exact conds8_neg (conds8 m) w h (hn a ts rfl) hb
end Go.Proofs.YtgeaccoobhigcaaGreat
namespace Go.Proofs.YtgeaccoobhigcaaGreat
open Go Go.RowKit

theorem bOpen_ne : (bOpen.data.toList == []) = false := rfl
theorem bShut_ne : (bShut.data.toList == []) = false := rfl
def bStar : ByteArray := ⟨#[42]⟩
theorem term_rest {op : Int} {q1 : Rs Am} {R : Rs Tm} (hR : R = q1.bind fun a t1 => (pAtom t1).bind fun b t2 => (pTake bShut t2).bind fun _ t3 => .ok ⟨op, a, b⟩ t3) (A B : Am) (hA : ∀ a t, q1 = .ok a t → A = a) (hB : ∀ b t, (q1.bind fun _ ts => pAtom ts) = .ok b t → B = b) :
    (∀ (E : Env) (w : World), Q8 E w ((q1.bind fun _ ts => pAtom ts).bind fun _ ts => pTok 4 ⟨#[41]⟩ ts) → Q8 E w R) ∧ ∀ x t, R = .ok x t → (⟨op, A, B⟩ : Tm) = x := by
  subst hR
  cases q1 with
  | bad q => exact ⟨fun E w h => h, fun x t e => by cases e⟩
  | ok a t1 =>
    obtain rfl := hA _ _ rfl
    simp only [Rs.bind] at hB ⊢
    cases hp : pAtom t1 with
    | bad q => exact ⟨fun E w h => h, fun x t e => by cases e⟩
    | ok b t2 =>
      obtain rfl := hB _ _ hp
      simp only
      rw [← pTok_take (s := bShut) rfl]
      show (∀ (E : Env) (w : World), Q8 E w (pTok 4 bShut t2) → _) ∧ _
      cases pTok 4 bShut t2 with
      | bad q => exact ⟨fun E w h => h, fun x t e => by cases e⟩
      | ok c t3 => exact ⟨fun E w h => h, fun x t e => by cases e; rfl⟩
theorem op_of {t : Tk} : (isB t bPlus = true → opHere t = 1) ∧ (isB t bPlus = false → isB t bMinus = true → opHere t = 2) ∧ (isB t bPlus = false → isB t bMinus = false → isB t bStar = true → opHere t = 3) ∧ (isB t bPlus = false → isB t bMinus = false → isB t bStar = false → opHere t = 0) := by
  unfold isB opHere opN bPlus bMinus bStar
  by_cases h4 : t.kind = 4
  · simp only [h4, decide_true, Bool.true_and, if_true, beq_iff_eq, beq_eq_false_iff_ne, ne_eq]
    refine ⟨fun h => by rw [if_pos h], fun h1 h2 => by rw [if_neg h1, if_pos h2], fun h1 h2 h3 => by rw [if_neg h1, if_neg h2, if_pos h3], fun h1 h2 h3 => by rw [if_neg h1, if_neg h2, if_neg h3]⟩
  · simp [h4]
set_option maxRecDepth 100000 in
set_option maxHeartbeats 16000000 in
theorem term8 {α : Type} {E : Env} {r : Rs α} (w : World) (h : Q8 E w r) : Calls Tryz.prog 88 #[E.ptr] w fun x w' => TmIs (r.bind fun _ ts => pTerm ts) x ∧ Mv E w w' ∧ Q8 E w' (r.bind fun _ ts => pTerm ts) := by
  have hw := h.alloc (.cells #[.int .i64 0, .string ⟨#[]⟩, .int .i64 0, .string ⟨#[]⟩, .int .i64 0, .string ⟨#[]⟩, .int .i64 0, .string ⟨#[]⟩, .int .i64 0] 49)
  have hI := sign8 _ hw bOpen
  have HX : Hid (BoxC (w.alloc (.cells #[.int .i64 0, .string ⟨#[]⟩, .int .i64 0, .string ⟨#[]⟩, .int .i64 0, .string ⟨#[]⟩, .int .i64 0, .string ⟨#[]⟩, .int .i64 0] 49)) w.heap.size 49 [.int .i64 0, .string ⟨#[]⟩, .int .i64 0, .string ⟨#[]⟩, .int .i64 0, .string ⟨#[]⟩, .int .i64 0, .string ⟨#[]⟩, .int .i64 0]) := Lib.hid (BoxC.new w _ 49)
  have HB0 := Lib.hid (below_new w (.cells #[.int .i64 0, .string ⟨#[]⟩, .int .i64 0, .string ⟨#[]⟩, .int .i64 0, .string ⟨#[]⟩, .int .i64 0, .string ⟨#[]⟩, .int .i64 0] 49))
  have HLO := Lib.hid h.lows
  have HLJ : Hid (E.ib < w.heap.size) := Lib.hid (by have := h.one; have := h.lows; omega)
  have H := Lib.hid h
  cases hb : isQ r 4 bOpen with
  | false =>
    rw [hb] at hI
    have HI := Lib.hid hI
    have hp : (r.bind fun _ ts => pTerm ts) = (r.bind fun _ ts => pAtom ts).bind fun a ts1 => .ok ⟨0, a, nilAm⟩ ts1 := by
      cases r with
      | bad q => rfl
      | ok a ts =>
        rw [isQ_sign bOpen_ne] at hb
        show pTerm ts = (pAtom ts).bind _
        unfold pTerm
        rw [hb]
        rfl
    rw [hp]
    have HA := Lib.hid (fun w' (b : Below (w.alloc (.cells #[.int .i64 0, .string ⟨#[]⟩, .int .i64 0, .string ⟨#[]⟩, .int .i64 0, .string ⟨#[]⟩, .int .i64 0, .string ⟨#[]⟩, .int .i64 0] 49)).heap.size (w.alloc (.cells #[.int .i64 0, .string ⟨#[]⟩, .int .i64 0, .string ⟨#[]⟩, .int .i64 0, .string ⟨#[]⟩, .int .i64 0, .string ⟨#[]⟩, .int .i64 0] 49)) w') => atom8 w' (hw.below b))
    generalize (r.bind fun _ ts => pAtom ts) = R at HA ⊢
    clear hI hb hp hw h
    unfold Env.ptr bOpen at *
    go_enter Tryz.func88, Tryz.ntmps88
    go_wp2_with (first | (go_at_call 40; refine HI.out.mono ?_; rintro x w1 ⟨rfl, b1⟩))
    refine (HA.out _ b1).mono ?_
    rintro x w2 ⟨⟨⟨av, ⟨ak, at_, an⟩⟩, rfl, hs, hq⟩, hm, hr⟩
    have HX2 := Lib.hid (hm.box (HX.out.below b1) (by have := HLO.out; omega) (by have := HLJ.out; omega))
    have HM2 := Lib.hid ((Mv.of_below (HB0.out.trans (b1.mono HB0.out.size))).trans hm)
    have HR2 := Lib.hid hr
    have HSZ := Lib.hid hs
    have HQ := Lib.hid hq
    clear hm hr hs hq b1
    unfold Am.val
    simp only
    go_wp2_with (refine wpList_box rfl 49 (.tmp 2) (.tmp 9) rfl w.heap.size 0 _ [.int .i64 0, .string av, .int .i64 ak, .string at_, .int .i64 an, .string ⟨#[]⟩, .int .i64 0, .string ⟨#[]⟩, .int .i64 0] rfl rfl rfl HX2.out Tryz.sz49 (by simp) (by simp [Value.oneCell']) _ rfl ?_; intro w3 B3 g3; have HB3 := Lib.hid B3; have HG3 := Lib.hid g3; clear B3 g3)
    obtain ⟨d0, d1, d2, d3, d4, d5, d6, d7, d8⟩ := nine_boxR HB3.out
    refine bodyPost_ret (v := .agg #[.int .i64 0, .string av, .int .i64 ak, .string at_, .int .i64 an, .string ⟨#[]⟩, .int .i64 0, .string ⟨#[]⟩, .int .i64 0]) (by simp [results, Tryz.results88, go_sem, d0, d1, d2, d3, d4, d5, d6, d7, d8]) rfl ⟨⟨⟨0, ⟨av, ak, at_, an⟩, nilAm⟩, rfl, ⟨HSZ.out, nil_size, nil_size⟩, ?_⟩, HM2.out.new HG3.out (Nat.le_refl _), (Q8.new H.out HR2.out HG3.out (Nat.le_refl _)).of⟩
    intro a t e
    obtain ⟨b, t2, h1, h2⟩ := bind_ok.1 e
    cases h2
    rw [← HQ.out _ _ h1]
  | true =>
    rw [hb] at hI
    have HI := Lib.hid hI
    obtain ⟨a, ts, rfl, ht⟩ := isQ_true hb
    rw [tokB_sign _ bOpen_ne] at ht
    have hk4 := isB_kind ht
    obtain ⟨R, hR⟩ : ∃ R, ((Rs.ok a ts).bind fun _ ts => pTerm ts) = R := ⟨_, rfl⟩
    rw [hR]
    have HR : Hid ((if opHere (headT ts.tail) = 0 then badAt ts.tail else (pAtom ts.tail.tail).bind fun a ts1 => (pAtom ts1).bind fun b ts2 => (pTake bShut ts2).bind fun _ ts3 => .ok ⟨opHere (headT ts.tail), a, b⟩ ts3) = R) := Lib.hid (by
      rw [← hR]
      show _ = pTerm ts
      unfold pTerm
      rw [ht]
      rfl)
    obtain ⟨kk, hH0⟩ : ∃ kk, Qd E w kk false := by obtain ⟨k, h, _⟩ := h; exact ⟨k, h⟩
    have H0 := Lib.hid hH0
    obtain ⟨k, hQ, rfl⟩ := hw
    have hkl : k ≤ 1000000 := by have := hQ.lt; have := hQ.good.len; omega
    have HQ0 := Lib.hid hQ
    have HN := Lib.hid (fun wA (b : Below (w.alloc (.cells #[.int .i64 0, .string ⟨#[]⟩, .int .i64 0, .string ⟨#[]⟩, .int .i64 0, .string ⟨#[]⟩, .int .i64 0, .string ⟨#[]⟩, .int .i64 0] 49)).heap.size (w.alloc (.cells #[.int .i64 0, .string ⟨#[]⟩, .int .i64 0, .string ⟨#[]⟩, .int .i64 0, .string ⟨#[]⟩, .int .i64 0, .string ⟨#[]⟩, .int .i64 0] 49)) wA) w2 g hbx => (hQ.below b).next (b := ()) (w' := w2) (show (headT (E.L.drop k)).kind ≠ 5 ∧ (headT (E.L.drop k)).kind ≠ 6 by omega) g hbx)
    clear hI hb hR hk4 hQ ht h hH0
    generalize (E.L.drop k).tail = ts1 at *
    unfold Env.ptr bOpen at *
    go_enter Tryz.func88, Tryz.ntmps88
    go_wp2_with (first | (go_at_call 40; refine HI.out.mono ?_; rintro x w1 ⟨rfl, b1⟩; have HQ1 := Lib.hid (HQ0.out.below b1); have HX1 := Lib.hid (HX.out.below b1); have HB1 := Lib.hid b1; obtain ⟨c0, c1, c2⟩ := three_box (HQ0.out.below b1).box; clear b1) | (refine wpList_box rfl 3 (.tmp 16) (.tmp 14) rfl E.r 1 _ [.int .i64 ((k : Int) + 1)] rfl rfl rfl HQ1.out.box Tryz.sz3' (by simp) (by simp [Value.oneCell']) [.slice E.ao E.n E.c, .int .i64 ((k : Int) + 1), .bool false] rfl ?_; intro w3 B3 g3; have HX3 := Lib.hid (HX1.out.grown g3 (by simp; have := HLO.out; omega)); have HM3 := Lib.hid (Mv.setR (Mv.of_below (HB0.out.trans (HB1.out.mono HB0.out.size))) g3); have HR3 := Lib.hid (HN.out _ HB1.out _ g3 B3); clear B3 g3 c0 c1 c2))
    clear HI HQ0 HN HQ1 HX1 HB1 HX HB0
    have HP3 : Hid (TParts E w w3.heap.size ⟨0, nilAm, nilAm⟩ (w3.alloc (.cells #[.int .i64 0, .string ⟨#[]⟩, .int .i64 0, .string ⟨#[]⟩, .int .i64 0, .string ⟨#[]⟩, .int .i64 0, .string ⟨#[]⟩, .int .i64 0] 49))) := Lib.hid ⟨HM3.out.alloc _, HX3.out.alloc _, HX3.out.lt, BoxC.new w3 _ 49⟩
    have hl3 := HP3.out.low
    obtain ⟨k3, hQ3, hts⟩ := HR3.out.alloc (.cells #[.int .i64 0, .string ⟨#[]⟩, .int .i64 0, .string ⟨#[]⟩, .int .i64 0, .string ⟨#[]⟩, .int .i64 0, .string ⟨#[]⟩, .int .i64 0] 49)
    have hkl3 : k3 ≤ 1000000 := by have := hQ3.lt; have := hQ3.good.len; omega
    have HQ3 := Lib.hid hQ3
    have hr3 : Q8 E (w3.alloc (.cells #[.int .i64 0, .string ⟨#[]⟩, .int .i64 0, .string ⟨#[]⟩, .int .i64 0, .string ⟨#[]⟩, .int .i64 0, .string ⟨#[]⟩, .int .i64 0] 49)) (.ok () ts1) := ⟨k3, hQ3, hts⟩
    have HSP := Lib.hid (fun w' (b : Below (w3.alloc (.cells #[.int .i64 0, .string ⟨#[]⟩, .int .i64 0, .string ⟨#[]⟩, .int .i64 0, .string ⟨#[]⟩, .int .i64 0, .string ⟨#[]⟩, .int .i64 0] 49)).heap.size (w3.alloc (.cells #[.int .i64 0, .string ⟨#[]⟩, .int .i64 0, .string ⟨#[]⟩, .int .i64 0, .string ⟨#[]⟩, .int .i64 0, .string ⟨#[]⟩, .int .i64 0] 49)) w') => sign8 w' (hr3.below b) bPlus)
    have HSM := Lib.hid (fun w' (b : Below (w3.alloc (.cells #[.int .i64 0, .string ⟨#[]⟩, .int .i64 0, .string ⟨#[]⟩, .int .i64 0, .string ⟨#[]⟩, .int .i64 0, .string ⟨#[]⟩, .int .i64 0] 49)).heap.size (w3.alloc (.cells #[.int .i64 0, .string ⟨#[]⟩, .int .i64 0, .string ⟨#[]⟩, .int .i64 0, .string ⟨#[]⟩, .int .i64 0, .string ⟨#[]⟩, .int .i64 0] 49)) w') => sign8 w' (hr3.below b) bMinus)
    have HST := Lib.hid (fun w' (b : Below (w3.alloc (.cells #[.int .i64 0, .string ⟨#[]⟩, .int .i64 0, .string ⟨#[]⟩, .int .i64 0, .string ⟨#[]⟩, .int .i64 0, .string ⟨#[]⟩, .int .i64 0] 49)).heap.size (w3.alloc (.cells #[.int .i64 0, .string ⟨#[]⟩, .int .i64 0, .string ⟨#[]⟩, .int .i64 0, .string ⟨#[]⟩, .int .i64 0, .string ⟨#[]⟩, .int .i64 0] 49)) w') => sign8 w' (hr3.below b) bStar)
    rw [isQ_sign rfl] at HSP HSM HST
    unfold Env.ptr at HSP HSM HST
    have hat : headT ts1 = E.at8 k3 := by rw [← hts]; rfl
    have htl : (E.L.drop k3).tail = ts1.tail := by rw [hts]
    have HTS := Lib.hid htl
    have hkk : (isB (headT ts1) bPlus = true ∨ isB (headT ts1) bMinus = true ∨ isB (headT ts1) bStar = true) → (E.at8 k3).kind ≠ 5 ∧ (E.at8 k3).kind ≠ 6 := by
      rw [← hat]
      rintro (h | h | h) <;> (have := isB_kind h; omega)
    clear hQ3 hr3 HM3 HX3 HR3 htl
    cases h1 : isB (headT ts1) bPlus with
    | true =>
      rw [h1] at HSP
      have HK := Lib.hid (hkk (.inl h1))
      have HRR : Hid (R = (pAtom ts1.tail).bind fun a ts1 => (pAtom ts1).bind fun b ts2 => (pTake bShut ts2).bind fun _ ts3 => .ok ⟨1, a, b⟩ ts3) := Lib.hid (by rw [← HR.out, op_of.1 h1]; rfl)
      clear h1 hkk HR hat
      generalize ts1.tail = ts2 at *
      unfold bPlus at HSP
      go_wp2_with (first | (go_at_call 40; with_reducible refine (HSP.out _ (Below.refl _ _)).mono ?_; rintro x v0 ⟨rfl, bb0⟩) | (refine wpList_box rfl 3 (.tmp 25) (.const (.int .i64 1)) rfl w3.heap.size 0 _ [.int .i64 1] rfl rfl rfl ((HP3.out.moved (Mv.of_below bb0) HLO.out HLJ.out).box) Tryz.sz3' (by simp) (by simp [Value.oneCell']) _ rfl ?_; intro w5 B5 g5; have HP5 := Lib.hid ((HP3.out.moved (Mv.of_below bb0) HLO.out HLJ.out).put (t' := ⟨1, nilAm, nilAm⟩) g5 B5); have HQ5 := Lib.hid (Qd.new (w0 := w) H0.out (HQ3.out.below bb0) g5 (Nat.le_of_lt hl3)); obtain ⟨c0, c1, c2⟩ := three_box (Qd.new (w0 := w) H0.out (HQ3.out.below bb0) g5 (Nat.le_of_lt hl3)).box; clear B5 g5) | (refine wpList_box rfl 3 (.tmp 40) (.tmp 38) rfl E.r 1 _ [.int .i64 ((k3 : Int) + 1)] rfl rfl rfl HQ5.out.box Tryz.sz3' (by simp) (by simp [Value.oneCell']) [.slice E.ao E.n E.c, .int .i64 ((k3 : Int) + 1), .bool false] rfl ?_; intro w6 B6 g6; have HP6 := Lib.hid (HP5.out.moved (Mv.setR (Mv.refl E _) g6) HLO.out HLJ.out); have HR6 := Lib.hid (HQ5.out.next (b := ()) HK.out g6 B6); clear B6 g6 c0 c1 c2))
      rw [HTS.out] at HR6
      have HA6 := Lib.hid (atom8 w6 HR6.out)
      unfold Env.ptr at HA6
      refine HA6.out.mono ?_
      rintro x w7 ⟨⟨⟨av, ⟨ak, at_, an⟩⟩, rfl, hs, hq⟩, hm, hr⟩
      have HP7 := Lib.hid (HP6.out.moved hm HLO.out HLJ.out)
      have HR7 := Lib.hid hr
      have HSA := Lib.hid hs
      have HQA := Lib.hid hq
      clear hm hr hs hq HA6 HP6 HR6 HP5 HQ5 HP3 HQ3
      unfold Am.val
      simp only
      go_wp2_with (refine wpList_box rfl 47 (.tmp 43) (.tmp 42) rfl w3.heap.size 1 _ [.string av, .int .i64 ak, .string at_, .int .i64 an] rfl rfl rfl HP7.out.box Tryz.sz47 (by simp) (by simp [Value.oneCell']) _ rfl ?_; intro w8 B8 g8; have HP8 := Lib.hid (HP7.out.put (t' := ⟨1, ⟨av, ak, at_, an⟩, nilAm⟩) g8 B8); have HR8 := Lib.hid (Q8.new H.out HR7.out g8 (Nat.le_of_lt hl3)); clear B8 g8)
      have HA8 := Lib.hid (atom8 w8 HR8.out)
      unfold Env.ptr at HA8
      refine HA8.out.mono ?_
      rintro x w9 ⟨⟨⟨bv, ⟨bk, bt, bn⟩⟩, rfl, hs, hq⟩, hm, hr⟩
      have HP9 := Lib.hid (HP8.out.moved hm HLO.out HLJ.out)
      have HR9 := Lib.hid hr
      have HSB := Lib.hid hs
      have HQB := Lib.hid hq
      clear hm hr hs hq HA8 HP8 HR8 HP7 HR7
      unfold Am.val
      simp only
      go_wp2_with (refine wpList_box rfl 47 (.tmp 46) (.tmp 45) rfl w3.heap.size 5 _ [.string bv, .int .i64 bk, .string bt, .int .i64 bn] rfl rfl rfl HP9.out.box Tryz.sz47 (by simp) (by simp [Value.oneCell']) _ rfl ?_; intro w10 B10 g10; have HP10 := Lib.hid (HP9.out.put (t' := ⟨1, ⟨av, ak, at_, an⟩, ⟨bv, bk, bt, bn⟩⟩) g10 B10); have HR10 := Lib.hid (Q8.new H.out HR9.out g10 (Nat.le_of_lt hl3)); clear B10 g10)
      have HT10 := Lib.hid (take8 w10 HR10.out 4 (by decide) bShut 4 rfl)
      unfold Env.ptr bShut at HT10
      refine HT10.out.mono ?_
      rintro x w11 ⟨⟨_, rfl, _⟩, hm, hr⟩
      have HP11 := Lib.hid (HP10.out.moved hm HLO.out HLJ.out)
      have HR11 := Lib.hid hr
      clear hm hr HT10 HP10 HR10 HP9 HR9
      obtain ⟨t1, t2⟩ := term_rest HRR.out ⟨av, ⟨ak, at_, an⟩⟩ ⟨bv, ⟨bk, bt, bn⟩⟩ HQA.out HQB.out
      obtain ⟨f0, f1, f2, f3, f4, f5, f6, f7, f8⟩ := nine_boxR HP11.out.box
      go_wp2_with (refine wpList_box rfl 49 (.tmp 2) (.tmp 49) rfl w.heap.size 0 _ [.int .i64 1, .string av, .int .i64 ak, .string at_, .int .i64 an, .string bv, .int .i64 bk, .string bt, .int .i64 bn] rfl rfl rfl HP11.out.res Tryz.sz49 (by simp) (by simp [Value.oneCell']) _ rfl ?_; intro w19 B19 g19; have HB19 := Lib.hid B19; have HG19 := Lib.hid g19; clear B19 g19 f0 f1 f2 f3 f4 f5 f6 f7 f8)
      obtain ⟨d0, d1, d2, d3, d4, d5, d6, d7, d8⟩ := nine_boxR HB19.out
      exact bodyPost_ret (v := .agg #[.int .i64 1, .string av, .int .i64 ak, .string at_, .int .i64 an, .string bv, .int .i64 bk, .string bt, .int .i64 bn]) (by simp [results, Tryz.results88, go_sem, d0, d1, d2, d3, d4, d5, d6, d7, d8]) rfl ⟨⟨⟨1, ⟨av, ak, at_, an⟩, ⟨bv, bk, bt, bn⟩⟩, rfl, ⟨HSA.out, HSB.out⟩, t2⟩, HP11.out.mv.new HG19.out (Nat.le_refl _), t1 E _ (Q8.new H.out HR11.out HG19.out (Nat.le_refl _))⟩
    | false =>
      rw [h1] at HSP
      cases h2 : isB (headT ts1) bMinus with
      | true =>
        rw [h2] at HSM
        have HK := Lib.hid (hkk (.inr (.inl h2)))
        have HRR : Hid (R = (pAtom ts1.tail).bind fun a ts1 => (pAtom ts1).bind fun b ts2 => (pTake bShut ts2).bind fun _ ts3 => .ok ⟨2, a, b⟩ ts3) := Lib.hid (by rw [← HR.out, op_of.2.1 h1 h2]; rfl)
        clear h1 h2 hkk HR hat
        generalize ts1.tail = ts2 at *
        unfold bPlus at HSP
        unfold bMinus at HSM
        go_wp2_with (first | (go_at_call 40; with_reducible refine (HSP.out _ (Below.refl _ _)).mono ?_; rintro x v0 ⟨rfl, bb0⟩) | (go_at_call 40; with_reducible refine (HSM.out _ bb0).mono ?_; rintro x v1 ⟨rfl, bb1⟩) | (refine wpList_box rfl 3 (.tmp 29) (.const (.int .i64 2)) rfl w3.heap.size 0 _ [.int .i64 2] rfl rfl rfl ((HP3.out.moved (Mv.of_below (below_trans bb0 bb1)) HLO.out HLJ.out).box) Tryz.sz3' (by simp) (by simp [Value.oneCell']) _ rfl ?_; intro w5 B5 g5; have HP5 := Lib.hid ((HP3.out.moved (Mv.of_below (below_trans bb0 bb1)) HLO.out HLJ.out).put (t' := ⟨2, nilAm, nilAm⟩) g5 B5); have HQ5 := Lib.hid (Qd.new (w0 := w) H0.out (HQ3.out.below (below_trans bb0 bb1)) g5 (Nat.le_of_lt hl3)); obtain ⟨c0, c1, c2⟩ := three_box (Qd.new (w0 := w) H0.out (HQ3.out.below (below_trans bb0 bb1)) g5 (Nat.le_of_lt hl3)).box; clear B5 g5) | (refine wpList_box rfl 3 (.tmp 40) (.tmp 38) rfl E.r 1 _ [.int .i64 ((k3 : Int) + 1)] rfl rfl rfl HQ5.out.box Tryz.sz3' (by simp) (by simp [Value.oneCell']) [.slice E.ao E.n E.c, .int .i64 ((k3 : Int) + 1), .bool false] rfl ?_; intro w6 B6 g6; have HP6 := Lib.hid (HP5.out.moved (Mv.setR (Mv.refl E _) g6) HLO.out HLJ.out); have HR6 := Lib.hid (HQ5.out.next (b := ()) HK.out g6 B6); clear B6 g6 c0 c1 c2))
        rw [HTS.out] at HR6
        have HA6 := Lib.hid (atom8 w6 HR6.out)
        unfold Env.ptr at HA6
        refine HA6.out.mono ?_
        rintro x w7 ⟨⟨⟨av, ⟨ak, at_, an⟩⟩, rfl, hs, hq⟩, hm, hr⟩
        have HP7 := Lib.hid (HP6.out.moved hm HLO.out HLJ.out)
        have HR7 := Lib.hid hr
        have HSA := Lib.hid hs
        have HQA := Lib.hid hq
        clear hm hr hs hq HA6 HP6 HR6 HP5 HQ5 HP3 HQ3
        unfold Am.val
        simp only
        go_wp2_with (refine wpList_box rfl 47 (.tmp 43) (.tmp 42) rfl w3.heap.size 1 _ [.string av, .int .i64 ak, .string at_, .int .i64 an] rfl rfl rfl HP7.out.box Tryz.sz47 (by simp) (by simp [Value.oneCell']) _ rfl ?_; intro w8 B8 g8; have HP8 := Lib.hid (HP7.out.put (t' := ⟨2, ⟨av, ak, at_, an⟩, nilAm⟩) g8 B8); have HR8 := Lib.hid (Q8.new H.out HR7.out g8 (Nat.le_of_lt hl3)); clear B8 g8)
        have HA8 := Lib.hid (atom8 w8 HR8.out)
        unfold Env.ptr at HA8
        refine HA8.out.mono ?_
        rintro x w9 ⟨⟨⟨bv, ⟨bk, bt, bn⟩⟩, rfl, hs, hq⟩, hm, hr⟩
        have HP9 := Lib.hid (HP8.out.moved hm HLO.out HLJ.out)
        have HR9 := Lib.hid hr
        have HSB := Lib.hid hs
        have HQB := Lib.hid hq
        clear hm hr hs hq HA8 HP8 HR8 HP7 HR7
        unfold Am.val
        simp only
        go_wp2_with (refine wpList_box rfl 47 (.tmp 46) (.tmp 45) rfl w3.heap.size 5 _ [.string bv, .int .i64 bk, .string bt, .int .i64 bn] rfl rfl rfl HP9.out.box Tryz.sz47 (by simp) (by simp [Value.oneCell']) _ rfl ?_; intro w10 B10 g10; have HP10 := Lib.hid (HP9.out.put (t' := ⟨2, ⟨av, ak, at_, an⟩, ⟨bv, bk, bt, bn⟩⟩) g10 B10); have HR10 := Lib.hid (Q8.new H.out HR9.out g10 (Nat.le_of_lt hl3)); clear B10 g10)
        have HT10 := Lib.hid (take8 w10 HR10.out 4 (by decide) bShut 4 rfl)
        unfold Env.ptr bShut at HT10
        refine HT10.out.mono ?_
        rintro x w11 ⟨⟨_, rfl, _⟩, hm, hr⟩
        have HP11 := Lib.hid (HP10.out.moved hm HLO.out HLJ.out)
        have HR11 := Lib.hid hr
        clear hm hr HT10 HP10 HR10 HP9 HR9
        obtain ⟨t1, t2⟩ := term_rest HRR.out ⟨av, ⟨ak, at_, an⟩⟩ ⟨bv, ⟨bk, bt, bn⟩⟩ HQA.out HQB.out
        obtain ⟨f0, f1, f2, f3, f4, f5, f6, f7, f8⟩ := nine_boxR HP11.out.box
        go_wp2_with (refine wpList_box rfl 49 (.tmp 2) (.tmp 49) rfl w.heap.size 0 _ [.int .i64 2, .string av, .int .i64 ak, .string at_, .int .i64 an, .string bv, .int .i64 bk, .string bt, .int .i64 bn] rfl rfl rfl HP11.out.res Tryz.sz49 (by simp) (by simp [Value.oneCell']) _ rfl ?_; intro w19 B19 g19; have HB19 := Lib.hid B19; have HG19 := Lib.hid g19; clear B19 g19 f0 f1 f2 f3 f4 f5 f6 f7 f8)
        obtain ⟨d0, d1, d2, d3, d4, d5, d6, d7, d8⟩ := nine_boxR HB19.out
        exact bodyPost_ret (v := .agg #[.int .i64 2, .string av, .int .i64 ak, .string at_, .int .i64 an, .string bv, .int .i64 bk, .string bt, .int .i64 bn]) (by simp [results, Tryz.results88, go_sem, d0, d1, d2, d3, d4, d5, d6, d7, d8]) rfl ⟨⟨⟨2, ⟨av, ak, at_, an⟩, ⟨bv, bk, bt, bn⟩⟩, rfl, ⟨HSA.out, HSB.out⟩, t2⟩, HP11.out.mv.new HG19.out (Nat.le_refl _), t1 E _ (Q8.new H.out HR11.out HG19.out (Nat.le_refl _))⟩
      | false =>
        rw [h2] at HSM
        cases h3 : isB (headT ts1) bStar with
        | true =>
          rw [h3] at HST
          have HK := Lib.hid (hkk (.inr (.inr h3)))
          have HRR : Hid (R = (pAtom ts1.tail).bind fun a ts1 => (pAtom ts1).bind fun b ts2 => (pTake bShut ts2).bind fun _ ts3 => .ok ⟨3, a, b⟩ ts3) := Lib.hid (by rw [← HR.out, op_of.2.2.1 h1 h2 h3]; rfl)
          clear h1 h2 h3 hkk HR hat
          generalize ts1.tail = ts2 at *
          unfold bPlus at HSP
          unfold bMinus at HSM
          unfold bStar at HST
          go_wp2_with (first | (go_at_call 40; with_reducible refine (HSP.out _ (Below.refl _ _)).mono ?_; rintro x v0 ⟨rfl, bb0⟩) | (go_at_call 40; with_reducible refine (HSM.out _ bb0).mono ?_; rintro x v1 ⟨rfl, bb1⟩) | (go_at_call 40; with_reducible refine (HST.out _ (below_trans bb0 bb1)).mono ?_; rintro x v2 ⟨rfl, bb2⟩) | (refine wpList_box rfl 3 (.tmp 33) (.const (.int .i64 3)) rfl w3.heap.size 0 _ [.int .i64 3] rfl rfl rfl ((HP3.out.moved (Mv.of_below (below_trans (below_trans bb0 bb1) bb2)) HLO.out HLJ.out).box) Tryz.sz3' (by simp) (by simp [Value.oneCell']) _ rfl ?_; intro w5 B5 g5; have HP5 := Lib.hid ((HP3.out.moved (Mv.of_below (below_trans (below_trans bb0 bb1) bb2)) HLO.out HLJ.out).put (t' := ⟨3, nilAm, nilAm⟩) g5 B5); have HQ5 := Lib.hid (Qd.new (w0 := w) H0.out (HQ3.out.below (below_trans (below_trans bb0 bb1) bb2)) g5 (Nat.le_of_lt hl3)); obtain ⟨c0, c1, c2⟩ := three_box (Qd.new (w0 := w) H0.out (HQ3.out.below (below_trans (below_trans bb0 bb1) bb2)) g5 (Nat.le_of_lt hl3)).box; clear B5 g5) | (refine wpList_box rfl 3 (.tmp 40) (.tmp 38) rfl E.r 1 _ [.int .i64 ((k3 : Int) + 1)] rfl rfl rfl HQ5.out.box Tryz.sz3' (by simp) (by simp [Value.oneCell']) [.slice E.ao E.n E.c, .int .i64 ((k3 : Int) + 1), .bool false] rfl ?_; intro w6 B6 g6; have HP6 := Lib.hid (HP5.out.moved (Mv.setR (Mv.refl E _) g6) HLO.out HLJ.out); have HR6 := Lib.hid (HQ5.out.next (b := ()) HK.out g6 B6); clear B6 g6 c0 c1 c2))
          rw [HTS.out] at HR6
          have HA6 := Lib.hid (atom8 w6 HR6.out)
          unfold Env.ptr at HA6
          refine HA6.out.mono ?_
          rintro x w7 ⟨⟨⟨av, ⟨ak, at_, an⟩⟩, rfl, hs, hq⟩, hm, hr⟩
          have HP7 := Lib.hid (HP6.out.moved hm HLO.out HLJ.out)
          have HR7 := Lib.hid hr
          have HSA := Lib.hid hs
          have HQA := Lib.hid hq
          clear hm hr hs hq HA6 HP6 HR6 HP5 HQ5 HP3 HQ3
          unfold Am.val
          simp only
          go_wp2_with (refine wpList_box rfl 47 (.tmp 43) (.tmp 42) rfl w3.heap.size 1 _ [.string av, .int .i64 ak, .string at_, .int .i64 an] rfl rfl rfl HP7.out.box Tryz.sz47 (by simp) (by simp [Value.oneCell']) _ rfl ?_; intro w8 B8 g8; have HP8 := Lib.hid (HP7.out.put (t' := ⟨3, ⟨av, ak, at_, an⟩, nilAm⟩) g8 B8); have HR8 := Lib.hid (Q8.new H.out HR7.out g8 (Nat.le_of_lt hl3)); clear B8 g8)
          have HA8 := Lib.hid (atom8 w8 HR8.out)
          unfold Env.ptr at HA8
          refine HA8.out.mono ?_
          rintro x w9 ⟨⟨⟨bv, ⟨bk, bt, bn⟩⟩, rfl, hs, hq⟩, hm, hr⟩
          have HP9 := Lib.hid (HP8.out.moved hm HLO.out HLJ.out)
          have HR9 := Lib.hid hr
          have HSB := Lib.hid hs
          have HQB := Lib.hid hq
          clear hm hr hs hq HA8 HP8 HR8 HP7 HR7
          unfold Am.val
          simp only
          go_wp2_with (refine wpList_box rfl 47 (.tmp 46) (.tmp 45) rfl w3.heap.size 5 _ [.string bv, .int .i64 bk, .string bt, .int .i64 bn] rfl rfl rfl HP9.out.box Tryz.sz47 (by simp) (by simp [Value.oneCell']) _ rfl ?_; intro w10 B10 g10; have HP10 := Lib.hid (HP9.out.put (t' := ⟨3, ⟨av, ak, at_, an⟩, ⟨bv, bk, bt, bn⟩⟩) g10 B10); have HR10 := Lib.hid (Q8.new H.out HR9.out g10 (Nat.le_of_lt hl3)); clear B10 g10)
          have HT10 := Lib.hid (take8 w10 HR10.out 4 (by decide) bShut 4 rfl)
          unfold Env.ptr bShut at HT10
          refine HT10.out.mono ?_
          rintro x w11 ⟨⟨_, rfl, _⟩, hm, hr⟩
          have HP11 := Lib.hid (HP10.out.moved hm HLO.out HLJ.out)
          have HR11 := Lib.hid hr
          clear hm hr HT10 HP10 HR10 HP9 HR9
          obtain ⟨t1, t2⟩ := term_rest HRR.out ⟨av, ⟨ak, at_, an⟩⟩ ⟨bv, ⟨bk, bt, bn⟩⟩ HQA.out HQB.out
          obtain ⟨f0, f1, f2, f3, f4, f5, f6, f7, f8⟩ := nine_boxR HP11.out.box
          go_wp2_with (refine wpList_box rfl 49 (.tmp 2) (.tmp 49) rfl w.heap.size 0 _ [.int .i64 3, .string av, .int .i64 ak, .string at_, .int .i64 an, .string bv, .int .i64 bk, .string bt, .int .i64 bn] rfl rfl rfl HP11.out.res Tryz.sz49 (by simp) (by simp [Value.oneCell']) _ rfl ?_; intro w19 B19 g19; have HB19 := Lib.hid B19; have HG19 := Lib.hid g19; clear B19 g19 f0 f1 f2 f3 f4 f5 f6 f7 f8)
          obtain ⟨d0, d1, d2, d3, d4, d5, d6, d7, d8⟩ := nine_boxR HB19.out
          exact bodyPost_ret (v := .agg #[.int .i64 3, .string av, .int .i64 ak, .string at_, .int .i64 an, .string bv, .int .i64 bk, .string bt, .int .i64 bn]) (by simp [results, Tryz.results88, go_sem, d0, d1, d2, d3, d4, d5, d6, d7, d8]) rfl ⟨⟨⟨3, ⟨av, ak, at_, an⟩, ⟨bv, bk, bt, bn⟩⟩, rfl, ⟨HSA.out, HSB.out⟩, t2⟩, HP11.out.mv.new HG19.out (Nat.le_refl _), t1 E _ (Q8.new H.out HR11.out HG19.out (Nat.le_refl _))⟩
        | false =>
          rw [h3] at HST
          have HRR : Hid (R = .bad (E.at8 k3).pos) := Lib.hid (by rw [← HR.out, op_of.2.2.2 h1 h2 h3, if_pos rfl, ← hat]; rfl)
          clear h1 h2 h3 hkk HR hat
          unfold bPlus at HSP
          unfold bMinus at HSM
          unfold bStar at HST
          go_wp2_with (first | (go_at_call 40; with_reducible refine (HSP.out _ (Below.refl _ _)).mono ?_; rintro x v0 ⟨rfl, bb0⟩) | (go_at_call 40; with_reducible refine (HSM.out _ bb0).mono ?_; rintro x v1 ⟨rfl, bb1⟩) | (go_at_call 40; with_reducible refine (HST.out _ (below_trans bb0 bb1)).mono ?_; rintro x v2 ⟨rfl, bb2⟩; have HP4 := Lib.hid (HP3.out.moved (Mv.of_below (below_trans (below_trans bb0 bb1) bb2)) HLO.out HLJ.out); have HQ4 := Lib.hid (HQ3.out.below (below_trans (below_trans bb0 bb1) bb2)); clear bb0 bb1 bb2) | (refine wpList_box rfl 4 (.tmp 20) (.const (.bool true)) rfl E.r 2 _ [.bool true] rfl rfl rfl HQ4.out.box Tryz.sz4' (by simp) (by simp [Value.oneCell']) [.slice E.ao E.n E.c, .int .i64 (k3 : Int), .bool true] rfl ?_; intro w5 B5 g5; have HP5 := Lib.hid (HP4.out.moved (Mv.setR (Mv.refl E _) g5) HLO.out HLJ.out); have HQ5 := Lib.hid (HQ4.out.put g5 B5 HQ4.out.lt); clear B5 g5; obtain ⟨f0, f1, f2, f3, f4, f5, f6, f7, f8⟩ := nine_boxR HP5.out.box; simp only [nilAm, nilSm] at f0 f1 f2 f3 f4 f5 f6 f7 f8) | (refine wpList_box rfl 49 (.tmp 2) (.tmp 21) rfl w.heap.size 0 _ [.int .i64 0, .string ⟨#[]⟩, .int .i64 0, .string ⟨#[]⟩, .int .i64 0, .string ⟨#[]⟩, .int .i64 0, .string ⟨#[]⟩, .int .i64 0] rfl rfl rfl HP5.out.res Tryz.sz49 (by simp) (by simp [Value.oneCell']) _ rfl ?_; intro w19 B19 g19; have HB19 := Lib.hid B19; have HG19 := Lib.hid g19; clear B19 g19 f0 f1 f2 f3 f4 f5 f6 f7 f8))
          have HR5 : Hid (Q8 E w5 (.bad (E.at8 k3).pos : Rs Tm)) := Lib.hid ⟨k3, HQ5.out, rfl⟩
          obtain ⟨d0, d1, d2, d3, d4, d5, d6, d7, d8⟩ := nine_boxR HB19.out
          exact bodyPost_ret (v := .agg #[.int .i64 0, .string ⟨#[]⟩, .int .i64 0, .string ⟨#[]⟩, .int .i64 0, .string ⟨#[]⟩, .int .i64 0, .string ⟨#[]⟩, .int .i64 0]) (by simp [results, Tryz.results88, go_sem, d0, d1, d2, d3, d4, d5, d6, d7, d8]) rfl ⟨⟨⟨0, nilAm, nilAm⟩, rfl, ⟨⟨nil_size, nil_size⟩, nil_size, nil_size⟩, fun a t e => by rw [HRR.out] at e; cases e⟩, HP5.out.mv.new HG19.out (Nat.le_refl _), by rw [HRR.out]; exact Q8.new H.out HR5.out HG19.out (Nat.le_refl _)⟩
end Go.Proofs.YtgeaccoobhigcaaGreat
