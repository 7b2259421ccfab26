/-
  The document's reader: an act's part. The document's reader: the actions of an act. The document's reader: lists that are read one behind the other into a production; a production's parts. The document's reader: a production. The document's One.
-/
import Derived.Test.YtgeaccoobhigcaaGreatXB
import Derived.Test.YtgeaccoobhigcaaGreatGC
import Derived.Test.YtgeaccoobhigcaaGreatGD
import Derived.Test.YtgeaccoobhigcaaGreatGE
import Derived.Test.YtgeaccoobhigcaaGreatGL
import Derived.Test.YtgeaccoobhigcaaGreatG5
namespace Go.Proofs.YtgeaccoobhigcaaGreat
open Go Go.RowKit

def nilAc : Ac := ⟨⟨#[]⟩, nilAm, nilTm, 0, nilAm⟩
def pgs : List ByteArray := [⟨#[43]⟩, ⟨#[45]⟩, ⟨#[33]⟩, ⟨#[126]⟩, ⟨#[62]⟩, ⟨#[60]⟩, ⟨#[61]⟩]
theorem pref_true {t : Tk} (i : Nat) (s : ByteArray) (h : pgs[i]? = some s) (hb : isB t s = true) : prefHere t = (1 + (i : Int), if 4 ≤ i then 4 + (i : Int) else 0) := by
  have hi : i < 7 := (List.getElem?_eq_some_iff.1 h).1
  unfold isB at hb
  simp only [Bool.and_eq_true, decide_eq_true_eq, beq_iff_eq] at hb
  obtain ⟨hk, ht⟩ := hb
  unfold prefHere
  rw [if_pos hk]
  rcases (show i = 0 ∨ i = 1 ∨ i = 2 ∨ i = 3 ∨ i = 4 ∨ i = 5 ∨ i = 6 by omega) with rfl | rfl | rfl | rfl | rfl | rfl | rfl <;>
  · injection h with h
    subst h
    rw [ht]; rfl
theorem pgs_ne (i : Nat) (s : ByteArray) (h : pgs[i]? = some s) : (s.data.toList == []) = false := by
  have hi : i < 7 := (List.getElem?_eq_some_iff.1 h).1
  rcases (show i = 0 ∨ i = 1 ∨ i = 2 ∨ i = 3 ∨ i = 4 ∨ i = 5 ∨ i = 6 by omega) with rfl | rfl | rfl | rfl | rfl | rfl | rfl <;>
  · injection h with h
    subst h
    rfl
theorem pref_false {t : Tk} (h : ∀ (j : Nat) (s : ByteArray), j < 7 → pgs[j]? = some s → isB t s = false) : prefHere t = (0, 0) := by
  unfold prefHere
  split
  · rename_i hk
    have g : ∀ s : ByteArray, isB t s = false → t.text ≠ s.data.toList := by
      intro s hs e
      unfold isB at hs
      simp [hk, e] at hs
    have g0 := g _ (h 0 _ (by omega) rfl)
    have g1 := g _ (h 1 _ (by omega) rfl)
    have g2 := g _ (h 2 _ (by omega) rfl)
    have g3 := g _ (h 3 _ (by omega) rfl)
    have g4 := g _ (h 4 _ (by omega) rfl)
    have g5 := g _ (h 5 _ (by omega) rfl)
    have g6 := g _ (h 6 _ (by omega) rfl)
    unfold prefN
    rw [if_neg g0, if_neg g1, if_neg g2, if_neg g3, if_neg g4, if_neg g5, if_neg g6]
  · rfl
theorem act_rest {γ : Type} {id : ByteArray} {r : Rs γ} {Z : Rs Ac} (hZ : Z = r.bind fun _ ts1 => pAct id ts1) (A : Am) (V : Tm) (hA : ∀ a t, ((r.bind fun _ ts => pTok 4 ⟨#[94]⟩ ts).bind fun _ ts => pAtom ts) = .ok a t → A = a)
    (hV : ∀ v t, (((r.bind fun _ ts => pTok 4 ⟨#[94]⟩ ts).bind fun _ ts => pAtom ts).bind fun _ ts => pTerm ts) = .ok v t → V = v) (u : Ac) (hu : u = ⟨id, A, V, u.pref, u.other⟩)
    (hq : ∀ q t, ((((r.bind fun _ ts => pTok 4 ⟨#[94]⟩ ts).bind fun _ ts => pAtom ts).bind fun _ ts => pTerm ts).bind fun _ ts => pPref ts) = .ok q t → (u.pref, u.other) = q) :
    (∀ (E : Env) (w : World), Q8 E w ((((r.bind fun _ ts => pTok 4 ⟨#[94]⟩ ts).bind fun _ ts => pAtom ts).bind fun _ ts => pTerm ts).bind fun _ ts => pPref ts) → Q8 E w Z) ∧ ∀ x t, Z = .ok x t → u = x := by
  have hZ2 : Z = (r.bind fun _ ts => pTok 4 ⟨#[94]⟩ ts).bind fun _ ts1 => (pAtom ts1).bind fun a ts2 => (pTerm ts2).bind fun v ts3 => (pPref ts3).bind fun q ts4 => .ok ⟨id, a, v, q.1, q.2⟩ ts4 := by
    rw [take_bind (s := ⟨#[94]⟩) rfl, hZ]
    rfl
  generalize (r.bind fun _ ts => pTok 4 ⟨#[94]⟩ ts) = r1 at *
  clear hZ
  subst hZ2
  cases r1 with
  | bad q => exact ⟨fun E w h => h, fun x t e => by cases e⟩
  | ok a0 t0 =>
    simp only [Rs.bind] at hA hV hq ⊢
    cases h1 : pAtom t0 with
    | bad q => exact ⟨fun E w h => h, fun x t e => by cases e⟩
    | ok a t1 =>
      rw [h1] at hA hV hq
      obtain rfl := hA _ _ rfl
      simp only at hV hq ⊢
      cases h2 : pTerm t1 with
      | bad q => exact ⟨fun E w h => h, fun x t e => by cases e⟩
      | ok v t2 =>
        rw [h2] at hV hq
        obtain rfl := hV _ _ rfl
        simp only at hq ⊢
        cases h3 : pPref t2 with
        | bad q => exact ⟨fun E w h => h, fun x t e => by cases e⟩
        | ok q t3 =>
          obtain rfl := hq _ _ h3
          exact ⟨fun E w h => h, fun x t e => by cases e; exact hu⟩
theorem ac_ones (a : Ac) : ∀ u ∈ a.cells, u.oneCell' = true := by simp [Ac.cells, Am.cells, Sm.cells, Tm.cells, Value.oneCell']
theorem act_built2 (id : ByteArray) : Tryz.prog.built 51 [(0, .string id), (3, .int .i64 1)] = some (Ac.mk id nilAm nilTm 1 nilAm).cells.toArray := by kernel_rfl
theorem wpList_build_to2 {P : Program} {ops : Array Oper} {rest : List Oper} {o : Oper} {a : Act} {w : World} {Q : Exit → Act → World → Prop} (hg : o.guard = none) (t : TypeId) (k j : Nat) (x y : Operand) (ho : o.op = .build t #[(k, x), (j, y)]) (v u : Value) (hx : a.eval x = v) (hy : a.eval y = u) (V : Array Value)
    (hV : P.built t [(k, v), (j, u)] = some V)
    (h : wpList P ops Q rest (a.put o.dst (.agg V)) w) : wpList P ops Q (o :: rest) a w := by
  have hV2 : P.built t ((#[(k, x), (j, y)] : Array (Nat × Operand)).map fun (i, x) => (i, a.eval x)).toList = some V := by simpa [hx, hy] using hV
  refine wpList_build hg t _ ho (by rw [hV2]; rfl) ?_
  rw [hV2]
  exact h
theorem run_loadVar_box {w : World} {b ty n : Nat} {t : TypeId} {cs : List Value} (h : BoxC w b t cs) (hu : ∃ fs, Tryz.prog.underlying ty = some (.struct fs)) (hn : cs.length = n) (hi : (Tryz.prog.info? ty).map (·.size) = some n := by first | exact agg69.1 | assumption) : (loadVar ty ⟨b, 0, none⟩).run Tryz.prog w = .ok (.agg cs.toArray) w := by
  obtain ⟨fs, hu⟩ := hu
  exact run_loadVar_at w _ ty cs _ (fun j u hj => by rw [addr_add_lit, Nat.zero_add]; exact h.at_ hj) hu rfl (by rw [hi, hn])
theorem results_cell {P : Program} {fn : Func} {a t : Nat} (h : fn.results = #[.cell a t]) {tmps : Array Value} {w : World} (ad : Addr) (v : Value) (ha : tmps.getD a undef = .pointer (some ad)) (hl : (loadVar t ad).run P w = .ok v w) : (results fn tmps).run P w = .ok v w := by
  have ha' : tmps[a]?.getD undef = .pointer (some ad) := by simpa using ha
  simp [results, h, asAddr, ha', hl]
/-- What an act has read so far. -/
structure AP (E : Env) (w : World) (a : Ac) (wr : World) : Prop where
  mv : Mv E w wr
  res : BoxC wr w.heap.size 51 nilAc.cells
  box : BoxC wr (w.heap.size + 1) 51 a.cells
theorem AP.moved {E : Env} {w wr w' : World} {a : Ac} (h : AP E w a wr) (m : Mv E wr w') (hr : E.r < w.heap.size) (hi : E.ib < w.heap.size) : AP E w a w' :=
  ⟨h.mv.trans m, m.box h.res (by omega) (by omega), m.box h.box (by omega) (by omega)⟩
theorem AP.put {E : Env} {w wr w' : World} {a a' : Ac} (h : AP E w a wr) (g : wr.grownBy w' (some (w.heap.size + 1))) (hb : BoxC w' (w.heap.size + 1) 51 a'.cells) : AP E w a' w' :=
  ⟨h.mv.new g (Nat.le_succ _), h.res.grown g (by simp), hb⟩
/-- An action comes back. -/
def AcIs (r : Rs Ac) (x : Ending) : Prop := ∃ a : Ac, x = .returned a.val ∧ a.Big ∧ ∀ b ts, r = .ok b ts → a = b
set_option maxRecDepth 100000 in
set_option maxHeartbeats 16000000 in
theorem act8 {α : Type} {E : Env} {r : Rs α} (w : World) (h : Q8 E w r) (id : ByteArray) (hid : id.size ≤ 1000000) : Calls Tryz.prog 67 #[E.ptr, .string id] w fun x w' => AcIs (r.bind fun _ ts => pAct id ts) x ∧ Mv E w w' ∧ Q8 E w' (r.bind fun _ ts => pAct id ts) := by
  have HTK := Lib.hid (fun W (h : Q8 E W r) => take8 W h 4 (by decide) ⟨#[94]⟩ 4 rfl)
  have HLO := Lib.hid h.lows
  have HLJ : Hid (E.ib < w.heap.size) := Lib.hid (by have := h.one; have := h.lows; omega)
  have H := Lib.hid h
  have HID := Lib.hid hid
  obtain ⟨Z, hZ⟩ : ∃ Z, (r.bind fun _ ts => pAct id ts) = Z := ⟨_, rfl⟩
  rw [hZ]
  have HAR := Lib.hid (fun A V => act_rest hZ.symm A V)
  obtain ⟨r1, hr1⟩ : ∃ r1, (r.bind fun _ ts => pTok 4 ⟨#[94]⟩ ts) = r1 := ⟨_, rfl⟩
  rw [hr1] at HTK HAR
  obtain ⟨C0, hC0⟩ : ∃ C0, (Ac.mk id nilAm nilTm 1 nilAm).cells = C0 := ⟨_, rfl⟩
  have HBT := Lib.hid (act_built2 id)
  rw [hC0] at HBT
  have HCL0 : Hid (C0.length = 19) := Lib.hid (by rw [← hC0]; rfl)
  have HC10 : Hid (C0.toArray.all (·.oneCell') = true) := Lib.hid (by rw [← hC0]; exact ac_all _)
  have HP0 : Hid (AP E w (Ac.mk id nilAm nilTm 1 nilAm) ((w.alloc (.cells nilAc.cells.toArray 51)).alloc (.cells C0.toArray 51))) := Lib.hid ⟨((Mv.refl E w).alloc _).alloc _, (BoxC.new w _ 51).alloc _, by rw [hC0]; exact BoxC.new_at' (by simp)⟩
  rw [show nilAc.cells.toArray = #[.string ⟨#[]⟩, .string ⟨#[]⟩, .int .i64 0, .string ⟨#[]⟩, .int .i64 0, .int .i64 0, .string ⟨#[]⟩, .int .i64 0, .string ⟨#[]⟩, .int .i64 0, .string ⟨#[]⟩, .int .i64 0, .string ⟨#[]⟩, .int .i64 0, .int .i64 0, .string ⟨#[]⟩, .int .i64 0, .string ⟨#[]⟩, .int .i64 0] from rfl] at HP0
  have HQ0 := Lib.hid (fun o1 o2 => (h.alloc o1).alloc o2)
  have HIA := Lib.hid (fun W (ts : List Tk) (h : Q8 E W (Rs.ok () ts)) => isAtom8 W h)
  clear h hZ hr1 hC0 hid
  unfold Env.ptr at *
  go_enter Tryz.func67, Tryz.ntmps67
  go_wp2_with (first | (refine wpList_build_to2 (o := ⟨some 9, _, _, _, _, _⟩) rfl 51 0 3 (.tmp 8) (.const (.int .i64 1)) rfl (.string id) (.int .i64 1) rfl rfl C0.toArray HBT.out ?_) | (refine wpList_store_agg (o := ⟨none, .store 51 _ _, _, _, _, _⟩) agg69 rfl _ _ rfl C0.toArray 51 _ (by rw [World.size_alloc]; rfl) rfl (by simp [HCL0.out]) rfl HC10.out ?_))
  refine (HTK.out _ (HQ0.out _ _)).mono ?_
  rintro x w1 ⟨⟨_, rfl, _⟩, hm, hr⟩
  have HP1 := Lib.hid (HP0.out.moved hm HLO.out HLJ.out)
  have HA1 := Lib.hid (atom8 w1 hr)
  unfold Env.ptr at HA1
  clear hm hr HP0 HTK HQ0 HBT HCL0 HC10
  go_wp2_with fail
  refine HA1.out.mono ?_
  rintro x w2 ⟨⟨⟨av, ⟨ak, at_, an⟩⟩, rfl, hs, hq⟩, hm, hr⟩
  have HP2 := Lib.hid (HP1.out.moved hm HLO.out HLJ.out)
  have HSA := Lib.hid hs
  obtain ⟨r2, hr2⟩ : ∃ r2, (r1.bind fun _ ts => pAtom ts) = r2 := ⟨_, rfl⟩
  rw [hr2] at hq hr
  have HAR2 := Lib.hid (fun V => HAR.out ⟨av, ⟨ak, at_, an⟩⟩ V)
  rw [hr2] at HAR2
  have HAR3 := Lib.hid (fun V => HAR2.out V hq)
  have HR2 := Lib.hid hr
  clear hm hr hs hq hr2 HAR HAR2 HP1 HA1
  unfold Am.val
  simp only
  go_wp2_with (refine wpList_box rfl 47 (.tmp 14) (.tmp 13) rfl (w.heap.size + 1) 1 _ [.string av, .int .i64 ak, .string at_, .int .i64 an] rfl rfl rfl HP2.out.box Tryz.sz47 (by simp [Ac.cells, Am.cells, Tm.cells, Sm.cells]) (by simp [Value.oneCell']) (⟨id, ⟨av, ⟨ak, at_, an⟩⟩, nilTm, 1, nilAm⟩ : Ac).cells rfl ?_; intro w3 B3 g3; have HP3 := Lib.hid (HP2.out.put g3 B3); have HR3 := Lib.hid (Q8.new H.out HR2.out g3 (Nat.le_succ _)); clear B3 g3)
  have HT3 := Lib.hid (term8 w3 HR3.out)
  unfold Env.ptr at HT3
  refine HT3.out.mono ?_
  rintro x w4 ⟨⟨⟨vo, ⟨va, ⟨vk, vt, vn⟩⟩, ⟨ua, ⟨uk, ut, un⟩⟩⟩, rfl, hs, hq⟩, hm, hr⟩
  have HP4 := Lib.hid (HP3.out.moved hm HLO.out HLJ.out)
  have HSV := Lib.hid hs
  obtain ⟨r3, hr3⟩ : ∃ r3, (r2.bind fun _ ts => pTerm ts) = r3 := ⟨_, rfl⟩
  rw [hr3] at hq hr
  have HAR4 := Lib.hid (HAR3.out ⟨vo, ⟨va, ⟨vk, vt, vn⟩⟩, ⟨ua, ⟨uk, ut, un⟩⟩⟩)
  rw [hr3] at HAR4
  have HAR := Lib.hid (HAR4.out hq)
  have HR4 := Lib.hid hr
  have HBIG : Hid (∀ (k : Int) (o : Am), (o.v.size ≤ 1000000 ∧ o.s.t.size ≤ 1000000) → (⟨id, ⟨av, ⟨ak, at_, an⟩⟩, ⟨vo, ⟨va, ⟨vk, vt, vn⟩⟩, ⟨ua, ⟨uk, ut, un⟩⟩⟩, k, o⟩ : Ac).Big) := Lib.hid (fun k o ho => ⟨Nat.le_trans HID.out (by decide), am_big HSA.out, am_big HSV.out.1, am_big HSV.out.2, am_big ho⟩)
  clear hm hr hs hq hr3 HAR3 HAR4 HP3 HT3 HR3 HP2 HR2 HSA HSV HID
  unfold Tm.val
  simp only
  go_wp2_with (refine wpList_box rfl 49 (.tmp 17) (.tmp 16) rfl (w.heap.size + 1) 5 _ [.int .i64 vo, .string va, .int .i64 vk, .string vt, .int .i64 vn, .string ua, .int .i64 uk, .string ut, .int .i64 un] rfl rfl rfl HP4.out.box Tryz.sz49 (by simp [Ac.cells, Am.cells, Tm.cells, Sm.cells]) (by simp [Value.oneCell']) (⟨id, ⟨av, ⟨ak, at_, an⟩⟩, ⟨vo, ⟨va, ⟨vk, vt, vn⟩⟩, ⟨ua, ⟨uk, ut, un⟩⟩⟩, 1, nilAm⟩ : Ac).cells rfl ?_; intro w5 B5 g5; have HP5 := Lib.hid (HP4.out.put g5 B5); have HR5 := Lib.hid (Q8.new H.out HR4.out g5 (Nat.le_succ _)); clear B5 g5)
  have HX := Lib.hid (BoxC.new w5 (pgs.map Value.string) 9)
  rw [show w5.alloc (.cells (pgs.map Value.string).toArray 9) = w5.alloc (.cells #[.string ⟨#[43]⟩, .string ⟨#[45]⟩, .string ⟨#[33]⟩, .string ⟨#[126]⟩, .string ⟨#[62]⟩, .string ⟨#[60]⟩, .string ⟨#[61]⟩] 9) from rfl] at HX
  have HP6 := Lib.hid (HP5.out.moved ((Mv.refl E w5).alloc (.cells #[.string ⟨#[43]⟩, .string ⟨#[45]⟩, .string ⟨#[33]⟩, .string ⟨#[126]⟩, .string ⟨#[62]⟩, .string ⟨#[60]⟩, .string ⟨#[61]⟩] 9)) HLO.out HLJ.out)
  have HR6 := Lib.hid (HR5.out.alloc (.cells #[.string ⟨#[43]⟩, .string ⟨#[45]⟩, .string ⟨#[33]⟩, .string ⟨#[126]⟩, .string ⟨#[62]⟩, .string ⟨#[60]⟩, .string ⟨#[61]⟩] 9))
  clear HP5 HR5 HP4 HR4
  generalize w5.alloc (.cells #[.string ⟨#[43]⟩, .string ⟨#[45]⟩, .string ⟨#[33]⟩, .string ⟨#[126]⟩, .string ⟨#[62]⟩, .string ⟨#[60]⟩, .string ⟨#[61]⟩] 9) = W1 at *
  generalize w5.heap.size = b5 at *
  go_loopw [7] (fun t wr => ∃ i : Nat, i ≤ 7 ∧ t = .int .i64 i ∧ Hid (Below W1.heap.size W1 wr) ∧ Hid (∀ (j : Nat) (s : ByteArray), j < i → pgs[j]? = some s → isQ r3 4 s = false)) (fun t _ => 7 - (intOf t).toNat)
  case atStart => exact ⟨0, by omega, rfl, Lib.hid (Below.refl _ _), Lib.hid (by omega)⟩
  case round =>
    obtain ⟨i, hi, rfl, b, hF⟩ := hrel
    have HPR := Lib.hid (HP6.out.moved (Mv.of_below b.out) HLO.out HLJ.out)
    by_cases hlt : i < 7
    · obtain ⟨s, hs⟩ : ∃ s, pgs[i]? = some s := ⟨_, List.getElem?_eq_getElem hlt⟩
      have hc : wr.cell? ⟨b5, i, none⟩ = some (.string s) := (HX.out.below b.out).at_ (by rw [List.getElem?_map, hs]; rfl)
      have HS' := Lib.hid (sign8 wr (HR6.out.below b.out) s)
      have HH := Lib.hid hs
      clear hs
      unfold Env.ptr at HS'
      cases hq : isQ r3 4 s with
      | true =>
        rw [hq] at HS'
        obtain ⟨a3, ts, hqe, ht⟩ := isQ_true hq
        rw [tokB_sign _ (pgs_ne i s HH.out)] at ht
        have hpr := pref_true i s HH.out ht
        have hk4 := isB_kind ht
        subst hqe
        obtain ⟨k, hQ, hts⟩ := HR6.out.below b.out
        subst hts
        have hkl : k ≤ 1000000 := by have := hQ.lt; have := hQ.good.len; omega
        have HQ := Lib.hid hQ
        have HK : Hid ((E.at8 k).kind ≠ 5 ∧ (E.at8 k).kind ≠ 6) := Lib.hid (show (headT (E.L.drop k)).kind ≠ 5 ∧ (headT (E.L.drop k)).kind ≠ 6 by omega)
        have hpp : pPref (E.L.drop k) = if 4 ≤ i ∧ atomHere (headT (E.L.drop k).tail) then (pAtom (E.L.drop k).tail).bind fun a ts1 => .ok (4 + (i : Int), a) ts1 else .ok (1 + (i : Int), nilAm) (E.L.drop k).tail := by
          unfold pPref
          rw [hpr, if_neg (by simp only; omega)]
          by_cases h4 : 4 ≤ i
          · simp only [if_pos h4]
            congr 1
            simp [h4]
            omega
          · simp only [if_neg h4]
            rw [if_neg (by simp), if_neg (by simp [h4])]
        have hatom : atomHere (headT (E.L.drop k).tail) = atomQ (Rs.ok () (E.L.drop k).tail) := rfl
        rw [hatom] at hpp
        clear hq ht hpr hk4 hQ hF HX HH HR6 HP6 hatom
        generalize hts : E.L.drop k = ts at *
        have HTS := Lib.hid hts
        clear hts
        by_cases h4 : i < 4
        · have HPP : Hid (pPref ts = .ok (1 + (i : Int), nilAm) ts.tail) := Lib.hid (by rw [hpp, if_neg (by omega)])
          have q4 : (i : Int) < 4 := by omega
          clear hpp
          go_wp2_with (first | (go_at_call 40; refine HS'.out.mono ?_; rintro x w6 ⟨rfl, b6⟩; have HQ7 := Lib.hid (HQ.out.below b6); have HP7 := Lib.hid (HPR.out.moved (Mv.of_below b6) HLO.out HLJ.out); obtain ⟨c0, c1, c2⟩ := three_box (HQ.out.below b6).box; clear b6) | (refine wpList_box rfl 3 (.tmp 38) (.tmp 36) rfl E.r 1 _ [.int .i64 ((k : Int) + 1)] rfl rfl rfl HQ7.out.box Tryz.sz3' (by simp) (by simp [Value.oneCell']) [.slice E.ao E.n E.c, .int .i64 ((k : Int) + 1), .bool false] rfl ?_; intro w8 B8 g8; have HP8 := Lib.hid (HP7.out.moved (Mv.setR (Mv.refl E _) g8) HLO.out HLJ.out); have HR8 : Hid (Q8 E w8 (Rs.ok () ts.tail)) := Lib.hid (by rw [← HTS.out]; exact HQ7.out.next (b := ()) HK.out g8 B8); clear B8 g8 c0 c1 c2) | (refine wpList_box rfl 3 (.tmp 41) (.tmp 40) rfl (w.heap.size + 1) 14 _ [.int .i64 (1 + (i : Int))] rfl rfl rfl HP8.out.box Tryz.sz3' (by simp [Ac.cells, Am.cells, Tm.cells, Sm.cells]) (by simp [Value.oneCell']) (⟨id, ⟨av, ⟨ak, at_, an⟩⟩, ⟨vo, ⟨va, ⟨vk, vt, vn⟩⟩, ⟨ua, ⟨uk, ut, un⟩⟩⟩, 1 + (i : Int), nilAm⟩ : Ac).cells rfl ?_; intro w9 B9 g9; have HP9 := Lib.hid (HP8.out.put g9 B9); have HR9 := Lib.hid (Q8.new H.out HR8.out g9 (Nat.le_succ _)); clear B9 g9) | (obtain ⟨C, hC⟩ : ∃ C, (⟨id, ⟨av, ⟨ak, at_, an⟩⟩, ⟨vo, ⟨va, ⟨vk, vt, vn⟩⟩, ⟨ua, ⟨uk, ut, un⟩⟩⟩, 1 + (i : Int), nilAm⟩ : Ac).cells = C := ⟨_, rfl⟩; have HCC : Hid ((⟨id, ⟨av, ⟨ak, at_, an⟩⟩, ⟨vo, ⟨va, ⟨vk, vt, vn⟩⟩, ⟨ua, ⟨uk, ut, un⟩⟩⟩, 1 + (i : Int), nilAm⟩ : Ac).cells = C) := Lib.hid hC; clear hC; refine wpList_load_agg (o := ⟨some 55, _, _, _, _, _⟩) agg69 rfl _ rfl ⟨w.heap.size + 1, 0, none⟩ rfl C (by intro j u h; rw [addr_add_lit, Nat.zero_add]; rw [← HCC.out] at h; exact HP9.out.box.at_ h) (by rw [← HCC.out]; rfl) ?_) | (refine wpList_box rfl 51 (.tmp 4) (.tmp 55) rfl w.heap.size 0 _ C rfl rfl rfl HP9.out.res (by rw [agg69.1, ← HCC.out]; rfl) (by rw [← HCC.out]; exact Nat.le_refl _) (by rw [← HCC.out]; exact ac_ones _) C (by rw [List.drop_eq_nil_of_le (by rw [← HCC.out]; exact Nat.le_refl _)]; simp) ?_; intro wz Bz gz; have HBz := Lib.hid Bz; have HGz := Lib.hid gz; clear Bz gz))
          have HQF : Hid (Q8 E w9 ((Rs.ok a3 ts).bind fun _ ts => pPref ts)) := Lib.hid (by show Q8 E w9 (pPref ts); rw [HPP.out]; exact HR9.out)
          obtain ⟨t1, t2⟩ := HAR.out (⟨id, ⟨av, ⟨ak, at_, an⟩⟩, ⟨vo, ⟨va, ⟨vk, vt, vn⟩⟩, ⟨ua, ⟨uk, ut, un⟩⟩⟩, 1 + (i : Int), nilAm⟩ : Ac) rfl (by intro q t e; replace e : pPref ts = .ok q t := e; rw [HPP.out] at e; cases e; rfl)
          have hres := run_loadVar_box HBz.out us69 (n := 19) (by rw [← HCC.out]; rfl)
          exact bodyPost_ret (v := .agg C.toArray) (results_cell Tryz.results67 _ _ rfl hres) rfl ⟨⟨(⟨id, ⟨av, ⟨ak, at_, an⟩⟩, ⟨vo, ⟨va, ⟨vk, vt, vn⟩⟩, ⟨ua, ⟨uk, ut, un⟩⟩⟩, 1 + (i : Int), nilAm⟩ : Ac), by rw [← HCC.out]; rfl, HBIG.out _ _ ⟨nil_size, nil_size⟩, t2⟩, HP9.out.mv.new HGz.out (Nat.le_refl _), t1 E _ (Q8.new H.out HQF.out HGz.out (Nat.le_refl _))⟩
        · have q4 : (4 : Int) ≤ (i : Int) := by omega
          cases hat : atomQ (Rs.ok () ts.tail) with
          | false =>
            have HPP : Hid (pPref ts = .ok (1 + (i : Int), nilAm) ts.tail) := Lib.hid (by rw [hpp, hat, if_neg (by simp)])
            clear hpp
            go_wp2_with (first | (go_at_call 40; refine HS'.out.mono ?_; rintro x w6 ⟨rfl, b6⟩; have HQ7 := Lib.hid (HQ.out.below b6); have HP7 := Lib.hid (HPR.out.moved (Mv.of_below b6) HLO.out HLJ.out); obtain ⟨c0, c1, c2⟩ := three_box (HQ.out.below b6).box; clear b6) | (refine wpList_box rfl 3 (.tmp 38) (.tmp 36) rfl E.r 1 _ [.int .i64 ((k : Int) + 1)] rfl rfl rfl HQ7.out.box Tryz.sz3' (by simp) (by simp [Value.oneCell']) [.slice E.ao E.n E.c, .int .i64 ((k : Int) + 1), .bool false] rfl ?_; intro w8 B8 g8; have HP8 := Lib.hid (HP7.out.moved (Mv.setR (Mv.refl E _) g8) HLO.out HLJ.out); have HR8 : Hid (Q8 E w8 (Rs.ok () ts.tail)) := Lib.hid (by rw [← HTS.out]; exact HQ7.out.next (b := ()) HK.out g8 B8); clear B8 g8 c0 c1 c2) | (refine wpList_box rfl 3 (.tmp 41) (.tmp 40) rfl (w.heap.size + 1) 14 _ [.int .i64 (1 + (i : Int))] rfl rfl rfl HP8.out.box Tryz.sz3' (by simp [Ac.cells, Am.cells, Tm.cells, Sm.cells]) (by simp [Value.oneCell']) (⟨id, ⟨av, ⟨ak, at_, an⟩⟩, ⟨vo, ⟨va, ⟨vk, vt, vn⟩⟩, ⟨ua, ⟨uk, ut, un⟩⟩⟩, 1 + (i : Int), nilAm⟩ : Ac).cells rfl ?_; intro w9 B9 g9; have HP9 := Lib.hid (HP8.out.put g9 B9); have HR9 := Lib.hid (Q8.new H.out HR8.out g9 (Nat.le_succ _)); clear B9 g9) | (go_at_call 89; refine (HIA.out _ _ HR9.out).mono ?_; rintro x w10 ⟨rfl, b10⟩; have HP10 := Lib.hid (HP9.out.moved (Mv.of_below b10) HLO.out HLJ.out); have HR10 := Lib.hid (HR9.out.below b10); have c14 := HP10.out.box.at_ (j := 14) (u := .int .i64 (1 + (i : Int))) rfl; rw [hat]; clear b10) | (obtain ⟨C, hC⟩ : ∃ C, (⟨id, ⟨av, ⟨ak, at_, an⟩⟩, ⟨vo, ⟨va, ⟨vk, vt, vn⟩⟩, ⟨ua, ⟨uk, ut, un⟩⟩⟩, 1 + (i : Int), nilAm⟩ : Ac).cells = C := ⟨_, rfl⟩; have HCC : Hid ((⟨id, ⟨av, ⟨ak, at_, an⟩⟩, ⟨vo, ⟨va, ⟨vk, vt, vn⟩⟩, ⟨ua, ⟨uk, ut, un⟩⟩⟩, 1 + (i : Int), nilAm⟩ : Ac).cells = C) := Lib.hid hC; clear hC; refine wpList_load_agg (o := ⟨some 55, _, _, _, _, _⟩) agg69 rfl _ rfl ⟨w.heap.size + 1, 0, none⟩ rfl C (by intro j u h; rw [addr_add_lit, Nat.zero_add]; rw [← HCC.out] at h; exact HP10.out.box.at_ h) (by rw [← HCC.out]; rfl) ?_) | (refine wpList_box rfl 51 (.tmp 4) (.tmp 55) rfl w.heap.size 0 _ C rfl rfl rfl HP10.out.res (by rw [agg69.1, ← HCC.out]; rfl) (by rw [← HCC.out]; exact Nat.le_refl _) (by rw [← HCC.out]; exact ac_ones _) C (by rw [List.drop_eq_nil_of_le (by rw [← HCC.out]; exact Nat.le_refl _)]; simp) ?_; intro wz Bz gz; have HBz := Lib.hid Bz; have HGz := Lib.hid gz; clear Bz gz))
            have HQF : Hid (Q8 E w10 ((Rs.ok a3 ts).bind fun _ ts => pPref ts)) := Lib.hid (by show Q8 E w10 (pPref ts); rw [HPP.out]; exact HR10.out)
            obtain ⟨t1, t2⟩ := HAR.out (⟨id, ⟨av, ⟨ak, at_, an⟩⟩, ⟨vo, ⟨va, ⟨vk, vt, vn⟩⟩, ⟨ua, ⟨uk, ut, un⟩⟩⟩, 1 + (i : Int), nilAm⟩ : Ac) rfl (by intro q t e; replace e : pPref ts = .ok q t := e; rw [HPP.out] at e; cases e; rfl)
            have hres := run_loadVar_box HBz.out us69 (n := 19) (by rw [← HCC.out]; rfl)
            exact bodyPost_ret (v := .agg C.toArray) (results_cell Tryz.results67 _ _ rfl hres) rfl ⟨⟨(⟨id, ⟨av, ⟨ak, at_, an⟩⟩, ⟨vo, ⟨va, ⟨vk, vt, vn⟩⟩, ⟨ua, ⟨uk, ut, un⟩⟩⟩, 1 + (i : Int), nilAm⟩ : Ac), by rw [← HCC.out]; rfl, HBIG.out _ _ ⟨nil_size, nil_size⟩, t2⟩, HP10.out.mv.new HGz.out (Nat.le_refl _), t1 E _ (Q8.new H.out HQF.out HGz.out (Nat.le_refl _))⟩
          | true =>
            have HPP : Hid (pPref ts = (pAtom ts.tail).bind fun a ts1 => .ok (4 + (i : Int), a) ts1) := Lib.hid (by rw [hpp, hat, if_pos ⟨by omega, rfl⟩])
            clear hpp
            go_wp2_with (first | (go_at_call 40; refine HS'.out.mono ?_; rintro x w6 ⟨rfl, b6⟩; have HQ7 := Lib.hid (HQ.out.below b6); have HP7 := Lib.hid (HPR.out.moved (Mv.of_below b6) HLO.out HLJ.out); obtain ⟨c0, c1, c2⟩ := three_box (HQ.out.below b6).box; clear b6) | (refine wpList_box rfl 3 (.tmp 38) (.tmp 36) rfl E.r 1 _ [.int .i64 ((k : Int) + 1)] rfl rfl rfl HQ7.out.box Tryz.sz3' (by simp) (by simp [Value.oneCell']) [.slice E.ao E.n E.c, .int .i64 ((k : Int) + 1), .bool false] rfl ?_; intro w8 B8 g8; have HP8 := Lib.hid (HP7.out.moved (Mv.setR (Mv.refl E _) g8) HLO.out HLJ.out); have HR8 : Hid (Q8 E w8 (Rs.ok () ts.tail)) := Lib.hid (by rw [← HTS.out]; exact HQ7.out.next (b := ()) HK.out g8 B8); clear B8 g8 c0 c1 c2) | (refine wpList_box rfl 3 (.tmp 41) (.tmp 40) rfl (w.heap.size + 1) 14 _ [.int .i64 (1 + (i : Int))] rfl rfl rfl HP8.out.box Tryz.sz3' (by simp [Ac.cells, Am.cells, Tm.cells, Sm.cells]) (by simp [Value.oneCell']) (⟨id, ⟨av, ⟨ak, at_, an⟩⟩, ⟨vo, ⟨va, ⟨vk, vt, vn⟩⟩, ⟨ua, ⟨uk, ut, un⟩⟩⟩, 1 + (i : Int), nilAm⟩ : Ac).cells rfl ?_; intro w9 B9 g9; have HP9 := Lib.hid (HP8.out.put g9 B9); have HR9 := Lib.hid (Q8.new H.out HR8.out g9 (Nat.le_succ _)); clear B9 g9) | (go_at_call 89; refine (HIA.out _ _ HR9.out).mono ?_; rintro x w10 ⟨rfl, b10⟩; have HP10 := Lib.hid (HP9.out.moved (Mv.of_below b10) HLO.out HLJ.out); have HR10 := Lib.hid (HR9.out.below b10); have c14 := HP10.out.box.at_ (j := 14) (u := .int .i64 (1 + (i : Int))) rfl; rw [hat]; clear b10) | (refine wpList_box rfl 3 (.tmp 51) (.tmp 50) rfl (w.heap.size + 1) 14 _ [.int .i64 (1 + (i : Int) + 3)] rfl rfl rfl HP10.out.box Tryz.sz3' (by simp [Ac.cells, Am.cells, Tm.cells, Sm.cells]) (by simp [Value.oneCell']) (⟨id, ⟨av, ⟨ak, at_, an⟩⟩, ⟨vo, ⟨va, ⟨vk, vt, vn⟩⟩, ⟨ua, ⟨uk, ut, un⟩⟩⟩, 1 + (i : Int) + 3, nilAm⟩ : Ac).cells rfl ?_; intro w11 B11 g11; have HP11 := Lib.hid (HP10.out.put g11 B11); have HR11 := Lib.hid (Q8.new H.out HR10.out g11 (Nat.le_succ _)); clear B11 g11))
            have HA11 := Lib.hid (atom8 w11 HR11.out)
            unfold Env.ptr at HA11
            refine HA11.out.mono ?_
            rintro x w12 ⟨⟨⟨xv, ⟨xk, xt, xn⟩⟩, rfl, hs, hq⟩, hm, hr⟩
            have HP12 := Lib.hid (HP11.out.moved hm HLO.out HLJ.out)
            have HSX := Lib.hid hs
            have HQX := Lib.hid hq
            have HR12 := Lib.hid hr
            clear hm hr hs hq HA11 HP11 HR11 HP10 HR10 HP9 HR9 HP8 HR8 HP7 HQ7 c14
            unfold Am.val
            simp only
            go_wp2_with (first | (refine wpList_box rfl 47 (.tmp 54) (.tmp 53) rfl (w.heap.size + 1) 15 _ [.string xv, .int .i64 xk, .string xt, .int .i64 xn] rfl rfl rfl HP12.out.box Tryz.sz47 (by simp [Ac.cells, Am.cells, Tm.cells, Sm.cells]) (by simp [Value.oneCell']) (⟨id, ⟨av, ⟨ak, at_, an⟩⟩, ⟨vo, ⟨va, ⟨vk, vt, vn⟩⟩, ⟨ua, ⟨uk, ut, un⟩⟩⟩, 1 + (i : Int) + 3, ⟨xv, ⟨xk, xt, xn⟩⟩⟩ : Ac).cells rfl ?_; intro w13 B13 g13; have HP13 := Lib.hid (HP12.out.put g13 B13); have HR13 := Lib.hid (Q8.new H.out HR12.out g13 (Nat.le_succ _)); clear B13 g13) | (obtain ⟨C, hC⟩ : ∃ C, (⟨id, ⟨av, ⟨ak, at_, an⟩⟩, ⟨vo, ⟨va, ⟨vk, vt, vn⟩⟩, ⟨ua, ⟨uk, ut, un⟩⟩⟩, 1 + (i : Int) + 3, ⟨xv, ⟨xk, xt, xn⟩⟩⟩ : Ac).cells = C := ⟨_, rfl⟩; have HCC : Hid ((⟨id, ⟨av, ⟨ak, at_, an⟩⟩, ⟨vo, ⟨va, ⟨vk, vt, vn⟩⟩, ⟨ua, ⟨uk, ut, un⟩⟩⟩, 1 + (i : Int) + 3, ⟨xv, ⟨xk, xt, xn⟩⟩⟩ : Ac).cells = C) := Lib.hid hC; clear hC; refine wpList_load_agg (o := ⟨some 55, _, _, _, _, _⟩) agg69 rfl _ rfl ⟨w.heap.size + 1, 0, none⟩ rfl C (by intro j u h; rw [addr_add_lit, Nat.zero_add]; rw [← HCC.out] at h; exact HP13.out.box.at_ h) (by rw [← HCC.out]; rfl) ?_) | (refine wpList_box rfl 51 (.tmp 4) (.tmp 55) rfl w.heap.size 0 _ C rfl rfl rfl HP13.out.res (by rw [agg69.1, ← HCC.out]; rfl) (by rw [← HCC.out]; exact Nat.le_refl _) (by rw [← HCC.out]; exact ac_ones _) C (by rw [List.drop_eq_nil_of_le (by rw [← HCC.out]; exact Nat.le_refl _)]; simp) ?_; intro wz Bz gz; have HBz := Lib.hid Bz; have HGz := Lib.hid gz; clear Bz gz))
            have HQF : Hid (Q8 E w13 ((Rs.ok a3 ts).bind fun _ ts => pPref ts)) := Lib.hid (by
              show Q8 E w13 (pPref ts)
              rw [HPP.out]
              have := HR13.out
              revert this
              show Q8 E w13 (pAtom ts.tail) → _
              cases pAtom ts.tail with
              | bad q => exact fun h => h
              | ok b t => exact fun h => h)
            obtain ⟨t1, t2⟩ := HAR.out (⟨id, ⟨av, ⟨ak, at_, an⟩⟩, ⟨vo, ⟨va, ⟨vk, vt, vn⟩⟩, ⟨ua, ⟨uk, ut, un⟩⟩⟩, 1 + (i : Int) + 3, ⟨xv, ⟨xk, xt, xn⟩⟩⟩ : Ac) rfl (by intro q t e; replace e : pPref ts = .ok q t := e; rw [HPP.out] at e; obtain ⟨b, t2, e1, e2⟩ := bind_ok.1 e; cases e2; rw [← HQX.out _ _ e1]; show ((1 + (i : Int) + 3 : Int), (⟨xv, ⟨xk, xt, xn⟩⟩ : Am)) = (4 + (i : Int), ⟨xv, ⟨xk, xt, xn⟩⟩); congr 1; omega)
            have hres := run_loadVar_box HBz.out us69 (n := 19) (by rw [← HCC.out]; rfl)
            exact bodyPost_ret (v := .agg C.toArray) (results_cell Tryz.results67 _ _ rfl hres) rfl ⟨⟨(⟨id, ⟨av, ⟨ak, at_, an⟩⟩, ⟨vo, ⟨va, ⟨vk, vt, vn⟩⟩, ⟨ua, ⟨uk, ut, un⟩⟩⟩, 1 + (i : Int) + 3, ⟨xv, ⟨xk, xt, xn⟩⟩⟩ : Ac), by rw [← HCC.out]; rfl, HBIG.out _ _ HSX.out, t2⟩, HP13.out.mv.new HGz.out (Nat.le_refl _), t1 E _ (Q8.new H.out HQF.out HGz.out (Nat.le_refl _))⟩
      | false =>
        rw [hq] at HS'
        go_wp2_with (go_at_call 40; refine HS'.out.mono ?_; rintro x w6 ⟨rfl, b6⟩)
        go_roundw
        case rel => exact ⟨i + 1, by omega, by go_num, Lib.hid (b.out.trans (b6.mono b.out.size)), Lib.hid (fun j s' hj hs' => by
          rcases Nat.lt_succ_iff_lt_or_eq.1 hj with h | rfl
          · exact hF.out j s' h hs'
          · rw [HH.out] at hs'; cases hs'; exact hq)⟩
        case measure => simp [intOf]; omega
    · have hi7 : i = 7 := by omega
      subst hi7
      have HPP : Hid (∀ (q : Int × Am) (t : List Tk), (r3.bind fun _ ts => pPref ts) = .ok q t → (1, nilAm) = q) := Lib.hid (by
        intro q t e
        obtain ⟨b, t2, e1, e2⟩ := bind_ok.1 e
        subst e1
        have hp := pref_false (t := headT t2) (fun j s hj hs => by rw [← tokB_sign _ (pgs_ne j s hs)]; exact hF.out j s hj hs)
        unfold pPref at e2
        rw [hp, if_pos rfl] at e2
        cases e2
        rfl)
      have HQF : Hid (Q8 E wr (r3.bind fun _ ts => pPref ts)) := Lib.hid (by
        have h0 := HR6.out.below b.out
        cases r3 with
        | bad q => exact h0
        | ok a t2 =>
          have hp := pref_false (t := headT t2) (fun j s hj hs => by rw [← tokB_sign _ (pgs_ne j s hs)]; exact hF.out j s hj hs)
          show Q8 E wr (pPref t2)
          unfold pPref
          rw [hp, if_pos rfl]
          exact h0)
      go_wp2_with (first | (obtain ⟨C, hC⟩ : ∃ C, (⟨id, ⟨av, ⟨ak, at_, an⟩⟩, ⟨vo, ⟨va, ⟨vk, vt, vn⟩⟩, ⟨ua, ⟨uk, ut, un⟩⟩⟩, 1, nilAm⟩ : Ac).cells = C := ⟨_, rfl⟩; have HCC : Hid ((⟨id, ⟨av, ⟨ak, at_, an⟩⟩, ⟨vo, ⟨va, ⟨vk, vt, vn⟩⟩, ⟨ua, ⟨uk, ut, un⟩⟩⟩, 1, nilAm⟩ : Ac).cells = C) := Lib.hid hC; clear hC; refine wpList_load_agg (o := ⟨some 56, _, _, _, _, _⟩) agg69 rfl _ rfl ⟨w.heap.size + 1, 0, none⟩ rfl C (by intro j u h; rw [addr_add_lit, Nat.zero_add]; rw [← HCC.out] at h; exact HPR.out.box.at_ h) (by rw [← HCC.out]; rfl) ?_) | (refine wpList_box rfl 51 (.tmp 4) (.tmp 56) rfl w.heap.size 0 _ C rfl rfl rfl HPR.out.res (by rw [agg69.1, ← HCC.out]; rfl) (by rw [← HCC.out]; exact Nat.le_refl _) (by rw [← HCC.out]; exact ac_ones _) C (by rw [List.drop_eq_nil_of_le (by rw [← HCC.out]; exact Nat.le_refl _)]; simp) ?_; intro wz Bz gz; have HBz := Lib.hid Bz; have HGz := Lib.hid gz; clear Bz gz))
      obtain ⟨t1, t2⟩ := HAR.out (⟨id, ⟨av, ⟨ak, at_, an⟩⟩, ⟨vo, ⟨va, ⟨vk, vt, vn⟩⟩, ⟨ua, ⟨uk, ut, un⟩⟩⟩, 1, nilAm⟩ : Ac) rfl HPP.out
      have hres := run_loadVar_box HBz.out us69 (n := 19) (by rw [← HCC.out]; rfl)
      exact bodyPost_ret (v := .agg C.toArray) (results_cell Tryz.results67 _ _ rfl hres) rfl ⟨⟨(⟨id, ⟨av, ⟨ak, at_, an⟩⟩, ⟨vo, ⟨va, ⟨vk, vt, vn⟩⟩, ⟨ua, ⟨uk, ut, un⟩⟩⟩, 1, nilAm⟩ : Ac), by rw [← HCC.out]; rfl, HBIG.out _ _ ⟨nil_size, nil_size⟩, t2⟩, HPR.out.mv.new HGz.out (Nat.le_refl _), t1 E _ (Q8.new H.out HQF.out HGz.out (Nat.le_refl _))⟩
end Go.Proofs.YtgeaccoobhigcaaGreat
namespace Go.Proofs.YtgeaccoobhigcaaGreat
open Go Go.RowKit

set_option maxRecDepth 100000 in
set_option maxHeartbeats 4000000 in
theorem acts8 {α : Type} {E : Env} {r : Rs α} (w : World) (h : Q8 E w r) : Calls Tryz.prog 41 #[E.ptr] w fun x w' => OwnIs mkAct 51 (fun a => a) w.heap.size w' (r.bind fun _ ts => pActs ts) x ∧ Mv E w w' ∧ Q8 E w' (r.bind fun _ ts => pActs ts) := by
  have HTK := Lib.hid (take8 w h 4 (by decide) bOpen 4 rfl)
  have HLO := Lib.hid h.lows
  have HLJ : Hid (E.ib < w.heap.size) := Lib.hid (by have := h.one; have := h.lows; omega)
  have H := Lib.hid h
  obtain ⟨i0, z0, hi, hz0, hz1, hz2⟩ := acts_info
  have hzs : z0.cells.size = 19 := acts_zero hi hz0
  obtain ⟨Z, hZ⟩ : ∃ Z, (r.bind fun _ ts => pActs ts) = Z := ⟨_, rfl⟩
  rw [hZ]
  obtain ⟨r1, hr1⟩ : ∃ r1, (r.bind fun _ ts => pTok 4 bOpen ts) = r1 := ⟨_, rfl⟩
  have HE1 : Hid (Z = r1.bind fun _ ts1 => (pText 3 ts1).bind fun id ts2 => pEnds (pAct id) ⟨#[41]⟩ ts2) := Lib.hid (by
    rw [← hr1, take_bind (s := bOpen) rfl, ← hZ]
    rfl)
  rw [hr1] at HTK
  clear h hZ hr1
  unfold Env.ptr bOpen at *
  go_enter Tryz.func41, Tryz.ntmps41
  go_wp2_with fail
  refine HTK.out.mono ?_
  rintro x w1 ⟨⟨_, rfl, _⟩, hm, hr⟩
  have HMA := Lib.hid hm
  have HTX := Lib.hid (take8 _ hr 3 (by decide) ⟨#[]⟩ 3 rfl)
  unfold Env.ptr at HTX
  clear hm hr HTK
  go_wp2_with fail
  refine HTX.out.mono ?_
  rintro x w3 ⟨⟨s, rfl, hs, hsq⟩, hm, hr⟩
  have HM3 := Lib.hid (HMA.out.trans hm)
  obtain ⟨r3, hr3⟩ : ∃ r3, (r1.bind fun _ ts => pTok 3 ⟨#[]⟩ ts) = r3 := ⟨_, rfl⟩
  rw [hr3] at hr hsq
  have HE : Hid ((r3.bind fun _ ts => pEnds (pAct s) ⟨#[41]⟩ ts) = Z) := Lib.hid (by
    rw [HE1.out, ← hr3]
    cases r1 with
    | bad q => rfl
    | ok a ts =>
      simp only [Rs.bind]
      rw [← pTok_text]
      cases hp : pTok 3 ⟨#[]⟩ ts with
      | bad q => rfl
      | ok id t =>
        have := hsq id t (by rw [← hr3]; exact hp)
        subst this
        rfl)
  have HR3 := Lib.hid hr
  have HS := Lib.hid hs
  clear hm hr hs hsq hr3 HTX HMA HE1
  go_wp2_with fail
  refine (act8 _ HR3.out s HS.out).mono ?_
  rintro x w4 ⟨⟨u, rfl, hbig, hq⟩, hm, hr⟩
  have hg := Grows8.first (M := mkAct) (e := 51) (abs := fun a : Ac => a) (E := E) (w := w) (p := pAct s) (stop := ⟨#[41]⟩) (u := u) (tmp := u.cells.toArray) HR3.out (HM3.out.trans hm) rfl hbig trivial (pAct_eats s) hr hq
  rw [HE.out] at hg
  obtain ⟨n0, hg⟩ := hg
  have HG := Lib.hid hg
  clear hg hbig hq hm hr HM3 HR3 HE
  go_wp2_with (refine wpList_slice1 (o := ⟨some 12, _, _, _, _, _⟩) rfl 24 (.tmp 11) rfl 51 u.cells.toArray rfl i0 z0 Tryz.underlying24 hi hz0 (by rw [hz1]; rfl) (by show 0 < 19; omega) (by show 19 ≤ 1000; omega) ?_)
  go_loopg [4] n0 (fun gk v wr => ∃ l : List Ac, Hid (Grows8 mkAct 51 (fun a => a) E w Z (pAct s) ⟨#[41]⟩ v l gk wr))
  case atStart => exact ⟨_, HG⟩
  case round =>
    clear HG
    obtain ⟨l, HG⟩ := hrel
    obtain ⟨ao, c, rfl, hd⟩ := HG.out.deep
    clear hd
    rcases HG.out.goes with ⟨ts1, hr, hlen, hcnt, hR⟩ | ⟨q, hr, hR⟩
    · obtain ⟨k1, hQ1, rfl⟩ := hr
      obtain ⟨c0, c1, c2⟩ := three_box hQ1.box
      have hr : Q8 E wr (.ok () (E.L.drop k1)) := hQ1.q8
      obtain ⟨gk, rfl⟩ : ∃ g, gk = g + 1 := ⟨gk - 1, by omega⟩
      have hI := sign8 _ hr ⟨#[41]⟩
      rw [isQ_sign rfl] at hI
      cases hb : isB (headT (E.L.drop k1)) ⟨#[41]⟩ with
      | true =>
        rw [hb] at hI
        rw [rest_stop hb] at hR
        have hp : ((Rs.ok () (E.L.drop k1)).bind fun _ ts => pTok 4 ⟨#[41]⟩ ts) = .ok (textB (headT (E.L.drop k1))) (E.L.drop k1).tail := by
          show pTok 4 ⟨#[41]⟩ (E.L.drop k1) = _
          unfold pTok
          rw [tokB_sign _ rfl, hb]
          rfl
        have hT := fun W (b : Below wr.heap.size wr W) => take8 W (hr.below b) 4 (by decide) ⟨#[41]⟩ 4 rfl
        rw [hp] at hT
        have HI := Lib.hid hI
        have HT := Lib.hid hT
        have HRR := Lib.hid hR
        have hll : l.length ≤ 1000001 := HG.out.len
        clear hR hr hlen hcnt hI hT hb hp hQ1
        generalize textB (headT (E.L.drop k1)) = TT at HT
        unfold Env.ptr at HI HT
        go_wp2_with (first | (go_at_call 40; refine HI.out.mono ?_; rintro x w13 ⟨rfl, b3⟩))
        refine (HT.out _ b3).mono ?_
        rintro x w14 ⟨⟨_, rfl, _⟩, hm0, hr⟩
        have hm : Mv E wr w14 := (Mv.of_below b3).trans hm0
        have HO4 := Lib.hid (HG.out.own.moved hm HLO.out HLJ.out)
        have HM4 := Lib.hid (HG.out.mv.trans hm)
        have HR4 := Lib.hid hr
        clear hm hr hm0 b3 c0 c1 c2
        go_wp2
        go_ret
        exact ⟨⟨_, l, rfl, HO4.out, hll, by intro a t e; rw [HRR.out] at e; cases e; rfl⟩, HM4.out, by rw [HRR.out]; exact HR4.out⟩
      | false =>
        rw [hb] at hI
        have HI := Lib.hid hI
        have HG3 := Lib.hid (fun w3 (b : Below wr.heap.size wr w3) => HG.out.below H.out b)
        have HT := Lib.hid (fun w3 (b : Below wr.heap.size wr w3) => act8 w3 (hr.below b) s HS.out)
        have HMR := Lib.hid (fun w3 (b : Below wr.heap.size wr w3) u w0 w' v' => Grows8.more (u := u) (w0 := w0) (w' := w') (v' := v') H.out (HG.out.below H.out b) hlen hcnt hR hb (pAct_eats s))
        have hll : l.length ≤ 1000000 := by simp at hcnt; omega
        clear hR hr hlen hcnt hI hb hQ1
        unfold Env.ptr at HI HT
        go_wp2_with (first | (go_at_call 40; refine HI.out.mono ?_; rintro x w13 ⟨rfl, b3⟩))
        refine (HT.out _ b3).mono ?_
        rintro x w14 ⟨⟨u, rfl, hbig, hq⟩, hm, hr⟩
        have HM := Lib.hid hm
        have HBG := Lib.hid hbig
        have HQ := Lib.hid hq
        have HR4 := Lib.hid hr
        have HG4 := Lib.hid (HG3.out _ b3)
        have HMR4 := Lib.hid (HMR.out _ b3)
        clear hm hbig hq hr HG3 HMR b3
        go_wp2_with (first | (refine wpList_slice1 (o := ⟨some 27, _, _, _, _, _⟩) rfl 24 (.tmp 26) rfl 51 u.cells.toArray rfl i0 z0 Tryz.underlying24 hi hz0 (by rw [hz1]; rfl) (by show 0 < 19; omega) (by show 19 ≤ 1000; omega) ?_) | (at_builtin; refine wpList_push3 rfl (.tmp 23) (.tmp 27) 24 rfl mkAct 51 i0 _ 224 Tryz.underlying24 hi hz0 hz1 hz2 hzs (by omega) (E := E) (w := w) (wr := w13) (w0 := w14) _ l u rfl HG4.out.own HG4.out.mv HM.out HLO.out HLJ.out HBG.out trivial hll _ rfl rfl rfl ?_; intro go' c' w5 ho5 hg5))
        have HN := Lib.hid (HMR4.out _ _ _ _ HM.out HR4.out HQ.out ho5 hg5)
        clear ho5 hg5 c0 c1 c2
        go_wp2
        go_roundg gk
        case rel => exact ⟨_, HN⟩
        case measure => omega
    · obtain ⟨k1, hQ1, he1⟩ := hr
      obtain ⟨c0, c1, c2⟩ := three_box hQ1.box
      have hr : Q8 E wr (.bad q : Rs Unit) := ⟨k1, hQ1, he1⟩
      have HT := Lib.hid (take8 _ hr 4 (by decide) ⟨#[41]⟩ 4 rfl)
      have HRR := Lib.hid hR
      have hll : l.length ≤ 1000001 := HG.out.len
      clear hR hr hQ1
      unfold Env.ptr at HT
      go_wp2_with fail
      refine HT.out.mono ?_
      rintro x w14 ⟨⟨_, rfl, _⟩, hm, hr⟩
      have HO4 := Lib.hid (HG.out.own.moved hm HLO.out HLJ.out)
      have HM4 := Lib.hid (HG.out.mv.trans hm)
      have HR4 := Lib.hid hr
      clear hm hr c0 c1 c2
      go_wp2
      go_ret
      exact ⟨⟨_, l, rfl, HO4.out, hll, by intro a t e; rw [HRR.out] at e; cases e⟩, HM4.out, by rw [HRR.out]; exact HR4.out⟩
end Go.Proofs.YtgeaccoobhigcaaGreat
namespace Go.Proofs.YtgeaccoobhigcaaGreat
open Go Go.RowKit

/-- Lists up to a sign, one at least. -/
def pFlat {β : Type} (p : Pr (List β)) (stop : ByteArray) : Pr (List β) := fun ts => (pMany1 p stop ts).bind fun l t => .ok l.flatten t
def contL {β : Type} (p : Pr (List β)) (stop : ByteArray) (n : Nat) (acc : List β) (ts : List Tk) : Rs (List β) := (pMany p stop n ts).bind fun m t => .ok (acc ++ m.flatten) t
section
variable {β : Type} {p : Pr (List β)} {stop : ByteArray} {n : Nat} {acc a : List β} {ts ts' : List Tk} {q : Nat}
theorem contL_first (h : p ts = .ok a ts') : pFlat p stop ts = contL p stop (ts'.length + 1) a ts' := by
  unfold pFlat pMany1 contL
  rw [h]
  simp only [Rs.bind]
  cases pMany p stop (ts'.length + 1) ts' with
  | bad q => rfl
  | ok m t => rfl
theorem contL_first_bad (h : p ts = .bad q) : pFlat p stop ts = .bad q := by
  unfold pFlat pMany1
  rw [h]
  rfl
theorem contL_next (hs : isB (headT ts) stop = false) (h : p ts = .ok a ts') : contL p stop (n + 1) acc ts = contL p stop n (acc ++ a) ts' := by
  unfold contL
  conv => lhs; unfold pMany
  rw [hs, h]
  simp only [Bool.false_eq_true, if_false, Rs.bind]
  cases pMany p stop n ts' with
  | bad q => rfl
  | ok m t => simp
theorem contL_bad (hs : isB (headT ts) stop = false) (h : p ts = .bad q) : contL p stop (n + 1) acc ts = .bad q := by
  unfold contL
  conv => lhs; unfold pMany
  rw [hs, h]
  rfl
theorem contL_stop (hs : isB (headT ts) stop = true) : contL p stop (n + 1) acc ts = .ok acc ts := by
  unfold contL
  conv => lhs; unfold pMany
  rw [hs]
  simp [Rs.bind]
end
/-- It takes a token, and gives no more than it takes. -/
structure Takes {β : Type} (p : Pr (List β)) : Prop where
  eats : ∀ ts a t, p ts = .ok a t → t.length < ts.length
  count : ∀ ts a t, p ts = .ok a t → a.length + t.length ≤ ts.length
theorem takes_cond (n : Nat) : Takes (pCond n) := ⟨fun _ _ _ h => pCond_eats _ _ _ _ h, fun _ _ _ h => pCond_count _ _ _ _ h⟩
theorem takes_acts : Takes pActs := ⟨fun _ _ _ h => pActs_eats _ _ _ h, fun _ _ _ h => pActs_count h⟩
/-- How such a loop stands. -/
def GoesL {β : Type} (E : Env) (wr : World) (p : Pr (List β)) (stop : ByteArray) (m : Nat) (Z : Rs (List β)) (acc : List β) (k : Nat) : Prop :=
  (∃ ts, Q8 E wr (.ok () ts) ∧ acc.length + ts.length ≤ 1000000 ∧ ts.length < k ∧ ts.length < m ∧ Z = contL p stop k acc ts) ∨ (∃ q, Q8 E wr (.bad q : Rs Unit) ∧ Z = .bad q)
section
variable {β γ : Type} {E : Env} {w wr w0 w' : World} {p : Pr (List β)} {stop : ByteArray} {m k : Nat} {Z : Rs (List β)} {acc a : List β} {ts : List Tk}
theorem GoesL.first {r : Rs γ} (hp : Takes p) (hm : ∀ a ts, r = .ok a ts → ts.length < m ∧ ts.length ≤ 1000000) (hr : Q8 E w' (r.bind fun _ ts => p ts)) (hq : ∀ a t, (r.bind fun _ ts => p ts) = .ok a t → acc = a) :
    ∃ k, GoesL E w' p stop m (r.bind fun _ ts => pFlat p stop ts) acc k := by
  cases r with
  | bad q => exact ⟨0, .inr ⟨q, hr, rfl⟩⟩
  | ok b ts =>
    simp only [Rs.bind] at hr hq ⊢
    obtain ⟨h1, h2⟩ := hm _ _ rfl
    cases hpt : p ts with
    | bad q =>
      rw [hpt] at hr
      exact ⟨0, .inr ⟨q, hr, contL_first_bad hpt⟩⟩
    | ok a t =>
      rw [hpt] at hr hq
      obtain rfl := hq _ _ rfl
      have h3 := hp.eats _ _ _ hpt
      have h4 := hp.count _ _ _ hpt
      exact ⟨t.length + 1, .inl ⟨t, hr, by omega, by omega, by omega, contL_first hpt⟩⟩
theorem GoesL.more (hp : Takes p) (hcnt : acc.length + ts.length ≤ 1000000) (hlen : ts.length < k + 1) (hm : ts.length < m) (hZ : Z = contL p stop (k + 1) acc ts) (hb : isB (headT ts) stop = false) (hr : Q8 E w' (p ts)) (hq : ∀ b t, p ts = .ok b t → a = b) :
    GoesL E w' p stop m Z (acc ++ a) k := by
  cases hpt : p ts with
  | bad q =>
    rw [hpt] at hr
    exact .inr ⟨q, hr, hZ.trans (contL_bad hb hpt)⟩
  | ok b t =>
    rw [hpt] at hr hq
    obtain rfl := hq _ _ rfl
    have h3 := hp.eats _ _ _ hpt
    have h4 := hp.count _ _ _ hpt
    exact .inl ⟨t, hr, by simp; omega, by omega, by omega, hZ.trans (contL_next hb hpt)⟩
theorem GoesL.kept (h : GoesL E w p stop m Z acc k) (f : ∀ (r : Rs Unit), Q8 E w r → Q8 E w' r) : GoesL E w' p stop m Z acc k := by
  rcases h with ⟨ts, h1, h2⟩ | ⟨q, h1, h2⟩
  · exact .inl ⟨ts, f _ h1, h2⟩
  · exact .inr ⟨q, f _ h1, h2⟩
end
/-- A production's parts in memory while one list of it is read: b its box, wc the world ahead of the list. -/
structure PR8 (E : Env) (w wc : World) (b : Nat) (cs : List Value) (wr : World) : Prop where
  mv : Mv E w wr
  res : BoxC wr w.heap.size 26 [.string ⟨#[]⟩, .slice none 0 0, .slice none 0 0]
  low : w.heap.size < b
  lowc : b < wc.heap.size
  box : BoxC wr b 26 cs
  size : wc.heap.size ≤ wr.heap.size
  keep : ∀ j, j < wc.heap.size → j ≠ E.r → j ≠ E.ib → j ≠ b → wr.heap[j]? = wc.heap[j]?
section
variable {E : Env} {w wc wr w' : World} {b : Nat} {cs cs' : List Value}
theorem PR8.moved (h : PR8 E w wc b cs wr) (m : Mv E wr w') (hr : E.r < w.heap.size) (hi : E.ib < w.heap.size) : PR8 E w wc b cs w' := by
  have h1 := h.low
  have h2 := h.size
  have h3 := m.size
  exact ⟨h.mv.trans m, m.box h.res (by omega) (by omega), h1, h.lowc, m.box h.box (by omega) (by omega), by omega, fun j hj a1 a2 a3 => (m.block j (by omega) a1 a2).trans (h.keep j hj a1 a2 a3)⟩
theorem PR8.put (h : PR8 E w wc b cs wr) (g : wr.grownBy w' (some b)) (hb : BoxC w' b 26 cs') : PR8 E w wc b cs' w' := by
  have h1 := h.low
  have h2 := h.size
  have h3 := g.size
  exact ⟨h.mv.new g (Nat.le_of_lt h1), h.res.grown g (by simp; omega), h1, h.lowc, hb, by omega, fun j hj a1 a2 a3 => (g.block j (by omega) (by intro e; injection e with e; exact a3 e)).trans (h.keep j hj a1 a2 a3)⟩
theorem PR8.push {row : Option Nat} (h : PR8 E w wc b cs wr) (g : wr.grownBy w' row) (hr : ∀ x, row = some x → wc.heap.size ≤ x) : PR8 E w wc b cs w' := by
  have h1 := h.low
  have h2 := h.size
  have h3 := g.size
  have h4 := h.lowc
  exact ⟨h.mv.grown g fun x e => .inr (.inr (by have := hr x e; omega)), h.res.grown g (fun e => by have := hr _ e.symm; omega), h1, h4, h.box.grown g (fun e => by have := hr _ e.symm; omega), by omega, fun j hj a1 a2 a3 => (g.block j (by omega) (fun e => by have := hr _ e.symm; omega)).trans (h.keep j hj a1 a2 a3)⟩
end
theorem prod_rest {γ : Type} {r : Rs γ} {r3 : Rs ByteArray} {ZC : Rs (List Cd)} {rA rE : Rs ByteArray} {ZL : Rs (List Ac)} {Z : Rs Pd} {m : Nat} (hZ : (r.bind fun _ ts => pProd ts) = Z)
    (e3 : (((r.bind fun _ ts => pTok 1 ⟨#[115, 112]⟩ ts).bind fun _ ts => pTok 4 ⟨#[123]⟩ ts).bind fun _ ts => pTok 1 ⟨#[]⟩ ts) = r3) (hm : ∀ a ts, r3 = .ok a ts → m = ts.length + 1)
    (eC : (r3.bind fun _ ts => pFlat (pCond m) ⟨#[45, 45, 62]⟩ ts) = ZC) (eA : (ZC.bind fun _ ts => pTok 4 ⟨#[45, 45, 62]⟩ ts) = rA) (eL : (rA.bind fun _ ts => pFlat pActs ⟨#[125]⟩ ts) = ZL) (eE : (ZL.bind fun _ ts => pTok 4 ⟨#[125]⟩ ts) = rE)
    (nm : ByteArray) (L1 : List Cd) (L2 : List Ac) (hn : ∀ a t, r3 = .ok a t → nm = a) (h1 : ∀ a t, ZC = .ok a t → L1 = a) (h2 : ∀ a t, ZL = .ok a t → L2 = a) :
    (∀ (E : Env) (w : World), Q8 E w rE → Q8 E w Z) ∧ ∀ p t, Z = .ok p t → (⟨nm, L1, L2⟩ : Pd) = p := by
  subst eE
  cases r with
  | bad q => subst hZ e3 eC eA eL; exact ⟨fun _ _ h => h, fun _ _ e => by cases e⟩
  | ok a ts =>
    cases hs : spHere (headT ts) with
    | false =>
      have hb : pTok 1 ⟨#[115, 112]⟩ ts = badAt ts := by unfold pTok; rw [show tokB (headT ts) 1 ⟨#[115, 112]⟩ = false from hs]; rfl
      simp only [Rs.bind] at e3 hZ
      rw [hb] at e3
      rw [pProd_no hs] at hZ
      subst hZ e3 eC eA eL
      exact ⟨fun _ _ h => h, fun _ _ e => by cases e⟩
    | true =>
      have hb : pTok 1 ⟨#[115, 112]⟩ ts = .ok (textB (headT ts)) ts.tail := by unfold pTok; rw [show tokB (headT ts) 1 ⟨#[115, 112]⟩ = true from hs]; rfl
      simp only [Rs.bind] at e3 hZ
      rw [hb] at e3
      rw [pProd_sp hs] at hZ
      simp only at e3
      rw [show pTake bLeft ts.tail = (pTok 4 bLeft ts.tail).bind fun _ t => .ok () t from (pTok_take rfl _).symm] at hZ
      rw [show (⟨#[123]⟩ : ByteArray) = bLeft from rfl] at e3
      cases hl : pTok 4 bLeft ts.tail with
      | bad q => rw [hl] at e3 hZ; subst hZ e3 eC eA eL; exact ⟨fun _ _ h => h, fun _ _ e => by cases e⟩
      | ok b t1 =>
        rw [hl] at e3 hZ
        simp only [Rs.bind] at e3 hZ
        rw [pTok_text] at e3
        cases hx : pText 1 t1 with
        | bad q => rw [hx] at e3 hZ; subst hZ e3 eC eA eL; exact ⟨fun _ _ h => h, fun _ _ e => by cases e⟩
        | ok id t2 =>
          rw [hx] at e3 hZ
          subst e3
          obtain rfl := hn _ _ rfl
          obtain rfl := hm _ _ rfl
          simp only [Rs.bind] at eC hZ
          rw [show pConds (t2.length + 1) bArrow t2 = pFlat (pCond (t2.length + 1)) ⟨#[45, 45, 62]⟩ t2 from rfl, eC] at hZ
          cases ZC with
          | bad q => subst hZ eA eL; exact ⟨fun _ _ h => h, fun _ _ e => by cases e⟩
          | ok cs t3 =>
            obtain rfl := h1 _ _ rfl
            simp only [Rs.bind] at eA hZ
            rw [show pTake bArrow t3 = (pTok 4 ⟨#[45, 45, 62]⟩ t3).bind fun _ t => .ok () t from (pTok_take (s := bArrow) rfl _).symm, eA] at hZ
            cases rA with
            | bad q => subst hZ eL; exact ⟨fun _ _ h => h, fun _ _ e => by cases e⟩
            | ok b2 t4 =>
              simp only [Rs.bind] at eL hZ
              have hal : pAll pActs bRight t4 = (pFlat pActs ⟨#[125]⟩ t4).bind fun l t => (pTake bRight t).bind fun _ t' => .ok l t' := by
                show (((pMany1 pActs bRight t4).bind fun l t => (pTake bRight t).bind fun _ t => .ok l t).bind fun l t => .ok l.flatten t) = (((pMany1 pActs bRight t4).bind fun l t => .ok l.flatten t).bind fun l t => (pTake bRight t).bind fun _ t' => .ok l t')
                cases pMany1 pActs bRight t4 with
                | bad q => rfl
                | ok l t =>
                  simp only [Rs.bind]
                  cases pTake bRight t with
                  | bad q => rfl
                  | ok _ t' => rfl
              rw [hal, eL] at hZ
              cases ZL with
              | bad q => subst hZ; exact ⟨fun _ _ h => h, fun _ _ e => by cases e⟩
              | ok al t5 =>
                obtain rfl := h2 _ _ rfl
                simp only [Rs.bind] at hZ ⊢
                rw [show pTake bRight t5 = (pTok 4 ⟨#[125]⟩ t5).bind fun _ t => .ok () t from (pTok_take (s := bRight) rfl _).symm] at hZ
                subst hZ
                cases pTok 4 ⟨#[125]⟩ t5 with
                | bad q => exact ⟨fun _ _ h => h, fun _ _ e => by cases e⟩
                | ok b3 t6 => exact ⟨fun _ _ h => h, fun _ _ e => by cases e; rfl⟩
/-- A production of the document's reader comes back. -/
def Prod8 (base : Nat) (w' : World) (R : Rs Pd) (x : Ending) : Prop := ∃ (nm : ByteArray) (v1 v2 : Value) (l1 : List CondR) (l2 : List Ac), x = .returned (.agg #[.string nm, v1, v2]) ∧ nm.size ≤ 1000000 ∧ OwnD mkCond base 43 w' v1 l1 ∧ OwnD mkAct base 51 w' v2 l2 ∧
  l1.length ≤ 2000001 ∧ l2.length ≤ 2000001 ∧ ∀ p t, R = .ok p t → (⟨nm, l1.map CondR.abs, l2⟩ : Pd) = p
end Go.Proofs.YtgeaccoobhigcaaGreat
namespace Go.Proofs.YtgeaccoobhigcaaGreat
open Go Go.RowKit

theorem sz24q : (Tryz.prog.info? 24).map (·.size) = some 1 := by kernel_rfl
theorem PR8.again {E : Env} {w wc wr : World} {b : Nat} {cs : List Value} (h : PR8 E w wc b cs wr) : PR8 E w wr b cs wr := ⟨h.mv, h.res, h.low, Nat.lt_of_lt_of_le h.lowc h.size, h.box, Nat.le_refl _, fun _ _ _ _ _ => rfl⟩
theorem PR8.own {α : Type} {M : Make α} {base : Nat} {e : TypeId} {v : Value} {l : List α} {E : Env} {w wc wa wr : World} {b : Nat} {cs cs' : List Value} (h0 : PR8 E w wc b cs wa) (h : PR8 E w wa b cs' wr) (ho : OwnD M base e wa v l) (hr : E.r < base) (one : E.ib = E.r) (hb : b < base) : OwnD M base e wr v l :=
  OwnD.moved (E := { E with ib := b }) ho ⟨h.mv.os.trans h0.mv.os.symm, h.mv.tape.trans h0.mv.tape.symm, h.mv.output.trans h0.mv.output.symm, h.size, fun k hk h1 h2 => h.keep k hk h1 (by rw [one]; exact h1) h2⟩ hr hb
def fuelOf {α : Type} (r : Rs α) : Nat := match r with | .bad _ => 0 | .ok _ ts => ts.length + 1
set_option maxRecDepth 100000 in
set_option maxHeartbeats 16000000 in
theorem prod8 {α : Type} {E : Env} {r : Rs α} (w : World) (h : Q8 E w r) : Calls Tryz.prog 20 #[E.ptr] w fun x w' => Prod8 w.heap.size w' (r.bind fun _ ts => pProd ts) x ∧ Mv E w w' ∧ Q8 E w' (r.bind fun _ ts => pProd ts) := by
  have HT1 := Lib.hid (fun W (h : Q8 E W r) => take8 W h 1 (by decide) ⟨#[115, 112]⟩ 1 rfl)
  have HLO := Lib.hid h.lows
  have HLJ : Hid (E.ib < w.heap.size) := Lib.hid (by have := h.one; have := h.lows; omega)
  have H := Lib.hid h
  obtain ⟨Z, hZ⟩ : ∃ Z, (r.bind fun _ ts => pProd ts) = Z := ⟨_, rfl⟩
  rw [hZ]
  obtain ⟨r3, e3⟩ : ∃ r3, (((r.bind fun _ ts => pTok 1 ⟨#[115, 112]⟩ ts).bind fun _ ts => pTok 4 ⟨#[123]⟩ ts).bind fun _ ts => pTok 1 ⟨#[]⟩ ts) = r3 := ⟨_, rfl⟩
  obtain ⟨m, hmd⟩ : ∃ m, fuelOf r3 = m := ⟨_, rfl⟩
  have hm1 : ∀ a ts, r3 = .ok a ts → m = ts.length + 1 := by intro a ts e; rw [← hmd, e]; rfl
  obtain ⟨ZC, eC⟩ : ∃ ZC, (r3.bind fun _ ts => pFlat (pCond m) ⟨#[45, 45, 62]⟩ ts) = ZC := ⟨_, rfl⟩
  obtain ⟨rA, eA⟩ : ∃ rA, (ZC.bind fun _ ts => pTok 4 ⟨#[45, 45, 62]⟩ ts) = rA := ⟨_, rfl⟩
  obtain ⟨ZL, eL⟩ : ∃ ZL, (rA.bind fun _ ts => pFlat pActs ⟨#[125]⟩ ts) = ZL := ⟨_, rfl⟩
  obtain ⟨rE, eE⟩ : ∃ rE, (ZL.bind fun _ ts => pTok 4 ⟨#[125]⟩ ts) = rE := ⟨_, rfl⟩
  have HREST := Lib.hid (fun nm L1 L2 => prod_rest hZ e3 hm1 eC eA eL eE nm L1 L2)
  have HM := Lib.hid hm1
  have HE3 := Lib.hid e3
  have HEC := Lib.hid eC
  have HEA := Lib.hid eA
  have HEL := Lib.hid eL
  have HEE := Lib.hid eE
  have HCC := Lib.hid (fun W (a : Unit) ts (h : Q8 E W (.ok a ts)) (hl : ts.length < m) => conds8 m _ E W (.ok a ts) h (fun _ _ e => by cases e; exact hl))
  have HCA := Lib.hid (fun W (a : Unit) ts (h : Q8 E W (.ok a ts)) => acts8 W h)
  have HC0 := Lib.hid (fun W (h : Q8 E W r3) => conds8 m _ E W r3 h (fun _ _ e => by rw [hm1 _ _ e]; exact Nat.lt_succ_self _))
  have HRS := Lib.hid (BoxC.new w [.string ⟨#[]⟩, .slice none 0 0, .slice none 0 0] 26)
  have HM0 := Lib.hid ((Mv.refl E w).alloc (.cells #[.string ⟨#[]⟩, .slice none 0 0, .slice none 0 0] 26))
  clear h hZ hmd hm1 e3 eC eA eL eE
  unfold Env.ptr at *
  go_enter Tryz.func20, Tryz.ntmps20
  go_wp2_with fail
  refine (HT1.out _ (H.out.alloc _)).mono ?_
  rintro x w1 ⟨⟨_, rfl, _⟩, hm, hr⟩
  have HR1 := Lib.hid (hm.box HRS.out (by have := HLO.out; omega) (by have := HLJ.out; omega))
  have HM1 := Lib.hid (HM0.out.trans hm)
  have HT2 := Lib.hid (take8 w1 hr 4 (by decide) ⟨#[123]⟩ 4 rfl)
  unfold Env.ptr at HT2
  clear hm hr HT1 HRS HM0
  go_wp2_with fail
  refine HT2.out.mono ?_
  rintro x w2 ⟨⟨_, rfl, _⟩, hm, hr⟩
  have HR2 := Lib.hid (hm.box HR1.out (by have := HLO.out; omega) (by have := HLJ.out; omega))
  have HM2 := Lib.hid (HM1.out.trans hm)
  have HT3 := Lib.hid (take8 w2 hr 1 (by decide) ⟨#[]⟩ 1 rfl)
  rw [HE3.out] at HT3
  unfold Env.ptr at HT3
  clear hm hr HT2 HR1 HM1 HE3
  go_wp2_with fail
  refine HT3.out.mono ?_
  rintro x w3 ⟨⟨nm, rfl, hns, hnq⟩, hm, hr⟩
  have hR3 := hm.box HR2.out (by have := HLO.out; omega) (by have := HLJ.out; omega)
  have HP3 : Hid (PR8 E w (w3.alloc (.cells #[.string nm, .slice none 0 0, .slice none 0 0] 26)) w3.heap.size [.string nm, .slice none 0 0, .slice none 0 0] (w3.alloc (.cells #[.string nm, .slice none 0 0, .slice none 0 0] 26))) := Lib.hid ⟨(HM2.out.trans hm).alloc _, hR3.alloc _, hR3.lt, by simp, BoxC.new w3 _ 26, Nat.le_refl _, fun _ _ _ _ _ => rfl⟩
  have HQ3 := Lib.hid (hr.alloc (.cells #[.string nm, .slice none 0 0, .slice none 0 0] 26))
  have HNS := Lib.hid hns
  have HNQ := Lib.hid hnq
  clear hm hr hns hnq hR3 HT3 HR2 HM2
  go_wp2_with fail
  generalize w3.alloc (.cells #[.string nm, .slice none 0 0, .slice none 0 0] 26) = wc at *
  generalize w3.heap.size = b3 at *
  refine (HC0.out _ HQ3.out).mono ?_
  rintro x w4 ⟨⟨v1, l1, rfl, ho, hl, hq⟩, hm, hr⟩
  obtain ⟨ao1, cn1, rfl, _⟩ := ho.deep
  have HP4 := Lib.hid (HP3.out.moved hm HLO.out HLJ.out)
  have HO4 := Lib.hid ho
  have HQ4 := Lib.hid hr
  have HV4 := Lib.hid hq
  have hl0 : l1.length ≤ 2000001 := by omega
  clear ho hl hq hm hr
  go_wp2_with (refine wpList_box rfl 23 (.tmp 13) (.tmp 12) rfl b3 1 _ [.slice ao1 l1.length cn1] rfl rfl rfl HP4.out.box Tryz.sz23 (by simp) (by simp [Value.oneCell']) [.string nm, .slice ao1 l1.length cn1, .slice none 0 0] rfl ?_; intro w5 B5 g5; have HPc := Lib.hid (HP4.out.put g5 B5); have HOc := Lib.hid (HO4.out.grown g5 (by rintro x e; cases e; exact .inl HP4.out.lowc)); have HQ5 := Lib.hid (Q8.new H.out HQ4.out g5 (Nat.le_of_lt HP4.out.low)); clear B5 g5)
  obtain ⟨kc, hgc⟩ := GoesL.first (m := m) (stop := ⟨#[45, 45, 62]⟩) (takes_cond m) (fun a ts e => ⟨by rw [HM.out _ _ e]; exact Nat.lt_succ_self _, by have := HQ3.out; rw [e] at this; exact this.ok_size.2⟩) HQ5.out HV4.out
  rw [HEC.out] at hgc
  have HGc := Lib.hid hgc
  have hlc := hl0
  clear hgc hl0 HQ5 HQ4 HV4 HO4 HP4 HC0 HP3 HQ3 HM HEC
  dsimp only [Act.put]
  go_loopg [] kc (fun gk wr => ∃ (aoc : Option Addr) (cpc : Nat) (lsc : List CondR), lsc.length ≤ 2000001 ∧ Hid (PR8 E w wc b3 [.string nm, .slice aoc lsc.length cpc, .slice none 0 0] wr) ∧ Hid (OwnD mkCond wc.heap.size 43 wr (.slice aoc lsc.length cpc) lsc) ∧ Hid (GoesL E wr (pCond m) ⟨#[45, 45, 62]⟩ m ZC (lsc.map CondR.abs) gk))
  case atStart => exact ⟨_, _, _, hlc, HPc, HOc, HGc⟩
  case round =>
    clear HPc HOc HGc hlc
    obtain ⟨aoc, cpc, lsc, hllc, HP, HO, HG⟩ := hrel
    rcases HG.out with ⟨ts1, hr, hcnt, hlen, hmm, hR⟩ | ⟨q, hr, hR⟩
    · obtain ⟨k1, hQ1, rfl⟩ := hr
      obtain ⟨c0, c1, c2⟩ := three_box hQ1.box
      have hr : Q8 E wr (.ok () (E.L.drop k1)) := hQ1.q8
      obtain ⟨gk, rfl⟩ : ∃ g, gk = g + 1 := ⟨gk - 1, by omega⟩
      have hI := sign8 _ hr ⟨#[45, 45, 62]⟩
      rw [isQ_sign rfl] at hI
      cases hb : isB (headT (E.L.drop k1)) ⟨#[45, 45, 62]⟩ with
      | true =>
        rw [hb] at hI
        have HI := Lib.hid hI
        have HEX : Hid (∀ w', Below wr.heap.size wr w' → Q8 E w' ZC) := Lib.hid (fun w' b => by rw [hR, contL_stop hb]; exact hr.below b)
        have HVXc : Hid (∀ a t, ZC = .ok a t → lsc.map CondR.abs = a) := Lib.hid (fun a t e => by rw [hR, contL_stop hb] at e; cases e; rfl)
        clear hR hr hlen hcnt hmm hI hb hQ1 HG
        unfold Env.ptr at HI
        go_wp2_with (first | (go_at_call 40; refine HI.out.mono ?_; rintro x wxc ⟨rfl, b3⟩))
        have HPXc := Lib.hid (HP.out.moved (Mv.of_below b3) HLO.out HLJ.out)
        have HOXc := Lib.hid (HO.out.kept b3)
        have HRXc := Lib.hid (HEX.out _ b3)
        clear b3 c0 c1 c2 HEX HI HP HO
        have HTA := Lib.hid (take8 _ HRXc.out 4 (by decide) ⟨#[45, 45, 62]⟩ 4 rfl)
        rw [HEA.out] at HTA
        unfold Env.ptr at HTA
        refine HTA.out.mono ?_
        rintro x wa ⟨⟨_, rfl, _⟩, hm, hr⟩
        have hlcc := HPXc.out.lowc
        have hloo := HPXc.out.low
        have HPA := Lib.hid (HPXc.out.moved hm HLO.out HLJ.out)
        have HOA := Lib.hid (HOXc.out.moved hm (by have := HLO.out; omega) (by have := HLJ.out; omega))
        have HQA := Lib.hid hr
        have HAA := Lib.hid (acts8 wa hr)
        unfold Env.ptr at HAA
        clear hm hr HTA HPXc HOXc HRXc
        go_wp2_with fail
        refine HAA.out.mono ?_
        rintro x wb ⟨⟨v2, l2, rfl, ho, hl, hq⟩, hm, hr⟩
        obtain ⟨ao2, cn2, rfl, _⟩ := ho.deep
        have HPB := Lib.hid (HPA.out.again.moved hm HLO.out HLJ.out)
        have HOB := Lib.hid ho
        have HQB := Lib.hid hr
        have HVB := Lib.hid hq
        have hld : l2.length ≤ 2000001 := by omega
        clear ho hl hq hm hr HAA
        go_wp2_with (refine wpList_box rfl 24 (.tmp 34) (.tmp 33) rfl b3 2 _ [.slice ao2 l2.length cn2] rfl rfl rfl HPB.out.box sz24q (by simp) (by simp [Value.oneCell']) [.string nm, .slice aoc lsc.length cpc, .slice ao2 l2.length cn2] rfl ?_; intro wd Bd gd; have HPd := Lib.hid (HPB.out.put gd Bd); have HOd := Lib.hid (HOB.out.grown gd (by rintro x e; cases e; exact .inl HPB.out.lowc)); have HQd := Lib.hid (Q8.new H.out HQB.out gd (Nat.le_of_lt hloo)); clear Bd gd)
        obtain ⟨kd, hgd⟩ := GoesL.first (m := 1000001) (stop := ⟨#[125]⟩) takes_acts (fun a ts e => by have := HQA.out; rw [e] at this; have := this.ok_size.2; exact ⟨by omega, this⟩) HQd.out HVB.out
        rw [HEL.out, List.map_id_fun', id_eq] at hgd
        have HGd := Lib.hid hgd
        clear hgd HQd HQB HVB HOB HPB HQA
        dsimp only [Act.put]
        go_loopg [] kd (fun gk wr => ∃ (aod : Option Addr) (cpd : Nat) (lsd : List Ac), lsd.length ≤ 2000001 ∧ Hid (PR8 E w wa b3 [.string nm, .slice aoc lsc.length cpc, .slice aod lsd.length cpd] wr) ∧ Hid (OwnD mkAct wa.heap.size 51 wr (.slice aod lsd.length cpd) lsd) ∧ Hid (GoesL E wr (pActs) ⟨#[125]⟩ 1000001 ZL (lsd) gk))
        case atStart => exact ⟨_, _, _, hld, HPd, HOd, HGd⟩
        case round =>
          clear HPd HOd HGd hld
          obtain ⟨aod, cpd, lsd, hlld, HP, HO, HG⟩ := hrel
          rcases HG.out with ⟨ts1, hr, hcnt, hlen, hmm, hR⟩ | ⟨q, hr, hR⟩
          · obtain ⟨k1, hQ1, rfl⟩ := hr
            obtain ⟨c0, c1, c2⟩ := three_box hQ1.box
            have hr : Q8 E wr (.ok () (E.L.drop k1)) := hQ1.q8
            obtain ⟨gk, rfl⟩ : ∃ g, gk = g + 1 := ⟨gk - 1, by omega⟩
            have hI := sign8 _ hr ⟨#[125]⟩
            rw [isQ_sign rfl] at hI
            cases hb : isB (headT (E.L.drop k1)) ⟨#[125]⟩ with
            | true =>
              rw [hb] at hI
              have HI := Lib.hid hI
              have HEX : Hid (∀ w', Below wr.heap.size wr w' → Q8 E w' ZL) := Lib.hid (fun w' b => by rw [hR, contL_stop hb]; exact hr.below b)
              have HVXd : Hid (∀ a t, ZL = .ok a t → lsd = a) := Lib.hid (fun a t e => by rw [hR, contL_stop hb] at e; cases e; rfl)
              clear hR hr hlen hcnt hmm hI hb hQ1 HG
              unfold Env.ptr at HI
              go_wp2_with (first | (go_at_call 40; refine HI.out.mono ?_; rintro x wxd ⟨rfl, b3⟩))
              have HPXd := Lib.hid (HP.out.moved (Mv.of_below b3) HLO.out HLJ.out)
              have HOXd := Lib.hid (HO.out.kept b3)
              have HRXd := Lib.hid (HEX.out _ b3)
              clear b3 c0 c1 c2 HEX HI HP HO
              have HTE := Lib.hid (take8 _ HRXd.out 4 (by decide) ⟨#[125]⟩ 4 rfl)
              rw [HEE.out] at HTE
              unfold Env.ptr at HTE
              refine HTE.out.mono ?_
              rintro x wf ⟨⟨_, rfl, _⟩, hm, hr⟩
              have hla := HPXd.out.lowc
              have HPF := Lib.hid (HPXd.out.moved hm HLO.out HLJ.out)
              have HOF := Lib.hid (HOXd.out.moved hm (by have := HLO.out; omega) (by have := HLJ.out; omega))
              have HQF := Lib.hid hr
              have HOC := Lib.hid (HPA.out.own HPF.out HOA.out (by have := HLO.out; omega) H.out.one hlcc)
              clear hm hr HTE HPXd HOXd HRXd
              obtain ⟨f0, f1, f2⟩ := three_box HPF.out.box
              go_wp2_with (refine wpList_box rfl 26 (.tmp 2) (.tmp 53) rfl w.heap.size 0 _ [.string nm, .slice aoc lsc.length cpc, .slice aod lsd.length cpd] rfl rfl rfl HPF.out.res Tryz.sz26 (by simp) (by simp [Value.oneCell']) _ rfl ?_; intro wz Bz gz; have HBz := Lib.hid Bz; have HGz := Lib.hid gz; clear Bz gz f0 f1 f2)
              obtain ⟨d0, d1, d2⟩ := three_box HBz.out
              obtain ⟨t1, t2⟩ := HREST.out nm (lsc.map CondR.abs) lsd HNQ.out HVXc.out HVXd.out
              exact bodyPost_ret (v := .agg #[.string nm, .slice aoc lsc.length cpc, .slice aod lsd.length cpd]) (by simp [results, Tryz.results20, go_sem, d0, d1, d2]) rfl ⟨⟨nm, _, _, lsc, lsd, rfl, HNS.out, (HOC.out.grown HGz.out (by rintro x e; cases e; exact .inl (by omega))).rebase (by omega), (HOF.out.grown HGz.out (by rintro x e; cases e; exact .inl (by omega))).rebase (by omega), hllc, hlld, t2⟩, HPF.out.mv.new HGz.out (Nat.le_refl _), t1 E _ (Q8.new H.out HQF.out HGz.out (Nat.le_refl _))⟩
            | false =>
              rw [hb] at hI
              have HI := Lib.hid hI
              have HCN := Lib.hid (fun w3 (b : Below wr.heap.size wr w3) => HCA.out w3 () (E.L.drop k1) (hr.below b) )
              have HMR := Lib.hid (fun w3 l2 (hq : Q8 E w3 ((pActs) (E.L.drop k1))) hl2 => GoesL.more (a := l2) takes_acts hcnt hlen hmm hR hb hq hl2)
              have hll2 : lsd.length ≤ 1000000 := by omega
              clear hR hr hlen hcnt hmm hI hb hQ1 HG
              unfold Env.ptr at HI HCN
              obtain ⟨i0, z0, hi, hz0, hz1, hz2⟩ := acts_info
              go_upto_region 10 with (first | (go_at_call 40; refine HI.out.mono ?_; rintro x w7 ⟨rfl, b3⟩))
              have HP7 := Lib.hid (HP.out.moved (Mv.of_below b3) HLO.out HLJ.out)
              have HO7 := Lib.hid (HO.out.kept b3)
              have HC7 := Lib.hid (HCN.out w7.drew (b3.trans (belowD w7 |>.mono b3.size)))
              clear b3 c0 c1 c2 HCN HI HP HO
              have hbb : wa.heap.size ≤ w7.heap.size := HP7.out.size
              have hvl : ∀ x, (Value.slice aod lsd.length cpd).ownBlock = some x → x < w7.heap.size := fun x e => (HO7.out.own.lt x e).2
              have hlc := HP7.out.lowc
              have hlo := HP7.out.low
              have hrA : E.r < wa.heap.size := by have := HLO.out; omega
              have hiA : E.ib < wa.heap.size := by have := HLJ.out; omega
              have hrB : b3 ≠ E.r := by have := HLO.out; omega
              have hiB : b3 ≠ E.ib := by have := HLJ.out; omega
              have f2 : w7.cell? ⟨b3, 2, none⟩ = some (.slice aod lsd.length cpd) := HP7.out.box.at_ rfl
              go_region_law ((first
                | (go_simp; go_at_call 41; refine HC7.out.mono ?_; rintro x w8 ⟨⟨v8, l8, rfl, ho8, hl8, hq8⟩, hm8, hr8⟩; have HM8 : Hid (Mv E w7 w8) := Lib.hid (Mv.trans (Mv.of_below (belowD w7)) hm8); have HO8 := Lib.hid (OwnD.moved HO7.out HM8.out hrA hiA); have HB8 := Lib.hid (Mv.box HM8.out HP7.out.box hrB hiB); have f6 : w8.cell? ⟨b3, 2, none⟩ = some (.slice aod lsd.length cpd) := BoxC.at_ HB8.out rfl; have hbw : w7.heap.size ≤ w8.heap.size := Mv.size HM8.out; have HO2 := Lib.hid ho8; have HL2 := Lib.hid hl8; have HQ8 := Lib.hid hq8; have HR8 := Lib.hid hr8; clear hm8 hr8 hq8 hl8 ho8)
                | (refine step_pushes (by rfl) (.tmp 46) (.tmp 48) 24 (by rfl) mkAct wa.heap.size w7.heap.size 51 i0 _ 224 Tryz.underlying24 hi hz0 hz1 hz2 (acts_zero hi hz0) (by omega) (.slice aod lsd.length cpd) v8 lsd l8 (by rfl) (by rfl) HO8.out hvl hbb hbw HO2.out hll2 HL2.out ?_; intro v9 w9 ho9 hg9; obtain ⟨a9, n9, rfl, _⟩ := OwnD.deep ho9; have HB9 := Lib.hid (box_push HO8.out HB8.out hg9 (by decide)); have k2 : w9.cell? ⟨b3, 2, none⟩ = some (.slice aod lsd.length cpd) := BoxC.at_ HB9.out rfl; have k6 := free_box HB9.out 2)))
              all_goals
                have hl9 : (lsd ++ l8).length ≤ 2000001 := by rw [List.length_append]; have := HL2.out; omega
                have g3 := grownBy_setCell w9 ⟨b3, 2, none⟩ (.slice a9 (lsd ++ l8).length n9)
                have hw9 : ∀ x, (Value.slice aod lsd.length cpd).ownBlock = some x → wa.heap.size ≤ x := fun x e => (HO7.out.own.lt x e).1
                have HPN := Lib.hid (((HP7.out.moved HM8.out HLO.out HLJ.out).push hg9 hw9).put (cs' := [.string nm, .slice aoc lsc.length cpc, .slice a9 (lsd ++ l8).length n9]) g3 (HB9.out.upd _ _ rfl))
                have HON := Lib.hid (ho9.grown g3 (by rintro x e; cases e; exact .inl hlc))
                have HGN := Lib.hid (HMR.out _ _ (Q8.new H.out (Q8.newRow H.out HR8.out hg9 (fun x e => by have := hw9 x e; omega)) g3 (Nat.le_of_lt hlo)) HQ8.out)
                rw [List.map_id_fun', id_eq] at HGN
                rw [List.length_append] at HPN HON HGN
                clear ho9 hg9 k2 k6 g3 hw9 HB9 HB8 HO8 HM8 HR8 HQ8 HMR HP7 HO7 HC7 f2 f6
                go_wp2
                go_roundg gk
                case rel => exact ⟨a9, n9, lsd ++ l8, hl9, by rw [List.length_append]; exact HPN, by rw [List.length_append]; exact HON, HGN⟩
                case measure => omega
          · obtain ⟨k1, hQ1, he1⟩ := hr
            obtain ⟨c0, c1, c2⟩ := three_box hQ1.box
            have HRXd : Hid (Q8 E wr ZL) := Lib.hid (by rw [hR]; exact ⟨k1, hQ1, he1⟩)
            have HVXd : Hid (∀ a t, ZL = .ok a t → lsd = a) := Lib.hid (fun a t e => by rw [hR] at e; cases e)
            have HPXd := HP
            have HOXd := HO
            clear hR hQ1 HG HP HO he1
            go_wp2_with fail
            clear c0 c1 c2
            have HTE := Lib.hid (take8 _ HRXd.out 4 (by decide) ⟨#[125]⟩ 4 rfl)
            rw [HEE.out] at HTE
            unfold Env.ptr at HTE
            refine HTE.out.mono ?_
            rintro x wf ⟨⟨_, rfl, _⟩, hm, hr⟩
            have hla := HPXd.out.lowc
            have HPF := Lib.hid (HPXd.out.moved hm HLO.out HLJ.out)
            have HOF := Lib.hid (HOXd.out.moved hm (by have := HLO.out; omega) (by have := HLJ.out; omega))
            have HQF := Lib.hid hr
            have HOC := Lib.hid (HPA.out.own HPF.out HOA.out (by have := HLO.out; omega) H.out.one hlcc)
            clear hm hr HTE HPXd HOXd HRXd
            obtain ⟨f0, f1, f2⟩ := three_box HPF.out.box
            go_wp2_with (refine wpList_box rfl 26 (.tmp 2) (.tmp 53) rfl w.heap.size 0 _ [.string nm, .slice aoc lsc.length cpc, .slice aod lsd.length cpd] rfl rfl rfl HPF.out.res Tryz.sz26 (by simp) (by simp [Value.oneCell']) _ rfl ?_; intro wz Bz gz; have HBz := Lib.hid Bz; have HGz := Lib.hid gz; clear Bz gz f0 f1 f2)
            obtain ⟨d0, d1, d2⟩ := three_box HBz.out
            obtain ⟨t1, t2⟩ := HREST.out nm (lsc.map CondR.abs) lsd HNQ.out HVXc.out HVXd.out
            exact bodyPost_ret (v := .agg #[.string nm, .slice aoc lsc.length cpc, .slice aod lsd.length cpd]) (by simp [results, Tryz.results20, go_sem, d0, d1, d2]) rfl ⟨⟨nm, _, _, lsc, lsd, rfl, HNS.out, (HOC.out.grown HGz.out (by rintro x e; cases e; exact .inl (by omega))).rebase (by omega), (HOF.out.grown HGz.out (by rintro x e; cases e; exact .inl (by omega))).rebase (by omega), hllc, hlld, t2⟩, HPF.out.mv.new HGz.out (Nat.le_refl _), t1 E _ (Q8.new H.out HQF.out HGz.out (Nat.le_refl _))⟩
      | false =>
        rw [hb] at hI
        have HI := Lib.hid hI
        have HCN := Lib.hid (fun w3 (b : Below wr.heap.size wr w3) => HCC.out w3 () (E.L.drop k1) (hr.below b) hmm)
        have HMR := Lib.hid (fun w3 l2 (hq : Q8 E w3 ((pCond m) (E.L.drop k1))) hl2 => GoesL.more (a := l2) (takes_cond m) hcnt hlen hmm hR hb hq hl2)
        have hll2 : lsc.length ≤ 1000000 := by rw [List.length_map] at hcnt; omega
        clear hR hr hlen hcnt hmm hI hb hQ1 HG
        unfold Env.ptr at HI HCN
        obtain ⟨i0, hi, hz0, hz1, hz2⟩ := info_parts Tryz.info43
        go_upto_region 6 with (first | (go_at_call 40; refine HI.out.mono ?_; rintro x w7 ⟨rfl, b3⟩))
        have HP7 := Lib.hid (HP.out.moved (Mv.of_below b3) HLO.out HLJ.out)
        have HO7 := Lib.hid (HO.out.kept b3)
        have HC7 := Lib.hid (HCN.out w7.drew (b3.trans (belowD w7 |>.mono b3.size)))
        clear b3 c0 c1 c2 HCN HI HP HO
        have hbb : wc.heap.size ≤ w7.heap.size := HP7.out.size
        have hvl : ∀ x, (Value.slice aoc lsc.length cpc).ownBlock = some x → x < w7.heap.size := fun x e => (HO7.out.own.lt x e).2
        have hlc := HP7.out.lowc
        have hlo := HP7.out.low
        have hrA : E.r < wc.heap.size := by have := HLO.out; omega
        have hiA : E.ib < wc.heap.size := by have := HLJ.out; omega
        have hrB : b3 ≠ E.r := by have := HLO.out; omega
        have hiB : b3 ≠ E.ib := by have := HLJ.out; omega
        have f2 : w7.cell? ⟨b3, 1, none⟩ = some (.slice aoc lsc.length cpc) := HP7.out.box.at_ rfl
        go_region_law ((first
          | (go_simp; go_at_call 39; refine HC7.out.mono ?_; rintro x w8 ⟨⟨v8, l8, rfl, ho8, hl8, hq8⟩, hm8, hr8⟩; have HM8 : Hid (Mv E w7 w8) := Lib.hid (Mv.trans (Mv.of_below (belowD w7)) hm8); have HO8 := Lib.hid (OwnD.moved HO7.out HM8.out hrA hiA); have HB8 := Lib.hid (Mv.box HM8.out HP7.out.box hrB hiB); have f6 : w8.cell? ⟨b3, 1, none⟩ = some (.slice aoc lsc.length cpc) := BoxC.at_ HB8.out rfl; have hbw : w7.heap.size ≤ w8.heap.size := Mv.size HM8.out; have HO2 := Lib.hid ho8; have HL2 := Lib.hid hl8; have HQ8 := Lib.hid hq8; have HR8 := Lib.hid hr8; clear hm8 hr8 hq8 hl8 ho8)
          | (refine step_pushes (by rfl) (.tmp 25) (.tmp 27) 23 (by rfl) mkCond wc.heap.size w7.heap.size 43 i0 _ 112 Tryz.underlying23 hi hz0 hz1 hz2 rfl (by omega) (.slice aoc lsc.length cpc) v8 lsc l8 (by rfl) (by rfl) HO8.out hvl hbb hbw HO2.out hll2 HL2.out ?_; intro v9 w9 ho9 hg9; obtain ⟨a9, n9, rfl, _⟩ := OwnD.deep ho9; have HB9 := Lib.hid (box_push HO8.out HB8.out hg9 (by decide)); have k2 : w9.cell? ⟨b3, 1, none⟩ = some (.slice aoc lsc.length cpc) := BoxC.at_ HB9.out rfl; have k6 := free_box HB9.out 1)))
        all_goals
          have hl9 : (lsc ++ l8).length ≤ 2000001 := by rw [List.length_append]; have := HL2.out; omega
          have g3 := grownBy_setCell w9 ⟨b3, 1, none⟩ (.slice a9 (lsc ++ l8).length n9)
          have hw9 : ∀ x, (Value.slice aoc lsc.length cpc).ownBlock = some x → wc.heap.size ≤ x := fun x e => (HO7.out.own.lt x e).1
          have HPN := Lib.hid (((HP7.out.moved HM8.out HLO.out HLJ.out).push hg9 hw9).put (cs' := [.string nm, .slice a9 (lsc ++ l8).length n9, .slice none 0 0]) g3 (HB9.out.upd _ _ rfl))
          have HON := Lib.hid (ho9.grown g3 (by rintro x e; cases e; exact .inl hlc))
          have HGN := Lib.hid (HMR.out _ _ (Q8.new H.out (Q8.newRow H.out HR8.out hg9 (fun x e => by have := hw9 x e; omega)) g3 (Nat.le_of_lt hlo)) HQ8.out)
          rw [← List.map_append] at HGN
          rw [List.length_append] at HPN HON HGN
          clear ho9 hg9 k2 k6 g3 hw9 HB9 HB8 HO8 HM8 HR8 HQ8 HMR HP7 HO7 HC7 f2 f6
          go_wp2
          go_roundg gk
          case rel => exact ⟨a9, n9, lsc ++ l8, hl9, by rw [List.length_append]; exact HPN, by rw [List.length_append]; exact HON, HGN⟩
          case measure => omega
    · obtain ⟨k1, hQ1, he1⟩ := hr
      obtain ⟨c0, c1, c2⟩ := three_box hQ1.box
      have HRXc : Hid (Q8 E wr ZC) := Lib.hid (by rw [hR]; exact ⟨k1, hQ1, he1⟩)
      have HVXc : Hid (∀ a t, ZC = .ok a t → lsc.map CondR.abs = a) := Lib.hid (fun a t e => by rw [hR] at e; cases e)
      have HPXc := HP
      have HOXc := HO
      clear hR hQ1 HG HP HO he1
      go_wp2_with fail
      clear c0 c1 c2
      have HTA := Lib.hid (take8 _ HRXc.out 4 (by decide) ⟨#[45, 45, 62]⟩ 4 rfl)
      rw [HEA.out] at HTA
      unfold Env.ptr at HTA
      refine HTA.out.mono ?_
      rintro x wa ⟨⟨_, rfl, _⟩, hm, hr⟩
      have hlcc := HPXc.out.lowc
      have hloo := HPXc.out.low
      have HPA := Lib.hid (HPXc.out.moved hm HLO.out HLJ.out)
      have HOA := Lib.hid (HOXc.out.moved hm (by have := HLO.out; omega) (by have := HLJ.out; omega))
      have HQA := Lib.hid hr
      have HAA := Lib.hid (acts8 wa hr)
      unfold Env.ptr at HAA
      clear hm hr HTA HPXc HOXc HRXc
      go_wp2_with fail
      refine HAA.out.mono ?_
      rintro x wb ⟨⟨v2, l2, rfl, ho, hl, hq⟩, hm, hr⟩
      obtain ⟨ao2, cn2, rfl, _⟩ := ho.deep
      have HPB := Lib.hid (HPA.out.again.moved hm HLO.out HLJ.out)
      have HOB := Lib.hid ho
      have HQB := Lib.hid hr
      have HVB := Lib.hid hq
      have hld : l2.length ≤ 2000001 := by omega
      clear ho hl hq hm hr HAA
      go_wp2_with (refine wpList_box rfl 24 (.tmp 34) (.tmp 33) rfl b3 2 _ [.slice ao2 l2.length cn2] rfl rfl rfl HPB.out.box sz24q (by simp) (by simp [Value.oneCell']) [.string nm, .slice aoc lsc.length cpc, .slice ao2 l2.length cn2] rfl ?_; intro wd Bd gd; have HPd := Lib.hid (HPB.out.put gd Bd); have HOd := Lib.hid (HOB.out.grown gd (by rintro x e; cases e; exact .inl HPB.out.lowc)); have HQd := Lib.hid (Q8.new H.out HQB.out gd (Nat.le_of_lt hloo)); clear Bd gd)
      obtain ⟨kd, hgd⟩ := GoesL.first (m := 1000001) (stop := ⟨#[125]⟩) takes_acts (fun a ts e => by have := HQA.out; rw [e] at this; have := this.ok_size.2; exact ⟨by omega, this⟩) HQd.out HVB.out
      rw [HEL.out, List.map_id_fun', id_eq] at hgd
      have HGd := Lib.hid hgd
      clear hgd HQd HQB HVB HOB HPB HQA
      dsimp only [Act.put]
      go_loopg [] kd (fun gk wr => ∃ (aod : Option Addr) (cpd : Nat) (lsd : List Ac), lsd.length ≤ 2000001 ∧ Hid (PR8 E w wa b3 [.string nm, .slice aoc lsc.length cpc, .slice aod lsd.length cpd] wr) ∧ Hid (OwnD mkAct wa.heap.size 51 wr (.slice aod lsd.length cpd) lsd) ∧ Hid (GoesL E wr (pActs) ⟨#[125]⟩ 1000001 ZL (lsd) gk))
      case atStart => exact ⟨_, _, _, hld, HPd, HOd, HGd⟩
      case round =>
        clear HPd HOd HGd hld
        obtain ⟨aod, cpd, lsd, hlld, HP, HO, HG⟩ := hrel
        rcases HG.out with ⟨ts1, hr, hcnt, hlen, hmm, hR⟩ | ⟨q, hr, hR⟩
        · obtain ⟨k1, hQ1, rfl⟩ := hr
          obtain ⟨c0, c1, c2⟩ := three_box hQ1.box
          have hr : Q8 E wr (.ok () (E.L.drop k1)) := hQ1.q8
          obtain ⟨gk, rfl⟩ : ∃ g, gk = g + 1 := ⟨gk - 1, by omega⟩
          have hI := sign8 _ hr ⟨#[125]⟩
          rw [isQ_sign rfl] at hI
          cases hb : isB (headT (E.L.drop k1)) ⟨#[125]⟩ with
          | true =>
            rw [hb] at hI
            have HI := Lib.hid hI
            have HEX : Hid (∀ w', Below wr.heap.size wr w' → Q8 E w' ZL) := Lib.hid (fun w' b => by rw [hR, contL_stop hb]; exact hr.below b)
            have HVXd : Hid (∀ a t, ZL = .ok a t → lsd = a) := Lib.hid (fun a t e => by rw [hR, contL_stop hb] at e; cases e; rfl)
            clear hR hr hlen hcnt hmm hI hb hQ1 HG
            unfold Env.ptr at HI
            go_wp2_with (first | (go_at_call 40; refine HI.out.mono ?_; rintro x wxd ⟨rfl, b3⟩))
            have HPXd := Lib.hid (HP.out.moved (Mv.of_below b3) HLO.out HLJ.out)
            have HOXd := Lib.hid (HO.out.kept b3)
            have HRXd := Lib.hid (HEX.out _ b3)
            clear b3 c0 c1 c2 HEX HI HP HO
            have HTE := Lib.hid (take8 _ HRXd.out 4 (by decide) ⟨#[125]⟩ 4 rfl)
            rw [HEE.out] at HTE
            unfold Env.ptr at HTE
            refine HTE.out.mono ?_
            rintro x wf ⟨⟨_, rfl, _⟩, hm, hr⟩
            have hla := HPXd.out.lowc
            have HPF := Lib.hid (HPXd.out.moved hm HLO.out HLJ.out)
            have HOF := Lib.hid (HOXd.out.moved hm (by have := HLO.out; omega) (by have := HLJ.out; omega))
            have HQF := Lib.hid hr
            have HOC := Lib.hid (HPA.out.own HPF.out HOA.out (by have := HLO.out; omega) H.out.one hlcc)
            clear hm hr HTE HPXd HOXd HRXd
            obtain ⟨f0, f1, f2⟩ := three_box HPF.out.box
            go_wp2_with (refine wpList_box rfl 26 (.tmp 2) (.tmp 53) rfl w.heap.size 0 _ [.string nm, .slice aoc lsc.length cpc, .slice aod lsd.length cpd] rfl rfl rfl HPF.out.res Tryz.sz26 (by simp) (by simp [Value.oneCell']) _ rfl ?_; intro wz Bz gz; have HBz := Lib.hid Bz; have HGz := Lib.hid gz; clear Bz gz f0 f1 f2)
            obtain ⟨d0, d1, d2⟩ := three_box HBz.out
            obtain ⟨t1, t2⟩ := HREST.out nm (lsc.map CondR.abs) lsd HNQ.out HVXc.out HVXd.out
            exact bodyPost_ret (v := .agg #[.string nm, .slice aoc lsc.length cpc, .slice aod lsd.length cpd]) (by simp [results, Tryz.results20, go_sem, d0, d1, d2]) rfl ⟨⟨nm, _, _, lsc, lsd, rfl, HNS.out, (HOC.out.grown HGz.out (by rintro x e; cases e; exact .inl (by omega))).rebase (by omega), (HOF.out.grown HGz.out (by rintro x e; cases e; exact .inl (by omega))).rebase (by omega), hllc, hlld, t2⟩, HPF.out.mv.new HGz.out (Nat.le_refl _), t1 E _ (Q8.new H.out HQF.out HGz.out (Nat.le_refl _))⟩
          | false =>
            rw [hb] at hI
            have HI := Lib.hid hI
            have HCN := Lib.hid (fun w3 (b : Below wr.heap.size wr w3) => HCA.out w3 () (E.L.drop k1) (hr.below b) )
            have HMR := Lib.hid (fun w3 l2 (hq : Q8 E w3 ((pActs) (E.L.drop k1))) hl2 => GoesL.more (a := l2) takes_acts hcnt hlen hmm hR hb hq hl2)
            have hll2 : lsd.length ≤ 1000000 := by omega
            clear hR hr hlen hcnt hmm hI hb hQ1 HG
            unfold Env.ptr at HI HCN
            obtain ⟨i0, z0, hi, hz0, hz1, hz2⟩ := acts_info
            go_upto_region 10 with (first | (go_at_call 40; refine HI.out.mono ?_; rintro x w7 ⟨rfl, b3⟩))
            have HP7 := Lib.hid (HP.out.moved (Mv.of_below b3) HLO.out HLJ.out)
            have HO7 := Lib.hid (HO.out.kept b3)
            have HC7 := Lib.hid (HCN.out w7.drew (b3.trans (belowD w7 |>.mono b3.size)))
            clear b3 c0 c1 c2 HCN HI HP HO
            have hbb : wa.heap.size ≤ w7.heap.size := HP7.out.size
            have hvl : ∀ x, (Value.slice aod lsd.length cpd).ownBlock = some x → x < w7.heap.size := fun x e => (HO7.out.own.lt x e).2
            have hlc := HP7.out.lowc
            have hlo := HP7.out.low
            have hrA : E.r < wa.heap.size := by have := HLO.out; omega
            have hiA : E.ib < wa.heap.size := by have := HLJ.out; omega
            have hrB : b3 ≠ E.r := by have := HLO.out; omega
            have hiB : b3 ≠ E.ib := by have := HLJ.out; omega
            have f2 : w7.cell? ⟨b3, 2, none⟩ = some (.slice aod lsd.length cpd) := HP7.out.box.at_ rfl
            go_region_law ((first
              | (go_simp; go_at_call 41; refine HC7.out.mono ?_; rintro x w8 ⟨⟨v8, l8, rfl, ho8, hl8, hq8⟩, hm8, hr8⟩; have HM8 : Hid (Mv E w7 w8) := Lib.hid (Mv.trans (Mv.of_below (belowD w7)) hm8); have HO8 := Lib.hid (OwnD.moved HO7.out HM8.out hrA hiA); have HB8 := Lib.hid (Mv.box HM8.out HP7.out.box hrB hiB); have f6 : w8.cell? ⟨b3, 2, none⟩ = some (.slice aod lsd.length cpd) := BoxC.at_ HB8.out rfl; have hbw : w7.heap.size ≤ w8.heap.size := Mv.size HM8.out; have HO2 := Lib.hid ho8; have HL2 := Lib.hid hl8; have HQ8 := Lib.hid hq8; have HR8 := Lib.hid hr8; clear hm8 hr8 hq8 hl8 ho8)
              | (refine step_pushes (by rfl) (.tmp 46) (.tmp 48) 24 (by rfl) mkAct wa.heap.size w7.heap.size 51 i0 _ 224 Tryz.underlying24 hi hz0 hz1 hz2 (acts_zero hi hz0) (by omega) (.slice aod lsd.length cpd) v8 lsd l8 (by rfl) (by rfl) HO8.out hvl hbb hbw HO2.out hll2 HL2.out ?_; intro v9 w9 ho9 hg9; obtain ⟨a9, n9, rfl, _⟩ := OwnD.deep ho9; have HB9 := Lib.hid (box_push HO8.out HB8.out hg9 (by decide)); have k2 : w9.cell? ⟨b3, 2, none⟩ = some (.slice aod lsd.length cpd) := BoxC.at_ HB9.out rfl; have k6 := free_box HB9.out 2)))
            all_goals
              have hl9 : (lsd ++ l8).length ≤ 2000001 := by rw [List.length_append]; have := HL2.out; omega
              have g3 := grownBy_setCell w9 ⟨b3, 2, none⟩ (.slice a9 (lsd ++ l8).length n9)
              have hw9 : ∀ x, (Value.slice aod lsd.length cpd).ownBlock = some x → wa.heap.size ≤ x := fun x e => (HO7.out.own.lt x e).1
              have HPN := Lib.hid (((HP7.out.moved HM8.out HLO.out HLJ.out).push hg9 hw9).put (cs' := [.string nm, .slice aoc lsc.length cpc, .slice a9 (lsd ++ l8).length n9]) g3 (HB9.out.upd _ _ rfl))
              have HON := Lib.hid (ho9.grown g3 (by rintro x e; cases e; exact .inl hlc))
              have HGN := Lib.hid (HMR.out _ _ (Q8.new H.out (Q8.newRow H.out HR8.out hg9 (fun x e => by have := hw9 x e; omega)) g3 (Nat.le_of_lt hlo)) HQ8.out)
              rw [List.map_id_fun', id_eq] at HGN
              rw [List.length_append] at HPN HON HGN
              clear ho9 hg9 k2 k6 g3 hw9 HB9 HB8 HO8 HM8 HR8 HQ8 HMR HP7 HO7 HC7 f2 f6
              go_wp2
              go_roundg gk
              case rel => exact ⟨a9, n9, lsd ++ l8, hl9, by rw [List.length_append]; exact HPN, by rw [List.length_append]; exact HON, HGN⟩
              case measure => omega
        · obtain ⟨k1, hQ1, he1⟩ := hr
          obtain ⟨c0, c1, c2⟩ := three_box hQ1.box
          have HRXd : Hid (Q8 E wr ZL) := Lib.hid (by rw [hR]; exact ⟨k1, hQ1, he1⟩)
          have HVXd : Hid (∀ a t, ZL = .ok a t → lsd = a) := Lib.hid (fun a t e => by rw [hR] at e; cases e)
          have HPXd := HP
          have HOXd := HO
          clear hR hQ1 HG HP HO he1
          go_wp2_with fail
          clear c0 c1 c2
          have HTE := Lib.hid (take8 _ HRXd.out 4 (by decide) ⟨#[125]⟩ 4 rfl)
          rw [HEE.out] at HTE
          unfold Env.ptr at HTE
          refine HTE.out.mono ?_
          rintro x wf ⟨⟨_, rfl, _⟩, hm, hr⟩
          have hla := HPXd.out.lowc
          have HPF := Lib.hid (HPXd.out.moved hm HLO.out HLJ.out)
          have HOF := Lib.hid (HOXd.out.moved hm (by have := HLO.out; omega) (by have := HLJ.out; omega))
          have HQF := Lib.hid hr
          have HOC := Lib.hid (HPA.out.own HPF.out HOA.out (by have := HLO.out; omega) H.out.one hlcc)
          clear hm hr HTE HPXd HOXd HRXd
          obtain ⟨f0, f1, f2⟩ := three_box HPF.out.box
          go_wp2_with (refine wpList_box rfl 26 (.tmp 2) (.tmp 53) rfl w.heap.size 0 _ [.string nm, .slice aoc lsc.length cpc, .slice aod lsd.length cpd] rfl rfl rfl HPF.out.res Tryz.sz26 (by simp) (by simp [Value.oneCell']) _ rfl ?_; intro wz Bz gz; have HBz := Lib.hid Bz; have HGz := Lib.hid gz; clear Bz gz f0 f1 f2)
          obtain ⟨d0, d1, d2⟩ := three_box HBz.out
          obtain ⟨t1, t2⟩ := HREST.out nm (lsc.map CondR.abs) lsd HNQ.out HVXc.out HVXd.out
          exact bodyPost_ret (v := .agg #[.string nm, .slice aoc lsc.length cpc, .slice aod lsd.length cpd]) (by simp [results, Tryz.results20, go_sem, d0, d1, d2]) rfl ⟨⟨nm, _, _, lsc, lsd, rfl, HNS.out, (HOC.out.grown HGz.out (by rintro x e; cases e; exact .inl (by omega))).rebase (by omega), (HOF.out.grown HGz.out (by rintro x e; cases e; exact .inl (by omega))).rebase (by omega), hllc, hlld, t2⟩, HPF.out.mv.new HGz.out (Nat.le_refl _), t1 E _ (Q8.new H.out HQF.out HGz.out (Nat.le_refl _))⟩
end Go.Proofs.YtgeaccoobhigcaaGreat
namespace Go.Proofs.YtgeaccoobhigcaaGreat
open Go Go.RowKit

theorem prod_few {ts : List Tk} {p : Pd} {ts' : List Tk} (h : pProd ts = .ok p ts') : cdsN p.conds ≤ ts.length := by
  cases hs : spHere (headT ts) with
  | false => rw [pProd_no hs] at h; cases h
  | true =>
    rw [pProd_sp hs] at h
    obtain ⟨_, t1, h1, h⟩ := bind_ok.1 h
    obtain ⟨nm, t2, h2, h⟩ := bind_ok.1 h
    obtain ⟨cs, t3, h3, h⟩ := bind_ok.1 h
    obtain ⟨_, t4, h4, h⟩ := bind_ok.1 h
    obtain ⟨al, t5, h5, h⟩ := bind_ok.1 h
    cases h
    have := conds_few h3
    have := pTake_eats _ _ _ _ h1
    have := pText_eats 1 (by decide) _ _ _ h2
    have : ts.tail.length ≤ ts.length := by simp
    show cdsN cs ≤ _
    omega
theorem Qd.at_ {E : Env} {w : World} {k : Nat} {bad : Bool} {g o : Nat} (h : Qd E w k bad) (hao : E.ao = some ⟨g, o, none⟩) : w.cell? ⟨g, o + k * 3 + 2, none⟩ = some (.int .i64 (E.at8 k).pos) := by
  obtain ⟨g', o', h1, _, _, h2⟩ := h.data.tok (Env.at8_some h.lt)
  rw [hao] at h1
  cases h1
  exact h2
set_option maxRecDepth 100000 in
set_option maxHeartbeats 4000000 in
theorem one8 (s : ByteArray) (hs : s.size ≤ 32768) (w : World) :
    Calls Tryz.prog 8 #[.string s] w fun x w' => OneOut w.heap.size w' (oneR (toks s.data.toList)) x ∧ Below w.heap.size w w' := by
  have HALL := Lib.hid (refAll_any s (by omega) (w.alloc (.cells #[.string ⟨#[]⟩, .slice none 0 0, .slice none 0 0] 26)))
  have HB0 := Lib.hid (BoxC.new w [.string ⟨#[]⟩, .slice none 0 0, .slice none 0 0] 26)
  have HW0 := Lib.hid (below_new w (.cells #[.string ⟨#[]⟩, .slice none 0 0, .slice none 0 0] 26))
  have hgood := good_toks (l := s.data.toList) (by rw [size_toList]; omega)
  obtain ⟨L, hL⟩ : ∃ L, toks s.data.toList = L := ⟨_, rfl⟩
  rw [hL] at hgood HALL ⊢
  have e0 : (s.size : Int) ≤ 32768 := by omega
  have HGD := Lib.hid hgood
  clear hL hgood
  go_enter Tryz.func8, Tryz.ntmps8
  go_upto_region 4 with (go_at_call 19; refine HALL.out.mono ?_; rintro x w1 ⟨go, c, rfl, hd, hlow, hb⟩)
  obtain ⟨E, hE⟩ : ∃ E : Env, E = ⟨w1.heap.size, 0, w1.heap.size, go, L.length, c, L⟩ := ⟨_, rfl⟩
  have hlen : 0 < L.length := List.length_pos_iff.2 HGD.out.ne
  have hQ : Qd E (w1.alloc (.cells #[.slice go L.length c, .int .i64 0, .bool false] 65)) 0 false := by
    subst hE
    exact ⟨BoxC.new w1 _ 65, hd.kept (below_new _ _), fun a ha hn => Nat.ne_of_lt (hd.inB (by omega) a ha hn), HGD.out, hlen, rfl⟩
  have hEr : E.r = w1.heap.size := by rw [hE]
  have hEi : E.ib = w1.heap.size := by rw [hE]
  have hEl : E.L = L := by rw [hE]
  have hEn : E.n = L.length := by rw [hE]
  have hEc : E.c = c := by rw [hE]
  have hEp : E.ptr = .pointer (some ⟨w1.heap.size, 0, none⟩) := by rw [hE]; rfl
  obtain ⟨g, o, hao, -, -, -⟩ := hQ.data.tok (Env.at8_some hQ.lt)
  have hgo : go = some ⟨g, o, none⟩ := by rw [← hao, hE]
  subst hgo
  have hg1 : w.heap.size + 1 ≤ g := by have := hlow _ rfl; simpa using this
  have hsz1 : w.heap.size + 1 ≤ w1.heap.size := by have := hb.size; simpa using this
  have x2 := hQ.at_ hao
  rw [show E.at8 0 = headT L by unfold Env.at8; rw [hEl]; rfl] at x2
  simp only [Nat.zero_mul, Nat.add_zero] at x2
  obtain ⟨c0, c1, c2⟩ := three_box (BoxC.new w1 [.slice (some ⟨g, o, none⟩) L.length c, .int .i64 0, .bool false] 65)
  have HP : Hid (Calls Tryz.prog 20 #[.pointer (some ⟨w1.heap.size, 0, none⟩)] (w1.alloc (.cells #[.slice (some ⟨g, o, none⟩) L.length c, .int .i64 0, .bool false] 65)) fun x w' => Prod8 (w1.heap.size + 1) w' (pProd L) x ∧ Mv E (w1.alloc (.cells #[.slice (some ⟨g, o, none⟩) L.length c, .int .i64 0, .bool false] 65)) w' ∧ Q8 E w' (pProd L)) := Lib.hid (by
    have := prod8 _ (show Q8 E (w1.alloc (.cells #[.slice (some ⟨g, o, none⟩) L.length c, .int .i64 0, .bool false] 65)) (.ok () L) from ⟨0, hQ, by rw [hEl]; rfl⟩)
    rw [hEp, World.size_alloc] at this
    exact this)
  have HB1 := Lib.hid ((HB0.out.below hb).alloc (.cells #[.slice (some ⟨g, o, none⟩) L.length c, .int .i64 0, .bool false] 65))
  have HW1 := Lib.hid ((HW0.out.trans (hb.mono (by simp))).alloc (by omega) (.cells #[.slice (some ⟨g, o, none⟩) L.length c, .int .i64 0, .bool false] 65))
  clear HALL HB0 HW0 hd hlow hb hQ hE HGD
  go_wp2_with fail
  clear c0 c1 c2 x2
  refine HP.out.mono ?_
  rintro x w2 ⟨⟨nm, v1, v2, l1, l2, rfl, hns, ho1, ho2, hl1, hl2, hv⟩, hm, hr⟩
  obtain ⟨ao1, cn1, rfl, hd1⟩ := ho1.deep
  obtain ⟨ao2, cn2, rfl, hd2⟩ := ho2.deep
  have HB2 := Lib.hid (hm.box HB1.out (by omega) (by omega))
  have HW2 := Lib.hid (below_mv HW1.out hm (by omega) (by omega))
  have hsz2 := HW2.out.size
  have hsz3 : w1.heap.size < w2.heap.size := by have := hm.size; rw [World.size_alloc] at this; omega
  have HBA := Lib.hid (HB2.out.alloc (.cells #[.string nm, .slice ao1 l1.length cn1, .slice ao2 l2.length cn2] 26))
  have HPA := Lib.hid (BoxC.new w2 [.string nm, .slice ao1 l1.length cn1, .slice ao2 l2.length cn2] 26)
  have HWA := Lib.hid (HW2.out.alloc hsz2 (.cells #[.string nm, .slice ao1 l1.length cn1, .slice ao2 l2.length cn2] 26))
  have HD1 := Lib.hid (hd1.kept (below_new w2 (.cells #[.string nm, .slice ao1 l1.length cn1, .slice ao2 l2.length cn2] 26)))
  have HD2 := Lib.hid (hd2.kept (below_new w2 (.cells #[.string nm, .slice ao1 l1.length cn1, .slice ao2 l2.length cn2] 26)))
  have HNS := Lib.hid hns
  have n1 : w1.heap.size ≠ w.heap.size := by omega
  have n2 : w.heap.size ≠ w1.heap.size := by omega
  have n3 : g ≠ w.heap.size := by omega
  have n4 : w.heap.size ≠ g := by omega
  have hra := fun {k bad} (h : Qd E w2 k bad) => h.alloc (.cells #[.string nm, .slice ao1 l1.length cn1, .slice ao2 l2.length cn2] 26)
  clear ho1 ho2 hd1 hd2 hm HB1 HW1 HP HB2 HW2 hns
  cases hp : pProd L with
  | bad q =>
    rw [hp] at hr
    have HR : Hid (oneR L = (none, (q : Int), 5)) := Lib.hid (by unfold oneR; rw [hp])
    obtain ⟨k, hQk, hpos⟩ := hr
    have hQa := hra hQk
    have hkl : k < L.length := by rw [← hEl]; exact hQk.lt
    have y2 := hQa.at_ hao
    rw [hpos] at y2
    have hbx := hQa.box
    rw [hEr, hao, hEn, hEc] at hbx
    obtain ⟨c0, c1, c2⟩ := three_box hbx
    clear hbx hQa hQk hra hp hv HD1 HD2 HPA
    go_wp2_with fail
    obtain ⟨z0, z1, z2⟩ := three_box HBA.out
    have y0 := free_box HBA.out 0
    have y1 := free_box HBA.out 1
    have y3 := free_box HBA.out 2
    have HBz : Hid (BoxC (((((w2.alloc (.cells #[.string nm, .slice ao1 l1.length cn1, .slice ao2 l2.length cn2] 26)).setCell ⟨w.heap.size, 0, none⟩ (.string ⟨#[]⟩)).setCell ⟨w.heap.size, 1, none⟩ (.slice none 0 0)).setCell ⟨w.heap.size, 2, none⟩ (.slice none 0 0)).drew) w.heap.size 26 [.string ⟨#[]⟩, .slice none 0 0, .slice none 0 0]) := Lib.hid (set3 HBA.out _ _ _)
    have HWz : Hid (Below w.heap.size w (((((w2.alloc (.cells #[.string nm, .slice ao1 l1.length cn1, .slice ao2 l2.length cn2] 26)).setCell ⟨w.heap.size, 0, none⟩ (.string ⟨#[]⟩)).setCell ⟨w.heap.size, 1, none⟩ (.slice none 0 0)).setCell ⟨w.heap.size, 2, none⟩ (.slice none 0 0)).drew)) := Lib.hid (unD (((HWA.out.setCell (p := ⟨w.heap.size, 0, none⟩) (Nat.le_refl _) _).setCell (p := ⟨w.heap.size, 1, none⟩) (Nat.le_refl _) _).setCell (p := ⟨w.heap.size, 2, none⟩) (Nat.le_refl _) _))
    go_region
    all_goals
      go_wp2
      obtain ⟨d0, d1, d2⟩ := three_box HBz.out
      exact bodyPost_ret (v := .tuple #[.agg #[.string ⟨#[]⟩, .slice none 0 0, .slice none 0 0], .int .i64 q, .int .i64 5]) (by simp [results, Tryz.results8, go_sem, d0, d1, d2]) rfl ⟨by rw [HR.out]; exact ⟨zeroProd, rfl, rfl⟩, HWz.out⟩
  | ok p ts' =>
    rw [hp] at hr hv
    obtain rfl := hv _ _ rfl
    obtain ⟨k, hQk, hts⟩ := hr
    have hLn := hQk.good.len
    rw [hEl] at hLn
    have hfew := prod_few hp
    have hmem : ProdR.Mem (w2.alloc (.cells #[.string nm, .slice ao1 l1.length cn1, .slice ao2 l2.length cn2] 26)) ⟨nm, ao1, l1.length, cn1, l1, ao2, l2.length, cn2, l2⟩ := ⟨Nat.le_trans HNS.out (by decide), HD1.out.sl, HD1.out.ok, HD2.out.sl, HD2.out.ok⟩
    have hsh := rShape_any ⟨nm, ao1, l1.length, cn1, l1, ao2, l2.length, cn2, l2⟩ _ hmem (by rw [condsN_abs, absL_map]; exact Nat.le_trans hfew hLn)
    have habs : ProdR.abs ⟨nm, ao1, l1.length, cn1, l1, ao2, l2.length, cn2, l2⟩ = ⟨nm, l1.map CondR.abs, l2⟩ := by unfold ProdR.abs; simp only; rw [absL_map]
    rw [habs] at hsh
    unfold ProdR.val at hsh
    dsimp only at hsh
    have HSH := Lib.hid hsh
    have HAB := Lib.hid habs
    have hQa := hra hQk
    have hkl : k < L.length := by rw [← hEl]; exact hQk.lt
    have HPR : Hid (∀ S, shapeE ⟨nm, l1.map CondR.abs, l2⟩ = S → (S ≠ 0 → oneR L = (none, ((headT L).pos : Int), S)) ∧ (S = 0 → oneR L = if (headT ts').kind = 5 then (some ⟨nm, l1.map CondR.abs, l2⟩, -1, 0) else (none, ((headT ts').pos : Int), 5))) := Lib.hid (by
      rintro S rfl
      constructor
      · intro h0
        unfold oneR
        rw [hp]
        simp only
        rw [if_neg h0]
      · intro h0
        unfold oneR
        rw [hp]
        simp only
        rw [if_pos h0])
    obtain ⟨S, hS⟩ : ∃ S, shapeE ⟨nm, l1.map CondR.abs, l2⟩ = S := ⟨_, rfl⟩
    have hPR := HPR.out S hS
    rw [hS] at HSH
    have hbx := hQa.box
    rw [hEr, hao, hEn, hEc] at hbx
    obtain ⟨c0, c1, c2⟩ := three_box hbx
    obtain ⟨f0, f1, f2⟩ := three_box HPA.out
    have HQA := Lib.hid hQa
    have HTS := Lib.hid hts
    clear hbx hQa hQk hra hp hsh habs hmem hfew hLn hS HPR hv hts
    by_cases hs0 : S = 0
    · have e1 : (S != 0) = false := by simp [hs0]
      have e2 : (S == 0) = true := by simp [hs0]
      have HR := Lib.hid (hPR.2 hs0)
      have HIS := Lib.hid (fun W (h : Q8 E W (.ok () ts')) => is8 W h 5 ⟨#[]⟩ 5 rfl)
      unfold Env.ptr at HIS
      rw [hEr] at HIS
      clear hPR hs0
      have HQT : Hid (∀ W, Qd E W k false → Q8 E W (.ok () ts')) := Lib.hid (fun W h => ⟨k, h, HTS.out⟩)
      cases hk : isQ (Rs.ok () ts') 5 ⟨#[]⟩ with
      | true =>
        have hk5 : (headT ts').kind = 5 := by simpa [isQ, tokB_nil] using hk
        rw [if_pos hk5] at HR
        rw [hk] at HIS
        clear hk hk5
        go_wp2_with (first | (go_at_call 21; refine HSH.out.mono ?_; rintro x w3 ⟨⟨ek, rfl⟩, b3⟩; have HB3 := Lib.hid (HBA.out.below b3); have HP3 := Lib.hid (HPA.out.below b3); have HQ3 := Lib.hid (HQA.out.below b3); have HD13 := Lib.hid (HD1.out.kept b3); have HD23 := Lib.hid (HD2.out.kept b3); have HW3 := Lib.hid (HWA.out.trans (b3.mono HWA.out.size)); clear b3) | (go_at_call 22; refine (HIS.out _ (HQT.out _ HQ3.out)).mono ?_; rintro x w4 ⟨rfl, b4⟩; have HB4 := Lib.hid (HB3.out.below b4); have HP4 := Lib.hid (HP3.out.below b4); have HD14 := Lib.hid (HD13.out.kept b4); have HD24 := Lib.hid (HD23.out.kept b4); have HW4 := Lib.hid (HW3.out.trans (b4.mono HW3.out.size)); clear b4; obtain ⟨f0, f1, f2⟩ := three_box HP4.out) | (refine wpList_box rfl 26 (.tmp 2) (.tmp 68) rfl w.heap.size 0 _ [.string nm, .slice ao1 l1.length cn1, .slice ao2 l2.length cn2] rfl rfl rfl HB4.out Tryz.sz26 (by simp) (by simp [Value.oneCell']) _ rfl ?_; intro wz Bz gz; have HBz := Lib.hid Bz; have HGz := Lib.hid gz; clear Bz gz))
        obtain ⟨d0, d1, d2⟩ := three_box HBz.out
        have hdc := HD14.out.same (sameIn_of_grown HGz.out fun b hb e => by injection e with e; omega)
        have hda := HD24.out.same (sameIn_of_grown HGz.out fun b hb e => by injection e with e; omega)
        exact bodyPost_ret (v := .tuple #[.agg #[.string nm, .slice ao1 l1.length cn1, .slice ao2 l2.length cn2], .int .i64 (-1), .int .i64 0]) (by simp [results, Tryz.results8, go_sem, d0, d1, d2]) rfl ⟨by rw [HR.out]; exact ⟨_, rfl, ⟨nm, ao1, l1.length, cn1, l1, ao2, l2.length, cn2, l2⟩, rfl, HAB.out, ⟨Nat.le_trans HNS.out (by decide), hdc.sl, hdc.ok, hda.sl, hda.ok⟩, hdc.mono fun b hb => by omega, hda.mono fun b hb => by omega⟩, below_grows HW4.out HGz.out (by intro b e; cases e; exact Nat.le_refl _)⟩
      | false =>
        have hk5 : (headT ts').kind ≠ 5 := by simpa [isQ, tokB_nil] using hk
        rw [if_neg hk5] at HR
        rw [hk] at HIS
        clear hk hk5
        go_wp2_with (first | (go_at_call 21; refine HSH.out.mono ?_; rintro x w3 ⟨⟨ek, rfl⟩, b3⟩; have HB3 := Lib.hid (HBA.out.below b3); have HP3 := Lib.hid (HPA.out.below b3); have HQ3 := Lib.hid (HQA.out.below b3); have HD13 := Lib.hid (HD1.out.kept b3); have HD23 := Lib.hid (HD2.out.kept b3); have HW3 := Lib.hid (HWA.out.trans (b3.mono HWA.out.size)); clear b3) | (go_at_call 22; refine (HIS.out _ (HQT.out _ HQ3.out)).mono ?_; rintro x w4 ⟨rfl, b4⟩; have HB4 := Lib.hid (HB3.out.below b4); have HQ4 := Lib.hid (HQ3.out.below b4); have HW4 := Lib.hid (HW3.out.trans (b4.mono HW3.out.size)); clear b4))
        clear c0 c1 c2 f0 f1 f2
        have y2 := HQ4.out.at_ hao
        rw [show E.at8 k = headT ts' by unfold Env.at8; rw [HTS.out]] at y2
        have hbx := HQ4.out.box
        rw [hEr, hao, hEn, hEc] at hbx
        obtain ⟨c0, c1, c2⟩ := three_box hbx
        clear hbx
        obtain ⟨z0, z1, z2⟩ := three_box HB4.out
        have y0 := free_box HB4.out 0
        have y1 := free_box HB4.out 1
        have y3 := free_box HB4.out 2
        have HBz : Hid (BoxC (((((w4).setCell ⟨w.heap.size, 0, none⟩ (.string ⟨#[]⟩)).setCell ⟨w.heap.size, 1, none⟩ (.slice none 0 0)).setCell ⟨w.heap.size, 2, none⟩ (.slice none 0 0)).drew) w.heap.size 26 [.string ⟨#[]⟩, .slice none 0 0, .slice none 0 0]) := Lib.hid (set3 HB4.out _ _ _)
        have HWz : Hid (Below w.heap.size w (((((w4).setCell ⟨w.heap.size, 0, none⟩ (.string ⟨#[]⟩)).setCell ⟨w.heap.size, 1, none⟩ (.slice none 0 0)).setCell ⟨w.heap.size, 2, none⟩ (.slice none 0 0)).drew)) := Lib.hid (unD (((HW4.out.setCell (p := ⟨w.heap.size, 0, none⟩) (Nat.le_refl _) _).setCell (p := ⟨w.heap.size, 1, none⟩) (Nat.le_refl _) _).setCell (p := ⟨w.heap.size, 2, none⟩) (Nat.le_refl _) _))
        go_region
        all_goals
          go_wp2
          obtain ⟨d0, d1, d2⟩ := three_box HBz.out
          exact bodyPost_ret (v := .tuple #[.agg #[.string ⟨#[]⟩, .slice none 0 0, .slice none 0 0], .int .i64 (headT ts').pos, .int .i64 5]) (by simp [results, Tryz.results8, go_sem, d0, d1, d2]) rfl ⟨by rw [HR.out]; exact ⟨zeroProd, rfl, rfl⟩, HWz.out⟩
    · have e1 : (S != 0) = true := by simp [hs0]
      have e2 : (S == 0) = false := by simp [hs0]
      have HR := Lib.hid (hPR.1 hs0)
      clear hPR hs0
      go_wp2_with (first | (go_at_call 21; refine HSH.out.mono ?_; rintro x w3 ⟨⟨ek, rfl⟩, b3⟩; have HB3 := Lib.hid (HBA.out.below b3); have HP3 := Lib.hid (HPA.out.below b3); have HQ3 := Lib.hid (HQA.out.below b3); have HD13 := Lib.hid (HD1.out.kept b3); have HD23 := Lib.hid (HD2.out.kept b3); have HW3 := Lib.hid (HWA.out.trans (b3.mono HWA.out.size)); clear b3) | (refine wpList_box rfl 26 (.tmp 2) (.tmp 50) rfl w.heap.size 0 _ [.string ⟨#[]⟩, .slice none 0 0, .slice none 0 0] rfl rfl rfl HB3.out Tryz.sz26 (by simp) (by simp [Value.oneCell']) _ rfl ?_; intro wz Bz gz; have HBz := Lib.hid Bz; have HGz := Lib.hid gz; clear Bz gz))
      obtain ⟨d0, d1, d2⟩ := three_box HBz.out
      exact bodyPost_ret (v := .tuple #[.agg #[.string ⟨#[]⟩, .slice none 0 0, .slice none 0 0], .int .i64 (headT L).pos, .int .i64 S]) (by simp [results, Tryz.results8, go_sem, d0, d1, d2]) rfl ⟨by rw [HR.out]; exact ⟨zeroProd, rfl, rfl⟩, below_grows HW3.out HGz.out (by intro b e; cases e; exact Nat.le_refl _)⟩
end Go.Proofs.YtgeaccoobhigcaaGreat
