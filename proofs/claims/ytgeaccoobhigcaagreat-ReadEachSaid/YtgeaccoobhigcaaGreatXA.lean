/-
  The document's reader as it lies in memory: which token stands there, a token that must stand there. The document's reader: a token that must stand there. ponderref04.Parse of a word's and of a number's text. The document's reader: a constant, an atom. The document's reader: an atom. The document's reader: the sign of a test. The document's reader: how its loops stand; a list of constants. The document's reader: a test of a list. The document's reader: a test. The document's reader: does a field stand there; a field.
-/
import Derived.Test.YtgeaccoobhigcaaGreatGB
import Derived.Deep.RegionHeld3
import Derived.Deep.QuietTactic
import Derived.BigQuiet
import Derived.Test.YtgeaccoobhigcaaGreatGL
import Derived.Test.YtgeaccoobhigcaaGreatG1
import Derived.Test.YtgeaccoobhigcaaGreatGE
import Derived.Test.YtgeaccoobhigcaaGreatGH
import Derived.Deep.LoopGhost
import Derived.Deep.RegionLaw
namespace Go.Proofs.YtgeaccoobhigcaaGreat
open Go Go.RowKit

/-- The document's reader in memory, k tokens on. -/
structure Qd (E : Env) (w : World) (k : Nat) (bad : Bool) : Prop where
  box : BoxC w E.r 65 [.slice E.ao E.n E.c, .int .i64 (k : Int), .bool bad]
  data : SlR w 3 E.ao E.n E.c (cellsT E.L)
  out : InB (fun b => b ≠ E.r) E.ao E.n
  good : Good E.L
  lt : k < E.L.length
  one : E.ib = E.r
def Env.at8 (E : Env) (k : Nat) : Tk := headT (E.L.drop k)
theorem Env.at8_some {E : Env} {k : Nat} (h : k < E.L.length) : E.L[k]? = some (E.at8 k) := by
  unfold Env.at8 headT
  rw [List.headD_eq_head?_getD, List.head?_drop, List.getElem?_eq_getElem h]
  rfl
/-- Does such a token stand there? -/
def tokB (t : Tk) (K : Nat) (s : ByteArray) : Bool := decide (t.kind = K) && ((s.data.toList == []) || (t.text == s.data.toList))
theorem Tryz.sz66 : (Tryz.prog.info? 66).map (·.size) = some 3 := by kernel_rfl
section
variable {E : Env} {w w' : World} {k : Nat} {bad : Bool}
theorem Qd.lows (h : Qd E w k bad) : E.r < w.heap.size := h.box.lt
theorem Qd.kept {row : Option Nat} (h : Qd E w k bad) (g : w.grownBy w' row) (hr : ∀ b, row = some b → b ≠ E.r ∧ OffB b E.ao E.n) : Qd E w' k bad :=
  ⟨h.box.grown g (fun e => (hr _ e.symm).1 rfl), h.data.grown g fun b e => (hr b e).2, h.out, h.good, h.lt, h.one⟩
theorem Qd.below (h : Qd E w k bad) (b : Below w.heap.size w w') : Qd E w' k bad := h.kept (row := none) ⟨b.os, b.tape, b.output, b.size, fun k hk _ => b.block k hk⟩ (by simp)
theorem Qd.alloc (h : Qd E w k bad) (o : Obj) : Qd E (w.alloc o) k bad := h.kept (World.grownBy_alloc w o none) (by simp)
/-- A block that was made since is written. -/
theorem Qd.new {w0 : World} {b k0 : Nat} {bad0 : Bool} (h0 : Qd E w0 k0 bad0) (h : Qd E w k bad) (g : w.grownBy w' (some b)) (hb : w0.heap.size ≤ b) : Qd E w' k bad :=
  h.kept g (by
    rintro c e; cases e
    refine ⟨fun e => ?_, fun a ha hn e => ?_⟩
    · have := h0.lows; omega
    · have := h0.data.inB (by omega) a ha hn; omega)
/-- The reader's own block is written. -/
theorem Qd.put {k' : Nat} {bad' : Bool} (h : Qd E w k bad) (g : w.grownBy w' (some E.r)) (hb : BoxC w' E.r 65 [.slice E.ao E.n E.c, .int .i64 (k' : Int), .bool bad']) (hk : k' < E.L.length) : Qd E w' k' bad' :=
  ⟨hb, h.data.grown g (by rintro b e; cases e; exact fun a ha hn => h.out a ha hn), h.out, h.good, hk, h.one⟩
theorem Qd.more (h : Qd E w k bad) (hk : (E.at8 k).kind ≠ 5 ∧ (E.at8 k).kind ≠ 6) : k + 1 < E.L.length := by
  have := h.lt
  rcases Nat.lt_or_ge (k + 1) E.L.length with h1 | h1
  · exact h1
  · rcases (h.good.last k _ (Env.at8_some h.lt)).2 (by omega) with h2 | h2
    · exact absurd h2 hk.1
    · exact absurd h2 hk.2
end

set_option maxRecDepth 100000 in
set_option maxHeartbeats 1000000 in
theorem is8_any {E : Env} {k : Nat} {bad : Bool} (w : World) (h : Qd E w k bad) (K : Nat) (s : ByteArray) : Calls Tryz.prog 22 #[E.ptr, .int .i64 K, .string s] w fun x w' => x = .returned (.bool (!bad && tokB (E.at8 k) K s)) ∧ Below w.heap.size w w' := by
  obtain ⟨c0, c1, c2⟩ := three_box h.box
  obtain ⟨g, o, hao, x0, x1, x2⟩ := h.data.tok (Env.at8_some h.lt)
  have hgg := World.block_lt_of_cell? w _ x0
  simp only at hgg
  have hn := good_size h.data
  have hlt := h.lt
  have hlr := h.lows
  have hcap := h.data.2.1
  have hlen := h.good.len
  unfold Env.ptr tokB
  generalize E.at8 k = t at *
  obtain ⟨r, lb, ib, ao, n, c, L⟩ := E
  simp only at *
  subst hao
  unfold strV at x1
  obtain ⟨kd, tx, ps⟩ := t
  simp only at x0 x1 x2 ⊢
  have hkn : k < n := by omega
  have hn1 : n ≤ 1000000 := by omega
  have HB := Lib.hid ((below_new w (.cells #[.int .i64 0, .string ⟨#[]⟩, .int .i64 0] 66)))
  have HC := Lib.hid (BoxC.new w [.int .i64 0, .string ⟨#[]⟩, .int .i64 0] 66)
  have HR := Lib.hid (h.box.alloc (.cells #[.int .i64 0, .string ⟨#[]⟩, .int .i64 0] 66))
  have hs2 : s.toList = s.data.toList := ByteArray.toList_eq s
  rw [← hs2]
  have hnil : (⟨#[]⟩ : ByteArray).toList = [] := by rw [ByteArray.toList_eq]
  have htx : (⟨tx.toArray⟩ : ByteArray).toList = tx := by rw [ByteArray.toList_eq]
  clear h hlen hn hlt hs2
  go_enter Tryz.func22, Tryz.ntmps22
  have hmix : Tryz.prog.follows .mixedOrders = true := by kernel_rfl
  go_wp2
  have v0 := World.new_ne w _ c0
  have v1 := World.new_ne w _ c1
  have v2 := World.new_ne w _ x0
  have v3 := World.new_ne w _ x1
  have v4 := World.new_ne w _ x2
  go_region_held3 (fun w' => w'.cell? ⟨r, 0, none⟩ = some (.slice (some ⟨g, o, none⟩) n c) ∧ w'.cell? ⟨r, 1, none⟩ = some (.int .i64 k) ∧ w'.cell? ⟨g, o + k * 3, none⟩ = some (.int .i64 kd) ∧ w'.cell? ⟨g, o + k * 3 + 1, none⟩ = some (.string ⟨tx.toArray⟩) ∧ w'.cell? ⟨g, o + k * 3 + 2, none⟩ = some (.int .i64 ps)) (go_keep) (fail)
  have HX := Lib.hid (BoxC.new w [.int .i64 kd, .string ⟨tx.toArray⟩, .int .i64 ps] 66)
  have HW := Lib.hid (below_new w (.cells #[.int .i64 kd, .string ⟨tx.toArray⟩, .int .i64 ps] 66))
  have hw2 : (w.alloc (.cells #[.int .i64 kd, .string ⟨tx.toArray⟩, .int .i64 ps] 66)).drew.cell? ⟨r, 2, none⟩ = some (.bool bad) := ((below_new w (.cells #[.int .i64 kd, .string ⟨tx.toArray⟩, .int .i64 ps] 66)).cell (p := ⟨r, 2, none⟩) hlr).trans c2
  generalize w.alloc (.cells #[.int .i64 kd, .string ⟨tx.toArray⟩, .int .i64 ps] 66) = w1 at *
  obtain ⟨d0, d1, d2⟩ := three_box (show BoxC w1.drew w.heap.size 66 [.int .i64 kd, .string ⟨tx.toArray⟩, .int .i64 ps] from HX.out)
  have HWD : Hid (Below w.heap.size w w1.drew) := Lib.hid ⟨HW.out.os, HW.out.tape, HW.out.output, HW.out.size, HW.out.block⟩
  clear c0 c1 c2 x0 x1 x2 v0 v1 v2 v3 v4 HB HC HR HX HW
  generalize w1.drew = w2 at *
  cases bad with
  | true =>
    go_wp2
    go_ret
    exact ⟨rfl, HWD.out⟩
  | false =>
    by_cases hk : kd = K
    · have e1 : ((kd : Int) == K) = true := by simp [hk]
      have e2 : decide (kd = K) = true := by simp [hk]
      cases h1 : s.toList == [] with
      | true =>
        go_wp2
        go_ret
        exact ⟨by rw [e2, h1]; rfl, HWD.out⟩
      | false =>
        cases h2 : tx == s.toList with
        | true =>
          go_wp2
          go_ret
          exact ⟨by rw [e2, h1, h2]; rfl, HWD.out⟩
        | false =>
          go_wp2
          go_ret
          exact ⟨by rw [e2, h1, h2]; rfl, HWD.out⟩
    · have e1 : ((kd : Int) == K) = false := by simp; omega
      have e2 : decide (kd = K) = false := by simp [hk]
      go_wp2
      go_ret
      exact ⟨by rw [e2]; rfl, HWD.out⟩

/-- Where the document's reader is behind a reading. -/
def Q8 {α : Type} (E : Env) (w : World) : Rs α → Prop
  | .bad p => ∃ k, Qd E w k true ∧ (E.at8 k).pos = p
  | .ok _ ts => ∃ k, Qd E w k false ∧ E.L.drop k = ts
/-- Does such a token stand there, and has nothing gone wrong? -/
def isQ {α : Type} (r : Rs α) (K : Nat) (s : ByteArray) : Bool := match r with | .bad _ => false | .ok _ ts => tokB (headT ts) K s
section
variable {α β : Type} {E : Env} {w w' : World} {r : Rs α}
theorem Q8.at_k (h : Q8 E w r) : ∃ k bad, Qd E w k bad := by
  cases r with
  | bad p => obtain ⟨k, h, _⟩ := h; exact ⟨k, _, h⟩
  | ok a ts => obtain ⟨k, h, _⟩ := h; exact ⟨k, _, h⟩
theorem Q8.lows (h : Q8 E w r) : E.r < w.heap.size := by obtain ⟨k, b, h⟩ := h.at_k; exact h.lows
theorem Q8.one (h : Q8 E w r) : E.ib = E.r := by obtain ⟨k, b, h⟩ := h.at_k; exact h.one
theorem Q8.good (h : Q8 E w r) : Good E.L := by obtain ⟨k, b, h⟩ := h.at_k; exact h.good
theorem Q8.len (h : Q8 E w r) : E.L.length ≤ 1000000 := h.good.len
theorem Q8.map {f : ∀ {k bad}, Qd E w k bad → Qd E w' k bad} (h : Q8 E w r) : Q8 E w' r := by
  cases r with
  | bad p => obtain ⟨k, h, e⟩ := h; exact ⟨k, f h, e⟩
  | ok a ts => obtain ⟨k, h, e⟩ := h; exact ⟨k, f h, e⟩
theorem Q8.below (h : Q8 E w r) (b : Below w.heap.size w w') : Q8 E w' r := h.map (f := fun h => h.below b)
theorem Q8.alloc (h : Q8 E w r) (o : Obj) : Q8 E (w.alloc o) r := h.map (f := fun h => h.alloc o)
theorem Q8.drewN (h : Q8 E w r) (n : Nat) : Q8 E (w.drewN n) r := h.below ⟨rfl, rfl, rfl, Nat.le_refl _, fun _ _ => rfl⟩
theorem Q8.kept {row : Option Nat} (h : Q8 E w r) (g : w.grownBy w' row) (hr : ∀ b, row = some b → b ≠ E.r ∧ OffB b E.ao E.n) : Q8 E w' r := h.map (f := fun h => h.kept g hr)
/-- A block that was made since is written. -/
theorem Q8.new {w0 : World} {r0 : Rs β} {b : Nat} (h0 : Q8 E w0 r0) (h : Q8 E w r) (g : w.grownBy w' (some b)) (hb : w0.heap.size ≤ b) : Q8 E w' r := by
  obtain ⟨k0, b0, h0⟩ := h0.at_k
  exact h.map (f := fun h => h0.new h g hb)
theorem Q8.of {f : α → β} (h : Q8 E w r) : Q8 E w (r.bind fun a ts => .ok (f a) ts) := by cases r <;> exact h
theorem Q8.same {q : Rs β} (h : Q8 E w r) (hb : ∀ p, r = .bad p → q = .bad p) (ho : ∀ a ts, r = .ok a ts → ∃ b, q = .ok b ts) : Q8 E w q := by
  cases r with
  | bad p => rw [hb p rfl]; exact h
  | ok a ts => obtain ⟨b, hb⟩ := ho a ts rfl; rw [hb]; exact h
theorem Qd.q8 {k : Nat} {a : α} (h : Qd E w k false) : Q8 E w (.ok a (E.L.drop k)) := ⟨k, h, rfl⟩
theorem isQ_true {K : Nat} {s : ByteArray} (h : isQ r K s = true) : ∃ a ts, r = .ok a ts ∧ tokB (headT ts) K s = true := by
  cases r with
  | bad p => cases h
  | ok a ts => exact ⟨a, ts, rfl, h⟩
theorem Q8.ok_size {a : α} {ts : List Tk} (h : Q8 E w (.ok a ts)) : (textB (headT ts)).size ≤ 1000000 ∧ ts.length ≤ 1000000 := by
  obtain ⟨k, h, rfl⟩ := h
  have hm : headT (E.L.drop k) ∈ E.L := List.mem_of_getElem? (Env.at8_some h.lt)
  have := h.good.text _ hm
  refine ⟨?_, ?_⟩
  · unfold textB
    show (headT (E.L.drop k)).text.toArray.size ≤ _
    simpa using this
  · have := h.good.len
    rw [List.length_drop]
    omega
theorem Mv.of_r {row : Option Nat} (g : w.grownBy w' row) (hr : ∀ b, row = some b → b = E.r ∨ w.heap.size ≤ b) : Mv E w w' :=
  (Mv.refl E w).grown g fun b e => by rcases hr b e with h | h; exact .inl h; exact .inr (.inr h)
end
theorem is8 {α : Type} {E : Env} {r : Rs α} (w : World) (h : Q8 E w r) (K : Nat) (s : ByteArray) (Ki : Int) (hk : (K : Int) = Ki) : Calls Tryz.prog 22 #[E.ptr, .int .i64 Ki, .string s] w fun x w' => x = .returned (.bool (isQ r K s)) ∧ Below w.heap.size w w' := by
  subst hk
  cases r with
  | bad p => obtain ⟨k, h, _⟩ := h; exact is8_any w h K s
  | ok a ts =>
    obtain ⟨k, h, rfl⟩ := h
    exact is8_any w h K s
set_option maxRecDepth 100000 in
set_option maxHeartbeats 1000000 in
theorem sign8 {α : Type} {E : Env} {r : Rs α} (w : World) (h : Q8 E w r) (s : ByteArray) : Calls Tryz.prog 40 #[E.ptr, .string s] w fun x w' => x = .returned (.bool (isQ r 4 s)) ∧ Below w.heap.size w w' := by
  have H := Lib.hid (is8 w h 4 s 4 rfl)
  clear h
  unfold Env.ptr at H ⊢
  go_enter Tryz.func40, Tryz.ntmps40
  go_wp2_with (go_at_call 22; refine H.out.mono ?_; rintro x w1 ⟨rfl, b1⟩)
  go_ret
  exact ⟨rfl, b1⟩
/-- Does a constant stand there? -/
def constQ {α : Type} (r : Rs α) : Bool := match r with | .bad _ => false | .ok _ ts => constHere (headT ts)
def atomQ {α : Type} (r : Rs α) : Bool := match r with | .bad _ => false | .ok _ ts => atomHere (headT ts)
theorem tokB_nil (t : Tk) (K : Nat) : tokB t K ⟨#[]⟩ = decide (t.kind = K) := by unfold tokB; simp
theorem constQ_eq {α : Type} (r : Rs α) : constQ r = (isQ r 1 ⟨#[]⟩ || isQ r 2 ⟨#[]⟩) := by
  cases r with
  | bad p => rfl
  | ok a ts => simp only [constQ, isQ, tokB_nil]; rfl
theorem atomQ_eq {α : Type} (r : Rs α) : atomQ r = (isQ r 3 ⟨#[]⟩ || constQ r) := by
  cases r with
  | bad p => rfl
  | ok a ts => simp only [atomQ, constQ, isQ, tokB_nil]; rfl
set_option maxRecDepth 100000 in
set_option maxHeartbeats 1000000 in
theorem isConst8 {α : Type} {E : Env} {r : Rs α} (w : World) (h : Q8 E w r) : Calls Tryz.prog 107 #[E.ptr] w fun x w' => x = .returned (.bool (constQ r)) ∧ Below w.heap.size w w' := by
  have H := Lib.hid (is8 w h 1 ⟨#[]⟩ 1 rfl)
  have H2 := Lib.hid (fun w' (b : Below w.heap.size w w') => is8 w' (h.below b) 2 ⟨#[]⟩ 2 rfl)
  rw [constQ_eq]
  clear h
  unfold Env.ptr at H H2 ⊢
  cases h1 : isQ r 1 ⟨#[]⟩ with
  | true =>
    go_enter Tryz.func107, Tryz.ntmps107
    go_wp2_with (go_at_call 22; refine H.out.mono ?_; rintro x w1 ⟨rfl, b1⟩; rw [h1])
    go_ret
    exact ⟨rfl, b1⟩
  | false =>
    generalize isQ r 2 ⟨#[]⟩ = b at *
    go_enter Tryz.func107, Tryz.ntmps107
    go_wp2_with (first | (go_at_call 22; with_reducible refine H.out.mono ?_; rintro x w1 ⟨rfl, b1⟩; rw [h1]) | (go_at_call 22; with_reducible refine (H2.out _ b1).mono ?_; rintro x w2 ⟨rfl, b2⟩))
    go_ret
    exact ⟨by rw [Bool.false_or]; rfl, below_trans b1 b2⟩
set_option maxRecDepth 100000 in
set_option maxHeartbeats 1000000 in
theorem isAtom8 {α : Type} {E : Env} {r : Rs α} (w : World) (h : Q8 E w r) : Calls Tryz.prog 89 #[E.ptr] w fun x w' => x = .returned (.bool (atomQ r)) ∧ Below w.heap.size w w' := by
  have H := Lib.hid (is8 w h 3 ⟨#[]⟩ 3 rfl)
  have H2 := Lib.hid (fun w' (b : Below w.heap.size w w') => isConst8 w' (h.below b))
  rw [atomQ_eq]
  clear h
  unfold Env.ptr at H H2 ⊢
  cases h1 : isQ r 3 ⟨#[]⟩ with
  | true =>
    go_enter Tryz.func89, Tryz.ntmps89
    go_wp2_with (go_at_call 22; refine H.out.mono ?_; rintro x w1 ⟨rfl, b1⟩; rw [h1])
    go_ret
    exact ⟨rfl, b1⟩
  | false =>
    generalize constQ r = b at *
    go_enter Tryz.func89, Tryz.ntmps89
    go_wp2_with (first | (go_at_call 22; refine H.out.mono ?_; rintro x w1 ⟨rfl, b1⟩; rw [h1]) | (go_at_call 107; refine (H2.out _ b1).mono ?_; rintro x w2 ⟨rfl, b2⟩))
    go_ret
    exact ⟨by rw [Bool.false_or]; rfl, below_trans b1 b2⟩
end Go.Proofs.YtgeaccoobhigcaaGreat
namespace Go.Proofs.YtgeaccoobhigcaaGreat
open Go Go.RowKit

theorem grownBy_of_drewN {w w' : World} {row : Option Nat} {k : Nat} (h : (w.drewN k).grownBy w' row) : w.grownBy w' row := ⟨h.os, h.tape, h.output, h.size, h.block⟩
/-- The text of such a token, which must stand there. -/
def pTok (K : Nat) (s : ByteArray) : Pr ByteArray := fun ts => if tokB (headT ts) K s then .ok (textB (headT ts)) ts.tail else badAt ts
theorem pTok_text {K : Nat} (ts : List Tk) : pTok K ⟨#[]⟩ ts = pText K ts := by
  unfold pTok pText
  rw [tokB_nil]
  simp only [decide_eq_true_eq]
theorem tokB_sign (t : Tk) {s : ByteArray} (h : (s.data.toList == []) = false) : tokB t 4 s = isB t s := by
  unfold tokB isB
  rw [h, Bool.false_or]
theorem pTok_take {s : ByteArray} (h : (s.data.toList == []) = false) (ts : List Tk) : (pTok 4 s ts).bind (fun _ t => Rs.ok () t) = pTake s ts := by
  unfold pTok pTake
  rw [tokB_sign _ h]
  split <;> rfl
theorem Tryz.sz4' : (Tryz.prog.info? 4).map (·.size) = some 1 := by kernel_rfl
theorem Tryz.sz3' : (Tryz.prog.info? 3).map (·.size) = some 1 := by kernel_rfl
/-- Where the reader stands, behind a reading. -/
def QK {α : Type} (E : Env) (r : Rs α) (k : Nat) (bad : Bool) : Prop := match r with | .bad p => bad = true ∧ (E.at8 k).pos = p | .ok _ ts => bad = false ∧ E.L.drop k = ts
section
variable {α β : Type} {E : Env} {w w' : World} {r : Rs α} {k : Nat} {bad : Bool}
theorem Q8.split (h : Q8 E w r) : ∃ k bad, Qd E w k bad ∧ QK E r k bad := by
  cases r with
  | bad p => obtain ⟨k, h, e⟩ := h; exact ⟨k, _, h, rfl, e⟩
  | ok a ts => obtain ⟨k, h, e⟩ := h; exact ⟨k, _, h, rfl, e⟩
theorem Qd.join (h : Qd E w k bad) (hk : QK E r k bad) : Q8 E w r := by
  cases r with
  | bad p => obtain ⟨rfl, e⟩ := hk; exact ⟨k, h, e⟩
  | ok a ts => obtain ⟨rfl, e⟩ := hk; exact ⟨k, h, e⟩
/-- It goes wrong where a reading stands. -/
theorem QK.fail (h : QK E r k bad) {p : Pr β} (hp : ∀ a ts, r = .ok a ts → p ts = badAt ts) : QK E (r.bind fun _ ts => p ts) k true := by
  cases r with
  | bad q => exact ⟨rfl, h.2⟩
  | ok a ts =>
    obtain ⟨rfl, rfl⟩ := h
    show QK E (p (E.L.drop k)) k true
    rw [hp a _ rfl]
    exact ⟨rfl, rfl⟩
/-- One token further on. -/
theorem Qd.next (h : Qd E w k false) (hk : (E.at8 k).kind ≠ 5 ∧ (E.at8 k).kind ≠ 6) (g : w.grownBy w' (some E.r)) (hb : BoxC w' E.r 65 [.slice E.ao E.n E.c, .int .i64 ((k : Int) + 1), .bool false]) (b : β) : Q8 E w' (.ok b (E.L.drop k).tail) :=
  ⟨k + 1, h.put g (by rw [show ((k + 1 : Nat) : Int) = (k : Int) + 1 from rfl]; exact hb) (h.more hk), by rw [List.tail_drop]⟩
theorem bad_ne {f : α → List Tk → Rs β} (hp : ∀ a ts, r = .ok a ts → ∃ q, f a ts = .bad q) : ∀ b ts, r.bind f ≠ .ok b ts := by
  intro b ts e
  cases r with
  | bad p => cases e
  | ok a t => obtain ⟨q, hq⟩ := hp a t rfl; simp only [Rs.bind] at e; rw [hq] at e; cases e
theorem Qd.mv {w1 : World} (b : Below w.heap.size w w1) (g : w1.grownBy w' (some E.r)) : Mv E w w' := (Mv.of_below b).grown g fun b e => by cases e; exact .inl rfl
end
set_option maxRecDepth 100000 in
set_option maxHeartbeats 2000000 in
theorem take8 {α : Type} {E : Env} {r : Rs α} (w : World) (h : Q8 E w r) (K : Nat) (hK : K ≠ 5 ∧ K ≠ 6) (s : ByteArray) (Ki : Int) (hk : (K : Int) = Ki) : Calls Tryz.prog 38 #[E.ptr, .int .i64 Ki, .string s] w fun x w' => StrIs (r.bind fun _ ts => pTok K s ts) x ∧ Mv E w w' ∧ Q8 E w' (r.bind fun _ ts => pTok K s ts) := by
  have H := Lib.hid (is8 w h K s Ki hk)
  cases hq : isQ r K s with
  | false =>
    have hbad : ∀ a ts, r = .ok a ts → pTok K s ts = badAt ts := by
      rintro a ts rfl
      unfold pTok
      rw [if_neg (by simpa [isQ] using hq)]
    obtain ⟨k, bad, hQ, hK⟩ := h.split
    have HQ := Lib.hid hQ
    have HK := Lib.hid (hK.fail hbad)
    have HR := Lib.hid (bad_ne (r := r) (f := fun _ ts => pTok K s ts) fun a ts e => ⟨_, hbad a ts e⟩)
    clear h hQ hbad hK
    generalize (r.bind fun _ ts => pTok K s ts) = R at HK HR ⊢
    unfold Env.ptr at H ⊢
    go_enter Tryz.func38, Tryz.ntmps38
    go_wp2_with (first | (go_at_call 22; refine H.out.mono ?_; rintro x w1 ⟨rfl, b1⟩; rw [hq]; have HQ1 := Lib.hid (HQ.out.below b1); have B1 := Lib.hid b1; clear b1) | (refine wpList_box rfl 4 (.tmp 15) (.const (.bool true)) rfl E.r 2 _ [.bool true] rfl rfl rfl HQ1.out.box Tryz.sz4' (by simp) (by simp [Value.oneCell']) [.slice E.ao E.n E.c, .int .i64 (k : Int), .bool true] rfl ?_; intro w2 B2 g2; have HB2 := Lib.hid B2; have HG2 := Lib.hid g2; clear B2 g2))
    go_ret
    exact ⟨⟨⟨#[]⟩, rfl, by decide, fun a ts e => absurd e (HR.out a ts)⟩, Qd.mv B1.out HG2.out, (HQ1.out.put HG2.out HB2.out HQ1.out.lt).join HK.out⟩
  | true =>
    obtain ⟨a, ts, rfl, ht⟩ := isQ_true hq
    obtain ⟨k, hQ, rfl⟩ := h
    have hp : ((Rs.ok a (E.L.drop k)).bind fun _ ts => pTok K s ts) = .ok (textB (E.at8 k)) (E.L.drop k).tail := by
      show pTok K s (E.L.drop k) = _
      unfold pTok
      rw [if_pos ht]
      rfl
    rw [hp]
    have hkind : (E.at8 k).kind = K := by
      unfold tokB at ht
      simp only [Bool.and_eq_true, decide_eq_true_eq] at ht
      exact ht.1
    have HQ := Lib.hid hQ
    have HN := Lib.hid (fun w1 (b : Below w.heap.size w w1) w2 g hb => (hQ.below b).next (b := textB (E.at8 k)) (w' := w2) (by omega) g hb)
    have HS : Hid ((textB (E.at8 k)).size ≤ 1000000) := Lib.hid (Q8.ok_size (a := ()) ⟨k, hQ, rfl⟩).1
    obtain ⟨T, hT⟩ : ∃ T, textB (E.at8 k) = T := ⟨_, rfl⟩
    rw [hT] at HN HS ⊢
    have HT := Lib.hid (show strV (E.at8 k).text = .string T from congrArg Value.string hT)
    clear hp ht hkind hQ hT
    have hmix : Tryz.prog.follows .mixedOrders = true := by kernel_rfl
    unfold Env.ptr at H ⊢
    go_enter Tryz.func38, Tryz.ntmps38
    go_wp2_with (go_at_call 22; refine H.out.mono ?_; rintro x w1 ⟨rfl, b1⟩; rw [hq]; have HQ1 := Lib.hid (HQ.out.below b1); have B1 := Lib.hid b1; clear b1)
    obtain ⟨c0, c1, c2⟩ := three_box HQ1.out.box
    obtain ⟨g, o, hao, x0, x1, x2⟩ := HQ1.out.data.tok (Env.at8_some HQ1.out.lt)
    have hn := good_size HQ1.out.data
    have hcap := HQ1.out.data.2.1
    have hlt := HQ1.out.lt
    have hlen := HQ1.out.good.len
    have hkn : k < E.n := by omega
    have hn1 : E.n ≤ 1000000 := by omega
    rw [hao] at c0
    rw [HT.out] at x1
    clear hn hlt hlen x0 x2
    go_quiet (fail)
    go_wp2_with (refine wpList_box rfl 3 (.tmp 33) (.tmp 31) rfl E.r 1 _ [.int .i64 ((k : Int) + 1)] rfl rfl rfl HQ1.out.box Tryz.sz3' (by simp) (by simp [Value.oneCell']) [.slice E.ao E.n E.c, .int .i64 ((k : Int) + 1), .bool false] rfl ?_; intro w2 B2 g2; have HB2 := Lib.hid B2; have HG2 := Lib.hid g2; clear B2 g2; clear c0 c1 c2 x1)
    go_ret
    exact ⟨⟨T, rfl, HS.out, fun a ts e => by cases e; rfl⟩, Qd.mv B1.out (grownBy_of_drewN HG2.out), HN.out _ B1.out _ (grownBy_of_drewN HG2.out) HB2.out⟩
end Go.Proofs.YtgeaccoobhigcaaGreat
namespace Go.Proofs.YtgeaccoobhigcaaGreat
open Go Go.RowKit

theorem Tryz.sz45' : (Tryz.prog.info? 45).map (·.size) = some 3 := by kernel_rfl
set_option maxRecDepth 100000 in
set_option maxHeartbeats 2000000 in
theorem only8 (k : Int) (t : ByteArray) (n : Int) (w : World) : Calls Tryz.prog 119 #[.agg #[.int .i64 k, .string t, .int .i64 n], .bool true] w fun e w' => e = .returned (.tuple #[.agg #[.int .i64 k, .string t, .int .i64 n], .bool true]) ∧ Below w.heap.size w w' := by
  have hx := BoxC.new w [.int .i64 k, .string t, .int .i64 n] 45
  have hb := below_new w (.cells #[.int .i64 k, .string t, .int .i64 n] 45)
  have HX := Lib.hid (hx.alloc (.cells #[.int .i64 0, .string ⟨#[]⟩, .int .i64 0] 45))
  have HB := Lib.hid (below_trans hb (below_new _ (.cells #[.int .i64 0, .string ⟨#[]⟩, .int .i64 0] 45)))
  have HY : Hid (BoxC ((w.alloc (.cells #[.int .i64 k, .string t, .int .i64 n] 45)).alloc (.cells #[.int .i64 0, .string ⟨#[]⟩, .int .i64 0] 45)) (w.heap.size + 1) 45 [.int .i64 0, .string ⟨#[]⟩, .int .i64 0]) := Lib.hid (BoxC.new_at' (by simp))
  obtain ⟨c0, c1, c2⟩ := three_box HX.out
  clear hx hb
  go_enter Tryz.func119, Tryz.ntmps119
  go_wp2_with (refine wpList_box rfl 45 (.tmp 4) (.tmp 9) rfl (w.heap.size + 1) 0 _ [.int .i64 k, .string t, .int .i64 n] rfl rfl rfl HY.out Tryz.sz45' (by simp) (by simp [Value.oneCell']) _ rfl ?_; intro w2 B2 g2; have HB2 := Lib.hid B2; have HG2 := Lib.hid g2; clear B2 g2 c0 c1 c2)
  obtain ⟨d0, d1, d2⟩ := three_box HB2.out
  exact bodyPost_ret (v := .tuple #[.agg #[.int .i64 k, .string t, .int .i64 n], .bool true]) (by simp [results, Tryz.results119, go_sem, d0, d1, d2]) rfl ⟨rfl, below_grows HB.out HG2.out (by simp)⟩
set_option maxRecDepth 100000 in
set_option maxHeartbeats 2000000 in
theorem parseWord8 (s : ByteArray) (hs : s.size ≤ 9223372036854775807) (hw : wordB s.data.toList = true) (w : World) : Calls Tryz.prog 118 #[.string s] w fun e w' => e = .returned (.tuple #[.agg #[.int .i64 3, .string s, .int .i64 0], .bool true]) ∧ Below w.heap.size w w' := by
  have HW := Lib.hid (fun w => rword_any s hs w)
  rw [hw] at HW
  have HX := Lib.hid (BoxC.new w [.int .i64 0, .string ⟨#[]⟩, .int .i64 0] 45)
  have HB := Lib.hid (below_new w (.cells #[.int .i64 0, .string ⟨#[]⟩, .int .i64 0] 45))
  go_enter Tryz.func118, Tryz.ntmps118
  go_wp2_with (first | (go_at_call 42; refine (HW.out _).mono ?_; rintro e w1 ⟨rfl, rfl⟩) | (refine wpList_box rfl 45 (.tmp 2) (.tmp 13) rfl w.heap.size 0 _ [.int .i64 3, .string s, .int .i64 0] rfl rfl rfl HX.out Tryz.sz45' (by simp) (by simp [Value.oneCell']) _ rfl ?_; intro w2 B2 g2; have HB2 := Lib.hid B2; have HG2 := Lib.hid g2; clear B2 g2))
  obtain ⟨d0, d1, d2⟩ := three_box HB2.out
  exact bodyPost_ret (v := .tuple #[.agg #[.int .i64 3, .string s, .int .i64 0], .bool true]) (by simp [results, Tryz.results118, go_sem, d0, d1, d2]) rfl ⟨rfl, below_grows HB.out HG2.out (by simp)⟩
theorem box_set3' {W : World} {b c : Nat} {t : TypeId} {cs : List Value} (h : BoxC W b t cs) (hne : b ≠ c) (x y z : Value) : BoxC (((W.setCell ⟨c, 0, none⟩ x).setCell ⟨c, 1, none⟩ y).setCell ⟨c, 2, none⟩ z) b t cs :=
  (Below.heap_setCell _ _ _ _ hne).trans ((Below.heap_setCell _ _ _ _ hne).trans ((Below.heap_setCell _ _ _ _ hne).trans h))
theorem num_valid {l : Bs} (h : numT l = true) : readOk l = true ∧ validB ⟨2, ⟨#[]⟩, readV l⟩ = true := by
  unfold numT at h
  simp only [Bool.and_eq_true, decide_eq_true_eq] at h
  refine ⟨h.1, ?_⟩
  have h2 := h.2
  unfold validB readV
  have : (⟨#[]⟩ : ByteArray).size = 0 := rfl
  split <;> simp [this] <;> omega
set_option maxRecDepth 100000 in
set_option maxHeartbeats 2000000 in
theorem parseNum8 (s : ByteArray) (hs : s.size ≤ 1000000) (h0 : 0 < s.size) (hw : wordB s.data.toList = false) (hh : s[0].toNat < 65) (hn : numT s.data.toList = true) (w : World) : Calls Tryz.prog 118 #[.string s] w fun e w' => e = .returned (.tuple #[.agg #[.int .i64 2, .string ⟨#[]⟩, .int .i64 (readV s.data.toList)], .bool true]) ∧ Below w.heap.size w w' := by
  obtain ⟨n1, n2⟩ := num_valid hn
  have HW := Lib.hid (fun w => rword_any s (by omega) w)
  rw [hw] at HW
  have hR : ∀ w, Calls Tryz.prog 65 #[.string s] w fun e w' => e = .returned (.tuple #[.int .i64 (readV s.data.toList), .bool true]) ∧ w' = w := fun w => (read_any s (by omega) w).mono fun e w' ⟨⟨q, h, h1⟩, h2⟩ => ⟨by rw [h, n1, h1 n1], h2⟩
  have hV := fun w => rvalid_any ⟨2, ⟨#[]⟩, readV s.data.toList⟩ (show (⟨#[]⟩ : ByteArray).size ≤ _ by decide) w
  rw [n2] at hV
  unfold Sm.val at hV
  simp only at hV
  generalize readV s.data.toList = V at *
  have HR := Lib.hid hR
  have HV := Lib.hid hV
  have HO := Lib.hid (fun w => only8 2 ⟨#[]⟩ V w)
  have HX := Lib.hid (BoxC.new w [.int .i64 0, .string ⟨#[]⟩, .int .i64 0] 45)
  have HB := Lib.hid (below_new w (.cells #[.int .i64 0, .string ⟨#[]⟩, .int .i64 0] 45))
  have g1 : ¬ (65 : Int) ≤ (s[0].toNat : Int) := by omega
  have hmix : Tryz.prog.follows .mixedOrders = true := by kernel_rfl
  clear hR hV n1 n2 hn hw
  go_enter Tryz.func118, Tryz.ntmps118
  rcases (show s.size = 1 ∨ 1 < s.size by omega) with h1 | h1
  · have e1 : ((1 : Int) < (s.size : Int)) = False := by simp; omega
    go_wp2_with (first | (go_at_call 42; refine (HW.out _).mono ?_; rintro e w1 ⟨rfl, rfl⟩) | (go_at_call 65; refine (HR.out _).mono ?_; rintro e w1 ⟨rfl, rfl⟩))
    obtain ⟨W, hW⟩ : ∃ W, ((w.alloc (.cells #[.int .i64 0, .string ⟨#[]⟩, .int .i64 0] 45)).alloc (.cells #[.int .i64 2, .string ⟨#[]⟩, .int .i64 V] 45)) = W := ⟨_, rfl⟩
    have HBX : Hid (BoxC W (w.heap.size + 1) 45 [.int .i64 2, .string ⟨#[]⟩, .int .i64 V]) := Lib.hid (by rw [← hW]; exact BoxC.new_at' (by simp))
    have HBY : Hid (BoxC W w.heap.size 45 [.int .i64 0, .string ⟨#[]⟩, .int .i64 0]) := Lib.hid (by rw [← hW]; exact HX.out.alloc _)
    have HBW : Hid (Below w.heap.size w W) := Lib.hid (by rw [← hW]; exact below_trans HB.out (below_new _ _))
    rw [hW]
    clear hW
    have HFR : Hid (∀ w3, BoxC w3 w.heap.size 45 [.int .i64 0, .string ⟨#[]⟩, .int .i64 0] → w3.frozen? ⟨w.heap.size, 0, none⟩ = false ∧ w3.frozen? ⟨w.heap.size, 1, none⟩ = false ∧ w3.frozen? ⟨w.heap.size, 2, none⟩ = false) := Lib.hid fun w3 h => ⟨free_box h 0, free_box h 1, free_box h 2⟩
    go_region_held3 (fun w' => w'.cell? ⟨w.heap.size + 1, 0, none⟩ = some (.int .i64 2) ∧ w'.cell? ⟨w.heap.size + 1, 1, none⟩ = some (.string ⟨#[]⟩) ∧ w'.cell? ⟨w.heap.size + 1, 2, none⟩ = some (.int .i64 V)) (first | (have B1 := HBX.out; exact ⟨B1.at_ rfl, B1.at_ rfl, B1.at_ rfl⟩) | (have B2 := HBX.out.below (undrew b2); exact ⟨B2.at_ rfl, B2.at_ rfl, B2.at_ rfl⟩) | (have B3 := (HBX.out.below (undrew b2)).below b3; exact ⟨B3.at_ rfl, B3.at_ rfl, B3.at_ rfl⟩) | (have B4 := box_set3' (BoxC.below (BoxC.below HBX.out (undrew b2)) b3) (show w.heap.size + 1 ≠ w.heap.size by omega) (.int .i64 2) (.string ⟨#[]⟩) (.int .i64 V); exact ⟨B4.at_ rfl, B4.at_ rfl, B4.at_ rfl⟩)) (first | (go_at_call 109; (with_reducible refine (HV.out _).mono ?_); rintro e w2 ⟨rfl, b2⟩) | (go_at_call 119; (with_reducible refine (HO.out _).mono ?_); rintro e w3 ⟨rfl, b3⟩; have q2 : Below W.heap.size W w2 := undrew b2; have q3 := BoxC.below HBY.out q2; have HY3 := BoxC.below q3 b3; obtain ⟨d3, d4, d5⟩ := HFR.out w3 HY3; obtain ⟨d0, d1, d2⟩ := three_box HY3))
    have HZ := set3 HY3 (.int .i64 2) (.string ⟨#[]⟩) (.int .i64 V)
    have HZB : Hid (Below w.heap.size w (((w3.setCell ⟨w.heap.size, 0, none⟩ (.int .i64 2)).setCell ⟨w.heap.size, 1, none⟩ (.string ⟨#[]⟩)).setCell ⟨w.heap.size, 2, none⟩ (.int .i64 V))) := Lib.hid (((((below_trans HBW.out q2).trans (b3.mono (below_trans HBW.out q2).size)).setCell (p := ⟨w.heap.size, 0, none⟩) (Nat.le_refl _) _).setCell (p := ⟨w.heap.size, 1, none⟩) (Nat.le_refl _) _).setCell (p := ⟨w.heap.size, 2, none⟩) (Nat.le_refl _) _)
    clear d0 d1 d2 d3 d4 d5 HY3 q3
    generalize (((w3.setCell ⟨w.heap.size, 0, none⟩ (.int .i64 2)).setCell ⟨w.heap.size, 1, none⟩ (.string ⟨#[]⟩)).setCell ⟨w.heap.size, 2, none⟩ (.int .i64 V)) = w4 at HZ HZB ⊢
    obtain ⟨d0, d1, d2⟩ := three_box (show BoxC w4 w.heap.size 45 [.int .i64 2, .string ⟨#[]⟩, .int .i64 V] from HZ)
    go_wp2
    exact bodyPost_ret (v := .tuple #[.agg #[.int .i64 2, .string ⟨#[]⟩, .int .i64 V], .bool true]) (by simp [results, Tryz.results118, go_sem, d0, d1, d2]) rfl ⟨rfl, HZB.out⟩
  · have e1 : ((1 : Int) < (s.size : Int)) = True := by simp; omega
    go_wp2_with (first | (go_at_call 42; refine (HW.out _).mono ?_; rintro e w1 ⟨rfl, rfl⟩) | (go_at_call 65; refine (HR.out _).mono ?_; rintro e w1 ⟨rfl, rfl⟩))
    obtain ⟨W, hW⟩ : ∃ W, ((w.alloc (.cells #[.int .i64 0, .string ⟨#[]⟩, .int .i64 0] 45)).alloc (.cells #[.int .i64 2, .string ⟨#[]⟩, .int .i64 V] 45)) = W := ⟨_, rfl⟩
    have HBX : Hid (BoxC W (w.heap.size + 1) 45 [.int .i64 2, .string ⟨#[]⟩, .int .i64 V]) := Lib.hid (by rw [← hW]; exact BoxC.new_at' (by simp))
    have HBY : Hid (BoxC W w.heap.size 45 [.int .i64 0, .string ⟨#[]⟩, .int .i64 0]) := Lib.hid (by rw [← hW]; exact HX.out.alloc _)
    have HBW : Hid (Below w.heap.size w W) := Lib.hid (by rw [← hW]; exact below_trans HB.out (below_new _ _))
    rw [hW]
    clear hW
    have HFR : Hid (∀ w3, BoxC w3 w.heap.size 45 [.int .i64 0, .string ⟨#[]⟩, .int .i64 0] → w3.frozen? ⟨w.heap.size, 0, none⟩ = false ∧ w3.frozen? ⟨w.heap.size, 1, none⟩ = false ∧ w3.frozen? ⟨w.heap.size, 2, none⟩ = false) := Lib.hid fun w3 h => ⟨free_box h 0, free_box h 1, free_box h 2⟩
    go_region_held3 (fun w' => w'.cell? ⟨w.heap.size + 1, 0, none⟩ = some (.int .i64 2) ∧ w'.cell? ⟨w.heap.size + 1, 1, none⟩ = some (.string ⟨#[]⟩) ∧ w'.cell? ⟨w.heap.size + 1, 2, none⟩ = some (.int .i64 V)) (first | (have B1 := HBX.out; exact ⟨B1.at_ rfl, B1.at_ rfl, B1.at_ rfl⟩) | (have B2 := HBX.out.below (undrew b2); exact ⟨B2.at_ rfl, B2.at_ rfl, B2.at_ rfl⟩) | (have B3 := (HBX.out.below (undrew b2)).below b3; exact ⟨B3.at_ rfl, B3.at_ rfl, B3.at_ rfl⟩) | (have B4 := box_set3' (BoxC.below (BoxC.below HBX.out (undrew b2)) b3) (show w.heap.size + 1 ≠ w.heap.size by omega) (.int .i64 2) (.string ⟨#[]⟩) (.int .i64 V); exact ⟨B4.at_ rfl, B4.at_ rfl, B4.at_ rfl⟩)) (first | (go_at_call 109; (with_reducible refine (HV.out _).mono ?_); rintro e w2 ⟨rfl, b2⟩) | (go_at_call 119; (with_reducible refine (HO.out _).mono ?_); rintro e w3 ⟨rfl, b3⟩; have q2 : Below W.heap.size W w2 := undrew b2; have q3 := BoxC.below HBY.out q2; have HY3 := BoxC.below q3 b3; obtain ⟨d3, d4, d5⟩ := HFR.out w3 HY3; obtain ⟨d0, d1, d2⟩ := three_box HY3))
    have HZ := set3 HY3 (.int .i64 2) (.string ⟨#[]⟩) (.int .i64 V)
    have HZB : Hid (Below w.heap.size w (((w3.setCell ⟨w.heap.size, 0, none⟩ (.int .i64 2)).setCell ⟨w.heap.size, 1, none⟩ (.string ⟨#[]⟩)).setCell ⟨w.heap.size, 2, none⟩ (.int .i64 V))) := Lib.hid (((((below_trans HBW.out q2).trans (b3.mono (below_trans HBW.out q2).size)).setCell (p := ⟨w.heap.size, 0, none⟩) (Nat.le_refl _) _).setCell (p := ⟨w.heap.size, 1, none⟩) (Nat.le_refl _) _).setCell (p := ⟨w.heap.size, 2, none⟩) (Nat.le_refl _) _)
    clear d0 d1 d2 d3 d4 d5 HY3 q3
    generalize (((w3.setCell ⟨w.heap.size, 0, none⟩ (.int .i64 2)).setCell ⟨w.heap.size, 1, none⟩ (.string ⟨#[]⟩)).setCell ⟨w.heap.size, 2, none⟩ (.int .i64 V)) = w4 at HZ HZB ⊢
    obtain ⟨d0, d1, d2⟩ := three_box (show BoxC w4 w.heap.size 45 [.int .i64 2, .string ⟨#[]⟩, .int .i64 V] from HZ)
    go_wp2
    exact bodyPost_ret (v := .tuple #[.agg #[.int .i64 2, .string ⟨#[]⟩, .int .i64 V], .bool true]) (by simp [results, Tryz.results118, go_sem, d0, d1, d2]) rfl ⟨rfl, HZB.out⟩
end Go.Proofs.YtgeaccoobhigcaaGreat
namespace Go.Proofs.YtgeaccoobhigcaaGreat
open Go Go.RowKit

theorem parse8 {E : Env} {t : Tk} (hg : Good E.L) (hm : t ∈ E.L) (hc : constHere t = true) (w : World) :
    Calls Tryz.prog 118 #[.string (textB t)] w fun e w' => e = .returned (.tuple #[(constT t).val, .bool true]) ∧ Below w.heap.size w w' := by
  have hz : (textB t).size ≤ 1000000 := by
    have := hg.text t hm
    unfold textB
    show t.text.toArray.size ≤ _
    simpa using this
  unfold constT
  by_cases h1 : t.kind = 1
  · rw [if_pos h1]
    exact parseWord8 _ (by omega) (by rw [textB_list]; exact hg.word _ hm h1) w
  · rw [if_neg h1]
    have h2 : t.kind = 2 := by simpa [constHere, h1] using hc
    obtain ⟨hn, c, r, ht, hcr⟩ := hg.num _ hm h2
    have h0 : 0 < (textB t).size := by unfold textB; rw [mk_list_size, ht]; simp
    have h00 : (textB t)[0] = c := by
      have : (textB t).data.toList[0]? = some c := by rw [textB_list, ht]; rfl
      have h2 : (textB t).data.toList[0]? = some (textB t)[0] := by
        rw [List.getElem?_eq_getElem (by simpa using h0)]; rfl
      rw [h2] at this
      injection this
    have hlow : (textB t)[0].toNat < 65 := by
      rw [h00]
      rcases hcr with h | h
      · simp [digitB] at h; omega
      · omega
    have := parseNum8 (textB t) hz h0 (wordB_no3 _ h0 (by rw [h00]; exact hcr)) hlow (by rw [textB_list]; exact hn) w
    rw [textB_list] at this
    exact this
theorem constQ_false {α : Type} {r : Rs α} (h : constQ r = false) : ∀ a ts, r = .ok a ts → pConst ts = badAt ts := by
  rintro a ts rfl
  unfold pConst
  rw [if_neg (by simpa [constQ] using h)]
set_option maxRecDepth 100000 in
set_option maxHeartbeats 2000000 in
theorem constant8 {α : Type} {E : Env} {r : Rs α} (w : World) (h : Q8 E w r) : Calls Tryz.prog 106 #[E.ptr] w fun x w' => SmIs (r.bind fun _ ts => pConst ts) x ∧ Mv E w w' ∧ Q8 E w' (r.bind fun _ ts => pConst ts) := by
  have hw := h.alloc (.cells #[.int .i64 0, .string ⟨#[]⟩, .int .i64 0] 45)
  have H := Lib.hid (isConst8 _ hw)
  have HX := Lib.hid (BoxC.new w [.int .i64 0, .string ⟨#[]⟩, .int .i64 0] 45)
  have HLO := Lib.hid h.lows
  have hmix : Tryz.prog.follows .mixedOrders = true := by kernel_rfl
  cases hq : constQ r with
  | false =>
    have hbad := constQ_false hq
    obtain ⟨k, bad, hQ, hK⟩ := hw.split
    have HQ := Lib.hid hQ
    have HK := Lib.hid (hK.fail hbad)
    have HR := Lib.hid (bad_ne (r := r) (f := fun _ ts => pConst ts) fun a ts e => ⟨_, hbad a ts e⟩)
    have H0 := Lib.hid h
    clear h hw hQ hbad hK
    generalize (r.bind fun _ ts => pConst ts) = R at HK HR ⊢
    unfold Env.ptr at H ⊢
    go_enter Tryz.func106, Tryz.ntmps106
    go_wp2_with (first | (go_at_call 107; refine H.out.mono ?_; rintro x w1 ⟨rfl, b1⟩; rw [hq]; have HQ1 := Lib.hid (HQ.out.below b1); have HX1 := Lib.hid (HX.out.below b1); have B1 := Lib.hid (below_trans (below_new w (.cells #[.int .i64 0, .string ⟨#[]⟩, .int .i64 0] 45)) b1); clear b1) | (refine wpList_box rfl 4 (.tmp 10) (.const (.bool true)) rfl E.r 2 _ [.bool true] rfl rfl rfl HQ1.out.box Tryz.sz4' (by simp) (by simp [Value.oneCell']) [.slice E.ao E.n E.c, .int .i64 (k : Int), .bool true] rfl ?_; intro w2 B2 g2; have HX2 := Lib.hid (HX1.out.grown g2 (by simp; have := HLO.out; omega)); have HB2 := Lib.hid B2; have HG2 := Lib.hid g2; clear B2 g2) | (refine wpList_box rfl 45 (.tmp 2) (.tmp 11) rfl w.heap.size 0 _ [.int .i64 0, .string ⟨#[]⟩, .int .i64 0] rfl rfl rfl HX2.out Tryz.sz45' (by simp) (by simp [Value.oneCell']) _ rfl ?_; intro w3 B3 g3; have HX3 := Lib.hid B3; have HG3 := Lib.hid g3; clear B3 g3))
    obtain ⟨d0, d1, d2⟩ := three_box HX3.out
    exact bodyPost_ret (v := .agg #[.int .i64 0, .string ⟨#[]⟩, .int .i64 0]) (by simp [results, Tryz.results106, go_sem, d0, d1, d2]) rfl ⟨⟨nilSm, rfl, by show (⟨#[]⟩ : ByteArray).size ≤ _; decide, fun a ts e => absurd e (HR.out a ts)⟩, (Qd.mv B1.out HG2.out).new HG3.out (Nat.le_refl _), H0.out.new ((HQ1.out.put HG2.out HB2.out HQ1.out.lt).join HK.out) HG3.out (Nat.le_refl _)⟩
  | true =>
    obtain ⟨a, ts, rfl, ht⟩ : ∃ a ts, r = .ok a ts ∧ constHere (headT ts) = true := by
      cases r with
      | bad p => cases hq
      | ok a ts => exact ⟨a, ts, rfl, hq⟩
    obtain ⟨k, hQ, rfl⟩ := hw
    have hp : ((Rs.ok a (E.L.drop k)).bind fun _ ts => pConst ts) = .ok (constT (E.at8 k)) (E.L.drop k).tail := by
      show pConst (E.L.drop k) = _
      unfold pConst
      rw [if_pos ht]
      rfl
    rw [hp]
    have hkind : (E.at8 k).kind ≠ 5 ∧ (E.at8 k).kind ≠ 6 := by
      have : constHere (E.at8 k) = true := ht
      unfold constHere at this
      simp only [Bool.or_eq_true, decide_eq_true_eq] at this
      omega
    have HP := Lib.hid (fun w => parse8 hQ.good (List.mem_of_getElem? (Env.at8_some hQ.lt)) ht w)
    have HQ := Lib.hid hQ
    have hS : (textB (E.at8 k)).size ≤ 1000000 := (Q8.ok_size (a := ()) ⟨k, hQ, rfl⟩).1
    have HS : Hid ((constT (E.at8 k)).t.size ≤ 1000000) := Lib.hid (by
      unfold constT
      split
      · exact hS
      · show (⟨#[]⟩ : ByteArray).size ≤ _; decide)
    have HN := Lib.hid (fun w1 (b : Below (w.alloc (.cells #[.int .i64 0, .string ⟨#[]⟩, .int .i64 0] 45)).heap.size (w.alloc (.cells #[.int .i64 0, .string ⟨#[]⟩, .int .i64 0] 45)) w1) w2 g hb => (hQ.below b).next (b := constT (E.at8 k)) (w' := w2) hkind g hb)
    have H0 := Lib.hid h
    obtain ⟨T, hT⟩ : ∃ T, textB (E.at8 k) = T := ⟨_, rfl⟩
    have HT := Lib.hid (show strV (E.at8 k).text = .string T from congrArg Value.string hT)
    have HP' : Hid (∀ w, Calls Tryz.prog 118 #[.string T] w fun e w' => e = .returned (.tuple #[(constT (E.at8 k)).val, .bool true]) ∧ Below w.heap.size w w') := Lib.hid (by rw [← hT]; exact HP.out)
    generalize constT (E.at8 k) = C at HN HS HP' ⊢
    obtain ⟨ck, ct, cn⟩ := C
    unfold Sm.val at HP'
    simp only at HP' HS
    clear hp ht hkind hQ hT h HP hS
    unfold Env.ptr at H ⊢
    go_enter Tryz.func106, Tryz.ntmps106
    go_wp2_with (go_at_call 107; refine H.out.mono ?_; rintro x w1 ⟨rfl, b1⟩; rw [hq]; have HQ1 := Lib.hid (HQ.out.below b1); have HX1 := Lib.hid (HX.out.below b1); have B1 := Lib.hid b1; clear b1)
    obtain ⟨c0, c1, c2⟩ := three_box HQ1.out.box
    obtain ⟨g, o, hao, x0, x1, x2⟩ := HQ1.out.data.tok (Env.at8_some HQ1.out.lt)
    have hn := good_size HQ1.out.data
    have hcap := HQ1.out.data.2.1
    have hlt := HQ1.out.lt
    have hlen := HQ1.out.good.len
    have hkn : k < E.n := by omega
    have hn1 : E.n ≤ 1000000 := by omega
    rw [hao] at c0
    rw [HT.out] at x1
    have hgl : g < w1.heap.size := World.block_lt_of_cell? w1 _ x1
    have hrl : E.r < w1.heap.size := World.block_lt_of_cell? w1 _ c0
    clear hn hlt hlen x0 x2
    have HK : Hid (∀ W', Below w1.heap.size w1 W' → W'.cell? ⟨E.r, 0, none⟩ = some (.slice (some ⟨g, o, none⟩) E.n E.c) ∧ W'.cell? ⟨E.r, 1, none⟩ = some (.int .i64 k) ∧ W'.cell? ⟨g, o + k * 3 + 1, none⟩ = some (.string T)) := Lib.hid fun W' b => ⟨(b.cell hrl).trans c0, (b.cell hrl).trans c1, (b.cell hgl).trans x1⟩
    have HZ1 := Lib.hid (BoxC.new w1 [.int .i64 0, .string ⟨#[]⟩, .int .i64 0] 45)
    have HU : Hid (Below w1.heap.size w1 (w1.alloc (.cells #[.int .i64 0, .string ⟨#[]⟩, .int .i64 0] 45)).drew) := Lib.hid (unD ((Below.refl _ w1).alloc (Nat.le_refl _) _))
    clear c0 c1 x1
    go_region_held3 (fun w' => w'.cell? ⟨E.r, 0, none⟩ = some (.slice (some ⟨g, o, none⟩) E.n E.c) ∧ w'.cell? ⟨E.r, 1, none⟩ = some (.int .i64 k) ∧ w'.cell? ⟨g, o + k * 3 + 1, none⟩ = some (.string T)) (first | exact HK.out _ (unD (Below.refl _ w1)) | exact HK.out _ b5 | exact HK.out _ (b5.alloc b5.size _) | exact HK.out _ HU.out | exact HK.out _ (((b5.setCell (p := ⟨w1.heap.size, 0, none⟩) (Nat.le_refl _) _).setCell (p := ⟨w1.heap.size, 1, none⟩) (Nat.le_refl _) _).setCell (p := ⟨w1.heap.size, 2, none⟩) (Nat.le_refl _) _) | fail)
      (first | (go_at_call 118; (with_reducible refine (HP'.out _).mono ?_); rintro e w2 ⟨rfl, b2⟩; first | (have b5 : Below w1.heap.size w1 w2 := undrew b2) | (have b5 : Below w1.heap.size w1 w2 := HU.out.trans (b2.mono HU.out.size); have HZ2 : BoxC w2 w1.heap.size 45 [.int .i64 0, .string ⟨#[]⟩, .int .i64 0] := BoxC.below HZ1.out (undrew b2); obtain ⟨z0, z1, z2⟩ := three_box HZ2; have f0 := free_box HZ2 0; have f1 := free_box HZ2 1; have f2 := free_box HZ2 2)))
    · obtain ⟨W5, hW5⟩ : ∃ W5, w2.alloc (.cells #[.int .i64 ck, .string ct, .int .i64 cn] 45) = W5 := ⟨_, rfl⟩
      have HB5 : Hid (Below w1.heap.size w1 W5) := Lib.hid (by rw [← hW5]; exact b5.alloc b5.size _)
      have HV5 : Hid (BoxC W5 w2.heap.size 45 [.int .i64 ck, .string ct, .int .i64 cn]) := Lib.hid (by rw [← hW5]; exact BoxC.new w2 _ 45)
      have hb : w1.heap.size ≤ w2.heap.size := b5.size
      have HQ5 := Lib.hid (HQ1.out.below HB5.out)
      have HX5 := Lib.hid (HX1.out.below HB5.out)
      have hx1 := HX1.out.lt
      rw [hW5]
      clear hW5
      generalize w2.heap.size = b at *
      obtain ⟨c0, c1, c2⟩ := three_box HQ5.out.box
      go_wp2_with (first | (refine wpList_box rfl 3 (.tmp 33) (.tmp 31) rfl E.r 1 _ [.int .i64 ((k : Int) + 1)] rfl rfl rfl HQ5.out.box Tryz.sz3' (by simp) (by simp [Value.oneCell']) [.slice E.ao E.n E.c, .int .i64 ((k : Int) + 1), .bool false] rfl ?_; intro w6 B6 g6; have HX6 := Lib.hid (HX5.out.grown g6 (by simp; have := HLO.out; omega)); have HB6 := Lib.hid B6; have HG6 := Lib.hid g6; clear c0 c1 c2; obtain ⟨c0, c1, c2⟩ := three_box (HV5.out.grown g6 (by simp; have := HLO.out; omega)); clear B6 g6) | (refine wpList_box rfl 45 (.tmp 2) (.tmp 34) rfl w.heap.size 0 _ [.int .i64 ck, .string ct, .int .i64 cn] rfl rfl rfl HX6.out Tryz.sz45' (by simp) (by simp [Value.oneCell']) _ rfl ?_; intro w7 B7 g7; have HX7 := Lib.hid B7; have HG7 := Lib.hid g7; clear B7 g7 c0 c1 c2))
      obtain ⟨d0, d1, d2⟩ := three_box HX7.out
      exact bodyPost_ret (v := .agg #[.int .i64 ck, .string ct, .int .i64 cn]) (by simp [results, Tryz.results106, go_sem, d0, d1, d2]) rfl ⟨⟨⟨ck, ct, cn⟩, rfl, HS.out, fun a ts e => by cases e; rfl⟩, (Qd.mv (below_trans (below_new w (.cells #[.int .i64 0, .string ⟨#[]⟩, .int .i64 0] 45)) (B1.out.trans (HB5.out.mono B1.out.size))) HG6.out).new HG7.out (Nat.le_refl _), H0.out.new (HN.out _ (B1.out.trans (HB5.out.mono B1.out.size)) _ HG6.out HB6.out) HG7.out (Nat.le_refl _)⟩
    · obtain ⟨W5, hW5⟩ : ∃ W5, (((w2.setCell ⟨w1.heap.size, 0, none⟩ (.int .i64 ck)).setCell ⟨w1.heap.size, 1, none⟩ (.string ct)).setCell ⟨w1.heap.size, 2, none⟩ (.int .i64 cn)) = W5 := ⟨_, rfl⟩
      have HB5 : Hid (Below w1.heap.size w1 W5) := Lib.hid (by rw [← hW5]; exact (((b5.setCell (p := ⟨w1.heap.size, 0, none⟩) (Nat.le_refl _) _).setCell (p := ⟨w1.heap.size, 1, none⟩) (Nat.le_refl _) _).setCell (p := ⟨w1.heap.size, 2, none⟩) (Nat.le_refl _) _))
      have HV5 : Hid (BoxC W5 w1.heap.size 45 [.int .i64 ck, .string ct, .int .i64 cn]) := Lib.hid (by rw [← hW5]; exact set3 HZ2 _ _ _)
      have hb : w1.heap.size ≤ w1.heap.size := Nat.le_refl _
      have HQ5 := Lib.hid (HQ1.out.below HB5.out)
      have HX5 := Lib.hid (HX1.out.below HB5.out)
      have hx1 := HX1.out.lt
      rw [hW5]
      clear hW5
      obtain ⟨c0, c1, c2⟩ := three_box HQ5.out.box
      go_wp2_with (first | (refine wpList_box rfl 3 (.tmp 33) (.tmp 31) rfl E.r 1 _ [.int .i64 ((k : Int) + 1)] rfl rfl rfl HQ5.out.box Tryz.sz3' (by simp) (by simp [Value.oneCell']) [.slice E.ao E.n E.c, .int .i64 ((k : Int) + 1), .bool false] rfl ?_; intro w6 B6 g6; have HX6 := Lib.hid (HX5.out.grown g6 (by simp; have := HLO.out; omega)); have HB6 := Lib.hid B6; have HG6 := Lib.hid g6; clear c0 c1 c2; obtain ⟨c0, c1, c2⟩ := three_box (HV5.out.grown g6 (by simp; have := HLO.out; omega)); clear B6 g6) | (refine wpList_box rfl 45 (.tmp 2) (.tmp 34) rfl w.heap.size 0 _ [.int .i64 ck, .string ct, .int .i64 cn] rfl rfl rfl HX6.out Tryz.sz45' (by simp) (by simp [Value.oneCell']) _ rfl ?_; intro w7 B7 g7; have HX7 := Lib.hid B7; have HG7 := Lib.hid g7; clear B7 g7 c0 c1 c2))
      obtain ⟨d0, d1, d2⟩ := three_box HX7.out
      exact bodyPost_ret (v := .agg #[.int .i64 ck, .string ct, .int .i64 cn]) (by simp [results, Tryz.results106, go_sem, d0, d1, d2]) rfl ⟨⟨⟨ck, ct, cn⟩, rfl, HS.out, fun a ts e => by cases e; rfl⟩, (Qd.mv (below_trans (below_new w (.cells #[.int .i64 0, .string ⟨#[]⟩, .int .i64 0] 45)) (B1.out.trans (HB5.out.mono B1.out.size))) HG6.out).new HG7.out (Nat.le_refl _), H0.out.new (HN.out _ (B1.out.trans (HB5.out.mono B1.out.size)) _ HG6.out HB6.out) HG7.out (Nat.le_refl _)⟩
end Go.Proofs.YtgeaccoobhigcaaGreat
namespace Go.Proofs.YtgeaccoobhigcaaGreat
open Go Go.RowKit

theorem Tryz.sz47' : (Tryz.prog.info? 47).map (·.size) = some 4 := by kernel_rfl
set_option maxRecDepth 100000 in
set_option maxHeartbeats 2000000 in
theorem atom8 {α : Type} {E : Env} {r : Rs α} (w : World) (h : Q8 E w r) : Calls Tryz.prog 87 #[E.ptr] w fun x w' => AmIs (r.bind fun _ ts => pAtom ts) x ∧ Mv E w w' ∧ Q8 E w' (r.bind fun _ ts => pAtom ts) := by
  have hw := h.alloc (.cells #[.string ⟨#[]⟩, .int .i64 0, .string ⟨#[]⟩, .int .i64 0] 47)
  have H := Lib.hid (is8 _ hw 3 ⟨#[]⟩ 3 rfl)
  have HX := Lib.hid (BoxC.new w [.string ⟨#[]⟩, .int .i64 0, .string ⟨#[]⟩, .int .i64 0] 47)
  have HB := Lib.hid (below_new w (.cells #[.string ⟨#[]⟩, .int .i64 0, .string ⟨#[]⟩, .int .i64 0] 47))
  have HLO := Lib.hid h.lows
  have HLI := Lib.hid h.one
  have H0 := Lib.hid h
  cases hq : isQ r 3 ⟨#[]⟩ with
  | true =>
    have HT := Lib.hid (fun w' (b : Below (w.alloc (.cells #[.string ⟨#[]⟩, .int .i64 0, .string ⟨#[]⟩, .int .i64 0] 47)).heap.size (w.alloc (.cells #[.string ⟨#[]⟩, .int .i64 0, .string ⟨#[]⟩, .int .i64 0] 47)) w') => take8 w' (hw.below b) 3 (by decide) ⟨#[]⟩ 3 rfl)
    obtain ⟨a, ts, rfl, ht⟩ := isQ_true hq
    have hk : (headT ts).kind = 3 := by rw [tokB_nil] at ht; simpa using ht
    have hp : ((Rs.ok a ts).bind fun _ ts => pAtom ts) = .ok ⟨textB (headT ts), nilSm⟩ ts.tail := by show pAtom ts = _; unfold pAtom; rw [if_pos hk]
    have hp2 : ((Rs.ok a ts).bind fun _ ts => pTok 3 ⟨#[]⟩ ts) = .ok (textB (headT ts)) ts.tail := by show pTok 3 ⟨#[]⟩ ts = _; unfold pTok; rw [if_pos ht]
    rw [hp]
    rw [hp2] at HT
    clear hp hp2 hk ht hw h
    generalize textB (headT ts) = T at *
    unfold Env.ptr at H HT ⊢
    go_enter Tryz.func87, Tryz.ntmps87
    go_wp2_with (first | (go_at_call 22; with_reducible refine H.out.mono ?_; rintro x w1 ⟨rfl, b1⟩; rw [hq]) | (go_at_call 38; refine (HT.out _ b1).mono ?_; rintro x w2 ⟨⟨s, rfl, hs, hsq⟩, hm, hr⟩; obtain rfl : s = T := hsq _ _ rfl; have HM2 := Lib.hid ((Mv.of_below (HB.out.trans (b1.mono HB.out.size))).trans hm); have HX2 := Lib.hid (hm.box (HX.out.below b1) (by have := HLO.out; omega) (by have := HLO.out; have := HLI.out; omega)); have HR2 := Lib.hid hr; have HS := Lib.hid hs; clear hm hr hs hsq b1) | (refine wpList_box rfl 47 (.tmp 2) (.tmp 7) rfl w.heap.size 0 _ [.string s, .int .i64 0, .string ⟨#[]⟩, .int .i64 0] rfl rfl rfl HX2.out Tryz.sz47' (by simp) (by simp [Value.oneCell']) _ rfl ?_; intro w3 B3 g3; have HB3 := Lib.hid B3; have HG3 := Lib.hid g3; clear B3 g3))
    obtain ⟨d0, d1, d2, d3⟩ := four_boxR HB3.out
    exact bodyPost_ret (v := .agg #[.string s, .int .i64 0, .string ⟨#[]⟩, .int .i64 0]) (by simp [results, Tryz.results87, go_sem, d0, d1, d2, d3]) rfl ⟨⟨⟨s, nilSm⟩, rfl, ⟨HS.out, by show (⟨#[]⟩ : ByteArray).size ≤ 1000000; decide⟩, by intro a ts' e; cases e; rfl⟩, HM2.out.new HG3.out (Nat.le_refl _), Q8.new H0.out HR2.out HG3.out (Nat.le_refl _)⟩
  | false =>
    have HC := Lib.hid (fun w' (b : Below (w.alloc (.cells #[.string ⟨#[]⟩, .int .i64 0, .string ⟨#[]⟩, .int .i64 0] 47)).heap.size (w.alloc (.cells #[.string ⟨#[]⟩, .int .i64 0, .string ⟨#[]⟩, .int .i64 0] 47)) w') => constant8 w' (hw.below b))
    have hp : (r.bind fun _ ts => pAtom ts) = (r.bind fun _ ts => pConst ts).bind fun s ts => .ok ⟨⟨#[]⟩, s⟩ ts := by
      cases r with
      | bad p => rfl
      | ok a ts =>
        have hk : (headT ts).kind ≠ 3 := by simpa [isQ, tokB_nil] using hq
        show pAtom ts = (pConst ts).bind _
        unfold pAtom
        rw [if_neg hk]
    rw [hp]
    generalize (r.bind fun _ ts => pConst ts) = R at HC ⊢
    clear hp hw h
    unfold Env.ptr at H HC ⊢
    go_enter Tryz.func87, Tryz.ntmps87
    go_wp2_with (first | (go_at_call 22; with_reducible refine H.out.mono ?_; rintro x w1 ⟨rfl, b1⟩; rw [hq]) | (go_at_call 106; refine (HC.out _ b1).mono ?_; rintro x w2 ⟨⟨⟨sk, st, sn⟩, rfl, hs, hsq⟩, hm, hr⟩; unfold Sm.val; simp only; have HM2 := Lib.hid ((Mv.of_below (HB.out.trans (b1.mono HB.out.size))).trans hm); have HX2 := Lib.hid (hm.box (HX.out.below b1) (by have := HLO.out; omega) (by have := HLO.out; have := HLI.out; omega)); have HR2 := Lib.hid hr; have HS := Lib.hid hs; have HQ := Lib.hid hsq; clear hm hr hs hsq b1) | (refine wpList_box rfl 47 (.tmp 2) (.tmp 10) rfl w.heap.size 0 _ [.string ⟨#[]⟩, .int .i64 sk, .string st, .int .i64 sn] rfl rfl rfl HX2.out Tryz.sz47' (by simp) (by simp [Value.oneCell']) _ rfl ?_; intro w3 B3 g3; have HB3 := Lib.hid B3; have HG3 := Lib.hid g3; clear B3 g3))
    obtain ⟨d0, d1, d2, d3⟩ := four_boxR HB3.out
    refine bodyPost_ret (v := .agg #[.string ⟨#[]⟩, .int .i64 sk, .string st, .int .i64 sn]) (by simp [results, Tryz.results87, go_sem, d0, d1, d2, d3]) rfl ⟨⟨⟨⟨#[]⟩, ⟨sk, st, sn⟩⟩, rfl, ⟨by show (⟨#[]⟩ : ByteArray).size ≤ 1000000; decide, HS.out⟩, ?_⟩, HM2.out.new HG3.out (Nat.le_refl _), (Q8.new H0.out HR2.out HG3.out (Nat.le_refl _)).of⟩
    intro b ts' e
    cases R with
    | bad p => cases e
    | ok s ts2 => cases e; rw [HQ.out _ _ rfl]
end Go.Proofs.YtgeaccoobhigcaaGreat
namespace Go.Proofs.YtgeaccoobhigcaaGreat
open Go Go.RowKit

def sgs : List ByteArray := [⟨#[60, 62]⟩, ⟨#[60]⟩, ⟨#[60, 61]⟩, ⟨#[62]⟩, ⟨#[62, 61]⟩, ⟨#[60, 61, 62]⟩]
def relQ {α : Type} (r : Rs α) : Int := match r with | .bad _ => 0 | .ok _ ts => if (headT ts).kind = 4 then relN (headT ts).text else 0
theorem relQ_true {α : Type} {r : Rs α} (i : Nat) (s : ByteArray) (h : sgs[i]? = some s) (hq : isQ r 4 s = true) : relQ r = 2 + i := by
  obtain ⟨a, ts, rfl, ht⟩ := isQ_true hq
  have hi : i < 6 := (List.getElem?_eq_some_iff.1 h).1
  unfold tokB at ht
  simp only [Bool.and_eq_true, decide_eq_true_eq, Bool.or_eq_true, beq_iff_eq] at ht
  obtain ⟨hk, ht⟩ := ht
  show (if (headT ts).kind = 4 then relN (headT ts).text else 0) = _
  rw [if_pos hk]
  rcases (show i = 0 ∨ i = 1 ∨ i = 2 ∨ i = 3 ∨ i = 4 ∨ i = 5 by omega) with rfl | rfl | rfl | rfl | rfl | rfl <;>
  · injection h with h
    subst h
    rcases ht with ht | ht
    · cases ht
    · rw [ht]; rfl
theorem relQ_false {α : Type} {r : Rs α} (h : ∀ (j : Nat) (s : ByteArray), j < 6 → sgs[j]? = some s → isQ r 4 s = false) : relQ r = 0 := by
  cases r with
  | bad p => rfl
  | ok a ts =>
    show (if (headT ts).kind = 4 then relN (headT ts).text else 0) = _
    split
    · rename_i hk
      have f := fun j s hj hs => h j s hj hs
      have g : ∀ s : ByteArray, isQ (Rs.ok a ts) 4 s = false → s.data.toList ≠ (headT ts).text := by
        intro s hs e
        unfold isQ tokB at hs
        simp [hk, e] at hs
      have g0 := g _ (h 0 _ (by omega) rfl)
      have g1 := g _ (h 1 _ (by omega) rfl)
      have g2 := g _ (h 2 _ (by omega) rfl)
      have g3 := g _ (h 3 _ (by omega) rfl)
      have g4 := g _ (h 4 _ (by omega) rfl)
      have g5 := g _ (h 5 _ (by omega) rfl)
      unfold relN
      rw [if_neg (Ne.symm g0), if_neg (Ne.symm g1), if_neg (Ne.symm g2), if_neg (Ne.symm g3), if_neg (Ne.symm g4), if_neg (Ne.symm g5)]
    · rfl
set_option maxRecDepth 100000 in
set_option maxHeartbeats 2000000 in
theorem rel8 {α : Type} {E : Env} {r : Rs α} (w : World) (h : Q8 E w r) : Calls Tryz.prog 117 #[E.ptr] w fun x w' => x = .returned (.int .i64 (relQ r)) ∧ Below w.heap.size w w' := by
  have HX := Lib.hid (BoxC.new w (sgs.map Value.string) 9)
  have HB := Lib.hid (below_new w (.cells #[.string ⟨#[60, 62]⟩, .string ⟨#[60]⟩, .string ⟨#[60, 61]⟩, .string ⟨#[62]⟩, .string ⟨#[62, 61]⟩, .string ⟨#[60, 61, 62]⟩] 9))
  have HS := Lib.hid (fun s w' (b : Below w.heap.size w w') => sign8 w' (h.below b) s)
  have HT := Lib.hid (@relQ_true α r)
  have HF := Lib.hid (@relQ_false α r)
  clear h
  rw [show (w.alloc (.cells (sgs.map Value.string).toArray 9)) = w.alloc (.cells #[.string ⟨#[60, 62]⟩, .string ⟨#[60]⟩, .string ⟨#[60, 61]⟩, .string ⟨#[62]⟩, .string ⟨#[62, 61]⟩, .string ⟨#[60, 61, 62]⟩] 9) from rfl] at HX
  generalize relQ r = V at HT HF ⊢
  unfold Env.ptr at HS ⊢
  go_enter Tryz.func117, Tryz.ntmps117
  go_wp2
  go_loopw [4] (fun t wr => ∃ i : Nat, i ≤ 6 ∧ t = .int .i64 i ∧ Hid (Below (w.alloc (.cells #[.string ⟨#[60, 62]⟩, .string ⟨#[60]⟩, .string ⟨#[60, 61]⟩, .string ⟨#[62]⟩, .string ⟨#[62, 61]⟩, .string ⟨#[60, 61, 62]⟩] 9)).heap.size (w.alloc (.cells #[.string ⟨#[60, 62]⟩, .string ⟨#[60]⟩, .string ⟨#[60, 61]⟩, .string ⟨#[62]⟩, .string ⟨#[62, 61]⟩, .string ⟨#[60, 61, 62]⟩] 9)) wr) ∧ Hid (∀ (j : Nat) (s : ByteArray), j < i → sgs[j]? = some s → isQ r 4 s = false)) (fun t _ => 6 - (intOf t).toNat)
  case atStart => exact ⟨0, by omega, rfl, Lib.hid (Below.refl _ _), Lib.hid (by omega)⟩
  case round =>
    obtain ⟨i, hi, rfl, b, hF⟩ := hrel
    by_cases hlt : i < 6
    · obtain ⟨s, hs⟩ : ∃ s, sgs[i]? = some s := ⟨_, List.getElem?_eq_getElem hlt⟩
      have hc : wr.cell? ⟨w.heap.size, i, none⟩ = some (.string s) := (HX.out.below b.out).at_ (by rw [List.getElem?_map, hs]; rfl)
      have hbl := HB.out.trans (b.out.mono HB.out.size)
      have HS' := Lib.hid (HS.out s wr hbl)
      have hx := fun h => HT.out i s hs h
      have HH := Lib.hid hs
      clear hs
      cases hq : isQ r 4 s with
      | true =>
        obtain rfl := hx hq
        rw [hq] at HS'
        clear hx
        go_wp2_with (go_at_call 40; refine HS'.out.mono ?_; rintro x w1 ⟨rfl, b1⟩)
        go_ret
        exact ⟨rfl, below_trans hbl b1⟩
      | false =>
        rw [hq] at HS'
        clear hx
        go_wp2_with (go_at_call 40; refine HS'.out.mono ?_; rintro x w1 ⟨rfl, b1⟩)
        go_roundw
        case rel => exact ⟨i + 1, by omega, by go_num, Lib.hid (b.out.trans (b1.mono b.out.size)), Lib.hid (fun j s' hj hs' => by
          rcases Nat.lt_succ_iff_lt_or_eq.1 hj with h | rfl
          · exact hF.out j s' h hs'
          · rw [HH.out] at hs'; cases hs'; exact hq)⟩
        case measure => simp [intOf]; omega
    · have hi6 : i = 6 := by omega
      subst hi6
      have hbl := HB.out.trans (b.out.mono HB.out.size)
      obtain rfl := HF.out hF.out
      go_wp2
      go_ret
      exact ⟨rfl, hbl⟩
end Go.Proofs.YtgeaccoobhigcaaGreat
namespace Go.Proofs.YtgeaccoobhigcaaGreat
open Go Go.RowKit

theorem Q8.newRow {α β : Type} {E : Env} {w w' w0 : World} {r : Rs α} {r0 : Rs β} {row : Option Nat} (h0 : Q8 E w0 r0) (h : Q8 E w r) (g : w.grownBy w' row) (hb : ∀ b, row = some b → w0.heap.size ≤ b) : Q8 E w' r := by
  cases row with
  | none => exact h.kept g (by simp)
  | some b => exact h0.new h g (hb b rfl)
/-- How a loop stands: what is still to come, or where it went wrong. -/
def Goes8 {β : Type} (E : Env) (R : Rs (List β)) (p : Pr β) (stop : ByteArray) (l : List β) (n : Nat) (wr : World) : Prop :=
  (∃ ts, Q8 E wr (.ok () ts) ∧ ts.length < n ∧ l.length + ts.length ≤ 1000000 ∧ R = rest p stop n l ts) ∨ (∃ q, Q8 E wr (.bad q : Rs Unit) ∧ R = .bad q)
section
variable {α β : Type} {E : Env} {R : Rs (List β)} {p : Pr β} {stop : ByteArray} {l : List β} {n : Nat} {w w' w0 : World} {r : Rs α}
theorem Goes8.newRow {row : Option Nat} (h0 : Q8 E w0 r) (h : Goes8 E R p stop l n w) (g : w.grownBy w' row) (hb : ∀ b, row = some b → w0.heap.size ≤ b) : Goes8 E R p stop l n w' := by
  rcases h with ⟨ts, h1, h2⟩ | ⟨q, h1, h2⟩
  · exact .inl ⟨ts, h0.newRow h1 g hb, h2⟩
  · exact .inr ⟨q, h0.newRow h1 g hb, h2⟩
/-- The first one has been read. -/
theorem Goes8.first (h : Q8 E w r) (he : Eats p) {b : β} (hr : Q8 E w' (r.bind fun _ ts => p ts)) (hq : ∀ a t, (r.bind fun _ ts => p ts) = .ok a t → b = a) : ∃ n, Goes8 E (r.bind fun _ ts => pEnds p stop ts) p stop [b] n w' := by
  cases r with
  | bad q => exact ⟨0, .inr ⟨q, hr, rfl⟩⟩
  | ok a ts =>
    have hz := h.ok_size.2
    simp only [Rs.bind] at hr hq ⊢
    cases hp : p ts with
    | bad q =>
      rw [hp] at hr
      exact ⟨0, .inr ⟨q, hr, rest_first_bad hp⟩⟩
    | ok a ts' =>
      rw [hp] at hr hq
      have := he _ _ _ hp
      refine ⟨ts'.length + 1, .inl ⟨ts', hr, Nat.lt_succ_self _, by simp; omega, ?_⟩⟩
      rw [rest_first hp, hq _ _ rfl]
/-- One more has been read. -/
theorem Goes8.more {ts : List Tk} (hlen : ts.length < n + 1) (hcnt : l.length + ts.length ≤ 1000000) (hR : R = rest p stop (n + 1) l ts) (hb : isB (headT ts) stop = false) (he : Eats p) {b : β} (hr : Q8 E w' (p ts)) (hq : ∀ a t, p ts = .ok a t → b = a) :
    Goes8 E R p stop (l ++ [b]) n w' := by
  cases hp : p ts with
  | bad q =>
    rw [hp] at hr
    exact .inr ⟨q, hr, hR.trans (rest_bad hb hp)⟩
  | ok a ts' =>
    rw [hp] at hr hq
    have := he _ _ _ hp
    refine .inl ⟨ts', hr, by omega, by simp; omega, ?_⟩
    rw [hR, rest_next hb hp, hq _ _ rfl]
end
theorem isQ_sign {α : Type} {a : α} {ts : List Tk} {s : ByteArray} (h : (s.data.toList == []) = false) : isQ (.ok a ts : Rs α) 4 s = isB (headT ts) s := tokB_sign _ h
/-- A test of a list that is being read. -/
structure TestLoop8 (E : Env) (w : World) (b3 : Nat) (R : Rs (List Sm)) (n : Nat) (wr : World) : Prop where
  mv : Mv E w wr
  cell : BoxC wr w.heap.size 123 [.int .i64 0, .string ⟨#[]⟩, .int .i64 0, .string ⟨#[]⟩, .int .i64 0, .slice none 0 0]
  low : w.heap.size < b3
  list : ∃ v l, BoxC wr b3 123 [.int .i64 8, .string ⟨#[]⟩, .int .i64 0, .string ⟨#[]⟩, .int .i64 0, v] ∧ OwnD mkSym (w.heap.size + 1) 45 wr v l ∧ Goes8 E R pConst bTo l n wr
theorem testLoop_next8 {α : Type} {r : Rs α} {E : Env} {w wr w4 w5 : World} {b3 n c c' : Nat} {R : Rs (List Sm)} {gk : Nat} {ao : Option Addr} {l : List Sm} {s : Sm} {go' : Addr} (h : Q8 E w r) (hlow : w.heap.size < b3) (hm : Mv E w wr) (hm4 : Mv E wr w4)
    (hc : BoxC wr w.heap.size 123 [.int .i64 0, .string ⟨#[]⟩, .int .i64 0, .string ⟨#[]⟩, .int .i64 0, .slice none 0 0]) (ho : OwnD mkSym (w.heap.size + 1) 45 w4 (.slice ao n c) l)
    (hb : BoxC w5 b3 123 [.int .i64 8, .string ⟨#[]⟩, .int .i64 0, .string ⟨#[]⟩, .int .i64 0, .slice ao n c]) (g : w4.grownBy w5 (Value.slice ao n c).ownBlock) (ho5 : OwnD mkSym (w.heap.size + 1) 45 w5 (.slice (some go') (n + 1) c') (l ++ [s]))
    (hg : Goes8 E R pConst bTo (l ++ [s]) gk w4) : TestLoop8 E w b3 R gk (w5.setCell ⟨b3, 5, none⟩ (.slice (some go') (n + 1) c')) := by
  have hown : ∀ b, (Value.slice ao n c).ownBlock = some b → w.heap.size + 1 ≤ b := fun b e => (ho.own.lt b e).1
  have g3 := grownBy_setCell w5 ⟨b3, 5, none⟩ (.slice (some go') (n + 1) c')
  have hr := h.lows
  have hi := h.one
  refine ⟨((hm.trans hm4).grown g fun b e => .inr (.inr (by have := hown b e; omega))).grown g3 fun b e => by cases e; exact .inr (.inr (Nat.le_of_lt hlow)), ?_, hlow, _, _, hb.upd _ _ rfl, ho5.symGrown g3 ?_, (hg.newRow h g fun b e => by have := hown b e; omega).newRow h g3 fun b e => by cases e; exact Nat.le_of_lt hlow⟩
  · refine ((hm4.box hc (by omega) (by omega)).grown g fun e => ?_).grown g3 (by simp; omega)
    have := hown _ e.symm
    omega
  · intro e
    exact ho5.not_box hb (by decide) _ e rfl
theorem Tryz.sz123' : (Tryz.prog.info? 123).map (·.size) = some 6 := by kernel_rfl
end Go.Proofs.YtgeaccoobhigcaaGreat
namespace Go.Proofs.YtgeaccoobhigcaaGreat
open Go Go.RowKit

theorem Mv.setR {E : Env} {w w1 w2 : World} (m : Mv E w w1) (g : w1.grownBy w2 (some E.r)) : Mv E w w2 := m.grown g fun b e => by cases e; exact .inl rfl
theorem bTo_ne : (bTo.data.toList == []) = false := rfl
theorem bFrom_ne : (bFrom.data.toList == []) = false := rfl
set_option maxRecDepth 100000 in
set_option maxHeartbeats 4000000 in
theorem testFrom8 {α : Type} {E : Env} {a : α} {ts : List Tk} (w : World) (h : Q8 E w (.ok a ts)) (hb : isB (headT ts) bFrom = true) : Calls Tryz.prog 116 #[E.ptr] w fun x w' => TsIs w.heap.size w' (pTest ts) x ∧ Mv E w w' ∧ Q8 E w' (pTest ts) := by
  have hw := h.alloc (.cells #[.int .i64 0, .string ⟨#[]⟩, .int .i64 0, .string ⟨#[]⟩, .int .i64 0, .slice none 0 0] 123)
  have hI := sign8 _ hw bFrom
  rw [isQ_sign bFrom_ne, hb] at hI
  have HI := Lib.hid hI
  have HX := Lib.hid (BoxC.new w [.int .i64 0, .string ⟨#[]⟩, .int .i64 0, .string ⟨#[]⟩, .int .i64 0, .slice none 0 0] 123)
  have HW := Lib.hid (below_new w (.cells #[.int .i64 0, .string ⟨#[]⟩, .int .i64 0, .string ⟨#[]⟩, .int .i64 0, .slice none 0 0] 123))
  have HLO := Lib.hid h.lows
  have HLI := Lib.hid h.one
  have H := Lib.hid h
  unfold pTest
  rw [hb]
  simp only [if_true]
  obtain ⟨R, hR0⟩ : ∃ R, pEnds pConst bTo ts.tail = R := ⟨_, rfl⟩
  rw [hR0]
  have HR0 := Lib.hid hR0
  have hk4 := isB_kind hb
  obtain ⟨k, hQ, rfl⟩ := hw
  have HQ := Lib.hid hQ
  have HN := Lib.hid (fun w1 (b : Below (w.alloc (.cells #[.int .i64 0, .string ⟨#[]⟩, .int .i64 0, .string ⟨#[]⟩, .int .i64 0, .slice none 0 0] 123)).heap.size (w.alloc (.cells #[.int .i64 0, .string ⟨#[]⟩, .int .i64 0, .string ⟨#[]⟩, .int .i64 0, .slice none 0 0] 123)) w1) w2 g hbx => (hQ.below b).next (b := ()) (w' := w2) (show (headT (E.L.drop k)).kind ≠ 5 ∧ (headT (E.L.drop k)).kind ≠ 6 by omega) g hbx)
  have hkl : k ≤ 1000000 := by have := hQ.lt; have := hQ.good.len; omega
  clear hI h hb hR0 hk4 hQ
  unfold Env.ptr bFrom at *
  go_enter Tryz.func116, Tryz.ntmps116
  go_wp2_with (first | (go_at_call 40; refine HI.out.mono ?_; rintro x w1 ⟨rfl, b1⟩; have HQ1 := Lib.hid (HQ.out.below b1); have HX1 := Lib.hid (HX.out.below b1); have HB1 := Lib.hid b1; obtain ⟨c0, c1, c2⟩ := three_box (HQ.out.below b1).box; clear b1) | (refine wpList_box rfl 3 (.tmp 14) (.tmp 12) rfl E.r 1 _ [.int .i64 ((k : Int) + 1)] rfl rfl rfl HQ1.out.box Tryz.sz3' (by simp) (by simp [Value.oneCell']) [.slice E.ao E.n E.c, .int .i64 ((k : Int) + 1), .bool false] rfl ?_; intro w2 B2 g2; have HX2 := Lib.hid (HX1.out.grown g2 (by simp; have := HLO.out; omega)); have HM2 := Lib.hid (Mv.setR (Mv.of_below (HW.out.trans (HB1.out.mono HW.out.size))) g2); have HR2 := Lib.hid (HN.out _ HB1.out _ g2 B2); clear B2 g2 c0 c1 c2))
  obtain ⟨W0, hW0⟩ : ∃ W0, w2.alloc (.cells #[.int .i64 8, .string ⟨#[]⟩, .int .i64 0, .string ⟨#[]⟩, .int .i64 0, .slice none 0 0] 123) = W0 := ⟨_, rfl⟩
  have HB3 : Hid (BoxC W0 w2.heap.size 123 [.int .i64 8, .string ⟨#[]⟩, .int .i64 0, .string ⟨#[]⟩, .int .i64 0, .slice none 0 0]) := Lib.hid (by rw [← hW0]; exact BoxC.new w2 _ 123)
  have HC0 : Hid (BoxC W0 w.heap.size 123 [.int .i64 0, .string ⟨#[]⟩, .int .i64 0, .string ⟨#[]⟩, .int .i64 0, .slice none 0 0]) := Lib.hid (by rw [← hW0]; exact HX2.out.alloc _)
  have HM0 : Hid (Mv E w W0) := Lib.hid (by rw [← hW0]; exact HM2.out.alloc _)
  have HR2' : Hid (Q8 E W0 (.ok () (List.drop k E.L).tail)) := Lib.hid (by rw [← hW0]; exact HR2.out.alloc _)
  have hlow : w.heap.size < w2.heap.size := HX2.out.lt
  rw [hW0]
  clear hW0 HX2 HM2 HR2 HQ1 HX1 HB1 HN HI HQ
  have hCC := fun W (b : Below W0.heap.size W0 W) => constant8 W (HR2'.out.below b)
  have HCC := Lib.hid hCC
  have HO : Hid (OwnD mkSym (w.heap.size + 1) 45 W0 (.slice none 0 0) []) := Lib.hid (OwnD.nil _ _ _ _)
  have hll : ([] : List Sm).length ≤ 1000000 := by simp
  obtain ⟨i0, hi, hz0, hz1, hz2⟩ := info_parts Tryz.info45
  have hrA : E.r < w.heap.size + 1 := by have := HLO.out; omega
  have hiA : E.ib < w.heap.size + 1 := by have := HLO.out; have := HLI.out; omega
  have hrB : w2.heap.size ≠ E.r := by have := HLO.out; omega
  have hiB : w2.heap.size ≠ E.ib := by have := HLO.out; have := HLI.out; omega
  have hlt := HB3.out.lt
  obtain ⟨d0, d1, d2, d3, d4, d5⟩ := six_boxR HB3.out
  unfold Env.ptr at HCC
  clear hCC
  go_wp2
  go_region_law ((first
    | (go_simp; go_at_call 106; refine (HCC.out W0.drew (belowD W0)).mono ?_; rintro x w4 ⟨⟨⟨tk, tt, tn⟩, rfl, hs4, hq4⟩, hm4, hr4⟩; unfold Sm.val; dsimp only; have HM4 : Hid (Mv E W0 w4) := Lib.hid (Mv.trans (Mv.of_below (belowD W0)) hm4); have HO4 := Lib.hid (HO.out.moved HM4.out hrA hiA); have HB4 := Lib.hid (HM4.out.box HB3.out hrB hiB); obtain ⟨f0, f1, f2, f3, f4, f5⟩ := six_boxR HB4.out; have hlt4 := HB4.out.lt; have HQ4 := Lib.hid hq4; have HR4 := Lib.hid hr4; have HZ4 := Lib.hid hs4; have hbase : w.heap.size + 1 ≤ w4.heap.size := Nat.le_trans hlow (Nat.le_of_lt hlt4); clear hm4 hr4 hq4 hs4)
    | (refine step_push (by rfl) (.tmp 17) (.tmp 20) 121 (by rfl) mkSym (w.heap.size + 1) 45 i0 _ 32 Tryz.underlying121 hi hz0 hz1 hz2 (by rfl) _ [] ⟨tk, tt, tn⟩ (by rfl) HO4.out _ rfl (by rfl) (by rfl) (mkSym.one _) hll (by omega) hbase (fun _ => False) (Nat.le_trans HZ4.out (by decide)) trivial (fun _ h => h.elim) ?_; intro go' c' w5 ho5 hg5; have HB5 := Lib.hid (box_push HO4.out HB4.out hg5 (by decide)); obtain ⟨k0, k1, k2, k3, k4, k5⟩ := six_boxR HB5.out; have k6 := free_box HB5.out 5)))
  all_goals
    obtain ⟨n0, hg0⟩ := Goes8.first HR2'.out pConst_eats (stop := bTo) HR4.out HQ4.out
    have HNX : Hid (TestLoop8 E w w2.heap.size R n0 _) := Lib.hid (by rw [← HR0.out]; exact testLoop_next8 H.out hlow HM0.out HM4.out HC0.out HO4.out HB5.out hg5 ho5 hg0)
    clear ho5 hg5 k0 k1 k2 k3 k4 k5 k6 hg0 f0 f1 f2 f3 f4 f5 d0 d1 d2 d3 d4 d5 HR4 HQ4 HZ4 HB4 HO4 HM4 HB5 HB3 HC0 HM0 HO HCC HR2' hll hlt hlt4 hbase
    go_wp2
    go_loopg [] n0 (fun gk wr => Hid (TestLoop8 E w w2.heap.size R gk wr))
    case atStart => exact HNX
    case round =>
      obtain ⟨hmv, hc, hlow, v, l, hb3, ho, hg⟩ := hrel.out
      obtain ⟨ao, c, rfl, hd⟩ := ho.deep
      have HMV := Lib.hid hmv
      have HC := Lib.hid hc
      have HB3 := Lib.hid hb3
      have HO := Lib.hid ho
      have HD := Lib.hid hd
      rcases hg with ⟨ts1, hr, hlen, hcnt, hR⟩ | ⟨q, hr, hR⟩
      · obtain ⟨k1, hQ1, rfl⟩ := hr
        obtain ⟨c0, c1, c2⟩ := three_box hQ1.box
        obtain ⟨gk, rfl⟩ : ∃ g, gk = g + 1 := ⟨gk - 1, by omega⟩
        have hr : Q8 E wr (.ok () (E.L.drop k1)) := hQ1.q8
        have hI := sign8 _ hr bTo
        rw [isQ_sign bTo_ne] at hI
        cases hb : isB (headT (E.L.drop k1)) bTo with
        | true =>
          rw [hb] at hI
          rw [rest_stop hb] at hR
          have hp : ((Rs.ok () (E.L.drop k1)).bind fun _ ts => pTok 4 bTo ts) = .ok (textB (headT (E.L.drop k1))) (E.L.drop k1).tail := by
            show pTok 4 bTo (E.L.drop k1) = _
            unfold pTok
            rw [tokB_sign _ bTo_ne, hb]
            rfl
          have hT := fun W (b : Below wr.heap.size wr W) => take8 W (hr.below b) 4 (by decide) bTo 4 rfl
          rw [hp] at hT
          have HI := Lib.hid hI
          have HT := Lib.hid hT
          have HRR := Lib.hid hR
          clear hR hrel hmv hc hb3 ho hd hlen hcnt hI hT hb HNX hp hr hQ1
          generalize textB (headT (E.L.drop k1)) = TT at HT
          unfold Env.ptr bTo at HI HT
          go_wp2_with (first | (go_at_call 40; refine HI.out.mono ?_; rintro x w3 ⟨rfl, b3⟩))
          refine (HT.out _ b3).mono ?_
          rintro x w4 ⟨⟨_, rfl, _⟩, hm0, hr⟩
          have hm : Mv E wr w4 := (Mv.of_below b3).trans hm0
          clear hm0 b3
          obtain ⟨d0, d1, d2, d3, d4, d5⟩ := six_boxR (hm.box HB3.out (by have := HLO.out; omega) (by have := HLO.out; have := HLI.out; omega))
          have HC4 := Lib.hid (hm.box HC.out (by have := HLO.out; omega) (by have := HLO.out; have := HLI.out; omega))
          have HM4 := Lib.hid (HMV.out.trans hm)
          have HD4 := Lib.hid (HD.out.same (hm.same fun b hb => ⟨by have := HLO.out; omega, by have := HLO.out; have := HLI.out; omega⟩))
          have HR4 := Lib.hid hr
          clear hm hr c0 c1 c2
          go_wp2_with (refine wpList_box rfl 123 (.tmp 2) (.tmp 42) rfl w.heap.size 0 _ [.int .i64 8, .string ⟨#[]⟩, .int .i64 0, .string ⟨#[]⟩, .int .i64 0, .slice ao l.length c] rfl rfl rfl HC4.out Tryz.sz123' (by simp) (by simp [Value.oneCell']) _ rfl ?_; intro w5 B5 g5; have HB5 := Lib.hid B5; have HG5 := Lib.hid g5; clear B5 g5 d0 d1 d2 d3 d4 d5)
          obtain ⟨d0, d1, d2, d3, d4, d5⟩ := six_boxR HB5.out
          obtain ⟨q1, q2⟩ := sym_test HD4.out HG5.out
          exact bodyPost_ret (v := .agg #[.int .i64 8, .string ⟨#[]⟩, .int .i64 0, .string ⟨#[]⟩, .int .i64 0, .slice ao l.length c]) (by simp [results, Tryz.results116, go_sem, d0, d1, d2, d3, d4, d5]) rfl ⟨⟨⟨8, ⟨#[]⟩, nilSm, ao, l.length, c, l⟩, rfl, q1, q2, by intro a ts' e; rw [HRR.out] at e; cases e; rfl⟩, HM4.out.new HG5.out (Nat.le_refl _), by rw [HRR.out]; exact Q8.new H.out HR4.out HG5.out (Nat.le_refl _)⟩
        | false =>
          rw [hb] at hI
          have hCC := fun W (b : Below wr.heap.size wr W) => constant8 W (hr.below b)
          have HI := Lib.hid hI
          have HCC := Lib.hid hCC
          have hll : l.length ≤ 1000000 := by omega
          have hlt := hb3.lt
          obtain ⟨d0, d1, d2, d3, d4, d5⟩ := six_boxR hb3
          have HGO : Hid (∀ W s, (∀ a ts, pConst (E.L.drop k1) = .ok a ts → s = a) → Q8 E W (pConst (E.L.drop k1)) → Goes8 E R pConst bTo (l ++ [s]) gk W) := Lib.hid fun W s hq hr => Goes8.more hlen hcnt hR hb pConst_eats hr hq
          obtain ⟨i0, hi, hz0, hz1, hz2⟩ := info_parts Tryz.info45
          clear hrel hmv hc ho hd hlen hcnt hI hb hCC hR HNX hr hb3 hQ1
          unfold Env.ptr bTo at HI
          unfold Env.ptr at HCC
          have HHO := HO
          have HHB := HB3
          go_wp2_with (first | (go_at_call 40; refine HI.out.mono ?_; rintro x w3 ⟨rfl, b3⟩; obtain ⟨e0, e1, e2, e3, e4, e5⟩ := six_boxR (HHB.out.below b3)))
          have HO := Lib.hid (HHO.out.kept b3)
          have HB3 := Lib.hid (HHB.out.below b3)
          have HCC := Lib.hid (fun W (b : Below w3.heap.size w3 W) => HCC.out W (below_trans b3 b))
          have HC3 := Lib.hid (HC.out.below b3)
          have HMV3 := Lib.hid (HMV.out.trans (Mv.of_below b3))
          clear d0 d1 d2 d3 d4 d5 c0 c1 c2 hlt HHO HHB
          have hlt := HB3.out.lt
          go_region_law ((first
            | (go_simp; go_at_call 106; refine (HCC.out w3.drew (belowD w3)).mono ?_; rintro x w4 ⟨⟨⟨tk, tt, tn⟩, rfl, hs4, hq4⟩, hm4, hr4⟩; unfold Sm.val; dsimp only; have HM4 : Hid (Mv E w3 w4) := Lib.hid (Mv.trans (Mv.of_below (belowD w3)) hm4); have HO4 := Lib.hid (HO.out.moved HM4.out hrA hiA); have HB4 := Lib.hid (HM4.out.box HB3.out hrB hiB); obtain ⟨f0, f1, f2, f3, f4, f5⟩ := six_boxR HB4.out; have hlt4 := HB4.out.lt; have HQ4 := Lib.hid hq4; have HR4 := Lib.hid hr4; have HZ4 := Lib.hid hs4; have hbase : w.heap.size + 1 ≤ w4.heap.size := Nat.le_trans hlow (Nat.le_of_lt hlt4); clear hm4 hr4 hq4 hs4)
            | (refine step_push (by rfl) (.tmp 34) (.tmp 37) 121 (by rfl) mkSym (w.heap.size + 1) 45 i0 _ 32 Tryz.underlying121 hi hz0 hz1 hz2 (by rfl) _ l ⟨tk, tt, tn⟩ (by rfl) HO4.out _ rfl (by rfl) (by rfl) (mkSym.one _) hll (by omega) hbase (fun _ => False) (Nat.le_trans HZ4.out (by decide)) trivial (fun _ h => h.elim) ?_; intro go' c' w5 ho5 hg5; have HB5 := Lib.hid (box_push HO4.out HB4.out hg5 (by decide)); obtain ⟨k0, k1, k2, k3, k4, k5⟩ := six_boxR HB5.out; have k6 := free_box HB5.out 5)))
          all_goals
            have HNX := Lib.hid (testLoop_next8 H.out hlow HMV3.out HM4.out HC3.out HO4.out HB5.out hg5 ho5 (HGO.out _ _ HQ4.out HR4.out))
            clear ho5 hg5 k0 k1 k2 k3 k4 k5 k6
            go_wp2
            go_roundg gk
            case rel => exact HNX
            case measure => omega
      · obtain ⟨k1, hQ1, he1⟩ := hr
        obtain ⟨c0, c1, c2⟩ := three_box hQ1.box
        have hr : Q8 E wr (.bad q : Rs Unit) := ⟨k1, hQ1, he1⟩
        have hT := fun W (b : Below wr.heap.size wr W) => take8 W (hr.below b) 4 (by decide) bTo 4 rfl
        have HT := Lib.hid hT
        have HRR := Lib.hid hR
        clear hR hrel hmv hc hb3 ho hd hT HNX hr hQ1
        unfold Env.ptr bTo at HT
        go_wp2_with fail
        refine (HT.out _ (Below.refl _ _)).mono ?_
        rintro x w4 ⟨⟨_, rfl, _⟩, hm, hr⟩
        obtain ⟨d0, d1, d2, d3, d4, d5⟩ := six_boxR (hm.box HB3.out (by have := HLO.out; omega) (by have := HLO.out; have := HLI.out; omega))
        have HC4 := Lib.hid (hm.box HC.out (by have := HLO.out; omega) (by have := HLO.out; have := HLI.out; omega))
        have HM4 := Lib.hid (HMV.out.trans hm)
        have HD4 := Lib.hid (HD.out.same (hm.same fun b hb => ⟨by have := HLO.out; omega, by have := HLO.out; have := HLI.out; omega⟩))
        have HR4 := Lib.hid hr
        clear hm hr c0 c1 c2
        go_wp2_with (refine wpList_box rfl 123 (.tmp 2) (.tmp 42) rfl w.heap.size 0 _ [.int .i64 8, .string ⟨#[]⟩, .int .i64 0, .string ⟨#[]⟩, .int .i64 0, .slice ao l.length c] rfl rfl rfl HC4.out Tryz.sz123' (by simp) (by simp [Value.oneCell']) _ rfl ?_; intro w5 B5 g5; have HB5 := Lib.hid B5; have HG5 := Lib.hid g5; clear B5 g5 d0 d1 d2 d3 d4 d5)
        obtain ⟨d0, d1, d2, d3, d4, d5⟩ := six_boxR HB5.out
        obtain ⟨q1, q2⟩ := sym_test HD4.out HG5.out
        exact bodyPost_ret (v := .agg #[.int .i64 8, .string ⟨#[]⟩, .int .i64 0, .string ⟨#[]⟩, .int .i64 0, .slice ao l.length c]) (by simp [results, Tryz.results116, go_sem, d0, d1, d2, d3, d4, d5]) rfl ⟨⟨⟨8, ⟨#[]⟩, nilSm, ao, l.length, c, l⟩, rfl, q1, q2, by intro a ts' e; rw [HRR.out] at e; cases e⟩, HM4.out.new HG5.out (Nat.le_refl _), by rw [HRR.out]; exact Q8.new H.out HR4.out HG5.out (Nat.le_refl _)⟩
end Go.Proofs.YtgeaccoobhigcaaGreat
namespace Go.Proofs.YtgeaccoobhigcaaGreat
open Go Go.RowKit

theorem relQ_here {α : Type} {a : α} {ts : List Tk} : (relHere (headT ts) = true → (headT ts).kind = 4 ∧ relQ (.ok a ts : Rs α) = relN (headT ts).text ∧ relN (headT ts).text ≠ 0) ∧ (relHere (headT ts) = false → relQ (.ok a ts : Rs α) = 0) := by
  have h0 : 0 ≤ relN (headT ts).text := by unfold relN; split <;> (try split) <;> (try split) <;> (try split) <;> (try split) <;> (try split) <;> decide
  constructor
  · intro h
    obtain ⟨h1, h2⟩ : (headT ts).kind = 4 ∧ 0 < relN (headT ts).text := by simpa [relHere] using h
    exact ⟨h1, by show (if _ then _ else _) = _; rw [if_pos h1], by omega⟩
  · intro h
    show (if _ then _ else _) = _
    split
    · rename_i h1
      have h2 : ¬ 0 < relN (headT ts).text := by simpa [relHere, h1] using h
      omega
    · rfl
set_option maxRecDepth 100000 in
set_option maxHeartbeats 4000000 in
theorem testOne8 {α : Type} {E : Env} {r : Rs α} (w : World) (h : Q8 E w r) (hb : isQ r 4 bFrom = false) : Calls Tryz.prog 116 #[E.ptr] w fun x w' => TsIs w.heap.size w' (r.bind fun _ ts => pTest ts) x ∧ Mv E w w' ∧ Q8 E w' (r.bind fun _ ts => pTest ts) := by
  have hw := h.alloc (.cells #[.int .i64 0, .string ⟨#[]⟩, .int .i64 0, .string ⟨#[]⟩, .int .i64 0, .slice none 0 0] 123)
  have hI := sign8 _ hw bFrom
  rw [hb] at hI
  have HI := Lib.hid hI
  have HREL := Lib.hid (fun w' (b : Below (w.alloc (.cells #[.int .i64 0, .string ⟨#[]⟩, .int .i64 0, .string ⟨#[]⟩, .int .i64 0, .slice none 0 0] 123)).heap.size (w.alloc (.cells #[.int .i64 0, .string ⟨#[]⟩, .int .i64 0, .string ⟨#[]⟩, .int .i64 0, .slice none 0 0] 123)) w') => rel8 w' (hw.below b))
  have HX := Lib.hid (BoxC.new w [.int .i64 0, .string ⟨#[]⟩, .int .i64 0, .string ⟨#[]⟩, .int .i64 0, .slice none 0 0] 123)
  have HW := Lib.hid (below_new w (.cells #[.int .i64 0, .string ⟨#[]⟩, .int .i64 0, .string ⟨#[]⟩, .int .i64 0, .slice none 0 0] 123))
  have HLO := Lib.hid h.lows
  have HLI := Lib.hid h.one
  have H := Lib.hid h
  by_cases h0 : relQ r = 0
  · rw [h0] at HREL
    have hp : (r.bind fun _ ts => pTest ts) = (r.bind fun _ ts => pAtom ts).bind fun a ts => .ok ⟨1, a.v, a.s, []⟩ ts := by
      cases r with
      | bad q => rfl
      | ok a ts =>
        rw [isQ_sign bFrom_ne] at hb
        show pTest ts = (pAtom ts).bind _
        unfold pTest
        rw [hb]
        simp only [Bool.false_eq_true, if_false]
        cases hr : relHere (headT ts) with
        | true => obtain ⟨_, h2, h3⟩ := relQ_here.1 hr; rw [h2] at h0; exact absurd h0 h3
        | false => rfl
    rw [hp]
    have HA := Lib.hid (fun w' (b : Below (w.alloc (.cells #[.int .i64 0, .string ⟨#[]⟩, .int .i64 0, .string ⟨#[]⟩, .int .i64 0, .slice none 0 0] 123)).heap.size (w.alloc (.cells #[.int .i64 0, .string ⟨#[]⟩, .int .i64 0, .string ⟨#[]⟩, .int .i64 0, .slice none 0 0] 123)) w') => atom8 w' (hw.below b))
    generalize (r.bind fun _ ts => pAtom ts) = R at HA ⊢
    clear hw hI h hb h0 hp
    unfold Env.ptr bFrom at *
    go_enter Tryz.func116, Tryz.ntmps116
    go_wp2_with (first | (go_at_call 40; refine HI.out.mono ?_; rintro x w1 ⟨rfl, b1⟩) | (go_at_call 117; refine (HREL.out _ b1).mono ?_; rintro x w2 ⟨rfl, b2⟩; have HX3 := Lib.hid ((HX.out.below b1).below b2); have HM3 := Lib.hid (Mv.of_below (E := E) (HW.out.trans ((below_trans b1 b2).mono HW.out.size))); have HB2 := Lib.hid (below_trans b1 b2); clear b1 b2))
    refine (HA.out _ HB2.out).mono ?_
    rintro x w4 ⟨⟨⟨av, ⟨ak, at_, an⟩⟩, rfl, hsz, hq⟩, hm, hr⟩
    have HX4 := Lib.hid (hm.box HX3.out (by have := HLO.out; omega) (by have := HLO.out; have := HLI.out; omega))
    have HM4 := Lib.hid (HM3.out.trans hm)
    have HR4 := Lib.hid hr
    have HSZ := Lib.hid hsz
    have HQ := Lib.hid hq
    clear hm hr hsz hq
    unfold Am.val
    dsimp only
    have HX5 := Lib.hid (HX4.out.alloc (.cells #[.string av, .int .i64 ak, .string at_, .int .i64 an] 47))
    have HM5 := Lib.hid (HM4.out.alloc (.cells #[.string av, .int .i64 ak, .string at_, .int .i64 an] 47))
    have HR5 := Lib.hid (HR4.out.alloc (.cells #[.string av, .int .i64 ak, .string at_, .int .i64 an] 47))
    obtain ⟨f0, f1, f2, f3⟩ := four_boxR (BoxC.new w4 [.string av, .int .i64 ak, .string at_, .int .i64 an] 47)
    go_wp2_with (refine wpList_box rfl 123 (.tmp 2) (.tmp 61) rfl w.heap.size 0 _ [.int .i64 1, .string av, .int .i64 ak, .string at_, .int .i64 an, .slice none 0 0] rfl rfl rfl HX5.out Tryz.sz123' (by simp) (by simp [Value.oneCell']) _ rfl ?_; intro w7 B7 g7; have HB7 := Lib.hid B7; have HG7 := Lib.hid g7; clear B7 g7 f0 f1 f2 f3)
    obtain ⟨d0, d1, d2, d3, d4, d5⟩ := six_boxR HB7.out
    obtain ⟨q1, q2⟩ := one_test (k := 1) (a := ⟨av, ⟨ak, at_, an⟩⟩) (w5 := w7) (K := fun b => w.heap.size ≤ b) HSZ.out
    refine bodyPost_ret (v := .agg #[.int .i64 1, .string av, .int .i64 ak, .string at_, .int .i64 an, .slice none 0 0]) (by simp [results, Tryz.results116, go_sem, d0, d1, d2, d3, d4, d5]) rfl ⟨⟨⟨1, av, ⟨ak, at_, an⟩, none, 0, 0, []⟩, rfl, q1, q2, ?_⟩, HM5.out.new HG7.out (Nat.le_refl _), (Q8.new H.out HR5.out HG7.out (Nat.le_refl _)).of⟩
    intro b ts' e
    cases R with
    | bad q => cases e
    | ok c t => cases e; rw [← HQ.out _ _ rfl]; rfl
  · obtain ⟨a, ts, rfl, hr⟩ : ∃ a ts, r = .ok a ts ∧ relHere (headT ts) = true := by
      cases r with
      | bad q => exact absurd rfl h0
      | ok a ts =>
        cases hr : relHere (headT ts) with
        | true => exact ⟨a, ts, rfl, hr⟩
        | false => exact absurd (relQ_here.2 hr) h0
    obtain ⟨hk4, h2, _⟩ := relQ_here (a := a).1 hr
    have hp : ((Rs.ok a ts).bind fun _ ts => pTest ts) = (pAtom ts.tail).bind fun a ts' => .ok ⟨relN (headT ts).text, a.v, a.s, []⟩ ts' := by
      rw [isQ_sign bFrom_ne] at hb
      show pTest ts = _
      unfold pTest
      rw [hb]
      simp only [Bool.false_eq_true, if_false]
      rw [hr]
      rfl
    rw [hp]
    rw [h2] at HREL h0
    generalize relN (headT ts).text = kk at *
    obtain ⟨k, hQ, rfl⟩ := hw
    have hkl : k ≤ 1000000 := by have := hQ.lt; have := hQ.good.len; omega
    have HQ0 := Lib.hid hQ
    have HN := Lib.hid (fun w1 (b : Below (w.alloc (.cells #[.int .i64 0, .string ⟨#[]⟩, .int .i64 0, .string ⟨#[]⟩, .int .i64 0, .slice none 0 0] 123)).heap.size (w.alloc (.cells #[.int .i64 0, .string ⟨#[]⟩, .int .i64 0, .string ⟨#[]⟩, .int .i64 0, .slice none 0 0] 123)) w1) w2 g hbx => (hQ.below b).next (b := ()) (w' := w2) (show (headT (E.L.drop k)).kind ≠ 5 ∧ (headT (E.L.drop k)).kind ≠ 6 by omega) g hbx)
    have HA := Lib.hid (fun w' (q : Q8 E w' (.ok () (List.drop k E.L).tail)) => atom8 w' q)
    have hp3 : ((Rs.ok () (List.drop k E.L).tail).bind fun _ ts => pAtom ts) = pAtom (List.drop k E.L).tail := rfl
    rw [hp3] at HA
    generalize pAtom (List.drop k E.L).tail = R at HA ⊢
    have e0 : (kk == 0) = false := by simp [h0]
    clear hI h hb h0 hp hr hk4 h2 hp3 hQ
    unfold Env.ptr bFrom at *
    go_enter Tryz.func116, Tryz.ntmps116
    go_wp2_with (first | (go_at_call 40; refine HI.out.mono ?_; rintro x w1 ⟨rfl, b1⟩) | (go_at_call 117; refine (HREL.out _ b1).mono ?_; rintro x w2 ⟨rfl, b2⟩; have HX2 := Lib.hid ((HX.out.below b1).below b2); have HM2 := Lib.hid (Mv.of_below (E := E) (HW.out.trans ((below_trans b1 b2).mono HW.out.size))); have HB2 := Lib.hid (below_trans b1 b2); have HQ2 := Lib.hid (HQ0.out.below (below_trans b1 b2)); obtain ⟨c0, c1, c2⟩ := three_box (HQ0.out.below (below_trans b1 b2)).box; clear b1 b2) | (refine wpList_box rfl 3 (.tmp 53) (.tmp 51) rfl E.r 1 _ [.int .i64 ((k : Int) + 1)] rfl rfl rfl HQ2.out.box Tryz.sz3' (by simp) (by simp [Value.oneCell']) [.slice E.ao E.n E.c, .int .i64 ((k : Int) + 1), .bool false] rfl ?_; intro w3 B3 g3; have HX3 := Lib.hid (HX2.out.grown g3 (by simp; have := HLO.out; omega)); have HM3 := Lib.hid (Mv.setR HM2.out g3); have HR3 := Lib.hid (HN.out _ HB2.out _ g3 B3); clear B3 g3 c0 c1 c2))
    refine (HA.out _ HR3.out).mono ?_
    rintro x w4 ⟨⟨⟨av, ⟨ak, at_, an⟩⟩, rfl, hsz, hq⟩, hm, hr⟩
    have HX4 := Lib.hid (hm.box HX3.out (by have := HLO.out; omega) (by have := HLO.out; have := HLI.out; omega))
    have HM4 := Lib.hid (HM3.out.trans hm)
    have HR4 := Lib.hid hr
    have HSZ := Lib.hid hsz
    have HQ := Lib.hid hq
    clear hm hr hsz hq
    unfold Am.val
    dsimp only
    have HX5 := Lib.hid (HX4.out.alloc (.cells #[.string av, .int .i64 ak, .string at_, .int .i64 an] 47))
    have HM5 := Lib.hid (HM4.out.alloc (.cells #[.string av, .int .i64 ak, .string at_, .int .i64 an] 47))
    have HR5 := Lib.hid (HR4.out.alloc (.cells #[.string av, .int .i64 ak, .string at_, .int .i64 an] 47))
    obtain ⟨f0, f1, f2, f3⟩ := four_boxR (BoxC.new w4 [.string av, .int .i64 ak, .string at_, .int .i64 an] 47)
    go_wp2_with (refine wpList_box rfl 123 (.tmp 2) (.tmp 61) rfl w.heap.size 0 _ [.int .i64 kk, .string av, .int .i64 ak, .string at_, .int .i64 an, .slice none 0 0] rfl rfl rfl HX5.out Tryz.sz123' (by simp) (by simp [Value.oneCell']) _ rfl ?_; intro w7 B7 g7; have HB7 := Lib.hid B7; have HG7 := Lib.hid g7; clear B7 g7 f0 f1 f2 f3)
    obtain ⟨d0, d1, d2, d3, d4, d5⟩ := six_boxR HB7.out
    obtain ⟨q1, q2⟩ := one_test (k := kk) (a := ⟨av, ⟨ak, at_, an⟩⟩) (w5 := w7) (K := fun b => w.heap.size ≤ b) HSZ.out
    refine bodyPost_ret (v := .agg #[.int .i64 kk, .string av, .int .i64 ak, .string at_, .int .i64 an, .slice none 0 0]) (by simp [results, Tryz.results116, go_sem, d0, d1, d2, d3, d4, d5]) rfl ⟨⟨⟨kk, av, ⟨ak, at_, an⟩, none, 0, 0, []⟩, rfl, q1, q2, ?_⟩, HM5.out.new HG7.out (Nat.le_refl _), (Q8.new H.out HR5.out HG7.out (Nat.le_refl _)).of⟩
    intro b ts' e
    cases R with
    | bad q => cases e
    | ok c t => cases e; rw [← HQ.out _ _ rfl]; rfl
theorem test8 {α : Type} {E : Env} {r : Rs α} (w : World) (h : Q8 E w r) : Calls Tryz.prog 116 #[E.ptr] w fun x w' => TsIs w.heap.size w' (r.bind fun _ ts => pTest ts) x ∧ Mv E w w' ∧ Q8 E w' (r.bind fun _ ts => pTest ts) := by
  cases hq : isQ r 4 bFrom with
  | false => exact testOne8 w h hq
  | true =>
    obtain ⟨a, ts, rfl, ht⟩ := isQ_true hq
    exact testFrom8 w h (by rw [← tokB_sign _ bFrom_ne]; exact ht)
end Go.Proofs.YtgeaccoobhigcaaGreat
namespace Go.Proofs.YtgeaccoobhigcaaGreat
open Go Go.RowKit

/-- A list that is being read. -/
structure Grows8 {α β : Type} (M : Make α) (e : TypeId) (abs : α → β) (E : Env) (w : World) (R : Rs (List β)) (p : Pr β) (stop : ByteArray) (v : Value) (l : List α) (n : Nat) (wr : World) : Prop where
  own : OwnD M w.heap.size e wr v l
  mv : Mv E w wr
  goes : Goes8 E R p stop (l.map abs) n wr
  len : l.length ≤ 1000001
section
variable {α β γ : Type} {M : Make α} {e : TypeId} {abs : α → β} {E : Env} {w : World} {R : Rs (List β)} {p : Pr β} {stop : ByteArray} {v : Value} {l : List α} {n : Nat} {wr : World} {r0 : Rs γ}
theorem Grows8.deep (h : Grows8 M e abs E w R p stop v l n wr) : ∃ ao c, v = .slice ao l.length c ∧ Deep M (fun b => w.heap.size ≤ b) wr ao l.length c l := h.own.deep
theorem Grows8.below {w3 : World} (h0 : Q8 E w r0) (h : Grows8 M e abs E w R p stop v l n wr) (b : Below wr.heap.size wr w3) : Grows8 M e abs E w R p stop v l n w3 :=
  ⟨h.own.kept b, h.mv.trans (Mv.of_below b), h.goes.newRow h0 (row := none) ⟨b.os, b.tape, b.output, b.size, fun k hk _ => b.block k hk⟩ (by simp), h.len⟩
/-- The first one has been read: the world ahead of the slice. -/
theorem Grows8.first {r : Rs γ} {u : α} {w1 w2 : World} {tmp : Array Value} (h0 : Q8 E w1 r) (hm : Mv E w w2) (htmp : tmp.toList = M.cells u) (hu : M.ok w2 u) (hk : M.inK (fun b => w.heap.size ≤ b) u) (he : Eats p)
    (hr : Q8 E w2 (r.bind fun _ ts => p ts)) (hq : ∀ a t, (r.bind fun _ ts => p ts) = .ok a t → abs u = a) : ∃ n, Grows8 M e abs E w (r.bind fun _ ts => pEnds p stop ts) p stop (.slice (some ⟨w2.heap.size, 0, none⟩) 1 1) [u] n (w2.alloc (.cells tmp e)) := by
  obtain ⟨n, hg⟩ := Goes8.first (stop := stop) h0 he hr hq
  exact ⟨n, OwnD.one M e u htmp hm.size hu hk, hm.alloc _, hg.newRow hr (World.grownBy_alloc w2 _ none) (by simp), by simp⟩
/-- One more has been read: the world ahead of the append. -/
theorem Grows8.more {ts : List Tk} {u : α} {w0 w' : World} {v' : Value} (h0 : Q8 E w r0) (h : Grows8 M e abs E w R p stop v l (n + 1) wr) (hlen : ts.length < n + 1) (hcnt : (l.map abs).length + ts.length ≤ 1000000) (hR : R = rest p stop (n + 1) (l.map abs) ts)
    (hb : isB (headT ts) stop = false) (he : Eats p) (hm : Mv E wr w0) (hr : Q8 E w0 (p ts)) (hq : ∀ a t, p ts = .ok a t → abs u = a)
    (ho : OwnD M w.heap.size e w' v' (l ++ [u])) (hg : w0.grownBy w' v.ownBlock) : Grows8 M e abs E w R p stop v' (l ++ [u]) n w' := by
  have hown : ∀ b, v.ownBlock = some b → w.heap.size ≤ b := fun b e => (h.own.own.lt b e).1
  refine ⟨ho, (h.mv.trans hm).grown hg fun b e => .inr (.inr (hown b e)), ?_, ?_⟩
  · rw [List.map_append]
    exact (Goes8.more hlen hcnt hR hb he hr hq).newRow h0 hg hown
  · simp at hcnt ⊢
    omega
end
def fieldQ {α : Type} (r : Rs α) : Bool := match r with | .bad _ => false | .ok _ ts => fieldHere (headT ts)
theorem bLeft_ne : (bLeft.data.toList == []) = false := rfl
theorem bRight_ne : (bRight.data.toList == []) = false := rfl
theorem fieldQ_eq {α : Type} (r : Rs α) : fieldQ r = (atomQ r || (isQ r 4 bLeft || (isQ r 4 bFrom || decide (0 < relQ r)))) := by
  cases r with
  | bad p => rfl
  | ok a ts =>
    simp only [fieldQ, fieldHere, atomQ]
    rw [isQ_sign bLeft_ne, isQ_sign bFrom_ne]
    congr 3
    show (decide ((headT ts).kind = 4) && decide (0 < relN (headT ts).text)) = decide (0 < if (headT ts).kind = 4 then relN (headT ts).text else 0)
    by_cases h : (headT ts).kind = 4
    · simp [h]
    · simp [h]
set_option maxRecDepth 100000 in
set_option maxHeartbeats 2000000 in
theorem isField8 {α : Type} {E : Env} {r : Rs α} (w : World) (h : Q8 E w r) : Calls Tryz.prog 105 #[E.ptr] w fun x w' => x = .returned (.bool (fieldQ r)) ∧ Below w.heap.size w w' := by
  have H1 := Lib.hid (isAtom8 w h)
  have H2 := Lib.hid (fun w' (b : Below w.heap.size w w') => sign8 w' (h.below b) bLeft)
  have H3 := Lib.hid (fun w' (b : Below w.heap.size w w') => sign8 w' (h.below b) bFrom)
  have H4 := Lib.hid (fun w' (b : Below w.heap.size w w') => rel8 w' (h.below b))
  rw [fieldQ_eq]
  clear h
  unfold Env.ptr bLeft bFrom at *
  generalize atomQ r = b1 at *
  generalize isQ r 4 ⟨#[123]⟩ = b2 at *
  generalize isQ r 4 ⟨#[60, 60]⟩ = b3 at *
  generalize relQ r = n at *
  cases b1 with
  | true =>
    go_enter Tryz.func105, Tryz.ntmps105
    go_wp2_with (go_at_call 89; with_reducible refine H1.out.mono ?_; rintro x w1 ⟨rfl, q1⟩)
    go_ret
    exact ⟨rfl, q1⟩
  | false =>
    cases b2 with
    | true =>
      go_enter Tryz.func105, Tryz.ntmps105
      go_wp2_with (first | (go_at_call 89; with_reducible refine H1.out.mono ?_; rintro x w1 ⟨rfl, q1⟩) | (go_at_call 40; with_reducible refine (H2.out _ q1).mono ?_; rintro x w2 ⟨rfl, q2⟩))
      go_ret
      exact ⟨rfl, below_trans q1 q2⟩
    | false =>
      cases b3 with
      | true =>
        go_enter Tryz.func105, Tryz.ntmps105
        go_wp2_with (first | (go_at_call 89; with_reducible refine H1.out.mono ?_; rintro x w1 ⟨rfl, q1⟩) | (go_at_call 40; with_reducible refine (H2.out _ q1).mono ?_; rintro x w2 ⟨rfl, q2⟩) | (go_at_call 40; with_reducible refine (H3.out _ (below_trans q1 q2)).mono ?_; rintro x w3 ⟨rfl, q3⟩))
        go_ret
        exact ⟨rfl, below_trans (below_trans q1 q2) q3⟩
      | false =>
        by_cases hn : 0 < n
        · go_enter Tryz.func105, Tryz.ntmps105
          go_wp2_with (first | (go_at_call 89; with_reducible refine H1.out.mono ?_; rintro x w1 ⟨rfl, q1⟩) | (go_at_call 40; with_reducible refine (H2.out _ q1).mono ?_; rintro x w2 ⟨rfl, q2⟩) | (go_at_call 40; with_reducible refine (H3.out _ (below_trans q1 q2)).mono ?_; rintro x w3 ⟨rfl, q3⟩) | (go_at_call 117; with_reducible refine (H4.out _ (below_trans (below_trans q1 q2) q3)).mono ?_; rintro x w4 ⟨rfl, q4⟩))
          go_ret
          exact ⟨by simp [hn], below_trans (below_trans (below_trans q1 q2) q3) q4⟩
        · go_enter Tryz.func105, Tryz.ntmps105
          go_wp2_with (first | (go_at_call 89; with_reducible refine H1.out.mono ?_; rintro x w1 ⟨rfl, q1⟩) | (go_at_call 40; with_reducible refine (H2.out _ q1).mono ?_; rintro x w2 ⟨rfl, q2⟩) | (go_at_call 40; with_reducible refine (H3.out _ (below_trans q1 q2)).mono ?_; rintro x w3 ⟨rfl, q3⟩) | (go_at_call 117; with_reducible refine (H4.out _ (below_trans (below_trans q1 q2) q3)).mono ?_; rintro x w4 ⟨rfl, q4⟩))
          go_ret
          exact ⟨by simp, below_trans (below_trans (below_trans q1 q2) q3) q4⟩
set_option maxRecDepth 100000 in
set_option maxHeartbeats 2000000 in
theorem field8 {α : Type} {E : Env} {r : Rs α} (w : World) (h : Q8 E w r) : Calls Tryz.prog 104 #[E.ptr] w fun x w' => ListIs mkTest TestR.abs w.heap.size w' (r.bind fun _ ts => pField ts) x ∧ Mv E w w' ∧ Q8 E w' (r.bind fun _ ts => pField ts) := by
  have hI := sign8 w h bLeft
  have HLO := Lib.hid h.lows
  have HLI := Lib.hid h.one
  have HLJ : Hid (E.ib < w.heap.size) := Lib.hid (by have := h.one; have := h.lows; omega)
  have H := Lib.hid h
  cases hb : isQ r 4 bLeft with
  | false =>
    rw [hb] at hI
    have HI := Lib.hid hI
    have HT := Lib.hid (fun w' (b : Below w.heap.size w w') => test8 w' (h.below b))
    have hp : (r.bind fun _ ts => pField ts) = (r.bind fun _ ts => pTest ts).bind fun t ts => .ok [t] ts := by
      cases r with
      | bad q => rfl
      | ok a ts =>
        rw [isQ_sign bLeft_ne] at hb
        show pField ts = (pTest ts).bind _
        unfold pField
        rw [hb]
        simp only [Bool.false_eq_true, if_false]
    rw [hp]
    generalize (r.bind fun _ ts => pTest ts) = R at HT ⊢
    clear hI hb hp h
    unfold Env.ptr bLeft at *
    go_enter Tryz.func104, Tryz.ntmps104
    go_wp2_with (go_at_call 40; refine HI.out.mono ?_; rintro x w1 ⟨rfl, b1⟩)
    refine (HT.out _ b1).mono ?_
    rintro x w2 ⟨⟨⟨rel, v, ⟨sk, st, sn⟩, la, ln, lc, list⟩, rfl, hmem, hin, hq⟩, hm0, hr⟩
    have hm : Mv E w w2 := (Mv.of_below b1).trans hm0
    have HO : Hid (OwnD mkTest w.heap.size 123 (w2.alloc (.cells #[.int .i64 rel, .string v, .int .i64 sk, .string st, .int .i64 sn, .slice la ln lc] 123)) (.slice (some ⟨w2.heap.size, 0, none⟩) 1 1) [⟨rel, v, ⟨sk, st, sn⟩, la, ln, lc, list⟩]) := Lib.hid (OwnD.one mkTest 123 (u := (⟨rel, v, ⟨sk, st, sn⟩, la, ln, lc, list⟩ : TestR)) rfl hm.size hmem (TestR.In.mono hin fun b hb => Nat.le_trans b1.size hb))
    have HM := Lib.hid (hm.alloc (.cells #[.int .i64 rel, .string v, .int .i64 sk, .string st, .int .i64 sn, .slice la ln lc] 123))
    have HR := Lib.hid (hr.alloc (.cells #[.int .i64 rel, .string v, .int .i64 sk, .string st, .int .i64 sn, .slice la ln lc] 123))
    have HQ := Lib.hid hq
    clear hmem hin hq hm hr hm0 b1
    unfold TestR.val
    simp only
    go_wp2
    go_ret
    obtain ⟨ao, c, hv, hd⟩ := HO.out.deep
    refine ⟨⟨_, _, _, _, ret_val hv, hd, by simp, ?_⟩, HM.out, HR.out.of⟩
    intro a t e
    obtain ⟨b, t2, h1, h2⟩ := bind_ok.1 e
    cases h2
    rw [← HQ.out _ _ h1]
    rfl
  | true =>
    obtain ⟨a, ts, rfl, ht⟩ := isQ_true hb
    rw [tokB_sign _ bLeft_ne] at ht
    have hk4 := isB_kind ht
    have hp : ((Rs.ok a ts).bind fun _ ts => pField ts) = pEnds pTest bRight ts.tail := by
      show pField ts = _
      unfold pField
      rw [ht]
      rfl
    rw [hp]
    rw [hb] at hI
    have HI := Lib.hid hI
    obtain ⟨k, hQ, rfl⟩ := h
    have hkl : k ≤ 1000000 := by have := hQ.lt; have := hQ.good.len; omega
    have HQ0 := Lib.hid hQ
    have HN := Lib.hid (fun w1 (b : Below w.heap.size w w1) w2 g hbx => (hQ.below b).next (b := ()) (w' := w2) (show (headT (E.L.drop k)).kind ≠ 5 ∧ (headT (E.L.drop k)).kind ≠ 6 by omega) g hbx)
    obtain ⟨R, hR0⟩ : ∃ R, pEnds pTest bRight (E.L.drop k).tail = R := ⟨_, rfl⟩
    rw [hR0]
    have HR0 : Hid (((Rs.ok () (E.L.drop k).tail).bind fun _ ts => pEnds pTest ⟨#[125]⟩ ts) = R) := Lib.hid hR0
    obtain ⟨i0, hi, hz0, hz1, hz2⟩ := info_parts Tryz.info123
    clear hI hb hR0 hk4 hQ ht hp
    unfold Env.ptr bLeft at *
    go_enter Tryz.func104, Tryz.ntmps104
    go_wp2_with (first | (go_at_call 40; refine HI.out.mono ?_; rintro x w1 ⟨rfl, b1⟩; have HQ1 := Lib.hid (HQ0.out.below b1); have HB1 := Lib.hid b1; obtain ⟨c0, c1, c2⟩ := three_box (HQ0.out.below b1).box; clear b1) | (refine wpList_box rfl 3 (.tmp 16) (.tmp 14) rfl E.r 1 _ [.int .i64 ((k : Int) + 1)] rfl rfl rfl HQ1.out.box Tryz.sz3' (by simp) (by simp [Value.oneCell']) [.slice E.ao E.n E.c, .int .i64 ((k : Int) + 1), .bool false] rfl ?_; intro w2 B2 g2; have HM2 := Lib.hid (Mv.setR (Mv.of_below HB1.out) g2); have HR2 := Lib.hid (HN.out _ HB1.out _ g2 B2); clear B2 g2 c0 c1 c2))
    refine (test8 _ HR2.out).mono ?_
    rintro x w3 ⟨⟨⟨rel, nm, ⟨sk, st, sn⟩, la, ln, lc, list⟩, rfl, hmem, hin, hq⟩, hm, hr⟩
    have hg := Grows8.first (M := mkTest) (e := 123) (abs := TestR.abs) (E := E) (w := w) (p := pTest) (stop := ⟨#[125]⟩) (u := (⟨rel, nm, ⟨sk, st, sn⟩, la, ln, lc, list⟩ : TestR)) (tmp := #[.int .i64 rel, .string nm, .int .i64 sk, .string st, .int .i64 sn, .slice la ln lc]) HR2.out (HM2.out.trans hm) rfl hmem (TestR.In.mono hin fun b hb => Nat.le_trans HM2.out.size hb) pTest_eats hr hq
    rw [HR0.out] at hg
    obtain ⟨n0, hg⟩ := hg
    have HG := Lib.hid hg
    clear hg hmem hin hq hm hr HM2 HR2 HQ1 HB1 HN HQ0 HI
    unfold TestR.val
    simp only
    go_wp2
    go_loopg [3] n0 (fun gk v wr => ∃ l : List TestR, Hid (Grows8 mkTest 123 TestR.abs E w R pTest ⟨#[125]⟩ v l gk wr))
    case atStart => exact ⟨_, HG⟩
    case round =>
      clear HG
      obtain ⟨l, HG⟩ := hrel
      obtain ⟨ao, c, rfl, hd⟩ := HG.out.deep
      rcases HG.out.goes with ⟨ts1, hr, hlen, hcnt, hR⟩ | ⟨q, hr, hR⟩
      · obtain ⟨k1, hQ1, rfl⟩ := hr
        obtain ⟨c0, c1, c2⟩ := three_box hQ1.box
        have hr : Q8 E wr (.ok () (E.L.drop k1)) := hQ1.q8
        obtain ⟨gk, rfl⟩ : ∃ g, gk = g + 1 := ⟨gk - 1, by omega⟩
        have hI := sign8 _ hr ⟨#[125]⟩
        rw [isQ_sign rfl] at hI
        cases hb : isB (headT (E.L.drop k1)) ⟨#[125]⟩ with
        | true =>
          rw [hb] at hI
          rw [rest_stop hb] at hR
          have hp : ((Rs.ok () (E.L.drop k1)).bind fun _ ts => pTok 4 ⟨#[125]⟩ ts) = .ok (textB (headT (E.L.drop k1))) (E.L.drop k1).tail := by
            show pTok 4 ⟨#[125]⟩ (E.L.drop k1) = _
            unfold pTok
            rw [tokB_sign _ rfl, hb]
            rfl
          have hT := fun W (b : Below wr.heap.size wr W) => take8 W (hr.below b) 4 (by decide) ⟨#[125]⟩ 4 rfl
          rw [hp] at hT
          have HI := Lib.hid hI
          have HT := Lib.hid hT
          have HRR := Lib.hid hR
          have HD := Lib.hid hd
          have hll : l.length ≤ 1000001 := HG.out.len
          clear hR hr hlen hcnt hI hT hb hd hp hQ1
          generalize textB (headT (E.L.drop k1)) = TT at HT
          unfold Env.ptr at HI HT
          go_wp2_with (first | (go_at_call 40; refine HI.out.mono ?_; rintro x w3 ⟨rfl, b3⟩))
          refine (HT.out _ b3).mono ?_
          rintro x w4 ⟨⟨_, rfl, _⟩, hm0, hr⟩
          have hm : Mv E wr w4 := (Mv.of_below b3).trans hm0
          have HD4 := Lib.hid (HD.out.same (hm.same fun b hb => ⟨by have := HLO.out; omega, by have := HLO.out; have := HLI.out; omega⟩))
          have HM4 := Lib.hid (HG.out.mv.trans hm)
          have HR4 := Lib.hid hr
          clear hm hr hm0 b3 c0 c1 c2
          go_wp2
          go_ret
          exact ⟨⟨_, _, _, _, rfl, HD4.out, hll, by intro a t e; rw [HRR.out] at e; cases e; rfl⟩, HM4.out, by rw [HRR.out]; exact HR4.out⟩
        | false =>
          rw [hb] at hI
          have HI := Lib.hid hI
          have HG3 := Lib.hid (fun w3 (b : Below wr.heap.size wr w3) => HG.out.below H.out b)
          have HT := Lib.hid (fun w3 (b : Below wr.heap.size wr w3) => test8 w3 (hr.below b))
          have HMR := Lib.hid (fun w3 (b : Below wr.heap.size wr w3) u w0 w' v' => Grows8.more (u := u) (w0 := w0) (w' := w') (v' := v') H.out (HG.out.below H.out b) hlen hcnt hR hb pTest_eats)
          have hll : l.length ≤ 1000000 := by simp at hcnt; omega
          clear hR hr hlen hcnt hI hb hd hQ1
          unfold Env.ptr at HI HT
          go_wp2_with (first | (go_at_call 40; refine HI.out.mono ?_; rintro x w3 ⟨rfl, b3⟩))
          refine (HT.out _ b3).mono ?_
          rintro x w4 ⟨⟨⟨rel', nm', ⟨sk', st', sn'⟩, la', ln', lc', list'⟩, rfl, hmem, hin, hq⟩, hm, hr⟩
          have HM := Lib.hid hm
          have HMEM := Lib.hid hmem
          have HIN := Lib.hid hin
          have HQ := Lib.hid hq
          have HR4 := Lib.hid hr
          have HG4 := Lib.hid (HG3.out _ b3)
          have HMR4 := Lib.hid (HMR.out _ b3)
          clear hm hmem hin hq hr HG3 HMR b3
          unfold TestR.val
          simp only
          go_wp2_with (at_builtin; refine wpList_push3 rfl (.tmp 30) (.tmp 33) 41 rfl mkTest 123 i0 _ 80 Tryz.underlying41 hi hz0 hz1 hz2 rfl (by omega) (E := E) (w := w) (wr := w3) (w0 := w4) _ l (⟨rel', nm', ⟨sk', st', sn'⟩, la', ln', lc', list'⟩ : TestR) rfl HG4.out.own HG4.out.mv HM.out HLO.out HLJ.out HMEM.out HIN.out hll _ rfl rfl rfl ?_; intro go' c' w5 ho5 hg5)
          have HN := Lib.hid (HMR4.out _ _ _ _ HM.out HR4.out HQ.out ho5 hg5)
          clear ho5 hg5 c0 c1 c2
          go_wp2
          go_roundg gk
          case rel => exact ⟨_, HN⟩
          case measure => omega
      · obtain ⟨k1, hQ1, he1⟩ := hr
        obtain ⟨c0, c1, c2⟩ := three_box hQ1.box
        have hr : Q8 E wr (.bad q : Rs Unit) := ⟨k1, hQ1, he1⟩
        have HT := Lib.hid (take8 _ hr 4 (by decide) ⟨#[125]⟩ 4 rfl)
        have HRR := Lib.hid hR
        have HD := Lib.hid hd
        have hll : l.length ≤ 1000001 := HG.out.len
        clear hR hr hd hQ1
        unfold Env.ptr at HT
        go_wp2_with fail
        refine HT.out.mono ?_
        rintro x w4 ⟨⟨_, rfl, _⟩, hm, hr⟩
        have HD4 := Lib.hid (HD.out.same (hm.same fun b hb => ⟨by have := HLO.out; omega, by have := HLO.out; have := HLI.out; omega⟩))
        have HM4 := Lib.hid (HG.out.mv.trans hm)
        have HR4 := Lib.hid hr
        clear hm hr c0 c1 c2
        go_wp2
        go_ret
        exact ⟨⟨_, _, _, _, rfl, HD4.out, hll, by intro a t e; rw [HRR.out] at e; cases e⟩, HM4.out, by rw [HRR.out]; exact HR4.out⟩
end Go.Proofs.YtgeaccoobhigcaaGreat
