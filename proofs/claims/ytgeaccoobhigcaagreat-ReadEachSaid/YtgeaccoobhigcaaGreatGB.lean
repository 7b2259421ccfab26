/-
  Reading, in plain Lean: tokens as productions, or where they are none. A reader of tokens as it lies in memory; its next token; which sign stands there; an error. The reader's steps: the next token, a sign that must stand there, a text, a constant, an atom. The reader's constants and atoms. The reader's atoms; signs of tests and of terms. Each reading takes one token at least; how a loop goes on. The reader's tests: one. The reader's tests: of one atom; all. The reader's fields; does one stand here? The reader's items: a condition of a clause.
-/
import Derived.Test.YtgeaccoobhigcaaGreatG9
import Derived.Test.YtgeaccoobhigcaaGreatG4
import Derived.Test.YtgeaccoobhigcaaGreatG1
import Derived.Test.YtgeaccoobhigcaaGreatG8
import Derived.Test.YtgeaccoobhigcaaGreatGA
import Derived.Deep.LoopGhost
import Derived.Deep.RegionLaw
namespace Go.Proofs.YtgeaccoobhigcaaGreat
open Go Go.RowKit
/-- What reading comes to: the place where it goes wrong; or what was read, and what is left. -/
inductive Rs (α : Type) where
  | bad (pos : Nat)
  | ok (a : α) (ts : List Tk)
/-- Readers. -/
abbrev Pr (α : Type) := List Tk → Rs α
def Rs.bind {α β : Type} (r : Rs α) (f : α → List Tk → Rs β) : Rs β :=
  match r with
  | .bad p => .bad p
  | .ok a ts => f a ts
def headT (ts : List Tk) : Tk := ts.headD ⟨5, [], 0⟩
def badAt {α : Type} (ts : List Tk) : Rs α := .bad (headT ts).pos
def isB (t : Tk) (s : ByteArray) : Bool := decide (t.kind = 4) && (t.text == s.data.toList)
def textB (t : Tk) : ByteArray := ⟨t.text.toArray⟩
/-- A sign that must stand there. -/
def pTake (s : ByteArray) : Pr Unit := fun ts => if isB (headT ts) s then .ok () ts.tail else badAt ts
/-- The text of a token of a kind that must stand there. -/
def pText (k : Nat) : Pr ByteArray := fun ts => if (headT ts).kind = k then .ok (textB (headT ts)) ts.tail else badAt ts
def constT (t : Tk) : Sm := if t.kind = 1 then ⟨3, textB t, 0⟩ else ⟨2, ⟨#[]⟩, readV t.text⟩
def constHere (t : Tk) : Bool := decide (t.kind = 1) || decide (t.kind = 2)
def pConst : Pr Sm := fun ts => if constHere (headT ts) then .ok (constT (headT ts)) ts.tail else badAt ts
def nilSm : Sm := ⟨0, ⟨#[]⟩, 0⟩
def nilAm : Am := ⟨⟨#[]⟩, nilSm⟩
def atomHere (t : Tk) : Bool := decide (t.kind = 3) || constHere t
def pAtom : Pr Am := fun ts => if (headT ts).kind = 3 then .ok ⟨textB (headT ts), nilSm⟩ ts.tail else (pConst ts).bind fun s ts => .ok ⟨⟨#[]⟩, s⟩ ts
def relN (l : Bs) : Int := if l = [60, 62] then 2 else if l = [60] then 3 else if l = [60, 61] then 4 else if l = [62] then 5 else if l = [62, 61] then 6 else if l = [60, 61, 62] then 7 else 0
def relHere (t : Tk) : Bool := decide (t.kind = 4) && decide (0 < relN t.text)
/-- As many as there are up to a sign. -/
def pMany {α : Type} (p : Pr α) (stop : ByteArray) : Nat → Pr (List α)
  | 0, ts => badAt ts
  | n + 1, ts => if isB (headT ts) stop then .ok [] ts else (p ts).bind fun a ts => (pMany p stop n ts).bind fun l ts => .ok (a :: l) ts
/-- One at least, up to a sign. -/
def pMany1 {α : Type} (p : Pr α) (stop : ByteArray) : Pr (List α) := fun ts => (p ts).bind fun a ts => (pMany p stop (ts.length + 1) ts).bind fun l ts => .ok (a :: l) ts
/-- The same, the sign behind. -/
def pEnds {α : Type} (p : Pr α) (stop : ByteArray) : Pr (List α) := fun ts => (pMany1 p stop ts).bind fun l ts => (pTake stop ts).bind fun _ ts => .ok l ts
def bOpen : ByteArray := ⟨#[40]⟩
def bShut : ByteArray := ⟨#[41]⟩
def bLeft : ByteArray := ⟨#[123]⟩
def bRight : ByteArray := ⟨#[125]⟩
def bHat : ByteArray := ⟨#[94]⟩
def bPlus : ByteArray := ⟨#[43]⟩
def bMinus : ByteArray := ⟨#[45]⟩
def bFrom : ByteArray := ⟨#[60, 60]⟩
def bTo : ByteArray := ⟨#[62, 62]⟩
def bArrow : ByteArray := ⟨#[45, 45, 62]⟩
def pTest : Pr Ts := fun ts =>
  if isB (headT ts) bFrom then (pEnds pConst bTo ts.tail).bind fun l ts => .ok ⟨8, ⟨#[]⟩, nilSm, l⟩ ts
  else if relHere (headT ts) then (pAtom ts.tail).bind fun a ts' => .ok ⟨relN (headT ts).text, a.v, a.s, []⟩ ts'
  else (pAtom ts).bind fun a ts' => .ok ⟨1, a.v, a.s, []⟩ ts'
def pField : Pr (List Ts) := fun ts => if isB (headT ts) bLeft then pEnds pTest bRight ts.tail else (pTest ts).bind fun t ts => .ok [t] ts
def fieldHere (t : Tk) : Bool := atomHere t || (isB t bLeft || (isB t bFrom || relHere t))
/-- What may stand there. -/
def pIf {α : Type} (b : Bool) (p : Pr α) (a : α) : Pr α := fun ts => if b then p ts else .ok a ts
def pItem (id : ByteArray) (goal : Bool) : Pr Cd := fun ts =>
  (pTake bHat (if isB (headT ts) bMinus then ts.tail else ts)).bind fun _ ts1 => (pField ts1).bind fun a ts2 => (pIf (fieldHere (headT ts2)) pField [] ts2).bind fun v ts3 =>
    .ok (.mk (if isB (headT ts) bMinus then 2 else 1) goal id a v (isB (headT ts3) bPlus) []) (if isB (headT ts3) bPlus then ts3.tail else ts3)
def goalHere (t : Tk) : Bool := decide (t.kind = 1) && (t.text == [115, 116, 97, 116, 101])
def pClause : Pr (List Cd) := fun ts => (pTake bOpen ts).bind fun _ ts1 => (pText 3 (if goalHere (headT ts1) then ts1.tail else ts1)).bind fun id ts2 => pEnds (pItem id (goalHere (headT ts1))) bShut ts2
def allOf (l : List Cd) : Cd := .mk 3 false ⟨#[]⟩ [] [] false l
def negOf : List Cd → List Cd
  | [.mk kind goal id a v acc cs] => if kind = 1 then [.mk 2 goal id a v acc cs] else [allOf [.mk kind goal id a v acc cs]]
  | l => [allOf l]
/-- A condition, or those of a clause; n: as deep as may be. -/
def pCond : Nat → Pr (List Cd)
  | 0, ts => badAt ts
  | n + 1, ts =>
    if isB (headT ts) bMinus then
      if isB (headT ts.tail) bLeft then (pEnds (pCond n) bRight ts.tail.tail).bind fun l ts => .ok [allOf l.flatten] ts
      else (pClause ts.tail).bind fun l ts => .ok (negOf l) ts
    else pClause ts
def opN (l : Bs) : Int := if l = [43] then 1 else if l = [45] then 2 else if l = [42] then 3 else 0
def opHere (t : Tk) : Int := if t.kind = 4 then opN t.text else 0
def pTerm : Pr Tm := fun ts =>
  if isB (headT ts) bOpen then
    if opHere (headT ts.tail) = 0 then badAt ts.tail
    else (pAtom ts.tail.tail).bind fun a ts1 => (pAtom ts1).bind fun b ts2 => (pTake bShut ts2).bind fun _ ts3 => .ok ⟨opHere (headT ts.tail), a, b⟩ ts3
  else (pAtom ts).bind fun a ts1 => .ok ⟨0, a, nilAm⟩ ts1
/-- A preference's sign: its kind alone, and with a value behind it (0: it has none). -/
def prefN (l : Bs) : Int × Int :=
  if l = [43] then (1, 0) else if l = [45] then (2, 0) else if l = [33] then (3, 0) else if l = [126] then (4, 0) else if l = [62] then (5, 8) else if l = [60] then (6, 9) else if l = [61] then (7, 10) else (0, 0)
def prefHere (t : Tk) : Int × Int := if t.kind = 4 then prefN t.text else (0, 0)
def pPref : Pr (Int × Am) := fun ts =>
  if (prefHere (headT ts)).1 = 0 then .ok (1, nilAm) ts
  else if 0 < (prefHere (headT ts)).2 ∧ atomHere (headT ts.tail) then (pAtom ts.tail).bind fun a ts1 => .ok ((prefHere (headT ts)).2, a) ts1
  else .ok ((prefHere (headT ts)).1, nilAm) ts.tail
def pAct (id : ByteArray) : Pr Ac := fun ts => (pTake bHat ts).bind fun _ ts1 => (pAtom ts1).bind fun a ts2 => (pTerm ts2).bind fun v ts3 => (pPref ts3).bind fun q ts4 => .ok ⟨id, a, v, q.1, q.2⟩ ts4
def pActs : Pr (List Ac) := fun ts => (pTake bOpen ts).bind fun _ ts1 => (pText 3 ts1).bind fun id ts2 => pEnds (pAct id) bShut ts2
def spHere (t : Tk) : Bool := decide (t.kind = 1) && (t.text == [115, 112])
def pProd : Pr Pd := fun ts =>
  if spHere (headT ts) then
    (pTake bLeft ts.tail).bind fun _ ts1 => (pText 1 ts1).bind fun name ts2 => (pEnds (pCond (ts2.length + 1)) bArrow ts2).bind fun cs ts3 => (pEnds pActs bRight ts3).bind fun al ts4 => .ok ⟨name, cs.flatten, al.flatten⟩ ts4
  else badAt ts
end Go.Proofs.YtgeaccoobhigcaaGreat
namespace Go.Proofs.YtgeaccoobhigcaaGreat
open Go Go.RowKit
/-- Where a reader lies, and what it reads. -/
structure Env where
  r : Nat
  lb : Nat
  ib : Nat
  ao : Option Addr
  n : Nat
  c : Nat
  L : List Tk
def Env.ptr (E : Env) : Value := .pointer (some ⟨E.r, 0, none⟩)
/-- The tokens of a text: just the last one ends it; words are words, numbers are numbers. -/
structure Good (L : List Tk) : Prop where
  ne : L ≠ []
  last : ∀ k t, L[k]? = some t → (t.kind = 5 ∨ t.kind = 6 ↔ k + 1 = L.length)
  len : L.length ≤ 1000000
  text : ∀ t ∈ L, t.text.length ≤ 1000000
  word : ∀ t ∈ L, t.kind = 1 → wordB t.text = true
  num : ∀ t ∈ L, t.kind = 2 → numT t.text = true ∧ ∃ c r, t.text = c :: r ∧ (digitB c = true ∨ c.toNat = 45)
  kind : ∀ t ∈ L, t.kind ≤ 6
def rdCells (E : Env) (t : Tk) (at_ e : Int) : List Value :=
  [.func (.func 27) #[] #[.pointer (some ⟨E.lb, 0, none⟩), .pointer (some ⟨E.ib, 0, none⟩)], .int .i64 t.kind, .string (textB t), .int .i64 t.pos, .int .i64 at_, .int .i64 e]
/-- A block of the reader's. -/
def Env.Blk (E : Env) (b : Nat) : Prop := b = E.r ∨ b = E.lb ∨ b = E.ib ∨ ∃ a, E.ao = some a ∧ 0 < E.n ∧ a.block = b
structure Rd (E : Env) (w : World) (ts : List Tk) (at_ e : Int) : Prop where
  box : BoxC w E.r 60 (rdCells E (headT ts) at_ e)
  lbox : BoxC w E.lb 75 [.slice E.ao E.n E.c]
  ibox : ∃ k : Nat, BoxC w E.ib 3 [.int .i64 ((k : Int) + 1)] ∧ E.L.drop k = ts
  ne : ts ≠ []
  data : SlR w 3 E.ao E.n E.c (cellsT E.L)
  out : InB (fun b => b ≠ E.r ∧ b ≠ E.lb ∧ b ≠ E.ib) E.ao E.n
  apart : E.r ≠ E.lb ∧ E.r ≠ E.ib ∧ E.lb ≠ E.ib
  good : Good E.L
/-- What reading changes: the reader, and how far it is. -/
structure Mv (E : Env) (w w' : World) : Prop where
  os : w'.os = w.os
  tape : w'.tape = w.tape
  output : w'.output = w.output
  size : w.heap.size ≤ w'.heap.size
  block : ∀ k, k < w.heap.size → k ≠ E.r → k ≠ E.ib → w'.heap[k]? = w.heap[k]?
section
variable {E : Env} {w w' w2 : World} {ts : List Tk} {at_ e : Int}
theorem Mv.refl (E : Env) (w : World) : Mv E w w := ⟨rfl, rfl, rfl, Nat.le_refl _, fun _ _ _ _ => rfl⟩
theorem Mv.trans (h : Mv E w w') (k : Mv E w' w2) : Mv E w w2 :=
  ⟨k.os.trans h.os, k.tape.trans h.tape, k.output.trans h.output, Nat.le_trans h.size k.size, fun b hb h1 h2 => (k.block b (Nat.lt_of_lt_of_le hb h.size) h1 h2).trans (h.block b hb h1 h2)⟩
theorem Mv.of_below (h : Below w.heap.size w w') : Mv E w w' := ⟨h.os, h.tape, h.output, h.size, fun k hk _ _ => h.block k hk⟩
theorem Mv.below (h : Mv E w w') (k : Below w'.heap.size w' w2) : Mv E w w2 := h.trans (.of_below k)
theorem Mv.grown {row : Option Nat} (h : Mv E w w') (g : w'.grownBy w2 row) (hr : ∀ b, row = some b → b = E.r ∨ b = E.ib ∨ w.heap.size ≤ b) : Mv E w w2 :=
  ⟨g.os.trans h.os, g.tape.trans h.tape, g.output.trans h.output, Nat.le_trans h.size g.size, fun b hb h1 h2 => (g.block b (Nat.lt_of_lt_of_le hb h.size) (fun e => by
    rcases hr b e.symm with rfl | rfl | h3
    · exact h1 rfl
    · exact h2 rfl
    · omega)).trans (h.block b hb h1 h2)⟩
theorem Mv.alloc (h : Mv E w w') (o : Obj) : Mv E w (w'.alloc o) := h.grown (World.grownBy_alloc w' o none) (by simp)
theorem Mv.same {K : Nat → Prop} (h : Mv E w w') (hk : ∀ b, K b → b ≠ E.r ∧ b ≠ E.ib) : SameIn K w w' := fun b hb hl => h.block b hl (hk b hb).1 (hk b hb).2
theorem Rd.lows (h : Rd E w ts at_ e) : ∀ b, E.Blk b → b < w.heap.size := by
  obtain ⟨k, hk, _⟩ := h.ibox
  rintro b (rfl | rfl | rfl | ⟨a, ha, hn, rfl⟩)
  · exact h.box.lt
  · exact h.lbox.lt
  · exact hk.lt
  · exact h.data.inB (by omega) a ha hn
/-- Other blocks may be written. -/
theorem Rd.kept {row : Option Nat} (h : Rd E w ts at_ e) (g : w.grownBy w' row) (hr : ∀ b, row = some b → ¬ E.Blk b) : Rd E w' ts at_ e := by
  obtain ⟨k, hk, hd⟩ := h.ibox
  refine ⟨h.box.grown g (fun e => hr _ e.symm (.inl rfl)), h.lbox.grown g (fun e => hr _ e.symm (.inr (.inl rfl))), ⟨k, hk.grown g (fun e => hr _ e.symm (.inr (.inr (.inl rfl)))), hd⟩, h.ne, h.data.grown g ?_, h.out, h.apart, h.good⟩
  intro b e a ha hn e2
  exact hr b e (.inr (.inr (.inr ⟨a, ha, hn, e2⟩)))
theorem Rd.below (h : Rd E w ts at_ e) (b : Below w.heap.size w w') : Rd E w' ts at_ e := h.kept (row := none) ⟨b.os, b.tape, b.output, b.size, fun k hk _ => b.block k hk⟩ (by simp)
theorem Rd.alloc (h : Rd E w ts at_ e) (o : Obj) : Rd E (w.alloc o) ts at_ e := h.kept (World.grownBy_alloc w o none) (by simp)
/-- The reader's own block is written: another error. -/
theorem Rd.put {at' e' : Int} (h : Rd E w ts at_ e) (g : w.grownBy w' (some E.r)) (hb : BoxC w' E.r 60 (rdCells E (headT ts) at' e')) : Rd E w' ts at' e' := by
  obtain ⟨k, hk, hd⟩ := h.ibox
  obtain ⟨a1, a2, a3⟩ := h.apart
  exact ⟨hb, h.lbox.grown g (by simpa using Ne.symm a1), ⟨k, hk.grown g (by simpa using Ne.symm a2), hd⟩, h.ne, h.data.grown g (by rintro b e; cases e; exact fun a ha hn => (h.out a ha hn).1), h.out, h.apart, h.good⟩
theorem Rd.head (h : Rd E w ts at_ e) : headT ts ∈ E.L ∧ ∃ r, ts = headT ts :: r := by
  obtain ⟨k, _, hd⟩ := h.ibox
  rcases hts : ts with _ | ⟨t, r⟩
  · exact absurd hts h.ne
  · refine ⟨?_, r, rfl⟩
    have : t ∈ E.L.drop k := by rw [hd, hts]; simp
    exact List.mem_of_mem_drop this
/-- A token that ends nothing has one behind it. -/
theorem Rd.more (h : Rd E w ts at_ e) (hk : (headT ts).kind ≠ 5 ∧ (headT ts).kind ≠ 6) : ts.tail ≠ [] := by
  obtain ⟨k, _, hd⟩ := h.ibox
  obtain ⟨_, r, hr⟩ := h.head
  rw [hr]
  simp only [List.tail_cons]
  rintro rfl
  have hl : E.L.length = k + 1 := by
    have := congrArg List.length hd
    rw [hr] at this
    simp at this
    omega
  have hkk : E.L[k]? = some (headT ts) := by
    have : (E.L.drop k)[0]? = some (headT ts) := by rw [hd, hr]; rfl
    simpa using this
  rcases (h.good.last k _ hkk).2 hl.symm with h1 | h1
  · exact hk.1 h1
  · exact hk.2 h1
theorem six_boxR {w : World} {g : Nat} {a0 a1 a2 a3 a4 a5 : Value} {t : TypeId} (h : BoxC w g t [a0, a1, a2, a3, a4, a5]) :
    w.cell? ⟨g, 0, none⟩ = some a0 ∧ w.cell? ⟨g, 1, none⟩ = some a1 ∧ w.cell? ⟨g, 2, none⟩ = some a2 ∧ w.cell? ⟨g, 3, none⟩ = some a3 ∧ w.cell? ⟨g, 4, none⟩ = some a4 ∧ w.cell? ⟨g, 5, none⟩ = some a5 :=
  ⟨h.at_ rfl, h.at_ rfl, h.at_ rfl, h.at_ rfl, h.at_ rfl, h.at_ rfl⟩
end
set_option maxRecDepth 100000 in
set_option maxHeartbeats 1000000 in
theorem is_any {E : Env} {ts : List Tk} {at_ e : Int} (w : World) (h : Rd E w ts at_ e) (s : ByteArray) : Calls Tryz.prog 32 #[E.ptr, .string s] w fun x w' => x = .returned (.bool (isB (headT ts) s)) ∧ w = w' := by
  obtain ⟨c0, c1, c2, c3, c4, c5⟩ := six_boxR h.box
  clear h
  unfold Env.ptr isB
  generalize headT ts = t at *
  obtain ⟨k, tx, p⟩ := t
  simp only [textB] at *
  have hs2 : s.toList = s.data.toList := ByteArray.toList_eq s
  by_cases hk : k = 4
  · subst hk
    cases hE : tx == s.data.toList with
    | true =>
      have e1 : (tx == s.toList) = true := by rw [hs2]; exact hE
      clear hs2
      go_enter Tryz.func32, Tryz.ntmps32
      go_wp2
      go_ret
      exact ⟨rfl, rfl⟩
    | false =>
      have e1 : (tx == s.toList) = false := by rw [hs2]; exact hE
      clear hs2
      go_enter Tryz.func32, Tryz.ntmps32
      go_wp2
      go_ret
      exact ⟨rfl, rfl⟩
  · have e1 : ((k : Int) == 4) = false := by simp; omega
    have e2 : decide (k = 4) = false := by simp [hk]
    rw [e2, Bool.false_and]
    clear hs2 hk e2
    go_enter Tryz.func32, Tryz.ntmps32
    go_wp2
    go_ret
    exact ⟨rfl, rfl⟩
set_option maxRecDepth 100000 in
set_option maxHeartbeats 1000000 in
theorem fail_no {E : Env} {ts : List Tk} {at_ e : Int} (w : World) (h : Rd E w ts at_ e) (he : e ≠ 0) (a x : Int) : Calls Tryz.prog 35 #[E.ptr, .int .i64 a, .int .i64 x] w fun y w' => (∃ v, y = .returned v) ∧ w = w' := by
  obtain ⟨c0, c1, c2, c3, c4, c5⟩ := six_boxR h.box
  clear h
  unfold Env.ptr
  have e1 : (e == 0) = false := by simp [he]
  clear he
  go_enter Tryz.func35, Tryz.ntmps35
  go_wp2
  go_end0
  exact ⟨⟨_, rfl⟩, rfl⟩
theorem Tryz.sz3 : (Tryz.prog.info? 3).map (·.size) = some 1 := by kernel_rfl
theorem Tryz.sz27 : (Tryz.prog.info? 27).map (·.size) = some 1 := by kernel_rfl
theorem Tryz.sz58 : (Tryz.prog.info? 58).map (·.size) = some 3 := by kernel_rfl
set_option maxRecDepth 100000 in
set_option maxHeartbeats 1000000 in
theorem fail_ok {E : Env} {ts : List Tk} {at_ : Int} (w : World) (h : Rd E w ts at_ 0) (a x : Int) : Calls Tryz.prog 35 #[E.ptr, .int .i64 a, .int .i64 x] w fun y w' => (∃ v, y = .returned v) ∧ Mv E w w' ∧ Rd E w' ts a x := by
  obtain ⟨c0, c1, c2, c3, c4, c5⟩ := six_boxR h.box
  have HB := Lib.hid h.box
  have HH := Lib.hid h
  clear h
  unfold Env.ptr
  go_enter Tryz.func35, Tryz.ntmps35
  go_wp2_with (first | (refine wpList_box rfl 3 (.tmp 14) (.tmp 12) rfl E.r 4 _ [.int .i64 a] rfl rfl rfl HB.out Tryz.sz3 (by simp [rdCells]) (by simp [Value.oneCell']) _ rfl ?_; intro w1 B1 g1; have HB1 := Lib.hid B1; have HG1 := Lib.hid g1; clear B1 g1 c0 c1 c2 c3 c4 c5) | (refine wpList_box rfl 27 (.tmp 18) (.tmp 16) rfl E.r 5 _ [.int .i64 x] rfl rfl rfl HB1.out Tryz.sz27 (by simp [rdCells]) (by simp [Value.oneCell']) _ rfl ?_; intro w2 B2 g2; have HB2 := Lib.hid B2; have HG2 := Lib.hid g2; clear B2 g2))
  go_end0
  have g := grownBy_trans HG1.out HG2.out
  exact ⟨⟨_, rfl⟩, (Mv.refl E w).grown g (by simp), HH.out.put g HB2.out⟩
set_option maxRecDepth 100000 in
set_option maxHeartbeats 1000000 in
theorem bad_no {E : Env} {ts : List Tk} {at_ e : Int} (w : World) (h : Rd E w ts at_ e) (he : e ≠ 0) : Calls Tryz.prog 18 #[E.ptr] w fun y w' => (∃ v, y = .returned v) ∧ w = w' := by
  obtain ⟨c0, c1, c2, c3, c4, c5⟩ := six_boxR h.box
  have hF := fun a x => fail_no w h he a x
  have HF := Lib.hid hF
  clear h he hF
  unfold Env.ptr at HF ⊢
  go_enter Tryz.func18, Tryz.ntmps18
  go_wp2_with (go_at_call 35; refine (HF.out _ _).mono ?_; rintro e w2 ⟨⟨v, rfl⟩, rfl⟩)
  go_end0
  exact ⟨⟨_, rfl⟩, rfl⟩
set_option maxRecDepth 100000 in
set_option maxHeartbeats 1000000 in
theorem bad_ok {E : Env} {ts : List Tk} {at_ : Int} (w : World) (h : Rd E w ts at_ 0) : Calls Tryz.prog 18 #[E.ptr] w fun y w' => (∃ v, y = .returned v) ∧ Mv E w w' ∧ Rd E w' ts (headT ts).pos 5 := by
  obtain ⟨c0, c1, c2, c3, c4, c5⟩ := six_boxR h.box
  have hF := fun a x => fail_ok w h a x
  have HF := Lib.hid hF
  clear h hF
  unfold Env.ptr at HF ⊢
  go_enter Tryz.func18, Tryz.ntmps18
  go_wp2_with (go_at_call 35; refine (HF.out _ _).mono ?_; rintro e w2 ⟨⟨v, rfl⟩, hm, hr⟩)
  go_end0
  exact ⟨⟨_, rfl⟩, hm, hr⟩
theorem good_size {E : Env} {w : World} (hd : SlR w 3 E.ao E.n E.c (cellsT E.L)) : E.L.length = E.n := by
  have := hd.1
  rw [cellsT_length] at this
  omega
set_option maxRecDepth 100000 in
set_option maxHeartbeats 1000000 in
theorem nextTok_any {E : Env} {t : Tk} (w : World) (j : Nat) (hl : BoxC w E.lb 75 [.slice E.ao E.n E.c]) (hi : BoxC w E.ib 3 [.int .i64 (j : Int)]) (hd : SlR w 3 E.ao E.n E.c (cellsT E.L)) (hg : Good E.L) (hj : E.L[j]? = some t) (hli : E.lb ≠ E.ib) :
    Calls Tryz.prog 27 #[.pointer (some ⟨E.lb, 0, none⟩), .pointer (some ⟨E.ib, 0, none⟩)] w fun x w' => x = .returned t.val ∧ w.grownBy w' (some E.ib) ∧ BoxC w' E.ib 3 [.int .i64 ((j : Int) + 1)] := by
  have hn := good_size hd
  have hlen := hg.len
  have hjl : j < E.L.length := (List.getElem?_eq_some_iff.1 hj).1
  obtain ⟨g, o, hao, x0, x1, x2⟩ := hd.tok hj
  have hcap := hd.2.1
  have hgg := World.block_lt_of_cell? w _ x0
  simp only at hgg
  obtain ⟨r, lb, ib, ao, n, c, L⟩ := E
  simp only at *
  subst hao
  have hlt := hl.lt
  have hlt2 := hi.lt
  have l0 := hl.at_ (j := 0) rfl
  have i0 := hi.at_ (j := 0) rfl
  have hmin : min (j : Int) ((n : Int) - 1) = j := by omega
  have HI := Lib.hid hi
  have hjn : j < n := by omega
  have hn1 : n ≤ 1000000 := by omega
  clear hj hd hg hl hi hn hlen hjl
  unfold Tk.val tokV strV
  unfold strV at x1
  obtain ⟨kd, tx, ps⟩ := t
  simp only at x0 x1 x2 ⊢
  have hbb : w.grownBy ((w.alloc (.cells #[.int .i64 0, .string ⟨#[]⟩, .int .i64 0] 58)).alloc (.cells #[.int .i64 kd, .string ⟨tx.toArray⟩, .int .i64 ps] 58)) (some ib) := grownBy_trans (World.grownBy_alloc _ _ _) (World.grownBy_alloc _ _ _)
  have hb0 : BoxC ((w.alloc (.cells #[.int .i64 0, .string ⟨#[]⟩, .int .i64 0] 58)).alloc (.cells #[.int .i64 kd, .string ⟨tx.toArray⟩, .int .i64 ps] 58)) w.heap.size 58 [.int .i64 0, .string ⟨#[]⟩, .int .i64 0] := (BoxC.new w _ 58).alloc _
  have hb1 : BoxC ((w.alloc (.cells #[.int .i64 0, .string ⟨#[]⟩, .int .i64 0] 58)).alloc (.cells #[.int .i64 kd, .string ⟨tx.toArray⟩, .int .i64 ps] 58)) (w.heap.size + 1) 58 [.int .i64 kd, .string ⟨tx.toArray⟩, .int .i64 ps] := BoxC.new_at' (by simp)
  have HBB := Lib.hid hbb
  have HB0 := Lib.hid hb0
  have HB1 := Lib.hid hb1
  clear hbb hb0 hb1
  go_enter Tryz.func27, Tryz.ntmps27
  go_wp2_with (first | (refine wpList_box rfl 3 (.tmp 1) (.tmp 13) rfl ib 0 _ [.int .i64 ((j : Int) + 1)] rfl rfl rfl ((HI.out.alloc _).alloc _) Tryz.sz3 (by simp) (by simp [Value.oneCell']) _ rfl ?_; intro w1 B1 g1; have HI1 := Lib.hid B1; have HG1 := Lib.hid (grownBy_trans HBB.out g1); have HC0 := Lib.hid (HB0.out.grown g1 (by simp; omega)); obtain ⟨d0, d1, d2⟩ := three_box (HB1.out.grown g1 (by simp; omega)); clear B1 g1 x0 x1 x2 l0 i0) | (refine wpList_box rfl 58 (.tmp 2) (.tmp 14) rfl w.heap.size 0 _ [.int .i64 kd, .string ⟨tx.toArray⟩, .int .i64 ps] rfl rfl rfl HC0.out Tryz.sz58 (by simp) (by simp [Value.oneCell']) _ rfl ?_; intro w2 B2 g2; have HC2 := Lib.hid B2; have HI2 := Lib.hid (HI1.out.grown g2 (by simp; omega)); have HG2 := Lib.hid (grownBy_new HG1.out g2 (.inl (Nat.le_refl _))); clear B2 g2 d0 d1 d2))
  obtain ⟨d0, d1, d2⟩ := three_box HC2.out
  refine bodyPost_ret (v := .agg #[.int .i64 kd, .string ⟨tx.toArray⟩, .int .i64 ps]) (by simp [results, Tryz.results27, go_sem, d0, d1, d2]) rfl ⟨rfl, HG2.out, HI2.out⟩
end Go.Proofs.YtgeaccoobhigcaaGreat
namespace Go.Proofs.YtgeaccoobhigcaaGreat
open Go Go.RowKit
set_option maxRecDepth 100000 in
set_option maxHeartbeats 1000000 in
theorem step_any {E : Env} {ts : List Tk} {at_ e : Int} (w : World) (h : Rd E w ts at_ e) (hk : (headT ts).kind ≠ 5 ∧ (headT ts).kind ≠ 6) : Calls Tryz.prog 28 #[E.ptr] w fun x w' => (∃ v, x = .returned v) ∧ Mv E w w' ∧ Rd E w' ts.tail at_ e := by
  have hm := h.more hk
  obtain ⟨k, hib, hd⟩ := h.ibox
  obtain ⟨_, r, hr⟩ := h.head
  obtain ⟨t', hj, ht'⟩ : ∃ t', E.L[k + 1]? = some t' ∧ headT ts.tail = t' := by
    rw [hr] at hm ⊢
    simp only [List.tail_cons] at hm ⊢
    obtain ⟨t', r', rfl⟩ := List.exists_cons_of_ne_nil hm
    refine ⟨t', ?_, rfl⟩
    have : (E.L.drop k)[1]? = some t' := by rw [hd, hr]; rfl
    simpa using this
  have hN := nextTok_any (E := E) w (k + 1) h.lbox (by simpa using hib) h.data h.good hj h.apart.2.2
  obtain ⟨c0, c1, c2, c3, c4, c5⟩ := six_boxR h.box
  have hfin : ∀ w1 w2, w.grownBy w1 (some E.ib) → BoxC w1 E.ib 3 [.int .i64 (((k + 1 : Nat) : Int) + 1)] → w1.grownBy w2 (some E.r) → BoxC w2 E.r 60 (rdCells E t' at_ e) → Mv E w w2 ∧ Rd E w2 ts.tail at_ e := fun w1 w2 g1 b1 g2 b2 => by
    obtain ⟨a1, a2, a3⟩ := h.apart
    refine ⟨((Mv.refl E w).grown g1 (by simp)).grown g2 (by simp), ?_⟩
    refine ⟨by rw [ht']; exact b2, (h.lbox.grown g1 (by simpa using a3)).grown g2 (by simpa using Ne.symm a1), ⟨k + 1, b1.grown g2 (by simpa using Ne.symm a2), ?_⟩, hm, ?_, h.out, h.apart, h.good⟩
    · rw [← List.tail_drop, hd]
    · refine (h.data.grown g1 ?_).grown g2 ?_
      · rintro b e; cases e; exact fun a ha hn => (h.out a ha hn).2.2
      · rintro b e; cases e; exact fun a ha hn => (h.out a ha hn).1
  have hrb : ∀ w1, w.grownBy w1 (some E.ib) → BoxC w1 E.r 60 (rdCells E (headT ts) at_ e) := fun w1 g => h.box.grown g (by simpa using h.apart.2.1)
  have HN := Lib.hid hN
  have HF := Lib.hid hfin
  have HRB := Lib.hid hrb
  clear hN hfin hrb hj ht' hr hd hib hm h
  generalize headT ts = t at *
  obtain ⟨kd, tx, ps⟩ := t
  obtain ⟨kd', tx', ps'⟩ := t'
  simp only at hk c1 c2 c3
  have e5 : ((kd : Int) != 5) = true := by simp; omega
  have e6 : ((kd : Int) != 6) = true := by simp; omega
  clear hk
  unfold Env.ptr
  go_enter Tryz.func28, Tryz.ntmps28
  go_wp2_with (first | (go_at_call 27; refine HN.out.mono ?_; rintro x w1 ⟨rfl, g1, b1⟩; have HB1 := Lib.hid (HRB.out _ g1); have HG1 := Lib.hid g1; have HI1 := Lib.hid b1; clear g1 b1) | (refine wpList_box rfl 58 (.tmp 23) (.tmp 21) rfl E.r 1 _ [.int .i64 kd', .string ⟨tx'.toArray⟩, .int .i64 ps'] rfl rfl rfl HB1.out Tryz.sz58 (by simp [rdCells]) (by simp [Value.oneCell']) _ rfl ?_; intro w2 B2 g2; have HB2 := Lib.hid B2; have HG2 := Lib.hid g2; clear B2 g2))
  go_end0
  exact ⟨⟨_, rfl⟩, HF.out _ _ HG1.out HI1.out HG2.out HB2.out⟩
/-- Where the reader is behind a reading. -/
def RdAt {α : Type} (E : Env) (w : World) : Rs α → Prop
  | .bad p => ∃ ts, Rd E w ts p 5
  | .ok _ ts => Rd E w ts (-1) 0
theorem isB_kind {t : Tk} {s : ByteArray} (h : isB t s = true) : t.kind = 4 := by
  unfold isB at h
  simp only [Bool.and_eq_true, decide_eq_true_eq] at h
  exact h.1
set_option maxRecDepth 100000 in
set_option maxHeartbeats 1000000 in
theorem take_err {E : Env} {ts : List Tk} {at_ e : Int} (w : World) (h : Rd E w ts at_ e) (he : e ≠ 0) (s : ByteArray) : Calls Tryz.prog 29 #[E.ptr, .string s] w fun x w' => (∃ v, x = .returned v) ∧ w = w' := by
  obtain ⟨c0, c1, c2, c3, c4, c5⟩ := six_boxR h.box
  have e1 : (e != 0) = true := by simp [he]
  clear h he
  unfold Env.ptr
  go_enter Tryz.func29, Tryz.ntmps29
  go_wp2
  refine bodyPost_ret (results_none rfl _ _ _) rfl ?_
  exact ⟨⟨_, rfl⟩, rfl⟩
set_option maxRecDepth 100000 in
set_option maxHeartbeats 1000000 in
theorem take_any {E : Env} {ts : List Tk} (w : World) (h : Rd E w ts (-1) 0) (s : ByteArray) : Calls Tryz.prog 29 #[E.ptr, .string s] w fun x w' => (∃ v, x = .returned v) ∧ Mv E w w' ∧ RdAt E w' (pTake s ts) := by
  obtain ⟨c0, c1, c2, c3, c4, c5⟩ := six_boxR h.box
  have hI := is_any w h s
  have hB := bad_ok w h
  have hS := fun hk => step_any w h hk
  unfold pTake
  clear h
  cases hb : isB (headT ts) s with
  | true =>
    have hk := isB_kind hb
    have HS := Lib.hid (hS ⟨by omega, by omega⟩)
    rw [hb] at hI
    have HI := Lib.hid hI
    clear hS hI hB hk hb
    simp only [if_true, RdAt]
    unfold Env.ptr at HI HS ⊢
    go_enter Tryz.func29, Tryz.ntmps29
    go_wp2_with (first | (go_at_call 32; refine HI.out.mono ?_; rintro x w1 ⟨rfl, rfl⟩) | (go_at_call 28; refine HS.out.mono ?_; rintro x w1 ⟨⟨v, rfl⟩, hm, hr⟩))
    go_end0
    exact ⟨⟨_, rfl⟩, hm, hr⟩
  | false =>
    rw [hb] at hI
    have HI := Lib.hid hI
    have HB := Lib.hid hB
    clear hS hI hB hb
    simp only [Bool.false_eq_true, if_false, badAt, RdAt]
    unfold Env.ptr at HI HB ⊢
    go_enter Tryz.func29, Tryz.ntmps29
    go_wp2_with (first | (go_at_call 32; refine HI.out.mono ?_; rintro x w1 ⟨rfl, rfl⟩) | (go_at_call 18; refine HB.out.mono ?_; rintro x w1 ⟨⟨v, rfl⟩, hm, hr⟩))
    refine bodyPost_ret (results_none rfl _ _ _) rfl ?_
    exact ⟨⟨_, rfl⟩, hm, ⟨_, hr⟩⟩
/-- The text of a token is what comes back; where it goes wrong, some text. -/
def StrIs (r : Rs ByteArray) (x : Ending) : Prop := ∃ s : ByteArray, x = .returned (.string s) ∧ s.size ≤ 1000000 ∧ ∀ a ts, r = .ok a ts → s = a
theorem Rd.size {E : Env} {w : World} {ts : List Tk} {at_ e : Int} (h : Rd E w ts at_ e) : (textB (headT ts)).size ≤ 1000000 := by
  unfold textB
  rw [mk_list_size]
  exact h.good.text _ h.head.1
set_option maxRecDepth 100000 in
set_option maxHeartbeats 1000000 in
theorem text_err {E : Env} {ts : List Tk} {at_ e : Int} (w : World) (h : Rd E w ts at_ e) (he : e ≠ 0) (k : Nat) : Calls Tryz.prog 30 #[E.ptr, .int .i64 k] w fun x w' => x = .returned (.string ⟨#[]⟩) ∧ w = w' := by
  obtain ⟨c0, c1, c2, c3, c4, c5⟩ := six_boxR h.box
  have hB := Lib.hid (bad_no w h he)
  have e1 : (e != 0) = true := by simp [he]
  clear h he
  unfold Env.ptr at hB ⊢
  go_enter Tryz.func30, Tryz.ntmps30
  go_wp2_with (go_at_call 18; refine hB.out.mono ?_; rintro x w1 ⟨⟨v, rfl⟩, rfl⟩)
  go_ret
  exact ⟨rfl, rfl⟩
set_option maxRecDepth 100000 in
set_option maxHeartbeats 1000000 in
theorem text_any {E : Env} {ts : List Tk} (w : World) (h : Rd E w ts (-1) 0) (k : Nat) (hk : k ≠ 5 ∧ k ≠ 6) : Calls Tryz.prog 30 #[E.ptr, .int .i64 k] w fun x w' => StrIs (pText k ts) x ∧ Mv E w w' ∧ RdAt E w' (pText k ts) := by
  obtain ⟨c0, c1, c2, c3, c4, c5⟩ := six_boxR h.box
  have hB := bad_ok w h
  have hS := fun hk => step_any w h hk
  have hz := h.size
  unfold pText
  clear h
  by_cases hkk : (headT ts).kind = k
  · have HS := Lib.hid (hS ⟨by omega, by omega⟩)
    have e1 : (((headT ts).kind : Int) != (k : Int)) = false := by simp [hkk]
    rw [if_pos hkk]
    clear hS hB hk hkk
    simp only [RdAt]
    generalize textB (headT ts) = T at *
    have HZ := Lib.hid hz
    clear hz
    unfold Env.ptr at HS ⊢
    go_enter Tryz.func30, Tryz.ntmps30
    go_wp2_with (go_at_call 28; refine HS.out.mono ?_; rintro x w1 ⟨⟨v, rfl⟩, hm, hr⟩)
    go_ret
    exact ⟨⟨_, rfl, HZ.out, by intro a ts' e; cases e; rfl⟩, hm, hr⟩
  · have HB := Lib.hid hB
    have e1 : (((headT ts).kind : Int) != (k : Int)) = true := by simp; omega
    rw [if_neg hkk]
    clear hS hB hk hkk hz
    simp only [badAt, RdAt]
    unfold Env.ptr at HB ⊢
    go_enter Tryz.func30, Tryz.ntmps30
    go_wp2_with (go_at_call 18; refine HB.out.mono ?_; rintro x w1 ⟨⟨v, rfl⟩, hm, hr⟩)
    go_ret
    exact ⟨⟨_, rfl, by decide, by intro a ts' e; cases e⟩, hm, ⟨_, hr⟩⟩
end Go.Proofs.YtgeaccoobhigcaaGreat
namespace Go.Proofs.YtgeaccoobhigcaaGreat
open Go Go.RowKit
set_option maxRecDepth 100000 in
set_option maxHeartbeats 1000000 in
theorem parse_word (s : ByteArray) (hw : wordB s.data.toList = true) (w : World) :
    Calls Tryz.prog 96 #[.string s] w fun e w' => e = .returned (.tuple #[(⟨3, s, 0⟩ : Sm).val, .bool true]) ∧ Below w.heap.size w w' := by
  have hz := (wordB_size hw)
  have hcw : ∀ w, Calls Tryz.prog 54 #[.string s] w fun e w' => e = .returned (.bool true) ∧ w' = w := fun w => by have := word_any s (by omega) w; rw [hw] at this; exact this
  have hne : (s.toList == []) = false := by
    rw [ByteArray.toList_eq]
    obtain ⟨c, r, hc, _⟩ := wordB_parts hw
    rw [hc]; rfl
  have HCW := Lib.hid hcw
  clear hw hcw hz
  unfold Sm.val
  simp only
  go_enter Tryz.func96, Tryz.ntmps96
  go_wp2_with (go_at_call 54; refine (HCW.out _).mono ?_; rintro e w' ⟨rfl, rfl⟩)
  exact bodyPost_ret (v := .tuple #[.agg #[.int .i64 3, .string s, .int .i64 0], .bool true]) (by simp [results, Tryz.results96, go_sem]; try rfl) rfl ⟨rfl, (Below.refl _ _).alloc (Nat.le_refl _) _⟩
theorem textB_list (t : Tk) : (textB t).data.toList = t.text := by unfold textB; simp
theorem parse_tok {E : Env} {w0 : World} {ts : List Tk} {at_ e : Int} (h : Rd E w0 ts at_ e) (hc : constHere (headT ts) = true) (w : World) :
    Calls Tryz.prog 96 #[.string (textB (headT ts))] w fun e w' => e = .returned (.tuple #[(constT (headT ts)).val, .bool true]) ∧ Below w.heap.size w w' := by
  have hm := h.head.1
  unfold constT
  by_cases h1 : (headT ts).kind = 1
  · rw [if_pos h1]
    exact parse_word _ (by rw [textB_list]; exact h.good.word _ hm h1) w
  · rw [if_neg h1]
    have h2 : (headT ts).kind = 2 := by simpa [constHere, h1] using hc
    obtain ⟨hn, c, r, ht, hcr⟩ := h.good.num _ hm h2
    have hz : (textB (headT ts)).size ≤ 1000000 := h.size
    have h0 : 0 < (textB (headT ts)).size := by unfold textB; rw [mk_list_size, ht]; simp
    have h00 : (textB (headT ts))[0] = c := by
      have : (textB (headT ts)).data.toList[0]? = some c := by rw [textB_list, ht]; rfl
      have h2 : (textB (headT ts)).data.toList[0]? = some (textB (headT ts))[0] := by
        rw [List.getElem?_eq_getElem (by simpa using h0)]; rfl
      rw [h2] at this
      injection this
    have := parse_num (textB (headT ts)) (by omega) h0 (by rw [h00]; exact hcr) w
    rw [textB_list, hn] at this
    exact this
theorem Mv.box {E : Env} {w w' : World} {b : Nat} {t : TypeId} {cs : List Value} (h : Mv E w w') (hb : BoxC w b t cs) (h1 : b ≠ E.r) (h2 : b ≠ E.ib) : BoxC w' b t cs := (h.block b hb.lt h1 h2).trans hb
/-- What was made since the call began may be written besides. -/
theorem Rd.new {E : Env} {w w1 w2 : World} {ts ts1 : List Tk} {a a1 e e1 : Int} {b : Nat} (h : Rd E w ts a e) (r : Rd E w1 ts1 a1 e1) (g : w1.grownBy w2 (some b)) (hb : w.heap.size ≤ b) : Rd E w2 ts1 a1 e1 :=
  r.kept g fun c e hc => by cases e; have := h.lows _ hc; omega
theorem RdAt.new {α : Type} {E : Env} {w w1 w2 : World} {ts : List Tk} {a e : Int} {b : Nat} {q : Rs α} (h : Rd E w ts a e) (r : RdAt E w1 q) (g : w1.grownBy w2 (some b)) (hb : w.heap.size ≤ b) : RdAt E w2 q := by
  cases q with
  | bad p => obtain ⟨ts1, r⟩ := r; exact ⟨ts1, h.new r g hb⟩
  | ok x ts1 => exact h.new (w1 := w1) r g hb
theorem Mv.new {E : Env} {w w1 w2 : World} {b : Nat} (m : Mv E w w1) (g : w1.grownBy w2 (some b)) (hb : w.heap.size ≤ b) : Mv E w w2 := m.grown g fun c e => by cases e; exact .inr (.inr hb)
/-- A symbol comes back; where it goes wrong, some symbol. -/
def SmIs (r : Rs Sm) (x : Ending) : Prop := ∃ s : Sm, x = .returned s.val ∧ s.t.size ≤ 1000000 ∧ ∀ a ts, r = .ok a ts → s = a
theorem constT_size {E : Env} {w0 : World} {ts : List Tk} {at_ e : Int} (h : Rd E w0 ts at_ e) : (constT (headT ts)).t.size ≤ 1000000 := by
  unfold constT
  split
  · exact h.size
  · show (⟨#[]⟩ : ByteArray).size ≤ 1000000
    decide
theorem Tryz.sz45 : (Tryz.prog.info? 45).map (·.size) = some 3 := by kernel_rfl
theorem Tryz.sz47 : (Tryz.prog.info? 47).map (·.size) = some 4 := by kernel_rfl
set_option maxRecDepth 100000 in
set_option maxHeartbeats 2000000 in
theorem rConst_any {E : Env} {ts : List Tk} (w : World) (h : Rd E w ts (-1) 0) : Calls Tryz.prog 76 #[E.ptr] w fun x w' => SmIs (pConst ts) x ∧ Mv E w w' ∧ RdAt E w' (pConst ts) := by
  have hw := h.alloc (.cells #[.int .i64 0, .string ⟨#[]⟩, .int .i64 0] 45)
  obtain ⟨c0, c1, c2, c3, c4, c5⟩ := six_boxR hw.box
  have hB := bad_ok _ hw
  have hP := fun hc => parse_tok hw hc
  have hz := constT_size hw
  have hS := fun W (b : Below (w.alloc (.cells #[.int .i64 0, .string ⟨#[]⟩, .int .i64 0] 45)).heap.size (w.alloc (.cells #[.int .i64 0, .string ⟨#[]⟩, .int .i64 0] 45)) W) hk => step_any W (hw.below b) hk
  have hlo := h.lows
  unfold pConst
  cases hc : constHere (headT ts) with
  | true =>
    have hk : (headT ts).kind = 1 ∨ (headT ts).kind = 2 := by simpa [constHere] using hc
    have hP2 := hP hc
    have hS2 := fun W b => hS W b ⟨by omega, by omega⟩
    simp only [if_true, RdAt]
    generalize constT (headT ts) = C at hP2 hz ⊢
    obtain ⟨ck, ct, cn⟩ := C
    unfold Sm.val at hP2
    simp only at hP2 hz
    have HP := Lib.hid hP2
    have HS := Lib.hid hS2
    have HZ := Lib.hid hz
    have HLO := Lib.hid (h.lows E.r (.inl rfl))
    have HLI := Lib.hid (h.lows E.ib (.inr (.inr (.inl rfl))))
    have HW := Lib.hid hw
    have H := Lib.hid h
    generalize textB (headT ts) = T at *
    clear hP hP2 hS hS2 hB hz hlo hw h
    unfold Env.ptr at HS ⊢
    have HX := Lib.hid (BoxC.new w [.int .i64 0, .string ⟨#[]⟩, .int .i64 0] 45)
    rcases hk with hk | hk
    · have e1 : (((headT ts).kind : Int) != 1) = false := by simp [hk]
      clear hk hc
      go_enter Tryz.func76, Tryz.ntmps76
      go_wp2_with fail
      refine (HP.out _).mono ?_
      rintro x w1 ⟨rfl, b1⟩
      have HX1 := Lib.hid ((HX.out.below b1).alloc (.cells #[.int .i64 ck, .string ct, .int .i64 cn] 45))
      have HY1 : Hid (BoxC (w1.alloc (.cells #[.int .i64 ck, .string ct, .int .i64 cn] 45)) w1.heap.size 45 [.int .i64 ck, .string ct, .int .i64 cn]) := Lib.hid (BoxC.new w1 _ 45)
      have HM1 := Lib.hid ((((Mv.refl E w).alloc (.cells #[.int .i64 0, .string ⟨#[]⟩, .int .i64 0] 45)).below b1).alloc (.cells #[.int .i64 ck, .string ct, .int .i64 cn] 45))
      have HS1 := Lib.hid (HS.out _ (below_trans b1 (below_new w1 (.cells #[.int .i64 ck, .string ct, .int .i64 cn] 45))))
      have hsz : w.heap.size + 1 ≤ w1.heap.size := by have := b1.size; simpa using this
      clear b1
      go_wp2_with fail
      refine HS1.out.mono ?_
      rintro x w2 ⟨⟨v, rfl⟩, hm2, hr2⟩
      have HX2 := Lib.hid (hm2.box HX1.out (by have := HLO.out; omega) (by have := HLI.out; omega))
      obtain ⟨d0, d1, d2⟩ := three_box (hm2.box HY1.out (by have := HLO.out; omega) (by have := HLI.out; omega))
      have HM2 := Lib.hid (HM1.out.trans hm2)
      have HR2 := Lib.hid hr2
      clear hm2 hr2
      go_wp2_with (refine wpList_box rfl 45 (.tmp 2) (.tmp 40) rfl w.heap.size 0 _ [.int .i64 ck, .string ct, .int .i64 cn] rfl rfl rfl HX2.out Tryz.sz45 (by simp) (by simp [Value.oneCell']) _ rfl ?_; intro w3 B3 g3; have HB3 := Lib.hid B3; have HG3 := Lib.hid g3; clear B3 g3 d0 d1 d2)
      obtain ⟨d0, d1, d2⟩ := three_box HB3.out
      exact bodyPost_ret (v := .agg #[.int .i64 ck, .string ct, .int .i64 cn]) (by simp [results, Tryz.results76, go_sem, d0, d1, d2]) rfl ⟨⟨⟨ck, ct, cn⟩, rfl, HZ.out, by intro a ts' e; cases e; rfl⟩, HM2.out.new HG3.out (Nat.le_refl _), H.out.new HR2.out HG3.out (Nat.le_refl _)⟩
    · have e1 : (((headT ts).kind : Int) != 1) = true := by simp [hk]
      have e2 : (((headT ts).kind : Int) != 2) = false := by simp [hk]
      clear hk hc
      go_enter Tryz.func76, Tryz.ntmps76
      go_wp2_with fail
      refine (HP.out _).mono ?_
      rintro x w1 ⟨rfl, b1⟩
      have HX1 := Lib.hid ((HX.out.below b1).alloc (.cells #[.int .i64 ck, .string ct, .int .i64 cn] 45))
      have HY1 : Hid (BoxC (w1.alloc (.cells #[.int .i64 ck, .string ct, .int .i64 cn] 45)) w1.heap.size 45 [.int .i64 ck, .string ct, .int .i64 cn]) := Lib.hid (BoxC.new w1 _ 45)
      have HM1 := Lib.hid ((((Mv.refl E w).alloc (.cells #[.int .i64 0, .string ⟨#[]⟩, .int .i64 0] 45)).below b1).alloc (.cells #[.int .i64 ck, .string ct, .int .i64 cn] 45))
      have HS1 := Lib.hid (HS.out _ (below_trans b1 (below_new w1 (.cells #[.int .i64 ck, .string ct, .int .i64 cn] 45))))
      have hsz : w.heap.size + 1 ≤ w1.heap.size := by have := b1.size; simpa using this
      clear b1
      go_wp2_with fail
      refine HS1.out.mono ?_
      rintro x w2 ⟨⟨v, rfl⟩, hm2, hr2⟩
      have HX2 := Lib.hid (hm2.box HX1.out (by have := HLO.out; omega) (by have := HLI.out; omega))
      obtain ⟨d0, d1, d2⟩ := three_box (hm2.box HY1.out (by have := HLO.out; omega) (by have := HLI.out; omega))
      have HM2 := Lib.hid (HM1.out.trans hm2)
      have HR2 := Lib.hid hr2
      clear hm2 hr2
      go_wp2_with (refine wpList_box rfl 45 (.tmp 2) (.tmp 40) rfl w.heap.size 0 _ [.int .i64 ck, .string ct, .int .i64 cn] rfl rfl rfl HX2.out Tryz.sz45 (by simp) (by simp [Value.oneCell']) _ rfl ?_; intro w3 B3 g3; have HB3 := Lib.hid B3; have HG3 := Lib.hid g3; clear B3 g3 d0 d1 d2)
      obtain ⟨d0, d1, d2⟩ := three_box HB3.out
      exact bodyPost_ret (v := .agg #[.int .i64 ck, .string ct, .int .i64 cn]) (by simp [results, Tryz.results76, go_sem, d0, d1, d2]) rfl ⟨⟨⟨ck, ct, cn⟩, rfl, HZ.out, by intro a ts' e; cases e; rfl⟩, HM2.out.new HG3.out (Nat.le_refl _), H.out.new HR2.out HG3.out (Nat.le_refl _)⟩
  | false =>
    have hk : (headT ts).kind ≠ 1 ∧ (headT ts).kind ≠ 2 := by simpa [constHere] using hc
    have e1 : (((headT ts).kind : Int) != 1) = true := by simp; omega
    have e2 : (((headT ts).kind : Int) != 2) = true := by simp; omega
    simp only [Bool.false_eq_true, if_false, badAt, RdAt]
    have HB := Lib.hid hB
    have HR := Lib.hid (h.lows E.r (.inl rfl))
    have HI := Lib.hid (h.lows E.ib (.inr (.inr (.inl rfl))))
    have HX := Lib.hid (BoxC.new w [.int .i64 0, .string ⟨#[]⟩, .int .i64 0] 45)
    have H := Lib.hid h
    clear hP hS hB hz hlo hk hc hw h
    unfold Env.ptr at HB ⊢
    go_enter Tryz.func76, Tryz.ntmps76
    go_wp2_with fail
    refine HB.out.mono ?_
    rintro x w1 ⟨⟨v, rfl⟩, hm, hr⟩
    have HX1 := Lib.hid (hm.box HX.out (by have := HR.out; omega) (by have := HI.out; omega))
    have HM1 := Lib.hid (((Mv.refl E w).alloc (.cells #[.int .i64 0, .string ⟨#[]⟩, .int .i64 0] 45)).trans hm)
    have HR1 := Lib.hid hr
    clear hm hr
    go_wp2_with (refine wpList_box rfl 45 (.tmp 2) (.tmp 28) rfl w.heap.size 0 _ [.int .i64 0, .string ⟨#[]⟩, .int .i64 0] rfl rfl rfl HX1.out Tryz.sz45 (by simp) (by simp [Value.oneCell']) _ rfl ?_; intro w3 B3 g3; have HB3 := Lib.hid B3; have HG3 := Lib.hid g3; clear B3 g3)
    obtain ⟨d0, d1, d2⟩ := three_box HB3.out
    exact bodyPost_ret (v := .agg #[.int .i64 0, .string ⟨#[]⟩, .int .i64 0]) (by simp [results, Tryz.results76, go_sem, d0, d1, d2]) rfl ⟨⟨nilSm, rfl, by decide, by intro a ts' e; cases e⟩, HM1.out.new HG3.out (Nat.le_refl _), ⟨_, H.out.new HR1.out HG3.out (Nat.le_refl _)⟩⟩
end Go.Proofs.YtgeaccoobhigcaaGreat
namespace Go.Proofs.YtgeaccoobhigcaaGreat
open Go Go.RowKit
set_option maxRecDepth 100000 in
set_option maxHeartbeats 2000000 in
theorem rRel_any (s : ByteArray) (w : World) : Calls Tryz.prog 114 #[.string s] w fun x w' => x = .returned (.int .i64 (relN s.data.toList)) ∧ w = w' := by
  have hs : s.toList = s.data.toList := ByteArray.toList_eq s
  unfold relN
  rw [← hs]
  clear hs
  by_cases h0 : s.toList = [60, 62]
  · have e0 : (s.toList == [60, 62]) = true := by simp [h0]
    have HR : Hid ((relN s.toList) = 2) := Lib.hid (by unfold relN; rw [h0]; rfl)
    unfold relN at HR
    rw [HR.out]
    clear h0
    go_enter Tryz.func114, Tryz.ntmps114
    go_wp2
    go_ret
    exact ⟨rfl, rfl⟩
  have e0 : (s.toList == [60, 62]) = false := by simp [h0]
  by_cases h1 : s.toList = [60]
  · have e1 : (s.toList == [60]) = true := by simp [h1]
    have HR : Hid ((relN s.toList) = 3) := Lib.hid (by unfold relN; rw [h1]; rfl)
    unfold relN at HR
    rw [HR.out]
    clear h0 h1
    go_enter Tryz.func114, Tryz.ntmps114
    go_wp2
    go_ret
    exact ⟨rfl, rfl⟩
  have e1 : (s.toList == [60]) = false := by simp [h1]
  by_cases h2 : s.toList = [60, 61]
  · have e2 : (s.toList == [60, 61]) = true := by simp [h2]
    have HR : Hid ((relN s.toList) = 4) := Lib.hid (by unfold relN; rw [h2]; rfl)
    unfold relN at HR
    rw [HR.out]
    clear h0 h1 h2
    go_enter Tryz.func114, Tryz.ntmps114
    go_wp2
    go_ret
    exact ⟨rfl, rfl⟩
  have e2 : (s.toList == [60, 61]) = false := by simp [h2]
  by_cases h3 : s.toList = [62]
  · have e3 : (s.toList == [62]) = true := by simp [h3]
    have HR : Hid ((relN s.toList) = 5) := Lib.hid (by unfold relN; rw [h3]; rfl)
    unfold relN at HR
    rw [HR.out]
    clear h0 h1 h2 h3
    go_enter Tryz.func114, Tryz.ntmps114
    go_wp2
    go_ret
    exact ⟨rfl, rfl⟩
  have e3 : (s.toList == [62]) = false := by simp [h3]
  by_cases h4 : s.toList = [62, 61]
  · have e4 : (s.toList == [62, 61]) = true := by simp [h4]
    have HR : Hid ((relN s.toList) = 6) := Lib.hid (by unfold relN; rw [h4]; rfl)
    unfold relN at HR
    rw [HR.out]
    clear h0 h1 h2 h3 h4
    go_enter Tryz.func114, Tryz.ntmps114
    go_wp2
    go_ret
    exact ⟨rfl, rfl⟩
  have e4 : (s.toList == [62, 61]) = false := by simp [h4]
  by_cases h5 : s.toList = [60, 61, 62]
  · have e5 : (s.toList == [60, 61, 62]) = true := by simp [h5]
    have HR : Hid ((relN s.toList) = 7) := Lib.hid (by unfold relN; rw [h5]; rfl)
    unfold relN at HR
    rw [HR.out]
    clear h0 h1 h2 h3 h4 h5
    go_enter Tryz.func114, Tryz.ntmps114
    go_wp2
    go_ret
    exact ⟨rfl, rfl⟩
  have e5 : (s.toList == [60, 61, 62]) = false := by simp [h5]
  have HR : Hid ((relN s.toList) = 0) := Lib.hid (by unfold relN; simp only [h0, h1, h2, h3, h4, h5, if_false])
  unfold relN at HR
  rw [HR.out]
  clear h0 h1 h2 h3 h4 h5
  go_enter Tryz.func114, Tryz.ntmps114
  go_wp2
  go_ret
  exact ⟨rfl, rfl⟩
set_option maxRecDepth 100000 in
set_option maxHeartbeats 2000000 in
theorem rOp_any (s : ByteArray) (w : World) : Calls Tryz.prog 77 #[.string s] w fun x w' => x = .returned (.int .i64 (opN s.data.toList)) ∧ w = w' := by
  have hs : s.toList = s.data.toList := ByteArray.toList_eq s
  unfold opN
  rw [← hs]
  clear hs
  by_cases h0 : s.toList = [43]
  · have e0 : (s.toList == [43]) = true := by simp [h0]
    have HR : Hid ((opN s.toList) = 1) := Lib.hid (by unfold opN; rw [h0]; rfl)
    unfold opN at HR
    rw [HR.out]
    clear h0
    go_enter Tryz.func77, Tryz.ntmps77
    go_wp2
    go_ret
    exact ⟨rfl, rfl⟩
  have e0 : (s.toList == [43]) = false := by simp [h0]
  by_cases h1 : s.toList = [45]
  · have e1 : (s.toList == [45]) = true := by simp [h1]
    have HR : Hid ((opN s.toList) = 2) := Lib.hid (by unfold opN; rw [h1]; rfl)
    unfold opN at HR
    rw [HR.out]
    clear h0 h1
    go_enter Tryz.func77, Tryz.ntmps77
    go_wp2
    go_ret
    exact ⟨rfl, rfl⟩
  have e1 : (s.toList == [45]) = false := by simp [h1]
  by_cases h2 : s.toList = [42]
  · have e2 : (s.toList == [42]) = true := by simp [h2]
    have HR : Hid ((opN s.toList) = 3) := Lib.hid (by unfold opN; rw [h2]; rfl)
    unfold opN at HR
    rw [HR.out]
    clear h0 h1 h2
    go_enter Tryz.func77, Tryz.ntmps77
    go_wp2
    go_ret
    exact ⟨rfl, rfl⟩
  have e2 : (s.toList == [42]) = false := by simp [h2]
  have HR : Hid ((opN s.toList) = 0) := Lib.hid (by unfold opN; simp only [h0, h1, h2, if_false])
  unfold opN at HR
  rw [HR.out]
  clear h0 h1 h2
  go_enter Tryz.func77, Tryz.ntmps77
  go_wp2
  go_ret
  exact ⟨rfl, rfl⟩
set_option maxRecDepth 100000 in
set_option maxHeartbeats 1000000 in
theorem begun_any {E : Env} {ts : List Tk} {at_ e : Int} (w : World) (h : Rd E w ts at_ e) : Calls Tryz.prog 78 #[E.ptr] w fun x w' => x = .returned (.bool (atomHere (headT ts))) ∧ w = w' := by
  obtain ⟨c0, c1, c2, c3, c4, c5⟩ := six_boxR h.box
  clear h
  unfold Env.ptr atomHere constHere
  generalize (headT ts).kind = k at *
  by_cases h3 : k = 3
  · have e3 : ((k : Int) == 3) = true := by simp [h3]
    have HR : Hid ((decide (k = 3) || (decide (k = 1) || decide (k = 2))) = true) := Lib.hid (by simp [h3])
    rw [HR.out]
    clear h3
    go_enter Tryz.func78, Tryz.ntmps78
    go_wp2
    go_ret
    exact ⟨rfl, rfl⟩
  have e3 : ((k : Int) == 3) = false := by simp; omega
  by_cases h1 : k = 1
  · have e1 : ((k : Int) == 1) = true := by simp [h1]
    have HR : Hid ((decide (k = 3) || (decide (k = 1) || decide (k = 2))) = true) := Lib.hid (by simp [h1])
    rw [HR.out]
    clear h3 h1
    go_enter Tryz.func78, Tryz.ntmps78
    go_wp2
    go_ret
    exact ⟨rfl, rfl⟩
  have e1 : ((k : Int) == 1) = false := by simp; omega
  by_cases h2 : k = 2
  · have e2 : ((k : Int) == 2) = true := by simp [h2]
    have HR : Hid ((decide (k = 3) || (decide (k = 1) || decide (k = 2))) = true) := Lib.hid (by simp [h2])
    rw [HR.out]
    clear h3 h1 h2
    go_enter Tryz.func78, Tryz.ntmps78
    go_wp2
    go_ret
    exact ⟨rfl, rfl⟩
  have e2 : ((k : Int) == 2) = false := by simp; omega
  have HR : Hid ((decide (k = 3) || (decide (k = 1) || decide (k = 2))) = false) := Lib.hid (by simp [h1, h2, h3])
  rw [HR.out]
  clear h3 h1 h2
  go_enter Tryz.func78, Tryz.ntmps78
  go_wp2
  go_ret
  exact ⟨rfl, rfl⟩
theorem four_boxR {w : World} {g : Nat} {a0 a1 a2 a3 : Value} {t : TypeId} (h : BoxC w g t [a0, a1, a2, a3]) :
    w.cell? ⟨g, 0, none⟩ = some a0 ∧ w.cell? ⟨g, 1, none⟩ = some a1 ∧ w.cell? ⟨g, 2, none⟩ = some a2 ∧ w.cell? ⟨g, 3, none⟩ = some a3 := ⟨h.at_ rfl, h.at_ rfl, h.at_ rfl, h.at_ rfl⟩
/-- An atom comes back; where it goes wrong, some atom. -/
def AmIs (r : Rs Am) (x : Ending) : Prop := ∃ a : Am, x = .returned a.val ∧ (a.v.size ≤ 1000000 ∧ a.s.t.size ≤ 1000000) ∧ ∀ b ts, r = .ok b ts → a = b
set_option maxRecDepth 100000 in
set_option maxHeartbeats 2000000 in
theorem readAtom_any {E : Env} {ts : List Tk} (w : World) (h : Rd E w ts (-1) 0) : Calls Tryz.prog 51 #[E.ptr] w fun x w' => AmIs (pAtom ts) x ∧ Mv E w w' ∧ RdAt E w' (pAtom ts) := by
  have hw := h.alloc (.cells #[.string ⟨#[]⟩, .int .i64 0, .string ⟨#[]⟩, .int .i64 0] 47)
  obtain ⟨c0, c1, c2, c3, c4, c5⟩ := six_boxR hw.box
  have HT := Lib.hid (text_any _ hw 3 (by omega))
  have HC := Lib.hid (rConst_any _ hw)
  have HX := Lib.hid (BoxC.new w [.string ⟨#[]⟩, .int .i64 0, .string ⟨#[]⟩, .int .i64 0] 47)
  have HLO := Lib.hid (h.lows E.r (.inl rfl))
  have HLI := Lib.hid (h.lows E.ib (.inr (.inr (.inl rfl))))
  have H := Lib.hid h
  clear hw h
  unfold pAtom
  by_cases hk : (headT ts).kind = 3
  · have hp : pText 3 ts = .ok (textB (headT ts)) ts.tail := by unfold pText; rw [if_pos hk]
    rw [hp] at HT
    rw [if_pos hk]
    have e3 : (((headT ts).kind : Int) == 3) = true := by simp [hk]
    clear hk hp HC
    generalize textB (headT ts) = T at *
    unfold Env.ptr at HT ⊢
    go_enter Tryz.func51, Tryz.ntmps51
    go_wp2_with fail
    refine HT.out.mono ?_
    rintro x w1 ⟨⟨s, rfl, hs, hsq⟩, hm, hr⟩
    obtain rfl : s = T := hsq _ _ rfl
    have HX1 := Lib.hid (hm.box HX.out (by have := HLO.out; omega) (by have := HLI.out; omega))
    have HM1 := Lib.hid (((Mv.refl E w).alloc (.cells #[.string ⟨#[]⟩, .int .i64 0, .string ⟨#[]⟩, .int .i64 0] 47)).trans hm)
    have HR1 := Lib.hid hr
    have HSZ := Lib.hid hs
    clear hm hr hs hsq
    go_wp2_with (refine wpList_box rfl 47 (.tmp 2) (.tmp 11) rfl w.heap.size 0 _ [.string s, .int .i64 0, .string ⟨#[]⟩, .int .i64 0] rfl rfl rfl HX1.out Tryz.sz47 (by simp) (by simp [Value.oneCell']) _ rfl ?_; intro w3 B3 g3; have HB3 := Lib.hid B3; have HG3 := Lib.hid g3; clear B3 g3)
    obtain ⟨d0, d1, d2, d3⟩ := four_boxR HB3.out
    exact bodyPost_ret (v := .agg #[.string s, .int .i64 0, .string ⟨#[]⟩, .int .i64 0]) (by simp [results, Tryz.results51, go_sem, d0, d1, d2, d3]) rfl ⟨⟨⟨s, nilSm⟩, rfl, ⟨HSZ.out, by show (⟨#[]⟩ : ByteArray).size ≤ 1000000; decide⟩, by intro a ts' e; cases e; rfl⟩, HM1.out.new HG3.out (Nat.le_refl _), H.out.new HR1.out HG3.out (Nat.le_refl _)⟩
  · rw [if_neg hk]
    have e3 : (((headT ts).kind : Int) == 3) = false := by simp; omega
    clear hk HT
    generalize pConst ts = R at HC ⊢
    unfold Env.ptr at HC ⊢
    go_enter Tryz.func51, Tryz.ntmps51
    go_wp2_with fail
    refine HC.out.mono ?_
    rintro x w1 ⟨⟨⟨sk, st, sn⟩, rfl, hs, hsq⟩, hm, hr⟩
    have HX1 := Lib.hid (hm.box HX.out (by have := HLO.out; omega) (by have := HLI.out; omega))
    have HM1 := Lib.hid (((Mv.refl E w).alloc (.cells #[.string ⟨#[]⟩, .int .i64 0, .string ⟨#[]⟩, .int .i64 0] 47)).trans hm)
    have HR1 := Lib.hid hr
    have HSZ := Lib.hid hs
    have HQ := Lib.hid hsq
    clear hm hr hs hsq
    unfold Sm.val
    simp only
    go_wp2_with (refine wpList_box rfl 47 (.tmp 2) (.tmp 14) rfl w.heap.size 0 _ [.string ⟨#[]⟩, .int .i64 sk, .string st, .int .i64 sn] rfl rfl rfl HX1.out Tryz.sz47 (by simp) (by simp [Value.oneCell']) _ rfl ?_; intro w3 B3 g3; have HB3 := Lib.hid B3; have HG3 := Lib.hid g3; clear B3 g3)
    obtain ⟨d0, d1, d2, d3⟩ := four_boxR HB3.out
    refine bodyPost_ret (v := .agg #[.string ⟨#[]⟩, .int .i64 sk, .string st, .int .i64 sn]) (by simp [results, Tryz.results51, go_sem, d0, d1, d2, d3]) rfl ⟨⟨⟨⟨#[]⟩, ⟨sk, st, sn⟩⟩, rfl, ⟨by show (⟨#[]⟩ : ByteArray).size ≤ 1000000; decide, HSZ.out⟩, ?_⟩, HM1.out.new HG3.out (Nat.le_refl _), ?_⟩
    · intro a ts' e
      cases R with
      | bad p => cases e
      | ok b ts2 => cases e; rw [HQ.out _ _ rfl]
    · have := RdAt.new H.out HR1.out HG3.out (Nat.le_refl _)
      cases R with
      | bad p => exact this
      | ok b ts2 => exact this
end Go.Proofs.YtgeaccoobhigcaaGreat
namespace Go.Proofs.YtgeaccoobhigcaaGreat
open Go Go.RowKit
theorem bind_ok {α β : Type} {r : Rs α} {f : α → List Tk → Rs β} {b : β} {ts : List Tk} : r.bind f = .ok b ts ↔ ∃ a t, r = .ok a t ∧ f a t = .ok b ts := by
  cases r with
  | bad p => simp [Rs.bind]
  | ok a t =>
    simp only [Rs.bind]
    exact ⟨fun h => ⟨a, t, rfl, h⟩, fun ⟨a', t', e, h⟩ => by cases e; exact h⟩
theorem bad_not {α : Type} {ts ts' : List Tk} {a : α} : (badAt ts : Rs α) ≠ .ok a ts' := by simp [badAt]
/-- It takes one token at least. -/
def Eats {α : Type} (p : Pr α) : Prop := ∀ ts a ts', p ts = .ok a ts' → ts'.length < ts.length
/-- It takes none, or some. -/
def Keeps {α : Type} (p : Pr α) : Prop := ∀ ts a ts', p ts = .ok a ts' → ts'.length ≤ ts.length
theorem Eats.keeps {α : Type} {p : Pr α} (h : Eats p) : Keeps p := fun ts a ts' e => Nat.le_of_lt (h ts a ts' e)
theorem tail_len (ts : List Tk) : ts.tail.length ≤ ts.length := by cases ts <;> simp
theorem tail_lt {ts : List Tk} (h : (headT ts).kind ≠ 5) : ts.tail.length < ts.length := by
  cases ts with
  | nil => exact absurd rfl h
  | cons t r => simp
theorem isB_k {t : Tk} {s : ByteArray} (h : isB t s = true) : t.kind = 4 := by
  unfold isB at h
  simp only [Bool.and_eq_true, decide_eq_true_eq] at h
  exact h.1
theorem pTake_eats (s : ByteArray) : Eats (pTake s) := by
  intro ts a ts' h
  unfold pTake at h
  split at h
  · rename_i hb
    have := isB_k hb
    cases h
    exact tail_lt (by omega)
  · exact absurd h bad_not
theorem pText_eats (k : Nat) (hk : k ≠ 5) : Eats (pText k) := by
  intro ts a ts' h
  unfold pText at h
  split at h
  · rename_i hb
    cases h
    exact tail_lt (by omega)
  · exact absurd h bad_not
theorem constHere_k {t : Tk} (h : constHere t = true) : t.kind = 1 ∨ t.kind = 2 := by simpa [constHere] using h
theorem pConst_eats : Eats pConst := by
  intro ts a ts' h
  unfold pConst at h
  split at h
  · rename_i hb
    have := constHere_k hb
    cases h
    exact tail_lt (by omega)
  · exact absurd h bad_not
theorem pAtom_eats : Eats pAtom := by
  intro ts a ts' h
  unfold pAtom at h
  split at h
  · cases h
    exact tail_lt (by omega)
  · obtain ⟨s, t, h1, h2⟩ := bind_ok.1 h
    cases h2
    exact pConst_eats _ _ _ h1
theorem pMany_keeps {α : Type} {p : Pr α} (hp : Keeps p) (stop : ByteArray) : ∀ n, Keeps (pMany p stop n)
  | 0, ts, a, ts', h => absurd h bad_not
  | n + 1, ts, a, ts', h => by
    unfold pMany at h
    split at h
    · cases h; exact Nat.le_refl _
    · obtain ⟨x, t, h1, h2⟩ := bind_ok.1 h
      obtain ⟨l, t2, h3, h4⟩ := bind_ok.1 h2
      cases h4
      have := hp _ _ _ h1
      have := pMany_keeps hp stop n _ _ _ h3
      omega
theorem pMany1_eats {α : Type} {p : Pr α} (hp : Eats p) (stop : ByteArray) : Eats (pMany1 p stop) := by
  intro ts a ts' h
  obtain ⟨x, t, h1, h2⟩ := bind_ok.1 h
  obtain ⟨l, t2, h3, h4⟩ := bind_ok.1 h2
  cases h4
  have := hp _ _ _ h1
  have := pMany_keeps hp.keeps stop _ _ _ _ h3
  omega
theorem pEnds_eats {α : Type} {p : Pr α} (hp : Eats p) (stop : ByteArray) : Eats (pEnds p stop) := by
  intro ts a ts' h
  obtain ⟨x, t, h1, h2⟩ := bind_ok.1 h
  obtain ⟨l, t2, h3, h4⟩ := bind_ok.1 h2
  cases h4
  have := pMany1_eats hp stop _ _ _ h1
  have := pTake_eats _ _ _ _ h3
  omega
theorem pTest_eats : Eats pTest := by
  intro ts a ts' h
  unfold pTest at h
  split at h
  · obtain ⟨x, t, h1, h2⟩ := bind_ok.1 h
    cases h2
    have := pEnds_eats pConst_eats _ _ _ _ h1
    have := tail_len ts
    omega
  · split at h
    · obtain ⟨x, t, h1, h2⟩ := bind_ok.1 h
      cases h2
      have := pAtom_eats _ _ _ h1
      have := tail_len ts
      omega
    · obtain ⟨x, t, h1, h2⟩ := bind_ok.1 h
      cases h2
      exact pAtom_eats _ _ _ h1
theorem pField_eats : Eats pField := by
  intro ts a ts' h
  unfold pField at h
  split at h
  · have := pEnds_eats pTest_eats _ _ _ _ h
    have := tail_len ts
    omega
  · obtain ⟨x, t, h1, h2⟩ := bind_ok.1 h
    cases h2
    exact pTest_eats _ _ _ h1
theorem pIf_keeps {α : Type} {p : Pr α} (hp : Keeps p) (b : Bool) (x : α) : Keeps (pIf b p x) := by
  intro ts a ts' h
  unfold pIf at h
  split at h
  · exact hp _ _ _ h
  · cases h; exact Nat.le_refl _
theorem if_tail (b : Bool) (ts : List Tk) : (if b then ts.tail else ts).length ≤ ts.length := by
  cases b
  · exact Nat.le_refl _
  · exact tail_len ts
theorem pItem_eats (id : ByteArray) (goal : Bool) : Eats (pItem id goal) := by
  intro ts a ts' h
  obtain ⟨_, t1, h1, h⟩ := bind_ok.1 h
  obtain ⟨x, t2, h2, h⟩ := bind_ok.1 h
  obtain ⟨y, t3, h3, h⟩ := bind_ok.1 h
  cases h
  have := pTake_eats _ _ _ _ h1
  have := if_tail (isB (headT ts) bMinus) ts
  have := pField_eats _ _ _ h2
  have := pIf_keeps pField_eats.keeps _ _ _ _ _ h3
  have := if_tail (isB (headT t3) bPlus) t3
  omega
theorem pClause_eats : Eats pClause := by
  intro ts a ts' h
  obtain ⟨_, t1, h1, h⟩ := bind_ok.1 h
  obtain ⟨x, t2, h2, h⟩ := bind_ok.1 h
  have := pTake_eats _ _ _ _ h1
  have := if_tail (goalHere (headT t1)) t1
  have := pText_eats 3 (by omega) _ _ _ h2
  have := pEnds_eats (pItem_eats x _) _ _ _ _ h
  omega
theorem pCond_eats : ∀ n, Eats (pCond n)
  | 0, ts, a, ts', h => absurd h bad_not
  | n + 1, ts, a, ts', h => by
    have h1 := tail_len ts
    have h2 := tail_len ts.tail
    unfold pCond at h
    split at h
    · split at h
      · obtain ⟨x, t, h3, h⟩ := bind_ok.1 h
        cases h
        have := pEnds_eats (pCond_eats n) _ _ _ _ h3
        omega
      · obtain ⟨x, t, h3, h⟩ := bind_ok.1 h
        cases h
        have := pClause_eats _ _ _ h3
        omega
    · exact pClause_eats _ _ _ h
theorem pTerm_eats : Eats pTerm := by
  intro ts a ts' h
  have h1 := tail_len ts
  have h2 := tail_len ts.tail
  unfold pTerm at h
  split at h
  · split at h
    · exact absurd h bad_not
    · obtain ⟨x, t, h3, h⟩ := bind_ok.1 h
      obtain ⟨y, t2, h4, h⟩ := bind_ok.1 h
      obtain ⟨_, t3, h5, h⟩ := bind_ok.1 h
      cases h
      have := pAtom_eats _ _ _ h3
      have := pAtom_eats _ _ _ h4
      have := pTake_eats _ _ _ _ h5
      omega
  · obtain ⟨x, t, h3, h⟩ := bind_ok.1 h
    cases h
    exact pAtom_eats _ _ _ h3
theorem pPref_keeps : Keeps pPref := by
  intro ts a ts' h
  have h1 := tail_len ts
  unfold pPref at h
  split at h
  · cases h; exact Nat.le_refl _
  · split at h
    · obtain ⟨x, t, h3, h⟩ := bind_ok.1 h
      cases h
      have := pAtom_eats _ _ _ h3
      omega
    · cases h; exact h1
theorem pAct_eats (id : ByteArray) : Eats (pAct id) := by
  intro ts a ts' h
  obtain ⟨_, t1, h1, h⟩ := bind_ok.1 h
  obtain ⟨x, t2, h2, h⟩ := bind_ok.1 h
  obtain ⟨y, t3, h3, h⟩ := bind_ok.1 h
  obtain ⟨z, t4, h4, h⟩ := bind_ok.1 h
  cases h
  have := pTake_eats _ _ _ _ h1
  have := pAtom_eats _ _ _ h2
  have := pTerm_eats _ _ _ h3
  have := pPref_keeps _ _ _ h4
  omega
theorem pActs_eats : Eats pActs := by
  intro ts a ts' h
  obtain ⟨_, t1, h1, h⟩ := bind_ok.1 h
  obtain ⟨x, t2, h2, h⟩ := bind_ok.1 h
  have := pTake_eats _ _ _ _ h1
  have := pText_eats 3 (by omega) _ _ _ h2
  have := pEnds_eats (pAct_eats x) _ _ _ _ h
  omega
theorem pProd_eats : Eats pProd := by
  intro ts a ts' h
  have h0 := tail_len ts
  unfold pProd at h
  split at h
  · obtain ⟨_, t1, h1, h⟩ := bind_ok.1 h
    obtain ⟨x, t2, h2, h⟩ := bind_ok.1 h
    obtain ⟨y, t3, h3, h⟩ := bind_ok.1 h
    obtain ⟨z, t4, h4, h⟩ := bind_ok.1 h
    cases h
    have := pTake_eats _ _ _ _ h1
    have := pText_eats 1 (by omega) _ _ _ h2
    have := pEnds_eats (pCond_eats _) _ _ _ _ h3
    have := pEnds_eats pActs_eats _ _ _ _ h4
    omega
  · exact absurd h bad_not
/-- What is still to come of a list: what was read stands ahead. -/
def rest {β : Type} (p : Pr β) (stop : ByteArray) (n : Nat) (l : List β) (ts : List Tk) : Rs (List β) := (pMany p stop n ts).bind fun m t => (pTake stop t).bind fun _ t' => .ok (l ++ m) t'
section
variable {β : Type} {p : Pr β} {stop : ByteArray} {n : Nat} {l : List β} {ts ts' : List Tk} {b : β} {q : Nat}
theorem rest_first (h : p ts = .ok b ts') : pEnds p stop ts = rest p stop (ts'.length + 1) [b] ts' := by
  unfold pEnds pMany1 rest
  rw [h]
  simp only [Rs.bind]
  cases pMany p stop (ts'.length + 1) ts' with
  | bad q => rfl
  | ok m t => rfl
theorem rest_first_bad (h : p ts = .bad q) : pEnds p stop ts = .bad q := by
  unfold pEnds pMany1
  rw [h]
  rfl
theorem rest_next (hs : isB (headT ts) stop = false) (h : p ts = .ok b ts') : rest p stop (n + 1) l ts = rest p stop n (l ++ [b]) ts' := by
  unfold rest
  conv => lhs; unfold pMany
  rw [hs, h]
  simp only [Bool.false_eq_true, if_false, Rs.bind]
  cases pMany p stop n ts' with
  | bad q => rfl
  | ok m t => simp
theorem rest_bad (hs : isB (headT ts) stop = false) (h : p ts = .bad q) : rest p stop (n + 1) l ts = .bad q := by
  unfold rest
  conv => lhs; unfold pMany
  rw [hs, h]
  rfl
theorem rest_stop (hs : isB (headT ts) stop = true) : rest p stop (n + 1) l ts = .ok l ts.tail := by
  unfold rest
  conv => lhs; unfold pMany
  rw [hs]
  simp [Rs.bind, pTake, hs]
end
end Go.Proofs.YtgeaccoobhigcaaGreat
namespace Go.Proofs.YtgeaccoobhigcaaGreat
open Go Go.RowKit
theorem belowD (w : World) : Below w.heap.size w w.drew := ⟨rfl, rfl, rfl, Nat.le_refl _, fun _ _ => rfl⟩
/-- How a loop stands: what is still to come, or where it went wrong. -/
def Goes {β : Type} (E : Env) (R : Rs (List β)) (p : Pr β) (stop : ByteArray) (l : List β) (n : Nat) (wr : World) : Prop :=
  (∃ ts, Rd E wr ts (-1) 0 ∧ ts.length < n ∧ l.length + ts.length ≤ 1000000 ∧ R = rest p stop n l ts) ∨ (∃ (ts : List Tk) (q : Nat), Rd E wr ts q 5 ∧ R = .bad q)
structure TestLoop (E : Env) (w : World) (b3 : Nat) (R : Rs (List Sm)) (n : Nat) (wr : World) : Prop where
  mv : Mv E w wr
  cell : BoxC wr w.heap.size 123 [.int .i64 0, .string ⟨#[]⟩, .int .i64 0, .string ⟨#[]⟩, .int .i64 0, .slice none 0 0]
  low : w.heap.size < b3
  list : ∃ v l, BoxC wr b3 123 [.int .i64 8, .string ⟨#[]⟩, .int .i64 0, .string ⟨#[]⟩, .int .i64 0, v] ∧ OwnD mkSym (w.heap.size + 1) 45 wr v l ∧ Goes E R pConst bTo l n wr
/-- A test comes back; where it goes wrong, some test. -/
def TsIs (base : Nat) (w' : World) (r : Rs Ts) (x : Ending) : Prop := ∃ t : TestR, x = .returned t.val ∧ t.Mem w' ∧ t.In (fun b => base ≤ b) ∧ ∀ a ts, r = .ok a ts → t.abs = a
theorem OwnD.one {α : Type} (M : Make α) {base : Nat} (e : TypeId) {w0 : World} {tmp : Array Value} (u : α) (htmp : tmp.toList = M.cells u) (hb : base ≤ w0.heap.size) (hu : M.ok w0 u) (hk : M.inK (fun b => base ≤ b) u) :
    OwnD M base e (w0.alloc (.cells tmp e)) (.slice (some ⟨w0.heap.size, 0, none⟩) 1 1) [u] := by
  have hs : SameIn (fun b => base ≤ b ∧ b < w0.heap.size) w0 (w0.alloc (.cells tmp e)) := fun b hk _ => Below.heap_alloc w0 _ b hk.2
  have hl : tmp.size = M.size := by rw [← Array.length_toList, htmp, M.len]
  refine ⟨⟨by simp [M.len], .inr ⟨w0.heap.size, 1, tmp, rfl, hb, heap_alloc_new w0 _, by simp, by unfold maxLen; omega, by rw [hl]; omega, ?_⟩⟩, ?_, ?_⟩
  · rw [htmp]
    simp
    exact List.take_of_length_le (by rw [M.len]; exact Nat.le_refl _)
  · intro a ha
    rw [List.mem_singleton.1 ha]
    exact M.same hu (M.lt hu hk) hs
  · intro a ha
    rw [List.mem_singleton.1 ha]
    exact M.mono (M.lt hu hk) fun b hb => ⟨hb.1, by simp; omega, fun e => by simp [Value.ownBlock] at e; omega⟩
theorem OwnD.moved {α : Type} {M : Make α} {base : Nat} {t : TypeId} {E : Env} {w w' : World} {v : Value} {l : List α} (h : OwnD M base t w v l) (m : Mv E w w') (hr : E.r < base) (hi : E.ib < base) : OwnD M base t w' v l := by
  refine ⟨?_, fun a ha => M.same (h.ok a ha) (h.ink a ha) fun b hb hl => m.block b hl (by omega) (by omega), fun a ha => M.mono (h.ink a ha) fun b hb => ⟨hb.1, by have := m.size; omega, hb.2.2⟩⟩
  refine ⟨h.own.1, ?_⟩
  rcases h.own.2 with h2 | ⟨g, cap, cur, hv, hb, hg, h3⟩
  · exact .inl h2
  · exact .inr ⟨g, cap, cur, hv, hb, (m.block g (lt_of_block hg) (by omega) (by omega)).trans hg, h3⟩
theorem Rd.len {E : Env} {w : World} {ts : List Tk} {a e : Int} (h : Rd E w ts a e) : ts.length ≤ 1000000 := by
  obtain ⟨k, _, hd⟩ := h.ibox
  rw [← hd, List.length_drop]
  have := h.good.len
  omega
theorem Tryz.sz123 : (Tryz.prog.info? 123).map (·.size) = some 6 := by kernel_rfl
theorem nil_strings : ∀ s : ByteArray, s = ⟨#[]⟩ → s.size ≤ 9223372036854775807 := by rintro s rfl; decide
theorem OwnD.not_box {α : Type} {M : Make α} {base b : Nat} {e t : TypeId} {w : World} {v : Value} {l : List α} {cs : List Value} (h : OwnD M base e w v l) (hb : BoxC w b t cs) (hne : e ≠ t) : ∀ g, v.ownBlock = some g → g ≠ b := by
  rintro g hg rfl
  rcases h.own.2 with ⟨rfl, _⟩ | ⟨g', cap, cur, rfl, _, hh, _⟩
  · simp [Value.ownBlock] at hg
  · have : g' = g := by simpa [Value.ownBlock] using hg
    subst this
    unfold BoxC at hb
    rw [hb] at hh
    injection hh with hh
    injection hh with _ hh
    exact hne hh.symm
theorem box_push {α : Type} {M : Make α} {base b : Nat} {e t : TypeId} {w w' : World} {v : Value} {l : List α} {cs : List Value} (h : OwnD M base e w v l) (hb : BoxC w b t cs) (hg : w.grownBy w' v.ownBlock) (hne : e ≠ t) : BoxC w' b t cs :=
  hb.grown hg fun e => h.not_box hb hne b e.symm rfl
theorem free_box {w : World} {b : Nat} {t : TypeId} {cs : List Value} (hb : BoxC w b t cs) (o : Nat) : w.frozen? ⟨b, o, none⟩ = false := by
  unfold BoxC at hb
  simp [World.frozen?, hb]
theorem sym_test {w w5 : World} {b0 : Nat} {ao : Option Addr} {n c : Nat} {l : List Sm} (hd : Deep mkSym (fun b => b0 + 1 ≤ b) w ao n c l) (g : w.grownBy w5 (some b0)) : TestR.Mem w5 ⟨8, ⟨#[]⟩, nilSm, ao, n, c, l⟩ ∧ TestR.In (fun b => b0 ≤ b) ⟨8, ⟨#[]⟩, nilSm, ao, n, c, l⟩ := by
  have h5 := hd.same (sameIn_of_grown g fun b hb e => by injection e with e; omega)
  exact ⟨⟨h5.sl, nil_strings _ rfl, nil_strings _ rfl, h5.ok⟩, h5.inb.mono fun b hb => by omega⟩
theorem BoxC.upd {w : World} {b k : Nat} {t : TypeId} {cs : List Value} (h : BoxC w b t cs) (v : Value) (cs' : List Value) (hc : cs.set k v = cs') : BoxC (w.setCell ⟨b, k, none⟩ v) b t cs' := by
  subst hc
  rw [setCell_eq_setRow w b k cs.toArray t (0, 0) v h]
  have := h.setRow (cs.set k v)
  simpa using this
theorem Goes.kept {β : Type} {E : Env} {R : Rs (List β)} {p : Pr β} {stop : ByteArray} {l : List β} {n : Nat} {w w' : World} {row : Option Nat} (h : Goes E R p stop l n w) (g : w.grownBy w' row) (hr : ∀ b, row = some b → ¬ E.Blk b) : Goes E R p stop l n w' := by
  rcases h with ⟨ts, h1, h2⟩ | ⟨ts, q, h1, h2⟩
  · exact .inl ⟨ts, h1.kept g hr, h2⟩
  · exact .inr ⟨ts, q, h1.kept g hr, h2⟩
theorem OwnD.symGrown {base b : Nat} {e : TypeId} {w w' : World} {v : Value} {l : List Sm} (h : OwnD mkSym base e w v l) (g : w.grownBy w' (some b)) (hb : v.ownBlock ≠ some b) : OwnD mkSym base e w' v l :=
  ⟨h.own.kept g (.inr hb), h.ok, fun _ _ => trivial⟩
theorem testLoop_next {E : Env} {w wr w4 w5 : World} {ts : List Tk} {a e : Int} {b3 n c c' : Nat} {R : Rs (List Sm)} {gk : Nat} {ao : Option Addr} {l : List Sm} {s : Sm} {go' : Addr} (h : Rd E w ts a e) (hlow : w.heap.size < b3) (hm : Mv E w wr) (hm4 : Mv E wr w4)
    (hc : BoxC wr w.heap.size 123 [.int .i64 0, .string ⟨#[]⟩, .int .i64 0, .string ⟨#[]⟩, .int .i64 0, .slice none 0 0]) (ho : OwnD mkSym (w.heap.size + 1) 45 w4 (.slice ao n c) l)
    (hb : BoxC w5 b3 123 [.int .i64 8, .string ⟨#[]⟩, .int .i64 0, .string ⟨#[]⟩, .int .i64 0, .slice ao n c]) (g : w4.grownBy w5 (Value.slice ao n c).ownBlock) (ho5 : OwnD mkSym (w.heap.size + 1) 45 w5 (.slice (some go') (n + 1) c') (l ++ [s]))
    (hg : Goes E R pConst bTo (l ++ [s]) gk w4) : TestLoop E w b3 R gk (w5.setCell ⟨b3, 5, none⟩ (.slice (some go') (n + 1) c')) := by
  have hown : ∀ b, (Value.slice ao n c).ownBlock = some b → w.heap.size + 1 ≤ b := fun b e => (ho.own.lt b e).1
  have g3 := grownBy_setCell w5 ⟨b3, 5, none⟩ (.slice (some go') (n + 1) c')
  have hr := h.lows E.r (.inl rfl)
  have hi := h.lows E.ib (.inr (.inr (.inl rfl)))
  have hnb : ∀ b, w.heap.size ≤ b → ¬ E.Blk b := fun b hb hc => by have := h.lows b hc; omega
  refine ⟨((hm.trans hm4).grown g fun b e => .inr (.inr (by have := hown b e; omega))).grown g3 fun b e => by cases e; exact .inr (.inr (Nat.le_of_lt hlow)), ?_, hlow, _, _, hb.upd _ _ rfl, ho5.symGrown g3 ?_, (hg.kept g fun b e => hnb b (by have := hown b e; omega)).kept g3 fun b e => by cases e; exact hnb b3 (Nat.le_of_lt hlow)⟩
  · refine ((hm4.box hc (by omega) (by omega)).grown g fun e => ?_).grown g3 (by simp; omega)
    have := hown _ e.symm
    omega
  · intro e
    exact ho5.not_box hb (by decide) _ e rfl
set_option maxRecDepth 100000 in
set_option maxHeartbeats 4000000 in
theorem testFrom_any {E : Env} {ts : List Tk} (w : World) (h : Rd E w ts (-1) 0) (hb : isB (headT ts) bFrom = true) : Calls Tryz.prog 113 #[E.ptr] w fun x w' => TsIs w.heap.size w' (pTest ts) x ∧ Mv E w w' ∧ RdAt E w' (pTest ts) := by
  have hk := isB_kind hb
  have hw := h.alloc (.cells #[.int .i64 0, .string ⟨#[]⟩, .int .i64 0, .string ⟨#[]⟩, .int .i64 0, .slice none 0 0] 123)
  have hI := is_any _ hw bFrom
  rw [hb] at hI
  have HI := Lib.hid hI
  have HS := Lib.hid (step_any _ hw ⟨by omega, by omega⟩)
  have HX := Lib.hid (BoxC.new w [.int .i64 0, .string ⟨#[]⟩, .int .i64 0, .string ⟨#[]⟩, .int .i64 0, .slice none 0 0] 123)
  have HLO := Lib.hid (h.lows E.r (.inl rfl))
  have HLI := Lib.hid (h.lows E.ib (.inr (.inr (.inl rfl))))
  have H := Lib.hid h
  unfold pTest
  rw [hb]
  simp only [if_true]
  obtain ⟨R, hR0⟩ : ∃ R, pEnds pConst bTo ts.tail = R := ⟨_, rfl⟩
  rw [hR0]
  have HR0 := Lib.hid hR0
  clear hk hw hI h hb hR0
  unfold Env.ptr bFrom at *
  go_enter Tryz.func113, Tryz.ntmps113
  go_wp2_with (first | (go_at_call 32; refine HI.out.mono ?_; rintro x w1 ⟨rfl, rfl⟩) | (go_at_call 28; refine HS.out.mono ?_; rintro x w1 ⟨⟨v, rfl⟩, hm, hr⟩))
  have HC := Lib.hid (rConst_any w1 hr)
  have HM1 := Lib.hid (((Mv.refl E w).alloc (.cells #[.int .i64 0, .string ⟨#[]⟩, .int .i64 0, .string ⟨#[]⟩, .int .i64 0, .slice none 0 0] 123)).trans hm)
  have HX1 := Lib.hid (hm.box HX.out (by have := HLO.out; omega) (by have := HLI.out; omega))
  have HR1 := Lib.hid hr
  unfold Env.ptr at HC
  clear hm hr HI HS HX
  refine HC.out.mono ?_
  rintro x w2 ⟨⟨⟨sk, st, sn⟩, rfl, hs, hq⟩, hm, hr⟩
  have HM2 := Lib.hid (HM1.out.trans hm)
  have HX2 := Lib.hid (hm.box HX1.out (by have := HLO.out; omega) (by have := HLI.out; omega))
  have HQ := Lib.hid hq
  have HR2 := Lib.hid hr
  have HSZ := Lib.hid hs
  clear hm hr hq hs HX1 HM1 HC
  unfold Sm.val
  simp only
  have hstart : ∃ n0, TestLoop E w (w2.heap.size + 1) R n0 ((w2.alloc (.cells #[.int .i64 sk, .string st, .int .i64 sn] 45)).alloc (.cells #[.int .i64 8, .string ⟨#[]⟩, .int .i64 0, .string ⟨#[]⟩, .int .i64 0, .slice (some ⟨w2.heap.size, 0, none⟩) 1 1] 123)) := by
    have hsz := HM2.out.size
    have hlt := HX2.out.lt
    have ho : OwnD mkSym (w.heap.size + 1) 45 ((w2.alloc (.cells #[.int .i64 sk, .string st, .int .i64 sn] 45)).alloc (.cells #[.int .i64 8, .string ⟨#[]⟩, .int .i64 0, .string ⟨#[]⟩, .int .i64 0, .slice (some ⟨w2.heap.size, 0, none⟩) 1 1] 123)) (.slice (some ⟨w2.heap.size, 0, none⟩) 1 1) [⟨sk, st, sn⟩] :=
      (OwnD.one mkSym (base := w.heap.size + 1) 45 (w0 := w2) (tmp := #[.int .i64 sk, .string st, .int .i64 sn]) ⟨sk, st, sn⟩ rfl hlt (Nat.le_trans HSZ.out (by decide)) trivial).kept (below_new _ _)
    have hb3 : BoxC ((w2.alloc (.cells #[.int .i64 sk, .string st, .int .i64 sn] 45)).alloc (.cells #[.int .i64 8, .string ⟨#[]⟩, .int .i64 0, .string ⟨#[]⟩, .int .i64 0, .slice (some ⟨w2.heap.size, 0, none⟩) 1 1] 123)) (w2.heap.size + 1) 123 [.int .i64 8, .string ⟨#[]⟩, .int .i64 0, .string ⟨#[]⟩, .int .i64 0, .slice (some ⟨w2.heap.size, 0, none⟩) 1 1] := BoxC.new_at' (by simp)
    have hq := HQ.out
    have hr := HR2.out
    have hg : ∃ n0, Goes E R pConst bTo [⟨sk, st, sn⟩] n0 ((w2.alloc (.cells #[.int .i64 sk, .string st, .int .i64 sn] 45)).alloc (.cells #[.int .i64 8, .string ⟨#[]⟩, .int .i64 0, .string ⟨#[]⟩, .int .i64 0, .slice (some ⟨w2.heap.size, 0, none⟩) 1 1] 123)) := by
      cases hp : pConst ts.tail with
      | bad q =>
        rw [hp] at hr
        obtain ⟨ts', hr⟩ := hr
        exact ⟨0, .inr ⟨ts', q, (hr.alloc _).alloc _, HR0.out.symm.trans (rest_first_bad hp)⟩⟩
      | ok a ts' =>
        rw [hp] at hr hq
        have hz := hr.len
        refine ⟨ts'.length + 1, .inl ⟨ts', (Rd.alloc (E := E) (w := w2) hr _).alloc _, Nat.lt_succ_self _, ?_, ?_⟩⟩
        · simp only [List.length_cons, List.length_nil]
          have := pConst_eats _ _ _ hp
          have := tail_len ts
          have := H.out.len
          omega
        · rw [← HR0.out, rest_first hp, hq _ _ rfl]
    obtain ⟨n0, hg⟩ := hg
    exact ⟨n0, (HM2.out.alloc _).alloc _, (HX2.out.alloc _).alloc _, by omega, _, _, hb3, ho, hg⟩
  obtain ⟨n0, hl0⟩ := hstart
  have HL0 := Lib.hid hl0
  clear hl0 HX2 HM2 HQ HR2 HSZ HR1
  go_wp2
  go_loopg [] n0 (fun gk wr => Hid (TestLoop E w (w2.heap.size + 1) R gk wr))
  case atStart => exact HL0
  case round =>
    obtain ⟨hmv, hc, hlow, v, l, hb3, ho, hg⟩ := hrel.out
    obtain ⟨ao, c, rfl, hd⟩ := ho.deep
    have HMV := Lib.hid hmv
    have HC := Lib.hid hc
    have HB3 := Lib.hid hb3
    have HO := Lib.hid ho
    have HD := Lib.hid hd
    have hlowb : w2.heap.size + 1 ≠ w.heap.size := by omega
    rcases hg with ⟨ts1, hr, hlen, hcnt, hR⟩ | ⟨ts1, q, hr, hR⟩
    · obtain ⟨c0, c1, c2, c3, c4, c5⟩ := six_boxR hr.box
      obtain ⟨gk, rfl⟩ : ∃ g, gk = g + 1 := ⟨gk - 1, by omega⟩
      have hI := is_any _ hr bTo
      cases hb : isB (headT ts1) bTo with
      | true =>
        rw [hb] at hI
        rw [rest_stop hb] at hR
        have hT := take_any _ hr bTo
        unfold pTake at hT
        rw [hb] at hT
        simp only [if_true, RdAt] at hT
        have HI := Lib.hid hI
        have HT := Lib.hid hT
        have HRR := Lib.hid hR
        clear hR hrel hmv hc hb3 ho hd hr hlen hcnt hI hT hb HL0
        unfold Env.ptr bTo at HI HT
        go_wp2_with (go_at_call 32; refine HI.out.mono ?_; rintro x w3 ⟨rfl, rfl⟩)
        refine HT.out.mono ?_
        rintro x w4 ⟨⟨_, rfl⟩, hm, hr⟩
        have HC4 := Lib.hid (hm.box HC.out (by have := HLO.out; omega) (by have := HLI.out; omega))
        obtain ⟨d0, d1, d2, d3, d4, d5⟩ := six_boxR (hm.box HB3.out (by have := HLO.out; omega) (by have := HLI.out; omega))
        have HM4 := Lib.hid (HMV.out.trans hm)
        have HD4 := Lib.hid (HD.out.same (hm.same fun b hb => ⟨by have := HLO.out; omega, by have := HLI.out; omega⟩))
        have HR4 := Lib.hid hr
        clear hm hr c0 c1 c2 c3 c4 c5
        go_wp2_with (refine wpList_box rfl 123 (.tmp 2) (.tmp 34) rfl w.heap.size 0 _ [.int .i64 8, .string ⟨#[]⟩, .int .i64 0, .string ⟨#[]⟩, .int .i64 0, .slice ao l.length c] rfl rfl rfl HC4.out Tryz.sz123 (by simp) (by simp [Value.oneCell']) _ rfl ?_; intro w5 B5 g5; have HB5 := Lib.hid B5; have HG5 := Lib.hid g5; clear B5 g5 d0 d1 d2 d3 d4 d5)
        obtain ⟨d0, d1, d2, d3, d4, d5⟩ := six_boxR HB5.out
        obtain ⟨q1, q2⟩ := sym_test HD4.out HG5.out
        exact bodyPost_ret (v := .agg #[.int .i64 8, .string ⟨#[]⟩, .int .i64 0, .string ⟨#[]⟩, .int .i64 0, .slice ao l.length c]) (by simp [results, Tryz.results113, go_sem, d0, d1, d2, d3, d4, d5]) rfl ⟨⟨⟨8, ⟨#[]⟩, nilSm, ao, l.length, c, l⟩, rfl, q1, q2, by intro a ts' e; rw [HRR.out] at e; cases e; rfl⟩, HM4.out.new HG5.out (Nat.le_refl _), by rw [HRR.out]; exact H.out.new HR4.out HG5.out (Nat.le_refl _)⟩
      | false =>
        rw [hb] at hI
        have hCC := fun W (b : Below wr.heap.size wr W) => rConst_any W (hr.below b)
        have HI := Lib.hid hI
        have HCC := Lib.hid hCC
        have hll : l.length ≤ 1000000 := by omega
        have hlt := hb3.lt
        obtain ⟨d0, d1, d2, d3, d4, d5⟩ := six_boxR hb3
        have HGO : Hid (∀ W s, (∀ a ts, pConst ts1 = .ok a ts → s = a) → RdAt E W (pConst ts1) → Goes E R pConst bTo (l ++ [s]) gk W) := Lib.hid fun W s hq hr => by
          cases hp : pConst ts1 with
          | bad q =>
            rw [hp] at hr
            obtain ⟨ts', hr⟩ := hr
            exact .inr ⟨ts', q, hr, hR.trans (rest_bad hb hp)⟩
          | ok a ts' =>
            rw [hp] at hr hq
            have := pConst_eats _ _ _ hp
            refine .inl ⟨ts', hr, by omega, by simp; omega, ?_⟩
            rw [hR, rest_next hb hp, hq _ _ rfl]
        obtain ⟨i0, hi, hz0, hz1, hz2⟩ := info_parts Tryz.info45
        have hrA : E.r < w.heap.size + 1 := by have := HLO.out; omega
        have hiA : E.ib < w.heap.size + 1 := by have := HLI.out; omega
        have hrB : w2.heap.size + 1 ≠ E.r := by have := HLO.out; omega
        have hiB : w2.heap.size + 1 ≠ E.ib := by have := HLI.out; omega
        clear hrel hmv hc hb3 ho hd hr hlen hcnt hI hb hCC hR HL0
        unfold Env.ptr bTo at HI
        unfold Env.ptr at HCC
        go_wp2_with (go_at_call 32; refine HI.out.mono ?_; rintro x w3 ⟨rfl, rfl⟩)
        go_region_law ((first
          | (go_simp; go_at_call 76; refine (HCC.out wr.drew (belowD wr)).mono ?_; rintro x w4 ⟨⟨⟨tk, tt, tn⟩, rfl, hs4, hq4⟩, hm4, hr4⟩; unfold Sm.val; dsimp only; have HM4 : Hid (Mv E wr w4) := Lib.hid (Mv.trans (Mv.of_below (belowD wr)) hm4); have HO4 := Lib.hid (HO.out.moved HM4.out hrA hiA); have HB4 := Lib.hid (HM4.out.box HB3.out hrB hiB); obtain ⟨f0, f1, f2, f3, f4, f5⟩ := six_boxR HB4.out; have hlt4 := HB4.out.lt; have HQ4 := Lib.hid hq4; have HR4 := Lib.hid hr4; have HZ4 := Lib.hid hs4; have hbase : w.heap.size + 1 ≤ w4.heap.size := Nat.le_trans hlow (Nat.le_of_lt hlt4); clear hm4 hr4 hq4 hs4)
          | (refine step_push (by rfl) (.tmp 26) (.tmp 29) 121 (by rfl) mkSym (w.heap.size + 1) 45 i0 _ 32 Tryz.underlying121 hi hz0 hz1 hz2 (by rfl) _ l ⟨tk, tt, tn⟩ (by rfl) HO4.out _ rfl (by rfl) (by rfl) (mkSym.one _) hll (by omega) hbase (fun _ => False) (Nat.le_trans HZ4.out (by decide)) trivial (fun _ h => h.elim) ?_; intro go' c' w5 ho5 hg5; have HB5 := Lib.hid (box_push HO4.out HB4.out hg5 (by decide)); obtain ⟨k0, k1, k2, k3, k4, k5⟩ := six_boxR HB5.out; have k6 := free_box HB5.out 5)))
        all_goals
          have HNX := Lib.hid (testLoop_next H.out hlow HMV.out HM4.out HC.out HO4.out HB5.out hg5 ho5 (HGO.out _ _ HQ4.out HR4.out))
          clear ho5 hg5 k0 k1 k2 k3 k4 k5 k6
          go_wp2
          go_roundg gk
          case rel => exact HNX
          case measure => omega
    · obtain ⟨c0, c1, c2, c3, c4, c5⟩ := six_boxR hr.box
      have HT := Lib.hid (take_err _ hr (by decide) bTo)
      have HRR := Lib.hid hR
      have HR := Lib.hid hr
      clear hR hrel hmv hc hb3 ho hd hr HL0
      unfold Env.ptr bTo at HT
      go_wp2_with fail
      refine HT.out.mono ?_
      rintro x w4 ⟨⟨_, rfl⟩, rfl⟩
      obtain ⟨d0, d1, d2, d3, d4, d5⟩ := six_boxR HB3.out
      clear c0 c1 c2 c3 c4 c5
      go_wp2_with (refine wpList_box rfl 123 (.tmp 2) (.tmp 34) rfl w.heap.size 0 _ [.int .i64 8, .string ⟨#[]⟩, .int .i64 0, .string ⟨#[]⟩, .int .i64 0, .slice ao l.length c] rfl rfl rfl HC.out Tryz.sz123 (by simp) (by simp [Value.oneCell']) _ rfl ?_; intro w5 B5 g5; have HB5 := Lib.hid B5; have HG5 := Lib.hid g5; clear B5 g5 d0 d1 d2 d3 d4 d5)
      obtain ⟨d0, d1, d2, d3, d4, d5⟩ := six_boxR HB5.out
      obtain ⟨q1, q2⟩ := sym_test HD.out HG5.out
      exact bodyPost_ret (v := .agg #[.int .i64 8, .string ⟨#[]⟩, .int .i64 0, .string ⟨#[]⟩, .int .i64 0, .slice ao l.length c]) (by simp [results, Tryz.results113, go_sem, d0, d1, d2, d3, d4, d5]) rfl ⟨⟨⟨8, ⟨#[]⟩, nilSm, ao, l.length, c, l⟩, rfl, q1, q2, by intro a ts' e; rw [HRR.out] at e; cases e⟩, HMV.out.new HG5.out (Nat.le_refl _), by rw [HRR.out]; exact ⟨_, H.out.new HR.out HG5.out (Nat.le_refl _)⟩⟩
end Go.Proofs.YtgeaccoobhigcaaGreat
namespace Go.Proofs.YtgeaccoobhigcaaGreat
open Go Go.RowKit
theorem one_test {k : Int} {a : Am} {w5 : World} {K : Nat → Prop} (ha : a.v.size ≤ 1000000 ∧ a.s.t.size ≤ 1000000) : TestR.Mem w5 ⟨k, a.v, a.s, none, 0, 0, []⟩ ∧ TestR.In K ⟨k, a.v, a.s, none, 0, 0, []⟩ :=
  ⟨⟨SlR.nil _ _, Nat.le_trans ha.1 (by decide), Nat.le_trans ha.2 (by decide), by simp⟩, InB.zero _⟩
theorem RdAt.alloc {α : Type} {E : Env} {w : World} {r : Rs α} (h : RdAt E w r) (o : Obj) : RdAt E (w.alloc o) r := by
  cases r with
  | bad p => obtain ⟨ts, h⟩ := h; exact ⟨ts, h.alloc o⟩
  | ok a ts => exact Rd.alloc (E := E) (w := w) h o
/-- What is made of what was read is read as far. -/
theorem RdAt.bind {α β : Type} {E : Env} {w : World} {r : Rs α} {f : α → List Tk → Rs β} (h : RdAt E w r) (hf : ∀ a t, ∃ b, f a t = .ok b t) : RdAt E w (r.bind f) := by
  cases r with
  | bad p => exact h
  | ok a ts => obtain ⟨b, e⟩ := hf a ts; show RdAt E w (f a ts); rw [e]; exact h
theorem Tryz.sz9 : (Tryz.prog.info? 9).map (·.size) = some 1 := by kernel_rfl
set_option maxRecDepth 100000 in
set_option maxHeartbeats 4000000 in
theorem testOne_any {E : Env} {ts : List Tk} (w : World) (h : Rd E w ts (-1) 0) (hb : isB (headT ts) bFrom = false) : Calls Tryz.prog 113 #[E.ptr] w fun x w' => TsIs w.heap.size w' (pTest ts) x ∧ Mv E w w' ∧ RdAt E w' (pTest ts) := by
  have hw := h.alloc (.cells #[.int .i64 0, .string ⟨#[]⟩, .int .i64 0, .string ⟨#[]⟩, .int .i64 0, .slice none 0 0] 123)
  have hw0 := hw.alloc (.cells #[.int .i64 1, .string ⟨#[]⟩, .int .i64 0, .string ⟨#[]⟩, .int .i64 0, .slice none 0 0] 123)
  have hI := is_any _ hw bFrom
  rw [hb] at hI
  have HI := Lib.hid hI
  have HREL := Lib.hid (rRel_any (textB (headT ts)))
  have HX : Hid (BoxC ((w.alloc (.cells #[.int .i64 0, .string ⟨#[]⟩, .int .i64 0, .string ⟨#[]⟩, .int .i64 0, .slice none 0 0] 123)).alloc (.cells #[.int .i64 1, .string ⟨#[]⟩, .int .i64 0, .string ⟨#[]⟩, .int .i64 0, .slice none 0 0] 123)) w.heap.size 123 [.int .i64 0, .string ⟨#[]⟩, .int .i64 0, .string ⟨#[]⟩, .int .i64 0, .slice none 0 0]) := Lib.hid ((BoxC.new w _ 123).alloc _)
  have HY : Hid (BoxC ((w.alloc (.cells #[.int .i64 0, .string ⟨#[]⟩, .int .i64 0, .string ⟨#[]⟩, .int .i64 0, .slice none 0 0] 123)).alloc (.cells #[.int .i64 1, .string ⟨#[]⟩, .int .i64 0, .string ⟨#[]⟩, .int .i64 0, .slice none 0 0] 123)) (w.heap.size + 1) 123 [.int .i64 1, .string ⟨#[]⟩, .int .i64 0, .string ⟨#[]⟩, .int .i64 0, .slice none 0 0]) := Lib.hid (BoxC.new_at' (by simp))
  have HM0 : Hid (Mv E w ((w.alloc (.cells #[.int .i64 0, .string ⟨#[]⟩, .int .i64 0, .string ⟨#[]⟩, .int .i64 0, .slice none 0 0] 123)).alloc (.cells #[.int .i64 1, .string ⟨#[]⟩, .int .i64 0, .string ⟨#[]⟩, .int .i64 0, .slice none 0 0] 123))) := Lib.hid (((Mv.refl E w).alloc _).alloc _)
  have HLO := Lib.hid (h.lows E.r (.inl rfl))
  have HLI := Lib.hid (h.lows E.ib (.inr (.inr (.inl rfl))))
  have H := Lib.hid h
  have HW0 := Lib.hid hw0
  obtain ⟨c0, c1, c2, c3, c4, c5⟩ := six_boxR hw0.box
  rw [textB_list] at HREL
  unfold pTest
  rw [hb]
  simp only [Bool.false_eq_true, if_false]
  cases hrel : relHere (headT ts) with
  | true =>
    simp only [if_true]
    obtain ⟨hk4, hrn⟩ : (headT ts).kind = 4 ∧ 0 < relN (headT ts).text := by simpa [relHere] using hrel
    have e4 : (((headT ts).kind : Int) == 4) = true := by simp [hk4]
    have hst : ∀ W, Rd E W ts (-1) 0 → Calls Tryz.prog 28 #[E.ptr] W fun x w' => (∃ v, x = .returned v) ∧ Mv E W w' ∧ Rd E w' ts.tail (-1) 0 := fun W hW => step_any W hW ⟨by omega, by omega⟩
    have HST := Lib.hid hst
    obtain ⟨R, hR0⟩ : ∃ R, pAtom ts.tail = R := ⟨_, rfl⟩
    rw [hR0]
    have HR0 := Lib.hid hR0
    generalize relN (headT ts).text = kk at *
    generalize textB (headT ts) = T at *
    clear hrel hk4 hw hw0 hI h hb hR0 hst
    unfold Env.ptr bFrom at *
    go_enter Tryz.func113, Tryz.ntmps113
    go_wp2_with (first | (go_at_call 32; refine HI.out.mono ?_; rintro x w1 ⟨rfl, rfl⟩) | (go_at_call 114; refine (HREL.out _).mono ?_; rintro x w1 ⟨rfl, rfl⟩) | (refine wpList_box rfl 3 (.tmp 53) (.tmp 52) rfl (w.heap.size + 1) 0 _ [.int .i64 kk] rfl rfl rfl HY.out Tryz.sz3 (by simp) (by simp [Value.oneCell']) _ rfl ?_; intro w2 B2 g2; have HY2 := Lib.hid B2; have HX2 := Lib.hid (HX.out.grown g2 (by simp)); have HM2 := Lib.hid (HM0.out.new g2 (by omega)); have HR2 := Lib.hid (H.out.new HW0.out g2 (by omega)); clear B2 g2 c0 c1 c2 c3 c4 c5))
    refine (HST.out _ HR2.out).mono ?_
    rintro x w3 ⟨⟨_, rfl⟩, hm, hr⟩
    have HX3 := Lib.hid (hm.box HX2.out (by have := HLO.out; omega) (by have := HLI.out; omega))
    have HY3 := Lib.hid (hm.box HY2.out (by have := HLO.out; omega) (by have := HLI.out; omega))
    have HM3 := Lib.hid (HM2.out.trans hm)
    have HR3 := Lib.hid (readAtom_any w3 hr)
    clear hm hr HX2 HY2 HM2
    rw [HR0.out] at HR3
    unfold Env.ptr at HR3
    go_wp2_with fail
    refine HR3.out.mono ?_
    rintro x w4 ⟨⟨⟨av, ak, at_, an⟩, rfl, hs, hq⟩, hm, hr⟩
    have HX4 := Lib.hid ((hm.box HX3.out (by have := HLO.out; omega) (by have := HLI.out; omega)).alloc (.cells #[.string av, .int .i64 ak, .string at_, .int .i64 an] 47))
    have HY4 := Lib.hid ((hm.box HY3.out (by have := HLO.out; omega) (by have := HLI.out; omega)).alloc (.cells #[.string av, .int .i64 ak, .string at_, .int .i64 an] 47))
    have HM4 := Lib.hid ((HM3.out.trans hm).alloc (.cells #[.string av, .int .i64 ak, .string at_, .int .i64 an] 47))
    have HR4 := Lib.hid (RdAt.alloc hr (.cells #[.string av, .int .i64 ak, .string at_, .int .i64 an] 47))
    have HT4 : Hid (BoxC (w4.alloc (.cells #[.string av, .int .i64 ak, .string at_, .int .i64 an] 47)) w4.heap.size 47 [.string av, .int .i64 ak, .string at_, .int .i64 an]) := Lib.hid (BoxC.new w4 _ 47)
    have HSZ := Lib.hid hs
    have HQ := Lib.hid hq
    have hlt4 : w.heap.size + 1 < w4.heap.size := by have := HY4.out.lt; have := (hm.box HY3.out (by have := HLO.out; omega) (by have := HLI.out; omega)).lt; omega
    clear hm hr hs hq HX3 HY3 HM3 HR3
    unfold Am.val
    simp only
    go_wp2_with (first | (refine wpList_box rfl 9 (.tmp 60) (.tmp 59) rfl (w.heap.size + 1) 1 _ [.string av] rfl rfl rfl HY4.out Tryz.sz9 (by simp) (by simp [Value.oneCell']) _ rfl ?_; intro w5 B5 g5; have HY5 := Lib.hid B5; have HX5 := Lib.hid (HX4.out.grown g5 (by simp)); have HM5 := Lib.hid (HM4.out.new g5 (by omega)); have HR5 := Lib.hid (RdAt.new H.out HR4.out g5 (by omega)); obtain ⟨t0, t1, t2, t3⟩ := four_boxR (HT4.out.grown g5 (by simp; omega)); clear B5 g5) | (refine wpList_box rfl 45 (.tmp 63) (.tmp 62) rfl (w.heap.size + 1) 2 _ [.int .i64 ak, .string at_, .int .i64 an] rfl rfl rfl HY5.out Tryz.sz45 (by simp) (by simp [Value.oneCell']) _ rfl ?_; intro w6 B6 g6; have HX6 := Lib.hid (HX5.out.grown g6 (by simp)); have HM6 := Lib.hid (HM5.out.new g6 (by omega)); have HR6 := Lib.hid (RdAt.new H.out HR5.out g6 (by omega)); obtain ⟨f0, f1, f2, f3, f4, f5⟩ := six_boxR B6; clear B6 g6 t0 t1 t2 t3) | (refine wpList_box rfl 123 (.tmp 2) (.tmp 64) rfl w.heap.size 0 _ [.int .i64 kk, .string av, .int .i64 ak, .string at_, .int .i64 an, .slice none 0 0] rfl rfl rfl HX6.out Tryz.sz123 (by simp) (by simp [Value.oneCell']) _ rfl ?_; intro w7 B7 g7; have HB7 := Lib.hid B7; have HG7 := Lib.hid g7; clear B7 g7 f0 f1 f2 f3 f4 f5))
    obtain ⟨d0, d1, d2, d3, d4, d5⟩ := six_boxR HB7.out
    obtain ⟨q1, q2⟩ := one_test (k := kk) (a := ⟨av, ak, at_, an⟩) (w5 := w7) (K := fun b => w.heap.size ≤ b) HSZ.out
    refine bodyPost_ret (v := .agg #[.int .i64 kk, .string av, .int .i64 ak, .string at_, .int .i64 an, .slice none 0 0]) (by simp [results, Tryz.results113, go_sem, d0, d1, d2, d3, d4, d5]) rfl ⟨⟨⟨kk, av, ⟨ak, at_, an⟩, none, 0, 0, []⟩, rfl, q1, q2, ?_⟩, HM6.out.new HG7.out (by omega), RdAt.bind (RdAt.new H.out HR6.out HG7.out (by omega)) ?_⟩
    · intro a ts' e
      obtain ⟨b, t, h1, h2⟩ := bind_ok.1 e
      cases h2
      rw [← HQ.out _ _ h1]
      rfl
    · intro a t
      exact ⟨_, rfl⟩
  | false =>
    simp only [Bool.false_eq_true, if_false]
    obtain ⟨R, hR0⟩ : ∃ R, pAtom ts = R := ⟨_, rfl⟩
    have HR3 := Lib.hid (readAtom_any _ hw0)
    rw [hR0] at HR3 ⊢
    have HX3 := HX
    have HY3 := HY
    have HM3 := HM0
    by_cases hk4 : (headT ts).kind = 4
    · have e4 : (((headT ts).kind : Int) == 4) = true := by simp [hk4]
      have hrn : ¬ 0 < relN (headT ts).text := by simpa [relHere, hk4] using hrel
      generalize relN (headT ts).text = kk at *
      generalize textB (headT ts) = T at *
      clear hrel hk4 hw hw0 hI h hb hR0
      unfold Env.ptr bFrom at *
      go_enter Tryz.func113, Tryz.ntmps113
      go_wp2_with (first | (go_at_call 32; refine HI.out.mono ?_; rintro x w1 ⟨rfl, rfl⟩) | (go_at_call 114; refine (HREL.out _).mono ?_; rintro x w1 ⟨rfl, rfl⟩))
      refine HR3.out.mono ?_
      rintro x w4 ⟨⟨⟨av, ak, at_, an⟩, rfl, hs, hq⟩, hm, hr⟩
      have HX4 := Lib.hid ((hm.box HX3.out (by have := HLO.out; omega) (by have := HLI.out; omega)).alloc (.cells #[.string av, .int .i64 ak, .string at_, .int .i64 an] 47))
      have HY4 := Lib.hid ((hm.box HY3.out (by have := HLO.out; omega) (by have := HLI.out; omega)).alloc (.cells #[.string av, .int .i64 ak, .string at_, .int .i64 an] 47))
      have HM4 := Lib.hid ((HM3.out.trans hm).alloc (.cells #[.string av, .int .i64 ak, .string at_, .int .i64 an] 47))
      have HR4 := Lib.hid (RdAt.alloc hr (.cells #[.string av, .int .i64 ak, .string at_, .int .i64 an] 47))
      have HT4 : Hid (BoxC (w4.alloc (.cells #[.string av, .int .i64 ak, .string at_, .int .i64 an] 47)) w4.heap.size 47 [.string av, .int .i64 ak, .string at_, .int .i64 an]) := Lib.hid (BoxC.new w4 _ 47)
      have HSZ := Lib.hid hs
      have HQ := Lib.hid hq
      have hlt4 : w.heap.size + 1 < w4.heap.size := by have := HY4.out.lt; have := (hm.box HY3.out (by have := HLO.out; omega) (by have := HLI.out; omega)).lt; omega
      clear hm hr hs hq HX3 HY3 HM3 HR3
      unfold Am.val
      simp only
      go_wp2_with (first | (refine wpList_box rfl 9 (.tmp 60) (.tmp 59) rfl (w.heap.size + 1) 1 _ [.string av] rfl rfl rfl HY4.out Tryz.sz9 (by simp) (by simp [Value.oneCell']) _ rfl ?_; intro w5 B5 g5; have HY5 := Lib.hid B5; have HX5 := Lib.hid (HX4.out.grown g5 (by simp)); have HM5 := Lib.hid (HM4.out.new g5 (by omega)); have HR5 := Lib.hid (RdAt.new H.out HR4.out g5 (by omega)); obtain ⟨t0, t1, t2, t3⟩ := four_boxR (HT4.out.grown g5 (by simp; omega)); clear B5 g5) | (refine wpList_box rfl 45 (.tmp 63) (.tmp 62) rfl (w.heap.size + 1) 2 _ [.int .i64 ak, .string at_, .int .i64 an] rfl rfl rfl HY5.out Tryz.sz45 (by simp) (by simp [Value.oneCell']) _ rfl ?_; intro w6 B6 g6; have HX6 := Lib.hid (HX5.out.grown g6 (by simp)); have HM6 := Lib.hid (HM5.out.new g6 (by omega)); have HR6 := Lib.hid (RdAt.new H.out HR5.out g6 (by omega)); obtain ⟨f0, f1, f2, f3, f4, f5⟩ := six_boxR B6; clear B6 g6 t0 t1 t2 t3) | (refine wpList_box rfl 123 (.tmp 2) (.tmp 64) rfl w.heap.size 0 _ [.int .i64 1, .string av, .int .i64 ak, .string at_, .int .i64 an, .slice none 0 0] rfl rfl rfl HX6.out Tryz.sz123 (by simp) (by simp [Value.oneCell']) _ rfl ?_; intro w7 B7 g7; have HB7 := Lib.hid B7; have HG7 := Lib.hid g7; clear B7 g7 f0 f1 f2 f3 f4 f5))
      obtain ⟨d0, d1, d2, d3, d4, d5⟩ := six_boxR HB7.out
      obtain ⟨q1, q2⟩ := one_test (k := 1) (a := ⟨av, ak, at_, an⟩) (w5 := w7) (K := fun b => w.heap.size ≤ b) HSZ.out
      refine bodyPost_ret (v := .agg #[.int .i64 1, .string av, .int .i64 ak, .string at_, .int .i64 an, .slice none 0 0]) (by simp [results, Tryz.results113, go_sem, d0, d1, d2, d3, d4, d5]) rfl ⟨⟨⟨1, av, ⟨ak, at_, an⟩, none, 0, 0, []⟩, rfl, q1, q2, ?_⟩, HM6.out.new HG7.out (by omega), RdAt.bind (RdAt.new H.out HR6.out HG7.out (by omega)) ?_⟩
      · intro a ts' e
        obtain ⟨b, t, h1, h2⟩ := bind_ok.1 e
        cases h2
        rw [← HQ.out _ _ h1]
        rfl
      · intro a t
        exact ⟨_, rfl⟩
    · have e4 : (((headT ts).kind : Int) == 4) = false := by simp; omega
      generalize relN (headT ts).text = kk at *
      generalize textB (headT ts) = T at *
      clear hrel hk4 hw hw0 hI h hb hR0
      unfold Env.ptr bFrom at *
      go_enter Tryz.func113, Tryz.ntmps113
      go_wp2_with (first | (go_at_call 32; refine HI.out.mono ?_; rintro x w1 ⟨rfl, rfl⟩) | (go_at_call 114; refine (HREL.out _).mono ?_; rintro x w1 ⟨rfl, rfl⟩))
      refine HR3.out.mono ?_
      rintro x w4 ⟨⟨⟨av, ak, at_, an⟩, rfl, hs, hq⟩, hm, hr⟩
      have HX4 := Lib.hid ((hm.box HX3.out (by have := HLO.out; omega) (by have := HLI.out; omega)).alloc (.cells #[.string av, .int .i64 ak, .string at_, .int .i64 an] 47))
      have HY4 := Lib.hid ((hm.box HY3.out (by have := HLO.out; omega) (by have := HLI.out; omega)).alloc (.cells #[.string av, .int .i64 ak, .string at_, .int .i64 an] 47))
      have HM4 := Lib.hid ((HM3.out.trans hm).alloc (.cells #[.string av, .int .i64 ak, .string at_, .int .i64 an] 47))
      have HR4 := Lib.hid (RdAt.alloc hr (.cells #[.string av, .int .i64 ak, .string at_, .int .i64 an] 47))
      have HT4 : Hid (BoxC (w4.alloc (.cells #[.string av, .int .i64 ak, .string at_, .int .i64 an] 47)) w4.heap.size 47 [.string av, .int .i64 ak, .string at_, .int .i64 an]) := Lib.hid (BoxC.new w4 _ 47)
      have HSZ := Lib.hid hs
      have HQ := Lib.hid hq
      have hlt4 : w.heap.size + 1 < w4.heap.size := by have := HY4.out.lt; have := (hm.box HY3.out (by have := HLO.out; omega) (by have := HLI.out; omega)).lt; omega
      clear hm hr hs hq HX3 HY3 HM3 HR3
      unfold Am.val
      simp only
      go_wp2_with (first | (refine wpList_box rfl 9 (.tmp 60) (.tmp 59) rfl (w.heap.size + 1) 1 _ [.string av] rfl rfl rfl HY4.out Tryz.sz9 (by simp) (by simp [Value.oneCell']) _ rfl ?_; intro w5 B5 g5; have HY5 := Lib.hid B5; have HX5 := Lib.hid (HX4.out.grown g5 (by simp)); have HM5 := Lib.hid (HM4.out.new g5 (by omega)); have HR5 := Lib.hid (RdAt.new H.out HR4.out g5 (by omega)); obtain ⟨t0, t1, t2, t3⟩ := four_boxR (HT4.out.grown g5 (by simp; omega)); clear B5 g5) | (refine wpList_box rfl 45 (.tmp 63) (.tmp 62) rfl (w.heap.size + 1) 2 _ [.int .i64 ak, .string at_, .int .i64 an] rfl rfl rfl HY5.out Tryz.sz45 (by simp) (by simp [Value.oneCell']) _ rfl ?_; intro w6 B6 g6; have HX6 := Lib.hid (HX5.out.grown g6 (by simp)); have HM6 := Lib.hid (HM5.out.new g6 (by omega)); have HR6 := Lib.hid (RdAt.new H.out HR5.out g6 (by omega)); obtain ⟨f0, f1, f2, f3, f4, f5⟩ := six_boxR B6; clear B6 g6 t0 t1 t2 t3) | (refine wpList_box rfl 123 (.tmp 2) (.tmp 64) rfl w.heap.size 0 _ [.int .i64 1, .string av, .int .i64 ak, .string at_, .int .i64 an, .slice none 0 0] rfl rfl rfl HX6.out Tryz.sz123 (by simp) (by simp [Value.oneCell']) _ rfl ?_; intro w7 B7 g7; have HB7 := Lib.hid B7; have HG7 := Lib.hid g7; clear B7 g7 f0 f1 f2 f3 f4 f5))
      obtain ⟨d0, d1, d2, d3, d4, d5⟩ := six_boxR HB7.out
      obtain ⟨q1, q2⟩ := one_test (k := 1) (a := ⟨av, ak, at_, an⟩) (w5 := w7) (K := fun b => w.heap.size ≤ b) HSZ.out
      refine bodyPost_ret (v := .agg #[.int .i64 1, .string av, .int .i64 ak, .string at_, .int .i64 an, .slice none 0 0]) (by simp [results, Tryz.results113, go_sem, d0, d1, d2, d3, d4, d5]) rfl ⟨⟨⟨1, av, ⟨ak, at_, an⟩, none, 0, 0, []⟩, rfl, q1, q2, ?_⟩, HM6.out.new HG7.out (by omega), RdAt.bind (RdAt.new H.out HR6.out HG7.out (by omega)) ?_⟩
      · intro a ts' e
        obtain ⟨b, t, h1, h2⟩ := bind_ok.1 e
        cases h2
        rw [← HQ.out _ _ h1]
        rfl
      · intro a t
        exact ⟨_, rfl⟩
theorem test_any {E : Env} {ts : List Tk} (w : World) (h : Rd E w ts (-1) 0) : Calls Tryz.prog 113 #[E.ptr] w fun x w' => TsIs w.heap.size w' (pTest ts) x ∧ Mv E w w' ∧ RdAt E w' (pTest ts) := by
  cases hb : isB (headT ts) bFrom with
  | true => exact testFrom_any w h hb
  | false => exact testOne_any w h hb
end Go.Proofs.YtgeaccoobhigcaaGreat
namespace Go.Proofs.YtgeaccoobhigcaaGreat
open Go Go.RowKit
/-- A list comes back; where it goes wrong, some list. -/
def ListIs {α β : Type} (M : Make α) (abs : α → β) (base : Nat) (w' : World) (r : Rs (List β)) (x : Ending) : Prop :=
  ∃ (ao : Option Addr) (n c : Nat) (l : List α), x = .returned (.slice ao n c) ∧ Deep M (fun b => base ≤ b) w' ao n c l ∧ n ≤ 1000001 ∧ ∀ a ts, r = .ok a ts → l.map abs = a
/-- A list that is being read. -/
structure Grows {α β : Type} (M : Make α) (e : TypeId) (abs : α → β) (E : Env) (w : World) (R : Rs (List β)) (p : Pr β) (stop : ByteArray) (v : Value) (l : List α) (n : Nat) (wr : World) : Prop where
  own : OwnD M w.heap.size e wr v l
  mv : Mv E w wr
  goes : Goes E R p stop (l.map abs) n wr
  len : l.length ≤ 1000001
section
variable {α β : Type} {M : Make α} {e : TypeId} {abs : α → β} {E : Env} {w : World} {R : Rs (List β)} {p : Pr β} {stop : ByteArray} {v : Value} {l : List α} {n : Nat} {wr : World}
theorem Grows.deep (h : Grows M e abs E w R p stop v l n wr) : ∃ ao c, v = .slice ao l.length c ∧ Deep M (fun b => w.heap.size ≤ b) wr ao l.length c l := h.own.deep
/-- The first one has been read. -/
theorem Grows.first {ts : List Tk} {u : α} {w2 : World} {tmp : Array Value} (hm : Mv E w w2) (htmp : tmp.toList = M.cells u) (hu : M.ok w2 u) (hk : M.inK (fun b => w.heap.size ≤ b) u) (hts : ts.length ≤ 1000000) (he : Eats p)
    (hr : RdAt E w2 (p ts)) (hq : ∀ a t, p ts = .ok a t → abs u = a) : ∃ n, Grows M e abs E w (pEnds p stop ts) p stop (.slice (some ⟨w2.heap.size, 0, none⟩) 1 1) [u] n (w2.alloc (.cells tmp e)) := by
  have hg : ∃ n, Goes E (pEnds p stop ts) p stop ([u].map abs) n (w2.alloc (.cells tmp e)) := by
    cases hp : p ts with
    | bad q =>
      rw [hp] at hr
      obtain ⟨ts', hr⟩ := hr
      exact ⟨0, .inr ⟨ts', q, hr.alloc _, rest_first_bad hp⟩⟩
    | ok a ts' =>
      rw [hp] at hr hq
      have := he _ _ _ hp
      refine ⟨ts'.length + 1, .inl ⟨ts', Rd.alloc (E := E) (w := w2) hr _, Nat.lt_succ_self _, by simp; omega, ?_⟩⟩
      rw [rest_first hp, ← hq _ _ rfl]
      rfl
  obtain ⟨n, hg⟩ := hg
  exact ⟨n, OwnD.one M e u htmp hm.size hu hk, hm.alloc _, hg, by simp⟩
/-- One more has been read: the world ahead of the append. -/
theorem Grows.more {ts : List Tk} {u : α} {w0 w' : World} {v' : Value} (h : Grows M e abs E w R p stop v l (n + 1) wr) (lows : ∀ b, E.Blk b → b < w.heap.size) (hlen : ts.length < n + 1) (hcnt : (l.map abs).length + ts.length ≤ 1000000) (hR : R = rest p stop (n + 1) (l.map abs) ts)
    (hb : isB (headT ts) stop = false) (he : Eats p) (hm : Mv E wr w0) (hr : RdAt E w0 (p ts)) (hq : ∀ a t, p ts = .ok a t → abs u = a)
    (ho : OwnD M w.heap.size e w' v' (l ++ [u])) (hg : w0.grownBy w' v.ownBlock) : Grows M e abs E w R p stop v' (l ++ [u]) n w' := by
  have hown : ∀ b, v.ownBlock = some b → w.heap.size ≤ b := fun b e => (h.own.own.lt b e).1
  have hnb : ∀ b, v.ownBlock = some b → ¬ E.Blk b := fun b hb hc => by have := hown b hb; have := lows b hc; omega
  refine ⟨ho, (h.mv.trans hm).grown hg fun b e => .inr (.inr (hown b e)), Goes.kept ?_ hg hnb, ?_⟩
  · cases hp : p ts with
    | bad q =>
      rw [hp] at hr
      obtain ⟨ts', hr⟩ := hr
      exact .inr ⟨ts', q, hr, hR.trans (rest_bad hb hp)⟩
    | ok a ts' =>
      rw [hp] at hr hq
      have := he _ _ _ hp
      refine .inl ⟨ts', hr, by omega, by simp at hcnt ⊢; omega, ?_⟩
      rw [hR, rest_next hb hp, ← hq _ _ rfl, List.map_append]
      rfl
  · simp at hcnt ⊢
    omega
theorem wpList_push3 {P : Program} {ops : Array Oper} {rest : List Oper} {o : Oper} {a : Act} {Q : Exit → Act → World → Prop} (hgd : o.guard = none) (s x : Operand) (t : TypeId)
    (ho : o.op = .call { callee := .builtin .append, args := #[s, x], argTypes := #[t, t] })
    (M : Make α) (e : TypeId) (i : TypeInfo) (z : Value) (bytes : Nat) (ht : P.underlying t = some (.slice e)) (hi : P.info? e = some i) (hz : i.zero = some z)
    (hsize : i.size = M.size) (hby : i.bytes = bytes) (hzs : z.cells.size = M.size) (hbytes : bytes ≤ 1000) {E : Env} {w wr w0 : World} {tmp : Array Value}
    (v : Value) (l : List α) (u : α) (hs : a.eval s = v) (hown : OwnD M w.heap.size e wr v l) (hm : Mv E w wr) (hm2 : Mv E wr w0) (hr : E.r < w.heap.size) (hib : E.ib < w.heap.size) (hu : M.ok w0 u) (huK : M.inK (fun b => wr.heap.size ≤ b) u) (hln : l.length ≤ 1000000) (ad : Nat) (had : ad = w0.heap.size)
    (hx : a.eval x = .slice (some ⟨ad, 0, none⟩) 1 1) (htmp : tmp.toList = M.cells u)
    (h : ∀ go c w', OwnD M w.heap.size e w' (.slice (some go) (l.length + 1) c) (l ++ [u]) → w0.grownBy w' v.ownBlock → wpList P ops Q rest (a.put o.dst (.slice (some go) (l.length + 1) c)) w') : wpList P ops Q (o :: rest) a (w0.alloc (.cells tmp e)) :=
  wpList_push hgd s x t ho M w.heap.size e i z bytes ht hi hz hsize hby hzs v l u hs (hown.moved hm2 hr hib) ad had hx htmp (M.one u) hln hbytes (Nat.le_trans hm.size hm2.size) _ hu huK
    (fun b hK _ => ⟨Nat.le_trans hm.size hK, fun e => by have := (hown.own.lt b e.symm).2; omega⟩) h
end
set_option maxRecDepth 100000 in
set_option maxHeartbeats 2000000 in
theorem field_any {E : Env} {ts : List Tk} (w : World) (h : Rd E w ts (-1) 0) : Calls Tryz.prog 98 #[E.ptr] w fun x w' => ListIs mkTest TestR.abs w.heap.size w' (pField ts) x ∧ Mv E w w' ∧ RdAt E w' (pField ts) := by
  have hI := is_any _ h bLeft
  have HLO := Lib.hid (h.lows E.r (.inl rfl))
  have HLI := Lib.hid (h.lows E.ib (.inr (.inr (.inl rfl))))
  have HLW := Lib.hid h.lows
  have H := Lib.hid h
  unfold pField
  cases hb : isB (headT ts) bLeft with
  | false =>
    rw [hb] at hI
    simp only [Bool.false_eq_true, if_false]
    have HI := Lib.hid hI
    have HT := Lib.hid (test_any w h)
    obtain ⟨R, hR0⟩ : ∃ R, pTest ts = R := ⟨_, rfl⟩
    rw [hR0] at HT ⊢
    clear hI hb hR0 h
    unfold Env.ptr bLeft at *
    go_enter Tryz.func98, Tryz.ntmps98
    go_wp2_with (go_at_call 32; refine HI.out.mono ?_; rintro x w1 ⟨rfl, rfl⟩)
    refine HT.out.mono ?_
    rintro x w2 ⟨⟨⟨rel, v, ⟨sk, st, sn⟩, la, ln, lc, list⟩, rfl, hmem, hin, hq⟩, hm, hr⟩
    have HO : Hid (OwnD mkTest w.heap.size 123 (w2.alloc (.cells #[.int .i64 rel, .string v, .int .i64 sk, .string st, .int .i64 sn, .slice la ln lc] 123)) (.slice (some ⟨w2.heap.size, 0, none⟩) 1 1) [⟨rel, v, ⟨sk, st, sn⟩, la, ln, lc, list⟩]) := Lib.hid (OwnD.one mkTest 123 (u := (⟨rel, v, ⟨sk, st, sn⟩, la, ln, lc, list⟩ : TestR)) rfl hm.size hmem hin)
    have HM := Lib.hid (hm.alloc (.cells #[.int .i64 rel, .string v, .int .i64 sk, .string st, .int .i64 sn, .slice la ln lc] 123))
    have HR := Lib.hid (RdAt.alloc hr (.cells #[.int .i64 rel, .string v, .int .i64 sk, .string st, .int .i64 sn, .slice la ln lc] 123))
    have HQ := Lib.hid hq
    clear hmem hin hq hm hr
    unfold TestR.val
    simp only
    go_wp2
    go_ret
    obtain ⟨ao, c, hv, hd⟩ := HO.out.deep
    refine ⟨⟨_, _, _, _, ret_val hv, hd, by simp, ?_⟩, HM.out, RdAt.bind HR.out fun a t => ⟨_, rfl⟩⟩
    intro a t e
    obtain ⟨b, t2, h1, h2⟩ := bind_ok.1 e
    cases h2
    rw [← HQ.out _ _ h1]
    rfl
  | true =>
    have hk := isB_kind hb
    rw [hb] at hI
    simp only [if_true]
    have HI := Lib.hid hI
    have HS := Lib.hid (step_any w h ⟨by omega, by omega⟩)
    obtain ⟨R, hR0⟩ : ∃ R, pEnds pTest bRight ts.tail = R := ⟨_, rfl⟩
    rw [hR0]
    have HR0 := Lib.hid hR0
    obtain ⟨i0, hi, hz0, hz1, hz2⟩ := info_parts Tryz.info123
    clear hI hb hR0 hk h
    unfold Env.ptr bLeft bRight at *
    go_enter Tryz.func98, Tryz.ntmps98
    go_wp2_with (first | (go_at_call 32; refine HI.out.mono ?_; rintro x w1 ⟨rfl, rfl⟩) | (go_at_call 28; refine HS.out.mono ?_; rintro x w1 ⟨⟨v, rfl⟩, hm1, hr1⟩))
    have HT := Lib.hid (test_any w1 hr1)
    have HM1 := Lib.hid hm1
    have HLEN := Lib.hid hr1.len
    clear hm1 hr1 HI HS
    unfold Env.ptr at HT
    refine HT.out.mono ?_
    rintro x w2 ⟨⟨⟨rel, nm, ⟨sk, st, sn⟩, la, ln, lc, list⟩, rfl, hmem, hin, hq⟩, hm, hr⟩
    have hg := Grows.first (M := mkTest) (e := 123) (abs := TestR.abs) (E := E) (w := w) (p := pTest) (stop := ⟨#[125]⟩) (ts := ts.tail) (u := (⟨rel, nm, ⟨sk, st, sn⟩, la, ln, lc, list⟩ : TestR)) (tmp := #[.int .i64 rel, .string nm, .int .i64 sk, .string st, .int .i64 sn, .slice la ln lc]) (HM1.out.trans hm) rfl hmem (TestR.In.mono hin fun b hb => Nat.le_trans HM1.out.size hb) HLEN.out pTest_eats hr hq
    rw [HR0.out] at hg
    obtain ⟨n0, hg⟩ := hg
    have HG := Lib.hid hg
    clear hg hmem hin hq hm hr HT HM1 HLEN
    unfold TestR.val
    simp only
    go_wp2
    go_loopg [3] n0 (fun gk v wr => ∃ l : List TestR, Hid (Grows mkTest 123 TestR.abs E w R pTest ⟨#[125]⟩ v l gk wr)) 
    case atStart => exact ⟨_, HG⟩
    case round =>
      clear HG
      obtain ⟨l, HG⟩ := hrel
      obtain ⟨ao, c, rfl, hd⟩ := HG.out.deep
      rcases HG.out.goes with ⟨ts1, hr, hlen, hcnt, hR⟩ | ⟨ts1, q, hr, hR⟩
      · obtain ⟨c0, c1, c2, c3, c4, c5⟩ := six_boxR hr.box
        obtain ⟨gk, rfl⟩ : ∃ g, gk = g + 1 := ⟨gk - 1, by omega⟩
        have hI := is_any _ hr ⟨#[125]⟩
        cases hb : isB (headT ts1) ⟨#[125]⟩ with
        | true =>
          rw [hb] at hI
          rw [rest_stop hb] at hR
          have hT := take_any _ hr ⟨#[125]⟩
          unfold pTake at hT
          rw [hb] at hT
          simp only [if_true, RdAt] at hT
          have HI := Lib.hid hI
          have HT := Lib.hid hT
          have HRR := Lib.hid hR
          have HD := Lib.hid hd
          have hll : l.length ≤ 1000001 := HG.out.len
          clear hR hr hlen hcnt hI hT hb hd
          unfold Env.ptr at HI HT
          go_wp2_with (go_at_call 32; refine HI.out.mono ?_; rintro x w3 ⟨rfl, rfl⟩)
          refine HT.out.mono ?_
          rintro x w4 ⟨⟨_, rfl⟩, hm, hr⟩
          have HD4 := Lib.hid (HD.out.same (hm.same fun b hb => ⟨by have := HLO.out; omega, by have := HLI.out; omega⟩))
          have HM4 := Lib.hid (HG.out.mv.trans hm)
          have HR4 := Lib.hid hr
          clear hm hr c0 c1 c2 c3 c4 c5
          go_wp2
          go_ret
          exact ⟨⟨_, _, _, _, rfl, HD4.out, hll, by intro a t e; rw [HRR.out] at e; cases e; rfl⟩, HM4.out, by rw [HRR.out]; exact HR4.out⟩
        | false =>
          rw [hb] at hI
          have HT := Lib.hid (test_any wr hr)
          have HI := Lib.hid hI
          have HMR := Lib.hid (fun u w0 w' v' => Grows.more (u := u) (w0 := w0) (w' := w') (v' := v') HG.out HLW.out hlen hcnt hR hb pTest_eats)
          have hll : l.length ≤ 1000000 := by simp at hcnt; omega
          clear hR hr hlen hcnt hI hb hd
          unfold Env.ptr at HI HT
          go_wp2_with (go_at_call 32; refine HI.out.mono ?_; rintro x w3 ⟨rfl, rfl⟩)
          refine HT.out.mono ?_
          rintro x w4 ⟨⟨⟨rel', nm', ⟨sk', st', sn'⟩, la', ln', lc', list'⟩, rfl, hmem, hin, hq⟩, hm, hr⟩
          have HM := Lib.hid hm
          have HMEM := Lib.hid hmem
          have HIN := Lib.hid hin
          have HQ := Lib.hid hq
          have HR4 := Lib.hid hr
          clear hm hmem hin hq hr
          unfold TestR.val
          simp only
          go_wp2_with (at_builtin; refine wpList_push3 rfl (.tmp 25) (.tmp 28) 41 rfl mkTest 123 i0 _ 80 Tryz.underlying41 hi hz0 hz1 hz2 rfl (by omega) (E := E) (w := w) (wr := wr) (w0 := w4) _ l (⟨rel', nm', ⟨sk', st', sn'⟩, la', ln', lc', list'⟩ : TestR) rfl HG.out.own HG.out.mv HM.out HLO.out HLI.out HMEM.out HIN.out hll _ rfl rfl rfl ?_; intro go' c' w5 ho5 hg5)
          have HN := Lib.hid (HMR.out _ _ _ _ HM.out HR4.out HQ.out ho5 hg5)
          clear ho5 hg5 c0 c1 c2 c3 c4 c5
          go_wp2
          go_roundg gk
          case rel => exact ⟨_, HN⟩
          case measure => omega
      · obtain ⟨c0, c1, c2, c3, c4, c5⟩ := six_boxR hr.box
        have HT := Lib.hid (take_err _ hr (by decide) ⟨#[125]⟩)
        have HRR := Lib.hid hR
        have HR := Lib.hid hr
        have HD := Lib.hid hd
        have hll : l.length ≤ 1000001 := HG.out.len
        clear hR hr hd
        unfold Env.ptr at HT
        go_wp2_with fail
        refine HT.out.mono ?_
        rintro x w4 ⟨⟨_, rfl⟩, rfl⟩
        clear c0 c1 c2 c3 c4 c5
        go_wp2
        go_ret
        exact ⟨⟨_, _, _, _, rfl, HD.out, hll, by intro a t e; rw [HRR.out] at e; cases e⟩, HG.out.mv, by rw [HRR.out]; exact ⟨_, HR.out⟩⟩
end Go.Proofs.YtgeaccoobhigcaaGreat
namespace Go.Proofs.YtgeaccoobhigcaaGreat
open Go Go.RowKit
set_option maxRecDepth 100000 in
set_option maxHeartbeats 2000000 in
theorem second_any {E : Env} {ts : List Tk} {at_ e : Int} (w : World) (h : Rd E w ts at_ e) : Calls Tryz.prog 99 #[E.ptr] w fun x w' => x = .returned (.bool (fieldHere (headT ts))) ∧ w = w' := by
  obtain ⟨c0, c1, c2, c3, c4, c5⟩ := six_boxR h.box
  have HB := Lib.hid (begun_any w h)
  have HL := Lib.hid (is_any w h bLeft)
  have HF := Lib.hid (is_any w h bFrom)
  have HREL := Lib.hid (rRel_any (textB (headT ts)))
  rw [textB_list] at HREL
  unfold fieldHere
  clear h
  cases hb : atomHere (headT ts) with
  | true =>
    rw [hb] at HB
    simp only [Bool.true_or]
    clear hb HL HF HREL
    unfold Env.ptr at *
    go_enter Tryz.func99, Tryz.ntmps99
    go_wp2_with (go_at_call 78; refine HB.out.mono ?_; rintro x w1 ⟨rfl, rfl⟩)
    go_ret
    exact ⟨rfl, rfl⟩
  | false =>
    rw [hb] at HB
    simp only [Bool.false_or]
    clear hb
    cases hl : isB (headT ts) bLeft with
    | true =>
      rw [hl] at HL
      simp only [Bool.true_or]
      clear hl HF HREL
      unfold Env.ptr bLeft at *
      go_enter Tryz.func99, Tryz.ntmps99
      go_wp2_with (first | (go_at_call 78; refine HB.out.mono ?_; rintro x w1 ⟨rfl, rfl⟩) | (go_at_call 32; refine HL.out.mono ?_; rintro x w1 ⟨rfl, rfl⟩))
      go_ret
      exact ⟨rfl, rfl⟩
    | false =>
      rw [hl] at HL
      simp only [Bool.false_or]
      clear hl
      cases hf : isB (headT ts) bFrom with
      | true =>
        rw [hf] at HF
        simp only [Bool.true_or]
        clear hf HREL
        unfold Env.ptr bLeft bFrom at *
        go_enter Tryz.func99, Tryz.ntmps99
        go_wp2_with fail
        refine HB.out.mono ?_
        rintro x w1 ⟨rfl, rfl⟩
        go_wp2_with fail
        refine HL.out.mono ?_
        rintro x w1 ⟨rfl, rfl⟩
        go_wp2_with fail
        refine HF.out.mono ?_
        rintro x w1 ⟨rfl, rfl⟩
        go_wp2
        go_ret
        exact ⟨rfl, rfl⟩
      | false =>
        rw [hf] at HF
        simp only [Bool.false_or]
        clear hf
        unfold relHere
        generalize textB (headT ts) = T at *
        generalize relN (headT ts).text = kk at *
        by_cases hk4 : (headT ts).kind = 4
        · have e4 : (((headT ts).kind : Int) == 4) = true := by simp [hk4]
          have HR : Hid ((decide ((headT ts).kind = 4) && decide (0 < kk)) = decide (0 < kk)) := Lib.hid (by simp [hk4])
          rw [HR.out]
          clear hk4 HR
          unfold Env.ptr bLeft bFrom at *
          go_enter Tryz.func99, Tryz.ntmps99
          go_wp2_with fail
          refine HB.out.mono ?_
          rintro x w1 ⟨rfl, rfl⟩
          go_wp2_with fail
          refine HL.out.mono ?_
          rintro x w1 ⟨rfl, rfl⟩
          go_wp2_with fail
          refine HF.out.mono ?_
          rintro x w1 ⟨rfl, rfl⟩
          go_wp2_with (go_at_call 114; refine (HREL.out _).mono ?_; rintro x w1 ⟨rfl, rfl⟩)
          go_ret
          exact ⟨rfl, rfl⟩
        · have e4 : (((headT ts).kind : Int) == 4) = false := by simp; omega
          have HR : Hid ((decide ((headT ts).kind = 4) && decide (0 < kk)) = false) := Lib.hid (by simp [hk4])
          rw [HR.out]
          clear hk4 HR HREL
          unfold Env.ptr bLeft bFrom at *
          go_enter Tryz.func99, Tryz.ntmps99
          go_wp2_with fail
          refine HB.out.mono ?_
          rintro x w1 ⟨rfl, rfl⟩
          go_wp2_with fail
          refine HL.out.mono ?_
          rintro x w1 ⟨rfl, rfl⟩
          go_wp2_with fail
          refine HF.out.mono ?_
          rintro x w1 ⟨rfl, rfl⟩
          go_wp2
          go_ret
          exact ⟨rfl, rfl⟩
theorem Tryz.sz4 : (Tryz.prog.info? 4).map (·.size) = some 1 := by kernel_rfl
/-- A condition comes back; where it goes wrong, some condition. -/
def CdIs (base : Nat) (w' : World) (r : Rs Cd) (x : Ending) : Prop := ∃ c : CondR, x = .returned c.val ∧ c.Mem w' ∧ c.In (fun b => base ≤ b) ∧ ∀ a ts, r = .ok a ts → c.abs = a
/-- What an item has read so far. -/
structure Parts (E : Env) (w : World) (k : Int) (goal : Bool) (id : ByteArray) (ao : Option Addr) (an ac : Nat) (al : List TestR) (vo : Option Addr) (vn vc : Nat) (vl : List TestR) (acc : Bool) (wr : World) : Prop where
  mv : Mv E w wr
  res : BoxC wr w.heap.size 43 [.int .i64 0, .bool false, .string ⟨#[]⟩, .slice none 0 0, .slice none 0 0, .bool false, .slice none 0 0]
  box : BoxC wr (w.heap.size + 1) 43 [.int .i64 k, .bool goal, .string id, .slice ao an ac, .slice vo vn vc, .bool acc, .slice none 0 0]
  a : Deep mkTest (fun b => w.heap.size + 2 ≤ b) wr ao an ac al
  v : Deep mkTest (fun b => w.heap.size + 2 ≤ b) wr vo vn vc vl
section
variable {E : Env} {w wr w' : World} {k : Int} {goal : Bool} {id : ByteArray} {ao vo : Option Addr} {an ac vn vc : Nat} {al vl : List TestR} {acc : Bool} {ts : List Tk}
theorem Parts.moved (h : Parts E w k goal id ao an ac al vo vn vc vl acc wr) (m : Mv E wr w') (hr : E.r < w.heap.size) (hi : E.ib < w.heap.size) : Parts E w k goal id ao an ac al vo vn vc vl acc w' := by
  have hs : SameIn (fun b => w.heap.size + 2 ≤ b) wr w' := m.same fun b hb => ⟨by omega, by omega⟩
  exact ⟨h.mv.trans m, m.box h.res (by omega) (by omega), m.box h.box (by omega) (by omega), h.a.same hs, h.v.same hs⟩
/-- A part is written. -/
theorem Parts.put {k' : Int} {ao' vo' : Option Addr} {an' ac' vn' vc' : Nat} {al' vl' : List TestR} {acc' : Bool} (h : Parts E w k goal id ao an ac al vo vn vc vl acc wr) (g : wr.grownBy w' (some (w.heap.size + 1)))
    (hb : BoxC w' (w.heap.size + 1) 43 [.int .i64 k', .bool goal, .string id, .slice ao' an' ac', .slice vo' vn' vc', .bool acc', .slice none 0 0])
    (ha : Deep mkTest (fun b => w.heap.size + 2 ≤ b) wr ao' an' ac' al') (hv : Deep mkTest (fun b => w.heap.size + 2 ≤ b) wr vo' vn' vc' vl') : Parts E w k' goal id ao' an' ac' al' vo' vn' vc' vl' acc' w' := by
  have hs : SameIn (fun b => w.heap.size + 2 ≤ b) wr w' := sameIn_of_grown g fun b hb e => by cases e; omega
  exact ⟨h.mv.new g (by omega), h.res.grown g (by simp), hb, ha.same hs, hv.same hs⟩
/-- The condition is what has been read. -/
theorem Parts.cond (h : Parts E w k goal id ao an ac al vo vn vc vl acc wr) (g : wr.grownBy w' (some w.heap.size)) (hid : id.size ≤ 1000000) :
    CondR.Mem w' (.mk k goal id ao an ac al vo vn vc vl acc none 0 0 []) ∧ CondR.In (fun b => w.heap.size ≤ b) (.mk k goal id ao an ac al vo vn vc vl acc none 0 0 []) := by
  have hs : SameIn (fun b => w.heap.size + 2 ≤ b) wr w' := sameIn_of_grown g fun b hb e => by cases e; omega
  have ha := h.a.same hs
  have hv := h.v.same hs
  have m : ∀ b, w.heap.size + 2 ≤ b → w.heap.size ≤ b := fun b h => by omega
  exact ⟨.mk (Nat.le_trans hid (by decide)) ⟨ha.sl, ha.ok⟩ ⟨hv.sl, hv.ok⟩ (SlR.nil _ _) (by simp), .mk (ha.inb.mono m) (fun t ht => TestR.In.mono (ha.ink t ht) m) (hv.inb.mono m) (fun t ht => TestR.In.mono (hv.ink t ht) m) (InB.zero _) (by simp)⟩
end
set_option maxRecDepth 100000 in
set_option maxHeartbeats 16000000 in
theorem item_any {E : Env} {ts : List Tk} (w : World) (h : Rd E w ts (-1) 0) (id : ByteArray) (goal : Bool) (hid : id.size ≤ 1000000) : Calls Tryz.prog 75 #[E.ptr, .string id, .bool goal] w fun x w' => CdIs w.heap.size w' (pItem id goal ts) x ∧ Mv E w w' ∧ RdAt E w' (pItem id goal ts) := by
  have hw := (h.alloc (.cells #[.int .i64 0, .bool false, .string ⟨#[]⟩, .slice none 0 0, .slice none 0 0, .bool false, .slice none 0 0] 43)).alloc (.cells #[.int .i64 1, .bool goal, .string id, .slice none 0 0, .slice none 0 0, .bool false, .slice none 0 0] 43)
  have HI := Lib.hid (is_any _ hw bMinus)
  have HP0 : Hid (Parts E w 1 goal id none 0 0 [] none 0 0 [] false ((w.alloc (.cells #[.int .i64 0, .bool false, .string ⟨#[]⟩, .slice none 0 0, .slice none 0 0, .bool false, .slice none 0 0] 43)).alloc (.cells #[.int .i64 1, .bool goal, .string id, .slice none 0 0, .slice none 0 0, .bool false, .slice none 0 0] 43))) := Lib.hid ⟨((Mv.refl E w).alloc _).alloc _, (BoxC.new w _ 43).alloc _, BoxC.new_at' (by simp), Deep.nil _ _ _, Deep.nil _ _ _⟩
  have HLO := Lib.hid (h.lows E.r (.inl rfl))
  have HLI := Lib.hid (h.lows E.ib (.inr (.inr (.inl rfl))))
  have HR0 := Lib.hid hw
  have H := Lib.hid h
  have HID := Lib.hid hid
  obtain ⟨R, hR⟩ : ∃ R, pItem id goal ts = R := ⟨_, rfl⟩
  rw [hR]
  have HR := Lib.hid hR
  clear hw h hR hid
  cases hb : isB (headT ts) bMinus with
  | true =>
    rw [hb] at HI
    have HST := Lib.hid (fun W (hW : Rd E W ts (-1) 0) => step_any W hW ⟨by have := isB_kind hb; omega, by have := isB_kind hb; omega⟩)
    have HPI : Hid (R = (pTake bHat ts.tail).bind fun _ ts1 => (pField ts1).bind fun a ts2 => (pIf (fieldHere (headT ts2)) pField [] ts2).bind fun v ts3 => .ok (.mk 2 goal id a v (isB (headT ts3) bPlus) []) (if isB (headT ts3) bPlus then ts3.tail else ts3)) := Lib.hid (by rw [← HR.out]; unfold pItem; rw [hb]; rfl)
    clear hb HR
    unfold Env.ptr at HI HST ⊢
    unfold bMinus at HI
    go_enter Tryz.func75, Tryz.ntmps75
    go_wp2_with (first | (go_at_call 32; refine HI.out.mono ?_; rintro x w1 ⟨rfl, rfl⟩) | (refine wpList_box rfl 3 (.tmp 13) (.const (.int .i64 2)) rfl (w.heap.size + 1) 0 _ [.int .i64 2] rfl rfl rfl HP0.out.box Tryz.sz3 (by simp) (by simp [Value.oneCell']) _ rfl ?_; intro w2 B2 g2; have HP2 := Lib.hid (HP0.out.put g2 B2 HP0.out.a HP0.out.v); have HR2 := Lib.hid (H.out.new HR0.out g2 (by omega)); clear B2 g2))
    refine (HST.out _ HR2.out).mono ?_
    rintro x w3 ⟨⟨_, rfl⟩, hm, hr⟩
    have HP3 := Lib.hid (HP2.out.moved hm HLO.out HLI.out)
    have HR3 := Lib.hid hr
    clear hm hr
    generalize ts.tail = ts1 at *
    go_wp2_with fail
    have HTK := Lib.hid (take_any _ HR3.out bHat)
    unfold Env.ptr bHat at HTK
    refine HTK.out.mono ?_
    rintro x w4 ⟨⟨_, rfl⟩, hm, hr⟩
    have HP4 := Lib.hid (HP3.out.moved hm HLO.out HLI.out)
    clear hm
    cases hp : pTake bHat ts1 with
    | bad q =>
      unfold bHat at hp
      rw [hp] at hr
      obtain ⟨ts2, hr⟩ := hr
      have HRR : Hid (R = .bad q) := Lib.hid (by rw [HPI.out]; unfold bHat; rw [hp]; rfl)
      have HR4 := Lib.hid hr
      obtain ⟨c0, c1, c2, c3, c4, c5⟩ := six_boxR hr.box
      clear hr hp
      obtain ⟨f0, f1, f2, f3, f4, f5, f6⟩ := seven_box HP4.out.box
      go_wp2_with (refine wpList_box rfl 43 (.tmp 6) (.tmp 23) rfl w.heap.size 0 _ [.int .i64 2, .bool goal, .string id, .slice none 0 0, .slice none 0 0, .bool false, .slice none 0 0] rfl rfl rfl HP4.out.res Tryz.sz43 (by simp) (by simp [Value.oneCell']) _ rfl ?_; intro w9 B9 g9; have HB9 := Lib.hid B9; have HG9 := Lib.hid g9; clear B9 g9 f0 f1 f2 f3 f4 f5 f6)
      obtain ⟨d0, d1, d2, d3, d4, d5, d6⟩ := seven_box HB9.out
      obtain ⟨q1, q2⟩ := HP4.out.cond HG9.out HID.out
      refine bodyPost_ret (v := .agg #[.int .i64 2, .bool goal, .string id, .slice none 0 0, .slice none 0 0, .bool false, .slice none 0 0]) (by simp [results, Tryz.results75, go_sem, d0, d1, d2, d3, d4, d5, d6]) rfl ⟨⟨.mk 2 goal id none 0 0 [] none 0 0 [] false none 0 0 [], rfl, q1, q2, ?_⟩, HP4.out.mv.new HG9.out (Nat.le_refl _), ?_⟩
      · intro x t e
        rw [HRR.out] at e
        cases e
      · rw [HRR.out]
        exact ⟨_, H.out.new HR4.out HG9.out (Nat.le_refl _)⟩
    | ok _ ts2 =>
      have HPI2 : Hid (R = (pField ts2).bind fun a ts2 => (pIf (fieldHere (headT ts2)) pField [] ts2).bind fun v ts3 => .ok (.mk 2 goal id a v (isB (headT ts3) bPlus) []) (if isB (headT ts3) bPlus then ts3.tail else ts3)) := Lib.hid (by rw [HPI.out, hp]; rfl)
      unfold bHat at hp
      rw [hp] at hr
      have HR4 : Hid (Rd E w4 ts2 (-1) 0) := Lib.hid hr
      obtain ⟨c0, c1, c2, c3, c4, c5⟩ := six_boxR HR4.out.box
      have HFI := Lib.hid (field_any w4 HR4.out)
      clear hr hp HPI HTK
      unfold Env.ptr at HFI
      go_wp2_with fail
      refine HFI.out.mono ?_
      rintro x w5 ⟨⟨ao, an, ac, al, rfl, hd, hn, hq⟩, hm, hr⟩
      have HD5 := Lib.hid (hd.mono (K' := fun b => w.heap.size + 2 ≤ b) (fun b hb => by have := HP4.out.box.lt; omega))
      have HP5 := Lib.hid (HP4.out.moved hm HLO.out HLI.out)
      have HQ5 := Lib.hid hq
      have HR5 := Lib.hid hr
      clear hd hn hq hm hr c0 c1 c2 c3 c4 c5
      go_upto_region 9 with (refine wpList_box rfl 41 (.tmp 26) (.tmp 25) rfl (w.heap.size + 1) 3 _ [.slice ao an ac] rfl rfl rfl HP5.out.box Tryz.sz41 (by simp) (by simp [Value.oneCell']) _ rfl ?_; intro w6 B6 g6; have HP6 := Lib.hid (HP5.out.put g6 B6 HD5.out HP5.out.v); have HR6 := Lib.hid (RdAt.new H.out HR5.out g6 (by omega)); clear B6 g6)
      cases hp : pField ts2 with
      | bad q =>
        rw [hp] at HR6
        obtain ⟨ts3, hr⟩ := HR6.out
        have HRR : Hid (R = .bad q) := Lib.hid (by rw [HPI2.out, hp]; rfl)
        have HR7 := Lib.hid hr
        obtain ⟨c0, c1, c2, c3, c4, c5⟩ := six_boxR hr.box
        clear hr hp HR6
        obtain ⟨f0, f1, f2, f3, f4, f5, f6⟩ := seven_box HP6.out.box
        go_wp2_with (refine wpList_box rfl 43 (.tmp 6) (.tmp 51) rfl w.heap.size 0 _ [.int .i64 2, .bool goal, .string id, .slice ao an ac, .slice none 0 0, .bool false, .slice none 0 0] rfl rfl rfl HP6.out.res Tryz.sz43 (by simp) (by simp [Value.oneCell']) _ rfl ?_; intro w9 B9 g9; have HB9 := Lib.hid B9; have HG9 := Lib.hid g9; clear B9 g9 f0 f1 f2 f3 f4 f5 f6)
        obtain ⟨d0, d1, d2, d3, d4, d5, d6⟩ := seven_box HB9.out
        obtain ⟨q1, q2⟩ := HP6.out.cond HG9.out HID.out
        refine bodyPost_ret (v := .agg #[.int .i64 2, .bool goal, .string id, .slice ao an ac, .slice none 0 0, .bool false, .slice none 0 0]) (by simp [results, Tryz.results75, go_sem, d0, d1, d2, d3, d4, d5, d6]) rfl ⟨⟨.mk 2 goal id ao an ac al none 0 0 [] false none 0 0 [], rfl, q1, q2, ?_⟩, HP6.out.mv.new HG9.out (Nat.le_refl _), ?_⟩
        · intro x t e
          rw [HRR.out] at e
          cases e
        · rw [HRR.out]
          exact ⟨_, H.out.new HR7.out HG9.out (Nat.le_refl _)⟩
      | ok x1 ts3 =>
        rw [hp] at HR6
        have HA : Hid (al.map TestR.abs = x1) := Lib.hid (HQ5.out _ _ hp)
        have HPI3 : Hid (R = (pIf (fieldHere (headT ts3)) pField [] ts3).bind fun v ts3 => .ok (.mk 2 goal id x1 v (isB (headT ts3) bPlus) []) (if isB (headT ts3) bPlus then ts3.tail else ts3)) := Lib.hid (by rw [HPI2.out, hp]; rfl)
        have HR7 : Hid (Rd E w6 ts3 (-1) 0) := Lib.hid HR6.out
        have HSE := Lib.hid (second_any w6 HR7.out)
        obtain ⟨c0, c1, c2, c3, c4, c5⟩ := six_boxR HR7.out.box
        clear hp HR6 HQ5 HPI2
        cases hf : fieldHere (headT ts3) with
        | false =>
          rw [hf] at HSE
          have HQR : Hid (R = .ok (.mk 2 goal id (al.map TestR.abs) (([] : List TestR).map TestR.abs) (isB (headT ts3) bPlus) []) (if isB (headT ts3) bPlus then ts3.tail else ts3)) := Lib.hid (by rw [HPI3.out, hf, HA.out]; rfl)
          clear hf HPI3
          unfold Env.ptr at HSE
          go_upto_region 11 with (go_at_call 99; refine HSE.out.mono ?_; rintro x w1 ⟨rfl, rfl⟩)
          clear c0 c1 c2 c3 c4 c5
          have HPL := Lib.hid (is_any _ HR7.out bPlus)
          have HSP := Lib.hid (fun W (hW : Rd E W ts3 (-1) 0) hk => step_any W hW hk)
          obtain ⟨c0, c1, c2, c3, c4, c5⟩ := six_boxR HR7.out.box
          cases hpl : isB (headT ts3) bPlus with
          | true =>
            rw [hpl] at HPL
            have HRR : Hid (R = .ok (.mk 2 goal id (al.map TestR.abs) ([].map TestR.abs) true []) ts3.tail) := Lib.hid (by rw [HQR.out, hpl]; rfl)
            have HST := Lib.hid (fun W (hW : Rd E W ts3 (-1) 0) => HSP.out W hW ⟨by have := isB_kind hpl; omega, by have := isB_kind hpl; omega⟩)
            clear hpl HSP HQR
            unfold Env.ptr at HPL HST
            unfold bPlus at HPL
            obtain ⟨f0, f1, f2, f3, f4, f5, f6⟩ := seven_box HP6.out.box
            go_wp2_with (first | (go_at_call 32; refine HPL.out.mono ?_; rintro x w1 ⟨rfl, rfl⟩) | (refine wpList_box rfl 4 (.tmp 48) (.const (.bool true)) rfl (w.heap.size + 1) 5 _ [.bool true] rfl rfl rfl HP6.out.box Tryz.sz4 (by simp) (by simp [Value.oneCell']) _ rfl ?_; intro w7 B7 g7; have HP7 := Lib.hid (HP6.out.put g7 B7 HP6.out.a HP6.out.v); have HR7 := Lib.hid (H.out.new HR7.out g7 (by omega)); clear B7 g7 c0 c1 c2 c3 c4 c5 f0 f1 f2 f3 f4 f5 f6))
            refine (HST.out _ HR7.out).mono ?_
            rintro x w8 ⟨⟨_, rfl⟩, hm, hr⟩
            have HP8 := Lib.hid (HP7.out.moved hm HLO.out HLI.out)
            have HR8 := Lib.hid hr
            clear hm hr
            obtain ⟨f0, f1, f2, f3, f4, f5, f6⟩ := seven_box HP8.out.box
            go_wp2_with (refine wpList_box rfl 43 (.tmp 6) (.tmp 51) rfl w.heap.size 0 _ [.int .i64 2, .bool goal, .string id, .slice ao an ac, .slice none 0 0, .bool true, .slice none 0 0] rfl rfl rfl HP8.out.res Tryz.sz43 (by simp) (by simp [Value.oneCell']) _ rfl ?_; intro w9 B9 g9; have HB9 := Lib.hid B9; have HG9 := Lib.hid g9; clear B9 g9 f0 f1 f2 f3 f4 f5 f6)
            obtain ⟨d0, d1, d2, d3, d4, d5, d6⟩ := seven_box HB9.out
            obtain ⟨q1, q2⟩ := HP8.out.cond HG9.out HID.out
            refine bodyPost_ret (v := .agg #[.int .i64 2, .bool goal, .string id, .slice ao an ac, .slice none 0 0, .bool true, .slice none 0 0]) (by simp [results, Tryz.results75, go_sem, d0, d1, d2, d3, d4, d5, d6]) rfl ⟨⟨.mk 2 goal id ao an ac al none 0 0 [] true none 0 0 [], rfl, q1, q2, ?_⟩, HP8.out.mv.new HG9.out (Nat.le_refl _), ?_⟩
            · intro x t e
              rw [HRR.out] at e
              cases e
              rfl
            · rw [HRR.out]
              exact H.out.new HR8.out HG9.out (Nat.le_refl _)
          | false =>
            rw [hpl] at HPL
            have HRR : Hid (R = .ok (.mk 2 goal id (al.map TestR.abs) ([].map TestR.abs) false []) ts3) := Lib.hid (by rw [HQR.out, hpl]; rfl)
            clear hpl HSP HQR
            unfold Env.ptr bPlus at HPL
            go_wp2_with fail
            refine HPL.out.mono ?_
            rintro x w1 ⟨rfl, rfl⟩
            clear c0 c1 c2 c3 c4 c5
            obtain ⟨f0, f1, f2, f3, f4, f5, f6⟩ := seven_box HP6.out.box
            go_wp2_with (refine wpList_box rfl 43 (.tmp 6) (.tmp 51) rfl w.heap.size 0 _ [.int .i64 2, .bool goal, .string id, .slice ao an ac, .slice none 0 0, .bool false, .slice none 0 0] rfl rfl rfl HP6.out.res Tryz.sz43 (by simp) (by simp [Value.oneCell']) _ rfl ?_; intro w9 B9 g9; have HB9 := Lib.hid B9; have HG9 := Lib.hid g9; clear B9 g9 f0 f1 f2 f3 f4 f5 f6)
            obtain ⟨d0, d1, d2, d3, d4, d5, d6⟩ := seven_box HB9.out
            obtain ⟨q1, q2⟩ := HP6.out.cond HG9.out HID.out
            refine bodyPost_ret (v := .agg #[.int .i64 2, .bool goal, .string id, .slice ao an ac, .slice none 0 0, .bool false, .slice none 0 0]) (by simp [results, Tryz.results75, go_sem, d0, d1, d2, d3, d4, d5, d6]) rfl ⟨⟨.mk 2 goal id ao an ac al none 0 0 [] false none 0 0 [], rfl, q1, q2, ?_⟩, HP6.out.mv.new HG9.out (Nat.le_refl _), ?_⟩
            · intro x t e
              rw [HRR.out] at e
              cases e
              rfl
            · rw [HRR.out]
              exact H.out.new HR7.out HG9.out (Nat.le_refl _)
        | true =>
          rw [hf] at HSE
          have HPI4 : Hid (R = (pField ts3).bind fun v ts3 => .ok (.mk 2 goal id x1 v (isB (headT ts3) bPlus) []) (if isB (headT ts3) bPlus then ts3.tail else ts3)) := Lib.hid (by rw [HPI3.out, hf]; rfl)
          have HF2 := Lib.hid (field_any w6 HR7.out)
          clear hf HPI3
          unfold Env.ptr at HSE HF2
          go_wp2_with (go_at_call 99; refine HSE.out.mono ?_; rintro x w1 ⟨rfl, rfl⟩)
          refine HF2.out.mono ?_
          rintro x w7 ⟨⟨vo, vn, vc, vl, rfl, hd, hn, hq⟩, hm, hr⟩
          have HD7 := Lib.hid (hd.mono (K' := fun b => w.heap.size + 2 ≤ b) (fun b hb => by have := HP6.out.box.lt; omega))
          have HP7 := Lib.hid (HP6.out.moved hm HLO.out HLI.out)
          have HQ7 := Lib.hid hq
          have HR8 := Lib.hid hr
          clear hd hn hq hm hr c0 c1 c2 c3 c4 c5
          go_upto_region 11 with (refine wpList_box rfl 41 (.tmp 38) (.tmp 37) rfl (w.heap.size + 1) 4 _ [.slice vo vn vc] rfl rfl rfl HP7.out.box Tryz.sz41 (by simp) (by simp [Value.oneCell']) _ rfl ?_; intro w8 B8 g8; have HP8 := Lib.hid (HP7.out.put g8 B8 HP7.out.a HD7.out); have HR9 := Lib.hid (RdAt.new H.out HR8.out g8 (by omega)); clear B8 g8)
          cases hp : pField ts3 with
          | bad q =>
            rw [hp] at HR9
            obtain ⟨ts4, hr⟩ := HR9.out
            have HRR : Hid (R = .bad q) := Lib.hid (by rw [HPI4.out, hp]; rfl)
            have HR10 := Lib.hid hr
            obtain ⟨c0, c1, c2, c3, c4, c5⟩ := six_boxR hr.box
            clear hr hp HR9
            obtain ⟨f0, f1, f2, f3, f4, f5, f6⟩ := seven_box HP8.out.box
            go_wp2_with (refine wpList_box rfl 43 (.tmp 6) (.tmp 51) rfl w.heap.size 0 _ [.int .i64 2, .bool goal, .string id, .slice ao an ac, .slice vo vn vc, .bool false, .slice none 0 0] rfl rfl rfl HP8.out.res Tryz.sz43 (by simp) (by simp [Value.oneCell']) _ rfl ?_; intro w9 B9 g9; have HB9 := Lib.hid B9; have HG9 := Lib.hid g9; clear B9 g9 f0 f1 f2 f3 f4 f5 f6)
            obtain ⟨d0, d1, d2, d3, d4, d5, d6⟩ := seven_box HB9.out
            obtain ⟨q1, q2⟩ := HP8.out.cond HG9.out HID.out
            refine bodyPost_ret (v := .agg #[.int .i64 2, .bool goal, .string id, .slice ao an ac, .slice vo vn vc, .bool false, .slice none 0 0]) (by simp [results, Tryz.results75, go_sem, d0, d1, d2, d3, d4, d5, d6]) rfl ⟨⟨.mk 2 goal id ao an ac al vo vn vc vl false none 0 0 [], rfl, q1, q2, ?_⟩, HP8.out.mv.new HG9.out (Nat.le_refl _), ?_⟩
            · intro x t e
              rw [HRR.out] at e
              cases e
            · rw [HRR.out]
              exact ⟨_, H.out.new HR10.out HG9.out (Nat.le_refl _)⟩
          | ok x2 ts4 =>
            rw [hp] at HR9
            have HV : Hid (vl.map TestR.abs = x2) := Lib.hid (HQ7.out _ _ hp)
            have HQR : Hid (R = .ok (.mk 2 goal id (al.map TestR.abs) (vl.map TestR.abs) (isB (headT ts4) bPlus) []) (if isB (headT ts4) bPlus then ts4.tail else ts4)) := Lib.hid (by rw [HPI4.out, hp, HA.out, HV.out]; rfl)
            have HR10 : Hid (Rd E w8 ts4 (-1) 0) := Lib.hid HR9.out
            clear hp HR9 HQ7 HPI4
            have HPL := Lib.hid (is_any _ HR10.out bPlus)
            have HSP := Lib.hid (fun W (hW : Rd E W ts4 (-1) 0) hk => step_any W hW hk)
            obtain ⟨c0, c1, c2, c3, c4, c5⟩ := six_boxR HR10.out.box
            cases hpl : isB (headT ts4) bPlus with
            | true =>
              rw [hpl] at HPL
              have HRR : Hid (R = .ok (.mk 2 goal id (al.map TestR.abs) (vl.map TestR.abs) true []) ts4.tail) := Lib.hid (by rw [HQR.out, hpl]; rfl)
              have HST := Lib.hid (fun W (hW : Rd E W ts4 (-1) 0) => HSP.out W hW ⟨by have := isB_kind hpl; omega, by have := isB_kind hpl; omega⟩)
              clear hpl HSP HQR
              unfold Env.ptr at HPL HST
              unfold bPlus at HPL
              obtain ⟨f0, f1, f2, f3, f4, f5, f6⟩ := seven_box HP8.out.box
              go_wp2_with (first | (go_at_call 32; refine HPL.out.mono ?_; rintro x w1 ⟨rfl, rfl⟩) | (refine wpList_box rfl 4 (.tmp 48) (.const (.bool true)) rfl (w.heap.size + 1) 5 _ [.bool true] rfl rfl rfl HP8.out.box Tryz.sz4 (by simp) (by simp [Value.oneCell']) _ rfl ?_; intro w7 B7 g7; have HP7 := Lib.hid (HP8.out.put g7 B7 HP8.out.a HP8.out.v); have HR7 := Lib.hid (H.out.new HR10.out g7 (by omega)); clear B7 g7 c0 c1 c2 c3 c4 c5 f0 f1 f2 f3 f4 f5 f6))
              refine (HST.out _ HR7.out).mono ?_
              rintro x w8 ⟨⟨_, rfl⟩, hm, hr⟩
              have HP8 := Lib.hid (HP7.out.moved hm HLO.out HLI.out)
              have HR8 := Lib.hid hr
              clear hm hr
              obtain ⟨f0, f1, f2, f3, f4, f5, f6⟩ := seven_box HP8.out.box
              go_wp2_with (refine wpList_box rfl 43 (.tmp 6) (.tmp 51) rfl w.heap.size 0 _ [.int .i64 2, .bool goal, .string id, .slice ao an ac, .slice vo vn vc, .bool true, .slice none 0 0] rfl rfl rfl HP8.out.res Tryz.sz43 (by simp) (by simp [Value.oneCell']) _ rfl ?_; intro w9 B9 g9; have HB9 := Lib.hid B9; have HG9 := Lib.hid g9; clear B9 g9 f0 f1 f2 f3 f4 f5 f6)
              obtain ⟨d0, d1, d2, d3, d4, d5, d6⟩ := seven_box HB9.out
              obtain ⟨q1, q2⟩ := HP8.out.cond HG9.out HID.out
              refine bodyPost_ret (v := .agg #[.int .i64 2, .bool goal, .string id, .slice ao an ac, .slice vo vn vc, .bool true, .slice none 0 0]) (by simp [results, Tryz.results75, go_sem, d0, d1, d2, d3, d4, d5, d6]) rfl ⟨⟨.mk 2 goal id ao an ac al vo vn vc vl true none 0 0 [], rfl, q1, q2, ?_⟩, HP8.out.mv.new HG9.out (Nat.le_refl _), ?_⟩
              · intro x t e
                rw [HRR.out] at e
                cases e
                rfl
              · rw [HRR.out]
                exact H.out.new HR8.out HG9.out (Nat.le_refl _)
            | false =>
              rw [hpl] at HPL
              have HRR : Hid (R = .ok (.mk 2 goal id (al.map TestR.abs) (vl.map TestR.abs) false []) ts4) := Lib.hid (by rw [HQR.out, hpl]; rfl)
              clear hpl HSP HQR
              unfold Env.ptr bPlus at HPL
              go_wp2_with fail
              refine HPL.out.mono ?_
              rintro x w1 ⟨rfl, rfl⟩
              clear c0 c1 c2 c3 c4 c5
              obtain ⟨f0, f1, f2, f3, f4, f5, f6⟩ := seven_box HP8.out.box
              go_wp2_with (refine wpList_box rfl 43 (.tmp 6) (.tmp 51) rfl w.heap.size 0 _ [.int .i64 2, .bool goal, .string id, .slice ao an ac, .slice vo vn vc, .bool false, .slice none 0 0] rfl rfl rfl HP8.out.res Tryz.sz43 (by simp) (by simp [Value.oneCell']) _ rfl ?_; intro w9 B9 g9; have HB9 := Lib.hid B9; have HG9 := Lib.hid g9; clear B9 g9 f0 f1 f2 f3 f4 f5 f6)
              obtain ⟨d0, d1, d2, d3, d4, d5, d6⟩ := seven_box HB9.out
              obtain ⟨q1, q2⟩ := HP8.out.cond HG9.out HID.out
              refine bodyPost_ret (v := .agg #[.int .i64 2, .bool goal, .string id, .slice ao an ac, .slice vo vn vc, .bool false, .slice none 0 0]) (by simp [results, Tryz.results75, go_sem, d0, d1, d2, d3, d4, d5, d6]) rfl ⟨⟨.mk 2 goal id ao an ac al vo vn vc vl false none 0 0 [], rfl, q1, q2, ?_⟩, HP8.out.mv.new HG9.out (Nat.le_refl _), ?_⟩
              · intro x t e
                rw [HRR.out] at e
                cases e
                rfl
              · rw [HRR.out]
                exact H.out.new HR10.out HG9.out (Nat.le_refl _)
  | false =>
    rw [hb] at HI
    have HPI : Hid (R = (pTake bHat ts).bind fun _ ts1 => (pField ts1).bind fun a ts2 => (pIf (fieldHere (headT ts2)) pField [] ts2).bind fun v ts3 => .ok (.mk 1 goal id a v (isB (headT ts3) bPlus) []) (if isB (headT ts3) bPlus then ts3.tail else ts3)) := Lib.hid (by rw [← HR.out]; unfold pItem; rw [hb]; rfl)
    have HP3 := HP0
    have HR3 := HR0
    have HTS := Lib.hid H
    clear hb HR
    unfold Env.ptr at HI ⊢
    unfold bMinus at HI
    go_enter Tryz.func75, Tryz.ntmps75
    go_wp2_with (go_at_call 32; refine HI.out.mono ?_; rintro x w1 ⟨rfl, rfl⟩)
    generalize hts1 : ts = ts1 at *
    have HTK := Lib.hid (take_any _ HR3.out bHat)
    unfold Env.ptr bHat at HTK
    refine HTK.out.mono ?_
    rintro x w4 ⟨⟨_, rfl⟩, hm, hr⟩
    have HP4 := Lib.hid (HP3.out.moved hm HLO.out HLI.out)
    clear hm
    cases hp : pTake bHat ts1 with
    | bad q =>
      unfold bHat at hp
      rw [hp] at hr
      obtain ⟨ts2, hr⟩ := hr
      have HRR : Hid (R = .bad q) := Lib.hid (by rw [HPI.out]; unfold bHat; rw [hp]; rfl)
      have HR4 := Lib.hid hr
      obtain ⟨c0, c1, c2, c3, c4, c5⟩ := six_boxR hr.box
      clear hr hp
      obtain ⟨f0, f1, f2, f3, f4, f5, f6⟩ := seven_box HP4.out.box
      go_wp2_with (refine wpList_box rfl 43 (.tmp 6) (.tmp 23) rfl w.heap.size 0 _ [.int .i64 1, .bool goal, .string id, .slice none 0 0, .slice none 0 0, .bool false, .slice none 0 0] rfl rfl rfl HP4.out.res Tryz.sz43 (by simp) (by simp [Value.oneCell']) _ rfl ?_; intro w9 B9 g9; have HB9 := Lib.hid B9; have HG9 := Lib.hid g9; clear B9 g9 f0 f1 f2 f3 f4 f5 f6)
      obtain ⟨d0, d1, d2, d3, d4, d5, d6⟩ := seven_box HB9.out
      obtain ⟨q1, q2⟩ := HP4.out.cond HG9.out HID.out
      refine bodyPost_ret (v := .agg #[.int .i64 1, .bool goal, .string id, .slice none 0 0, .slice none 0 0, .bool false, .slice none 0 0]) (by simp [results, Tryz.results75, go_sem, d0, d1, d2, d3, d4, d5, d6]) rfl ⟨⟨.mk 1 goal id none 0 0 [] none 0 0 [] false none 0 0 [], rfl, q1, q2, ?_⟩, HP4.out.mv.new HG9.out (Nat.le_refl _), ?_⟩
      · intro x t e
        rw [HRR.out] at e
        cases e
      · rw [HRR.out]
        exact ⟨_, H.out.new HR4.out HG9.out (Nat.le_refl _)⟩
    | ok _ ts2 =>
      have HPI2 : Hid (R = (pField ts2).bind fun a ts2 => (pIf (fieldHere (headT ts2)) pField [] ts2).bind fun v ts3 => .ok (.mk 1 goal id a v (isB (headT ts3) bPlus) []) (if isB (headT ts3) bPlus then ts3.tail else ts3)) := Lib.hid (by rw [HPI.out, hp]; rfl)
      unfold bHat at hp
      rw [hp] at hr
      have HR4 : Hid (Rd E w4 ts2 (-1) 0) := Lib.hid hr
      obtain ⟨c0, c1, c2, c3, c4, c5⟩ := six_boxR HR4.out.box
      have HFI := Lib.hid (field_any w4 HR4.out)
      clear hr hp HPI HTK
      unfold Env.ptr at HFI
      go_wp2_with fail
      refine HFI.out.mono ?_
      rintro x w5 ⟨⟨ao, an, ac, al, rfl, hd, hn, hq⟩, hm, hr⟩
      have HD5 := Lib.hid (hd.mono (K' := fun b => w.heap.size + 2 ≤ b) (fun b hb => by have := HP4.out.box.lt; omega))
      have HP5 := Lib.hid (HP4.out.moved hm HLO.out HLI.out)
      have HQ5 := Lib.hid hq
      have HR5 := Lib.hid hr
      clear hd hn hq hm hr c0 c1 c2 c3 c4 c5
      go_upto_region 9 with (refine wpList_box rfl 41 (.tmp 26) (.tmp 25) rfl (w.heap.size + 1) 3 _ [.slice ao an ac] rfl rfl rfl HP5.out.box Tryz.sz41 (by simp) (by simp [Value.oneCell']) _ rfl ?_; intro w6 B6 g6; have HP6 := Lib.hid (HP5.out.put g6 B6 HD5.out HP5.out.v); have HR6 := Lib.hid (RdAt.new H.out HR5.out g6 (by omega)); clear B6 g6)
      cases hp : pField ts2 with
      | bad q =>
        rw [hp] at HR6
        obtain ⟨ts3, hr⟩ := HR6.out
        have HRR : Hid (R = .bad q) := Lib.hid (by rw [HPI2.out, hp]; rfl)
        have HR7 := Lib.hid hr
        obtain ⟨c0, c1, c2, c3, c4, c5⟩ := six_boxR hr.box
        clear hr hp HR6
        obtain ⟨f0, f1, f2, f3, f4, f5, f6⟩ := seven_box HP6.out.box
        go_wp2_with (refine wpList_box rfl 43 (.tmp 6) (.tmp 51) rfl w.heap.size 0 _ [.int .i64 1, .bool goal, .string id, .slice ao an ac, .slice none 0 0, .bool false, .slice none 0 0] rfl rfl rfl HP6.out.res Tryz.sz43 (by simp) (by simp [Value.oneCell']) _ rfl ?_; intro w9 B9 g9; have HB9 := Lib.hid B9; have HG9 := Lib.hid g9; clear B9 g9 f0 f1 f2 f3 f4 f5 f6)
        obtain ⟨d0, d1, d2, d3, d4, d5, d6⟩ := seven_box HB9.out
        obtain ⟨q1, q2⟩ := HP6.out.cond HG9.out HID.out
        refine bodyPost_ret (v := .agg #[.int .i64 1, .bool goal, .string id, .slice ao an ac, .slice none 0 0, .bool false, .slice none 0 0]) (by simp [results, Tryz.results75, go_sem, d0, d1, d2, d3, d4, d5, d6]) rfl ⟨⟨.mk 1 goal id ao an ac al none 0 0 [] false none 0 0 [], rfl, q1, q2, ?_⟩, HP6.out.mv.new HG9.out (Nat.le_refl _), ?_⟩
        · intro x t e
          rw [HRR.out] at e
          cases e
        · rw [HRR.out]
          exact ⟨_, H.out.new HR7.out HG9.out (Nat.le_refl _)⟩
      | ok x1 ts3 =>
        rw [hp] at HR6
        have HA : Hid (al.map TestR.abs = x1) := Lib.hid (HQ5.out _ _ hp)
        have HPI3 : Hid (R = (pIf (fieldHere (headT ts3)) pField [] ts3).bind fun v ts3 => .ok (.mk 1 goal id x1 v (isB (headT ts3) bPlus) []) (if isB (headT ts3) bPlus then ts3.tail else ts3)) := Lib.hid (by rw [HPI2.out, hp]; rfl)
        have HR7 : Hid (Rd E w6 ts3 (-1) 0) := Lib.hid HR6.out
        have HSE := Lib.hid (second_any w6 HR7.out)
        obtain ⟨c0, c1, c2, c3, c4, c5⟩ := six_boxR HR7.out.box
        clear hp HR6 HQ5 HPI2
        cases hf : fieldHere (headT ts3) with
        | false =>
          rw [hf] at HSE
          have HQR : Hid (R = .ok (.mk 1 goal id (al.map TestR.abs) (([] : List TestR).map TestR.abs) (isB (headT ts3) bPlus) []) (if isB (headT ts3) bPlus then ts3.tail else ts3)) := Lib.hid (by rw [HPI3.out, hf, HA.out]; rfl)
          clear hf HPI3
          unfold Env.ptr at HSE
          go_upto_region 11 with (go_at_call 99; refine HSE.out.mono ?_; rintro x w1 ⟨rfl, rfl⟩)
          clear c0 c1 c2 c3 c4 c5
          have HPL := Lib.hid (is_any _ HR7.out bPlus)
          have HSP := Lib.hid (fun W (hW : Rd E W ts3 (-1) 0) hk => step_any W hW hk)
          obtain ⟨c0, c1, c2, c3, c4, c5⟩ := six_boxR HR7.out.box
          cases hpl : isB (headT ts3) bPlus with
          | true =>
            rw [hpl] at HPL
            have HRR : Hid (R = .ok (.mk 1 goal id (al.map TestR.abs) ([].map TestR.abs) true []) ts3.tail) := Lib.hid (by rw [HQR.out, hpl]; rfl)
            have HST := Lib.hid (fun W (hW : Rd E W ts3 (-1) 0) => HSP.out W hW ⟨by have := isB_kind hpl; omega, by have := isB_kind hpl; omega⟩)
            clear hpl HSP HQR
            unfold Env.ptr at HPL HST
            unfold bPlus at HPL
            obtain ⟨f0, f1, f2, f3, f4, f5, f6⟩ := seven_box HP6.out.box
            go_wp2_with (first | (go_at_call 32; refine HPL.out.mono ?_; rintro x w1 ⟨rfl, rfl⟩) | (refine wpList_box rfl 4 (.tmp 48) (.const (.bool true)) rfl (w.heap.size + 1) 5 _ [.bool true] rfl rfl rfl HP6.out.box Tryz.sz4 (by simp) (by simp [Value.oneCell']) _ rfl ?_; intro w7 B7 g7; have HP7 := Lib.hid (HP6.out.put g7 B7 HP6.out.a HP6.out.v); have HR7 := Lib.hid (H.out.new HR7.out g7 (by omega)); clear B7 g7 c0 c1 c2 c3 c4 c5 f0 f1 f2 f3 f4 f5 f6))
            refine (HST.out _ HR7.out).mono ?_
            rintro x w8 ⟨⟨_, rfl⟩, hm, hr⟩
            have HP8 := Lib.hid (HP7.out.moved hm HLO.out HLI.out)
            have HR8 := Lib.hid hr
            clear hm hr
            obtain ⟨f0, f1, f2, f3, f4, f5, f6⟩ := seven_box HP8.out.box
            go_wp2_with (refine wpList_box rfl 43 (.tmp 6) (.tmp 51) rfl w.heap.size 0 _ [.int .i64 1, .bool goal, .string id, .slice ao an ac, .slice none 0 0, .bool true, .slice none 0 0] rfl rfl rfl HP8.out.res Tryz.sz43 (by simp) (by simp [Value.oneCell']) _ rfl ?_; intro w9 B9 g9; have HB9 := Lib.hid B9; have HG9 := Lib.hid g9; clear B9 g9 f0 f1 f2 f3 f4 f5 f6)
            obtain ⟨d0, d1, d2, d3, d4, d5, d6⟩ := seven_box HB9.out
            obtain ⟨q1, q2⟩ := HP8.out.cond HG9.out HID.out
            refine bodyPost_ret (v := .agg #[.int .i64 1, .bool goal, .string id, .slice ao an ac, .slice none 0 0, .bool true, .slice none 0 0]) (by simp [results, Tryz.results75, go_sem, d0, d1, d2, d3, d4, d5, d6]) rfl ⟨⟨.mk 1 goal id ao an ac al none 0 0 [] true none 0 0 [], rfl, q1, q2, ?_⟩, HP8.out.mv.new HG9.out (Nat.le_refl _), ?_⟩
            · intro x t e
              rw [HRR.out] at e
              cases e
              rfl
            · rw [HRR.out]
              exact H.out.new HR8.out HG9.out (Nat.le_refl _)
          | false =>
            rw [hpl] at HPL
            have HRR : Hid (R = .ok (.mk 1 goal id (al.map TestR.abs) ([].map TestR.abs) false []) ts3) := Lib.hid (by rw [HQR.out, hpl]; rfl)
            clear hpl HSP HQR
            unfold Env.ptr bPlus at HPL
            go_wp2_with fail
            refine HPL.out.mono ?_
            rintro x w1 ⟨rfl, rfl⟩
            clear c0 c1 c2 c3 c4 c5
            obtain ⟨f0, f1, f2, f3, f4, f5, f6⟩ := seven_box HP6.out.box
            go_wp2_with (refine wpList_box rfl 43 (.tmp 6) (.tmp 51) rfl w.heap.size 0 _ [.int .i64 1, .bool goal, .string id, .slice ao an ac, .slice none 0 0, .bool false, .slice none 0 0] rfl rfl rfl HP6.out.res Tryz.sz43 (by simp) (by simp [Value.oneCell']) _ rfl ?_; intro w9 B9 g9; have HB9 := Lib.hid B9; have HG9 := Lib.hid g9; clear B9 g9 f0 f1 f2 f3 f4 f5 f6)
            obtain ⟨d0, d1, d2, d3, d4, d5, d6⟩ := seven_box HB9.out
            obtain ⟨q1, q2⟩ := HP6.out.cond HG9.out HID.out
            refine bodyPost_ret (v := .agg #[.int .i64 1, .bool goal, .string id, .slice ao an ac, .slice none 0 0, .bool false, .slice none 0 0]) (by simp [results, Tryz.results75, go_sem, d0, d1, d2, d3, d4, d5, d6]) rfl ⟨⟨.mk 1 goal id ao an ac al none 0 0 [] false none 0 0 [], rfl, q1, q2, ?_⟩, HP6.out.mv.new HG9.out (Nat.le_refl _), ?_⟩
            · intro x t e
              rw [HRR.out] at e
              cases e
              rfl
            · rw [HRR.out]
              exact H.out.new HR7.out HG9.out (Nat.le_refl _)
        | true =>
          rw [hf] at HSE
          have HPI4 : Hid (R = (pField ts3).bind fun v ts3 => .ok (.mk 1 goal id x1 v (isB (headT ts3) bPlus) []) (if isB (headT ts3) bPlus then ts3.tail else ts3)) := Lib.hid (by rw [HPI3.out, hf]; rfl)
          have HF2 := Lib.hid (field_any w6 HR7.out)
          clear hf HPI3
          unfold Env.ptr at HSE HF2
          go_wp2_with (go_at_call 99; refine HSE.out.mono ?_; rintro x w1 ⟨rfl, rfl⟩)
          refine HF2.out.mono ?_
          rintro x w7 ⟨⟨vo, vn, vc, vl, rfl, hd, hn, hq⟩, hm, hr⟩
          have HD7 := Lib.hid (hd.mono (K' := fun b => w.heap.size + 2 ≤ b) (fun b hb => by have := HP6.out.box.lt; omega))
          have HP7 := Lib.hid (HP6.out.moved hm HLO.out HLI.out)
          have HQ7 := Lib.hid hq
          have HR8 := Lib.hid hr
          clear hd hn hq hm hr c0 c1 c2 c3 c4 c5
          go_upto_region 11 with (refine wpList_box rfl 41 (.tmp 38) (.tmp 37) rfl (w.heap.size + 1) 4 _ [.slice vo vn vc] rfl rfl rfl HP7.out.box Tryz.sz41 (by simp) (by simp [Value.oneCell']) _ rfl ?_; intro w8 B8 g8; have HP8 := Lib.hid (HP7.out.put g8 B8 HP7.out.a HD7.out); have HR9 := Lib.hid (RdAt.new H.out HR8.out g8 (by omega)); clear B8 g8)
          cases hp : pField ts3 with
          | bad q =>
            rw [hp] at HR9
            obtain ⟨ts4, hr⟩ := HR9.out
            have HRR : Hid (R = .bad q) := Lib.hid (by rw [HPI4.out, hp]; rfl)
            have HR10 := Lib.hid hr
            obtain ⟨c0, c1, c2, c3, c4, c5⟩ := six_boxR hr.box
            clear hr hp HR9
            obtain ⟨f0, f1, f2, f3, f4, f5, f6⟩ := seven_box HP8.out.box
            go_wp2_with (refine wpList_box rfl 43 (.tmp 6) (.tmp 51) rfl w.heap.size 0 _ [.int .i64 1, .bool goal, .string id, .slice ao an ac, .slice vo vn vc, .bool false, .slice none 0 0] rfl rfl rfl HP8.out.res Tryz.sz43 (by simp) (by simp [Value.oneCell']) _ rfl ?_; intro w9 B9 g9; have HB9 := Lib.hid B9; have HG9 := Lib.hid g9; clear B9 g9 f0 f1 f2 f3 f4 f5 f6)
            obtain ⟨d0, d1, d2, d3, d4, d5, d6⟩ := seven_box HB9.out
            obtain ⟨q1, q2⟩ := HP8.out.cond HG9.out HID.out
            refine bodyPost_ret (v := .agg #[.int .i64 1, .bool goal, .string id, .slice ao an ac, .slice vo vn vc, .bool false, .slice none 0 0]) (by simp [results, Tryz.results75, go_sem, d0, d1, d2, d3, d4, d5, d6]) rfl ⟨⟨.mk 1 goal id ao an ac al vo vn vc vl false none 0 0 [], rfl, q1, q2, ?_⟩, HP8.out.mv.new HG9.out (Nat.le_refl _), ?_⟩
            · intro x t e
              rw [HRR.out] at e
              cases e
            · rw [HRR.out]
              exact ⟨_, H.out.new HR10.out HG9.out (Nat.le_refl _)⟩
          | ok x2 ts4 =>
            rw [hp] at HR9
            have HV : Hid (vl.map TestR.abs = x2) := Lib.hid (HQ7.out _ _ hp)
            have HQR : Hid (R = .ok (.mk 1 goal id (al.map TestR.abs) (vl.map TestR.abs) (isB (headT ts4) bPlus) []) (if isB (headT ts4) bPlus then ts4.tail else ts4)) := Lib.hid (by rw [HPI4.out, hp, HA.out, HV.out]; rfl)
            have HR10 : Hid (Rd E w8 ts4 (-1) 0) := Lib.hid HR9.out
            clear hp HR9 HQ7 HPI4
            have HPL := Lib.hid (is_any _ HR10.out bPlus)
            have HSP := Lib.hid (fun W (hW : Rd E W ts4 (-1) 0) hk => step_any W hW hk)
            obtain ⟨c0, c1, c2, c3, c4, c5⟩ := six_boxR HR10.out.box
            cases hpl : isB (headT ts4) bPlus with
            | true =>
              rw [hpl] at HPL
              have HRR : Hid (R = .ok (.mk 1 goal id (al.map TestR.abs) (vl.map TestR.abs) true []) ts4.tail) := Lib.hid (by rw [HQR.out, hpl]; rfl)
              have HST := Lib.hid (fun W (hW : Rd E W ts4 (-1) 0) => HSP.out W hW ⟨by have := isB_kind hpl; omega, by have := isB_kind hpl; omega⟩)
              clear hpl HSP HQR
              unfold Env.ptr at HPL HST
              unfold bPlus at HPL
              obtain ⟨f0, f1, f2, f3, f4, f5, f6⟩ := seven_box HP8.out.box
              go_wp2_with (first | (go_at_call 32; refine HPL.out.mono ?_; rintro x w1 ⟨rfl, rfl⟩) | (refine wpList_box rfl 4 (.tmp 48) (.const (.bool true)) rfl (w.heap.size + 1) 5 _ [.bool true] rfl rfl rfl HP8.out.box Tryz.sz4 (by simp) (by simp [Value.oneCell']) _ rfl ?_; intro w7 B7 g7; have HP7 := Lib.hid (HP8.out.put g7 B7 HP8.out.a HP8.out.v); have HR7 := Lib.hid (H.out.new HR10.out g7 (by omega)); clear B7 g7 c0 c1 c2 c3 c4 c5 f0 f1 f2 f3 f4 f5 f6))
              refine (HST.out _ HR7.out).mono ?_
              rintro x w8 ⟨⟨_, rfl⟩, hm, hr⟩
              have HP8 := Lib.hid (HP7.out.moved hm HLO.out HLI.out)
              have HR8 := Lib.hid hr
              clear hm hr
              obtain ⟨f0, f1, f2, f3, f4, f5, f6⟩ := seven_box HP8.out.box
              go_wp2_with (refine wpList_box rfl 43 (.tmp 6) (.tmp 51) rfl w.heap.size 0 _ [.int .i64 1, .bool goal, .string id, .slice ao an ac, .slice vo vn vc, .bool true, .slice none 0 0] rfl rfl rfl HP8.out.res Tryz.sz43 (by simp) (by simp [Value.oneCell']) _ rfl ?_; intro w9 B9 g9; have HB9 := Lib.hid B9; have HG9 := Lib.hid g9; clear B9 g9 f0 f1 f2 f3 f4 f5 f6)
              obtain ⟨d0, d1, d2, d3, d4, d5, d6⟩ := seven_box HB9.out
              obtain ⟨q1, q2⟩ := HP8.out.cond HG9.out HID.out
              refine bodyPost_ret (v := .agg #[.int .i64 1, .bool goal, .string id, .slice ao an ac, .slice vo vn vc, .bool true, .slice none 0 0]) (by simp [results, Tryz.results75, go_sem, d0, d1, d2, d3, d4, d5, d6]) rfl ⟨⟨.mk 1 goal id ao an ac al vo vn vc vl true none 0 0 [], rfl, q1, q2, ?_⟩, HP8.out.mv.new HG9.out (Nat.le_refl _), ?_⟩
              · intro x t e
                rw [HRR.out] at e
                cases e
                rfl
              · rw [HRR.out]
                exact H.out.new HR8.out HG9.out (Nat.le_refl _)
            | false =>
              rw [hpl] at HPL
              have HRR : Hid (R = .ok (.mk 1 goal id (al.map TestR.abs) (vl.map TestR.abs) false []) ts4) := Lib.hid (by rw [HQR.out, hpl]; rfl)
              clear hpl HSP HQR
              unfold Env.ptr bPlus at HPL
              go_wp2_with fail
              refine HPL.out.mono ?_
              rintro x w1 ⟨rfl, rfl⟩
              clear c0 c1 c2 c3 c4 c5
              obtain ⟨f0, f1, f2, f3, f4, f5, f6⟩ := seven_box HP8.out.box
              go_wp2_with (refine wpList_box rfl 43 (.tmp 6) (.tmp 51) rfl w.heap.size 0 _ [.int .i64 1, .bool goal, .string id, .slice ao an ac, .slice vo vn vc, .bool false, .slice none 0 0] rfl rfl rfl HP8.out.res Tryz.sz43 (by simp) (by simp [Value.oneCell']) _ rfl ?_; intro w9 B9 g9; have HB9 := Lib.hid B9; have HG9 := Lib.hid g9; clear B9 g9 f0 f1 f2 f3 f4 f5 f6)
              obtain ⟨d0, d1, d2, d3, d4, d5, d6⟩ := seven_box HB9.out
              obtain ⟨q1, q2⟩ := HP8.out.cond HG9.out HID.out
              refine bodyPost_ret (v := .agg #[.int .i64 1, .bool goal, .string id, .slice ao an ac, .slice vo vn vc, .bool false, .slice none 0 0]) (by simp [results, Tryz.results75, go_sem, d0, d1, d2, d3, d4, d5, d6]) rfl ⟨⟨.mk 1 goal id ao an ac al vo vn vc vl false none 0 0 [], rfl, q1, q2, ?_⟩, HP8.out.mv.new HG9.out (Nat.le_refl _), ?_⟩
              · intro x t e
                rw [HRR.out] at e
                cases e
                rfl
              · rw [HRR.out]
                exact H.out.new HR10.out HG9.out (Nat.le_refl _)
end Go.Proofs.YtgeaccoobhigcaaGreat
