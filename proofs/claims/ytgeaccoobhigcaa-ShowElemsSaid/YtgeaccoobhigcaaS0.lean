/-
  Strings: equal by their bytes; one byte as a string; sizes of sums.
-/
import Derived.Test.YtgeaccoobhigcaaA4
import Derived.Test.YtgeaccoobhigcaaLib
import Derived.Test.YtgeaccoobhigcaaRf
import Derived.Below
import Derived.Laws.BytesArg
namespace Go.Proofs.Ytgeaccoobhigcaa
open Go Go.RowKit

theorem conv_one (wx : World) (q : Int) :
    (convert 43 9 (.slice (some ⟨wx.heap.size, 0, none⟩) 1 1)).run Try.prog (wx.alloc (.cells #[.int .u8 q] 5)) = .ok (.string (strOfNums [q])) (wx.alloc (.cells #[.int .u8 q] 5)) := by
  refine run_convert_bytes_arg (P := Try.prog) (wx.alloc (.cells #[.int .u8 q] 5)) 43 5 Try.underlying43 Try.underlying5 wx.heap.size 0 1 1 [q] rfl ?_ 9 Try.underlying9
  intro i hi
  obtain rfl : i = 0 := by omega
  simp
theorem str_ext {a b : ByteArray} (h : a.data.toList = b.data.toList) : a = b := by
  apply ByteArray.ext
  apply Array.toList_inj.1
  exact h
theorem one_size (q : Int) : (strOfNums [q]).size = 1 := strOfNums_size _
theorem cat2_size (a b : ByteArray) : (a ++ b).size = a.size + b.size := by simp
theorem below_drew {B : Nat} {a w : World} (h : Below B a w) (n : Nat) : Below B a (w.drewN n) := ⟨h.os, h.tape, h.output, h.size, h.block⟩
/-- What a slice reads behind a call that writes nothing that was there. -/
theorem SlR.kept {w w' : World} {size : Nat} {ao : Option Addr} {n c : Nat} {cs : List Value} (h : SlR w size ao n c cs) (hb : Below w.heap.size w w') : SlR w' size ao n c cs := by
  refine ⟨h.1, h.2.1, h.2.2.1, h.2.2.2.1, fun a ha j u hj => ?_⟩
  have hc := h.2.2.2.2 a ha j u hj
  exact (hb.cell (World.block_lt_of_cell? w _ hc)).trans hc
theorem take_snoc2 {α : Type} {l : List α} {k : Nat} {x : α} (h : l[k]? = some x) : l.take (k + 1) = l.take k ++ [x] := by
  rw [List.take_add_one, h]; rfl
end Go.Proofs.Ytgeaccoobhigcaa
