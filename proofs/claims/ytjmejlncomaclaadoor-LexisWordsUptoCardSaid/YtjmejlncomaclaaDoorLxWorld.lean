/- Small laws on worlds: blocks of one's own, rows of one's own, cells. No conditions. -/
import Derived.WalkKit
import Derived.WalkSmall
import Derived.Lib.Hide
import Derived.Lib.OthersKept
import Derived.RangeFuncNested
import Derived.Lib.FrozenHead
namespace Go.Proofs.YtjmejlncomaclaaDoor.Lx
open Go.RowKit

/-- Block k of the memory: a row of these cells, none frozen. -/
def Blk (w : World) (k : Nat) (cs : Array Value) (t : TypeId) : Prop := w.heap[k]? = some (.cells cs t (0, 0))
theorem Blk.lt {w : World} {k : Nat} {cs : Array Value} {t : TypeId} (h : Blk w k cs t) : k < w.heap.size := (Array.getElem?_eq_some_iff.1 h).1
theorem Blk.cell {w : World} {k : Nat} {cs : Array Value} {t : TypeId} (h : Blk w k cs t) (i : Nat) (v : Value) (hi : cs[i]? = some v) : w.cell? ⟨k, i, none⟩ = some v := (cell_of_row w k i cs t (0, 0) h).trans hi
theorem Blk.free {w : World} {k : Nat} {cs : Array Value} {t : TypeId} (h : Blk w k cs t) (i : Nat) : w.frozen? ⟨k, i, none⟩ = false := frozen_of_row w k i cs t h
theorem Blk.new (w : World) (cs : Array Value) (t : TypeId) : Blk (w.alloc (.cells cs t)) w.heap.size cs t := heap_alloc_new w _
theorem Blk.alloc {w : World} {k : Nat} {cs : Array Value} {t : TypeId} (h : Blk w k cs t) (o : Obj) : Blk (w.alloc o) k cs t := (heap_alloc_old w o h.lt).trans h
theorem Blk.set {w : World} {k : Nat} {cs : Array Value} {t : TypeId} (h : Blk w k cs t) (i : Nat) (v : Value) : Blk (w.setCell ⟨k, i, none⟩ v) k (cs.setIfInBounds i v) t := heap_setCell_same w k i cs t v h
theorem Blk.other {w : World} {k : Nat} {cs : Array Value} {t : TypeId} (h : Blk w k cs t) (a : Addr) (v : Value) (hne : k ≠ a.block) : Blk (w.setCell a v) k cs t := (heap_setCell_other w a k v hne).trans h
theorem Blk.below {w w' : World} {k : Nat} {cs : Array Value} {t : TypeId} (h : Blk w k cs t) (hb : Below w.heap.size w w') : Blk w' k cs t := (hb.block k h.lt).trans h
theorem Blk.belowB {B : Nat} {w w' : World} {k : Nat} {cs : Array Value} {t : TypeId} (h : Blk w k cs t) (hb : Below B w w') (hk : k < B) : Blk w' k cs t := (hb.block k hk).trans h
theorem Blk.drew {w : World} {k : Nat} {cs : Array Value} {t : TypeId} (h : Blk w k cs t) : Blk w.drew k cs t := h
theorem Blk.drewN {w : World} {k : Nat} {cs : Array Value} {t : TypeId} (h : Blk w k cs t) (n : Nat) : Blk (w.drewN n) k cs t := h
/-- It abides what turns no cells (a range over a function's own book-keeping). -/
theorem Blk.kept {w w' : World} {k : Nat} {cs : Array Value} {t : TypeId} (h : Blk w k cs t) {row : Option Nat} (hg : w.grownBy w' row) (hr : ∀ r, row = some r → ∃ o : Obj, w.heap[r]? = some o ∧ o.isCells = false) : Blk w' k cs t := by
  refine (hg.block k h.lt ?_).trans h
  intro e
  obtain ⟨o, ho, hc⟩ := hr k e.symm
  unfold Blk at h
  rw [h] at ho
  cases ho
  cases hc
/-- What the call owns stays owned where all that lay lies as it lay. -/
theorem ownsRow_below {w w' : World} {base : Nat} {e : TypeId} {size : Nat} {v : Value} {n : Nat} {xs : List Value} (h : w.ownsRow base e size v n xs) (hb : Below w.heap.size w w') : w'.ownsRow base e size v n xs := by
  obtain ⟨h1, h2⟩ := h
  refine ⟨h1, ?_⟩
  rcases h2 with h2 | ⟨g, cap, cur, hv, hg, hh, r⟩
  · exact .inl h2
  · exact .inr ⟨g, cap, cur, hv, hg, (hb.block g (Array.getElem?_eq_some_iff.1 hh).1).trans hh, r⟩
/-- New cells in a block of their own, for an append. -/
theorem cells_new {w : World} {l : List Value} {t : TypeId} (j : Nat) (u : Value) (h : l[j]? = some u) : (w.alloc (.cells l.toArray t)).cell? ((⟨w.heap.size, 0, none⟩ : Addr).add j) = some u := by
  have hadd : (⟨w.heap.size, 0, none⟩ : Addr).add j = ⟨w.heap.size, j, none⟩ := by unfold Addr.add; split <;> simp_all
  rw [hadd]
  exact (Blk.new w l.toArray t).cell j u (by simpa using h)
theorem sizeSet (w : World) (a : Addr) (v : Value) : (w.setCell a v).heap.size = w.heap.size := by simp [World.setCell]
end Go.Proofs.YtjmejlncomaclaaDoor.Lx
