/- A slice of bytes that came in: its bytes, as they lie. No conditions beyond the row's reading. -/
import Derived.Test.YtjmejlncomaclaaDoorLxW5
import Derived.WalkKit
import Derived.ProofKit
import Derived.OpenShut
import Derived.Carry
import Derived.ChangeSlices
namespace Go.Proofs.YtjmejlncomaclaaDoor.Lx
open Go.ChangeShapes Go.WideShapes Go.ChangeAt Go.RowKit

theorem cells_u8 : Tryd.prog.cellsOf 5 = 1 := by kernel_rfl
theorem laidOut : laidOutB Tryd.prog = true := by kernel_rfl
set_option maxRecDepth 100000 in
/-- A slice of bytes that came in: its bytes. -/
theorem open_bytes {H : Type} {enc : TypeId × Value → H} {W : World} {base : Nat} {v : Value} {d : DataW H} {p : List MemPlace} (hval : Value.okWide Tryd.prog W .any base 22 v)
    (h : DataW.Trod enc Tryd.prog W 0 (fun _ => true) true 22 v d p) : ∃ q : List UInt8, RB W v q ∧ ((q = [] ∧ d = .nil) ∨ ∃ es sp, d = .slice es sp ∧ es.length = q.length) := by
  obtain ⟨fuel, hf⟩ := h
  obtain ⟨a1, l1, c1, rfl⟩ := okWide_slice Tryd.underlying22 hval
  rcases open_ints Tryd.underlying22 Tryd.underlying5 cells_u8 hf with ⟨hcs, hx⟩ | ⟨a, len, cap, zs, hcs, _, hl, hm, hz, hx, hcell, hwz⟩
  · simp [Value.cells] at hcs
    obtain ⟨rfl, rfl, rfl⟩ := hcs
    simp only [Prod.mk.injEq] at hx
    exact ⟨[], .inl ⟨rfl, rfl⟩, .inl ⟨rfl, hx.1⟩⟩
  · simp [Value.cells] at hcs
    obtain ⟨rfl, rfl, rfl⟩ := hcs
    simp only [Prod.mk.injEq] at hx
    simp only [if_true] at hz
    have hv := hval
    simp only [Value.okWide, Tryd.underlying22, Cell.okWide, Cell.ok] at hv
    obtain ⟨_, _, _, hsp, row, cells, hsh, _⟩ := hv
    obtain ⟨ab, ao, spot⟩ := a
    simp only at hsp hsh
    subst hsp
    have hlt : ab < W.heap.size := by
      rcases Nat.lt_or_ge ab W.heap.size with h | h
      · exact h
      · simp [World.shape?, Array.getElem?_eq_none h] at hsh
    have hlen : ((zs.take l1).map fun n => UInt8.ofNat n.toNat).length = l1 := by simp; omega
    refine ⟨(zs.take l1).map fun n => UInt8.ofNat n.toNat, .inr ⟨ab, ao, c1, by rw [hlen], by omega, hlt, fun j hj => ?_⟩, .inr ⟨_, _, hx.1, by rw [hlen]; simp [lits]; omega⟩⟩
    rw [hlen] at hj
    have hcj := hcell j (by omega)
    rw [Addr.add_lit] at hcj
    rw [hcj]
    have hb := range_u8 hwz j
    have e : zs.getD j 0 = zs[j]'(by omega) := by simp [List.getD, List.getElem?_eq_getElem (show j < zs.length by omega)]
    have e2 : ((zs.take l1).map fun n => UInt8.ofNat n.toNat).getD j 0 = UInt8.ofNat (zs[j]'(by omega)).toNat := by
      simp [List.getD_eq_getElem?_getD, List.getElem?_take_of_lt hj, List.getElem?_eq_getElem (show j < zs.length by omega)]
    rw [e2, e]
    rw [List.getElem?_eq_getElem (show j < zs.length by omega)] at hb
    simp only [Option.getD_some] at hb
    congr 2
    simp only [UInt8.toNat_ofNat']
    omega
end Go.Proofs.YtjmejlncomaclaaDoor.Lx
