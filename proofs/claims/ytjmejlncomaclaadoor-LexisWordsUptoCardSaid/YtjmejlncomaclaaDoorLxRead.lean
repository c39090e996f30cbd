/- What a row's list gives: the tables are as the walks ask. Condition: the listed variables read as the row says. -/
import Derived.Test.YtjmejlncomaclaaDoorLxW1
import Derived.Lib.LaidU8T
namespace Go.Proofs.YtjmejlncomaclaaDoor.Lx
open Go.RowKit Go.Lib

/-- The numbers that the bridge to unicode/utf8's tables speaks of, at this program. -/
def rd_ren : Go.Shelf.Ren := ⟨fun n => n, fun | 5 => 5 | 119 => 129 | 138 => 131 | 139 => 132 | n => n, fun | 3 => 1 | 4 => 2 | n => n⟩
theorem rd_types : Go.Proofs.U8Types Tryd.prog rd_ren := ⟨Tryd.underlying5, Tryd.underlying129, Tryd.underlying131, Tryd.underlying132⟩
theorem rd_extra : Go.Proofs.U8Extra Tryd.prog rd_ren := ⟨by kernel_rfl, by kernel_rfl, by kernel_rfl, by kernel_rfl, by kernel_rfl, by kernel_rfl, by kernel_rfl⟩

def clsData (c : Nat) : DataW Unit := .slice ((cls c).map fun p => .agg ([p.1, p.2].map fun z => .lit (.int .i32 z))) []
def rangesData : DataW Unit := .agg ((List.range 6).map clsData)
theorem rd_name : Tryd.prog.globalNamed "gimlet/chars.ranges" = some 3 := by kernel_rfl
theorem rd_type : (Tryd.prog.globals[3]?).map (·.type) = some 144 := by kernel_rfl
theorem rd_cells1 : Tryd.prog.cellsOf 134 = 1 := by kernel_rfl
theorem rd_cells2 : Tryd.prog.cellsOf 137 = 2 := by kernel_rfl
theorem rd_cells3 : Tryd.prog.cellsOf 21 = 1 := by kernel_rfl

theorem add_add (T o m j : Nat) : ((⟨T, o, none⟩ : Addr).add m).add j = ⟨T, o + m + j, none⟩ := by
  unfold Addr.add
  split <;> split <;> simp_all
theorem cls_pos (c : Nat) (hc : c < 6) : 0 < (cls c).length := by
  rcases c with _ | _ | _ | _ | _ | _ | c
  · simp [cls]
  · simp [cls]
  · simp [cls]
  · simp [cls]
  · simp [cls]
  · simp [cls]
  · omega
theorem cls_of_reads {w : World} (h : VarReads Tryd.prog w "gimlet/chars.ranges" rangesData) : ∀ c, c < 6 → ∃ R o, R < w.heap.size ∧ w.cell? ⟨3, c, none⟩ = some (.slice (some ⟨R, o, none⟩) (cls c).length (cls c).length) ∧
    ∀ i p, (Lx.cls c)[i]? = some p → w.cell? ⟨R, o + i * 2, none⟩ = some (.int .i32 p.1) ∧ w.cell? ⟨R, o + i * 2 + 1, none⟩ = some (.int .i32 p.2) := by
  intro c hc
  obtain ⟨g, t, cs, fuel, p, hg, hty, hvar, hd⟩ := h
  obtain rfl := Option.some.inj (rd_name.symm.trans hg)
  obtain rfl := Option.some.inj (rd_type.symm.trans hty)
  obtain ⟨fuel', d, q, hdi, he⟩ := array_elem Tryd.underlying144 hd c hc
  simp only [List.getElem?_map, List.getElem?_range hc, Option.map_some, Option.some.injEq] at hdi
  subst hdi
  rw [rd_cells1] at he
  rcases DataW.trod_slice Tryd.underlying134 he with ⟨_, hx⟩ | ⟨a, len, cap, el, rs, m, rfl, hc0, hx, _, hlc, _, hel, helem, hsp, _⟩
  · simp [clsData] at hx
  simp only [clsData, Prod.mk.injEq, DataW.slice.injEq] at hx
  obtain ⟨⟨eE, eR⟩, _⟩ := hx
  have hlen : len = (cls c).length := by
    have := congrArg List.length eE
    simp only [List.length_map] at this
    omega
  have hrs : rs = [] := List.map_eq_nil_iff.1 eR.symm
  have hcap : cap = len := by
    have := (hsp rfl).1
    rw [hrs] at this
    simp only [List.length_nil] at this
    omega
  subst hcap
  have hpos : 0 < (cls c).length := cls_pos c hc
  have hcell : w.cell? ⟨3, c, none⟩ = some (.slice (some a) cap cap) := by
    rw [World.var?_cell rd_name hvar c, ← Array.getElem?_toList]
    have := congrArg (·[0]?) hc0
    simpa [List.getElem?_take, List.getElem?_drop] using this
  obtain ⟨T, oT, sT⟩ := a
  have hrange : ∀ i pr, (cls c)[i]? = some pr → ∀ j v, ([pr.1, pr.2].map fun z => Value.int .i32 z)[j]? = some v → j < 2 → w.cell? (((⟨T, oT, sT⟩ : Addr).add (i * 2)).add j) = some v := by
    intro i pr hi j v hv hj
    have hil : i < cap := by rw [hlen]; exact (List.getElem?_eq_some_iff.1 hi).1
    have h1 := helem i hil
    rw [rd_cells2] at h1
    obtain ⟨b, hb⟩ : ∃ b, el[i]? = some b := ⟨el[i]'(by omega), List.getElem?_eq_getElem (by omega)⟩
    rw [hb] at h1
    obtain ⟨ce, hce, hte⟩ := Option.bind_eq_some_iff.1 h1
    have hb1 : b.1 = .agg ([pr.1, pr.2].map fun z => .lit (.int .i32 z)) := by
      have := congrArg (·[i]?) eE
      simp only [List.getElem?_map, hi, hb, Option.map_some, Option.some.injEq] at this
      exact this.symm
    have hcs := ints_of_struct (k := .i32) (p := b.2) Tryd.underlying137 (fun q f hq => by
      match q, hq with
      | 0, hq => simp at hq; subst hq; exact ⟨Tryd.underlying21, rfl, rd_cells3⟩
      | 1, hq => simp at hq; subst hq; exact ⟨Tryd.underlying21, rfl, rd_cells3⟩
      | q + 2, hq => simp at hq) (by rw [rd_cells2]; rfl) (by rw [← hb1]; exact hte)
    obtain ⟨_, _, hcc⟩ := World.cells?_some hce
    rw [hcc j hj, hcs]
    exact hv
  have h0 := hrange 0 _ (List.getElem?_eq_getElem hpos) 0 _ rfl (by decide)
  obtain rfl : sT = none := by
    have e : ((⟨T, oT, sT⟩ : Addr).add (0 * 2)).add 0 = ⟨T, oT, sT⟩ := by simp [Addr.add]
    rw [e] at h0
    exact cell_spot h0
  refine ⟨T, oT, ?_, by rw [hcell, ← hlen], fun i pr hi => ?_⟩
  · exact World.block_lt_of_cell? w _ h0
  · have a0 := hrange i pr hi 0 _ rfl (by decide)
    have a1 := hrange i pr hi 1 _ rfl (by decide)
    rw [show ((⟨T, oT, none⟩ : Addr).add (i * 2)).add 0 = ⟨T, oT + i * 2, none⟩ from add_add _ _ _ _] at a0
    rw [show ((⟨T, oT, none⟩ : Addr).add (i * 2)).add 1 = ⟨T, oT + i * 2 + 1, none⟩ from add_add _ _ _ _] at a1
    exact ⟨a0, a1⟩

theorem asc_of_reads {w : World} (h : VarReads Tryd.prog w "strings.asciiSpace" (tabData .u8 asciiSpaceTab)) : TabIs Tryd.prog w "strings.asciiSpace" .u8 asciiSpaceTab := by
  obtain ⟨g, t, cs, fuel, p, hg, hty, hvar, hd⟩ := h
  obtain rfl := Option.some.inj (asciiSpace_named.symm.trans hg)
  obtain rfl := Option.some.inj ((show (Tryd.prog.globals[4]?).map (·.type) = some 129 by kernel_rfl).symm.trans hty)
  unfold TabIs
  have := cells_of_tab Tryd.underlying129 Tryd.underlying5 (by kernel_rfl) (by kernel_rfl) hd
  rw [hvar, ← this]

theorem vars_of_reads {w : World} (h1 : VarReads Tryd.prog w "unicode/utf8.first" firstData) (h2 : VarReads Tryd.prog w "unicode/utf8.acceptRanges" acceptData) (h3 : VarReads Tryd.prog w "gimlet/chars.ranges" rangesData) (h4 : VarReads Tryd.prog w "strings.asciiSpace" (tabData .u8 asciiSpaceTab)) : Vars w :=
  ⟨cls_of_reads h3, Go.Proofs.utf8Tabs_of_readsT rd_types rd_extra h1 h2, asc_of_reads h4⟩
end Go.Proofs.YtjmejlncomaclaaDoor.Lx
