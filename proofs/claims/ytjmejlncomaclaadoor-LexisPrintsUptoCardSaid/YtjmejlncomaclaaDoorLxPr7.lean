/- A slice of words that came in: its words, as they lie. No conditions beyond the row's reading. -/
import Derived.Test.YtjmejlncomaclaaDoorLxPr6
import Derived.Test.YtjmejlncomaclaaDoorLxArg
import Derived.Test.YtjmejlncomaclaaDoorLxRead
namespace Go.Proofs.YtjmejlncomaclaaDoor.Lx
open Go.ChangeShapes Go.WideShapes Go.ChangeAt Go.RowKit

theorem cells_word : Tryd.prog.cellsOf 37 = 7 := by kernel_rfl
theorem cells_place : Tryd.prog.cellsOf 35 = 4 := by kernel_rfl
theorem cells_i : Tryd.prog.cellsOf 3 = 1 := by kernel_rfl
theorem cells_k : Tryd.prog.cellsOf 33 = 1 := by kernel_rfl
theorem cells_s : Tryd.prog.cellsOf 9 = 1 := by kernel_rfl
theorem fields_word : ∃ f0 f1 f2 f3 : Field, Tryd.prog.underlying 37 = some (.struct #[f0, f1, f2, f3]) ∧ f0.type = 33 ∧ f0.offset = 0 ∧ f1.type = 9 ∧ f1.offset = 1 ∧ f2.type = 3 ∧ f2.offset = 2 ∧ f3.type = 35 ∧ f3.offset = 3 :=
  ⟨_, _, _, _, Tryd.underlying37, rfl, rfl, rfl, rfl, rfl, rfl, rfl, rfl⟩
theorem fields_place : ∃ f0 f1 f2 f3 : Field, Tryd.prog.underlying 35 = some (.struct #[f0, f1, f2, f3]) ∧ f0.type = 3 ∧ f0.offset = 0 ∧ f1.type = 3 ∧ f1.offset = 1 ∧ f2.type = 3 ∧ f2.offset = 2 ∧ f3.type = 3 ∧ f3.offset = 3 :=
  ⟨_, _, _, _, Tryd.underlying35, rfl, rfl, rfl, rfl, rfl, rfl, rfl, rfl⟩
theorem list_of {α : Type} {Q : Nat → α → Prop} : ∀ n, (∀ i, i < n → ∃ a, Q i a) → ∃ l : List α, l.length = n ∧ ∀ i a, l[i]? = some a → Q i a
  | 0, _ => ⟨[], rfl, fun i a h => by simp at h⟩
  | n + 1, h => by
    obtain ⟨l, h1, h2⟩ := list_of (Q := Q) n fun i hi => h i (by omega)
    obtain ⟨a, ha⟩ := h n (by omega)
    refine ⟨l ++ [a], by simp [h1], fun i b hb => ?_⟩
    rcases Nat.lt_or_ge i l.length with hi | hi
    · rw [List.getElem?_append_left hi] at hb; exact h2 i b hb
    · rw [List.getElem?_append_right hi] at hb
      have : i - l.length < [a].length := (List.getElem?_eq_some_iff.1 hb).1
      simp only [List.length_singleton] at this
      obtain rfl : i = l.length := by omega
      simp at hb
      subst hb
      rw [h1]; exact ha
set_option maxRecDepth 100000 in
/-- Seven cells that read as a word. -/
theorem word_read {H : Type} {enc : TypeId × Value → H} {w : World} {base : Nat} {sp : Nat → Bool} {held : Bool} {fuel : Nat} {cs : List Value} {b : DataW H × List MemPlace}
    (h : DataW.trod enc Tryd.prog w base sp held fuel 37 cs = some b) :
    ∃ a : AW, cs = awCells a ∧ (-9223372036854775808 ≤ a.num ∧ a.num ≤ 9223372036854775807) ∧ ∃ d0 d2 d3, b.1 = .agg [d0, .lit (.string a.text.data.toList), d2, d3] := by
  obtain ⟨f0, f1, f2, f3, hu, t0, o0, t1, o1, t2, o2, t3, o3⟩ := fields_word
  obtain ⟨xs, n, _, rfl, hl, hlen, hf⟩ := DataW.trod_struct hu h
  rw [cells_word] at hl
  match cs, hl with
  | [c0, c1, c2, c3, c4, c5, c6], _ =>
    match xs, hlen with
    | [y0, y1, y2, y3], _ =>
      have g0 := hf 0 f0 rfl
      have g1 := hf 1 f1 rfl
      have g2 := hf 2 f2 rfl
      have g3 := hf 3 f3 rfl
      rw [t0, o0, cells_k] at g0
      rw [t1, o1, cells_s] at g1
      rw [t2, o2, cells_i] at g2
      rw [t3, o3, cells_place] at g3
      simp only [List.drop_zero, List.take_succ_cons, List.take_zero, List.drop_succ_cons, List.getElem?_cons_zero, List.getElem?_cons_succ] at g0 g1 g2 g3
      obtain ⟨kd, e0, h0, _⟩ := DataW.trod_int Tryd.underlying33 g0
      obtain ⟨s, e1, h1, _⟩ := DataW.trod_string Tryd.underlying9 g1
      obtain ⟨nm, e2, h2, w2⟩ := DataW.trod_int Tryd.underlying3 g2
      obtain ⟨p0, p1, p2, p3, pu, q0, r0, q1, r1, q2, r2, q3, r3⟩ := fields_place
      obtain ⟨ys, m, _, h3, _, hlen3, hf3⟩ := DataW.trod_struct pu g3
      match ys, hlen3 with
      | [z0, z1, z2, z3], _ =>
        have k0 := hf3 0 p0 rfl
        have k1 := hf3 1 p1 rfl
        have k2 := hf3 2 p2 rfl
        have k3 := hf3 3 p3 rfl
        rw [q0, r0, cells_i] at k0
        rw [q1, r1, cells_i] at k1
        rw [q2, r2, cells_i] at k2
        rw [q3, r3, cells_i] at k3
        simp only [List.drop_zero, List.take_succ_cons, List.take_zero, List.drop_succ_cons, List.getElem?_cons_zero, List.getElem?_cons_succ] at k0 k1 k2 k3
        obtain ⟨m0, i0, _, _⟩ := DataW.trod_int Tryd.underlying3 k0
        obtain ⟨m1, i1, _, _⟩ := DataW.trod_int Tryd.underlying3 k1
        obtain ⟨m2, i2, _, _⟩ := DataW.trod_int Tryd.underlying3 k2
        obtain ⟨m3, i3, _, _⟩ := DataW.trod_int Tryd.underlying3 k3
        simp only [List.cons.injEq, and_true] at e0 e1 e2 i0 i1 i2 i3
        refine ⟨⟨kd, s, nm, m0, m1, m2, m3⟩, ?_, ?_, y0.1, y2.1, y3.1, ?_⟩
        · simp only [awCells, e0, e1, e2, i0, i1, i2, i3]
        · simp [Lit.wf, IntKind.min, IntKind.max, IntKind.signed, IntKind.bits] at w2
          simp only; omega
        · simp only [List.map_cons, List.map_nil, h1]
set_option maxRecDepth 100000 in
/-- A slice of words that came in: its words. -/
theorem open_words {H : Type} {enc : TypeId × Value → H} {W : World} {base : Nat} {v : Value} {d : DataW H} {p : List MemPlace} (hval : Value.okWide Tryd.prog W .any base 25 v)
    (h : DataW.Trod enc Tryd.prog W 0 (fun _ => true) true 25 v d p) : ∃ l : List AW, RW W v l ∧ NumsOk l ∧ ((l = [] ∧ d = .nil) ∨ ∃ es sp, d = .slice es sp ∧ es.length = l.length ∧ ∀ (i : Nat) a e, l[i]? = some a → es[i]? = some e → ∃ d0 d2 d3, e = .agg [d0, .lit (.string a.text.data.toList), d2, d3]) := by
  obtain ⟨fuel, hf⟩ := h
  obtain ⟨a1, l1, c1, rfl⟩ := okWide_slice Tryd.underlying25 hval
  rcases DataW.trod_slice Tryd.underlying25 hf with ⟨hcs, hx⟩ | ⟨a, len, cap, el, rs, m, _, hcs, hx, _, hlc, _, hel, helem, _, _⟩
  · simp [Value.cells] at hcs
    obtain ⟨rfl, rfl, rfl⟩ := hcs
    simp only [Prod.mk.injEq] at hx
    exact ⟨[], .inl ⟨rfl, rfl⟩, fun a h => (by simp at h), .inl ⟨rfl, hx.1⟩⟩
  · simp [Value.cells] at hcs
    obtain ⟨rfl, rfl, rfl⟩ := hcs
    simp only [Prod.mk.injEq] at hx
    have hv := hval
    simp only [Value.okWide, Tryd.underlying25, Cell.okWide, Cell.ok] at hv
    obtain ⟨_, _, _, hsp, row, cells, hsh, _⟩ := hv
    obtain ⟨ab, ao, spot⟩ := a
    simp only at hsp hsh
    subst hsp
    have hlt : ab < W.heap.size := by
      rcases Nat.lt_or_ge ab W.heap.size with h | h
      · exact h
      · simp [World.shape?, Array.getElem?_eq_none h] at hsh
    obtain ⟨l, hl, hQ⟩ := list_of (Q := fun i a => (∀ (f : Nat) u, (awCells a)[f]? = some u → W.cell? ⟨ab, ao + i * 7 + f, none⟩ = some u) ∧ (-9223372036854775808 ≤ a.num ∧ a.num ≤ 9223372036854775807) ∧ ∃ b, el[i]? = some b ∧ ∃ d0 d2 d3, b.1 = .agg [d0, .lit (.string a.text.data.toList), d2, d3]) l1 (fun i hi => by
      have h1 := helem i hi
      rw [cells_word] at h1
      obtain ⟨b, hb⟩ : ∃ b, el[i]? = some b := ⟨el[i]'(by omega), List.getElem?_eq_getElem (by omega)⟩
      rw [hb] at h1
      obtain ⟨ce, hce, hte⟩ := Option.bind_eq_some_iff.1 h1
      obtain ⟨a, h2, h3, h4⟩ := word_read hte
      obtain ⟨_, _, hcc⟩ := World.cells?_some hce
      refine ⟨a, fun f u hu => ?_, h3, b, hb, h4⟩
      have hf7 : f < 7 := by have := (List.getElem?_eq_some_iff.1 hu).1; simpa [awCells] using this
      have h5 := hcc f hf7
      rw [add_add, h2] at h5
      rw [h5]; exact hu)
    refine ⟨l, .inr ⟨ab, ao, c1, by rw [hl], by omega, hlt, fun i a hi => (hQ i a hi).1⟩, fun a ha => ?_, .inr ⟨_, _, hx.1, by rw [List.length_map, hel, hl], fun i a e hi he => ?_⟩⟩
    · obtain ⟨i, hi⟩ := List.getElem?_of_mem ha
      exact (hQ i a hi).2.1
    · obtain ⟨b, hb, d0, d2, d3, h4⟩ := (hQ i a hi).2.2
      rw [List.getElem?_map, hb] at he
      cases he
      exact ⟨d0, d2, d3, h4⟩
theorem pow10_of_reads {w : World} (h : Lib.VarReads Tryd.prog w "internal/strconv.uint64pow10" (Lib.tabData .u64 Lib.pow10Tab)) : Pow10 w := by
  obtain ⟨g, t, cs, fuel, p, hg, hty, hvar, hd⟩ := h
  obtain rfl := Option.some.inj ((show Tryd.prog.globalNamed "internal/strconv.uint64pow10" = some 7 by kernel_rfl).symm.trans hg)
  obtain rfl := Option.some.inj ((show (Tryd.prog.globals[7]?).map (·.type) = some 164 by kernel_rfl).symm.trans hty)
  unfold Pow10 Lib.TabIs
  have := Lib.cells_of_tab Tryd.underlying164 Tryd.underlying148 (by kernel_rfl) (by kernel_rfl) hd
  rw [hvar, ← this]
end Go.Proofs.YtjmejlncomaclaaDoor.Lx
