/- The walk of runes.At, where the place is past the text. Condition: at most 1000000000 bytes. -/
import Derived.Test.YtjmejlncomaclaaDoorLxIter
namespace Go.Proofs.YtjmejlncomaclaaDoor.Lx
open Go.RowKit Go.Shelf
attribute [local go_sem] Oper.semAt_some

set_option maxRecDepth 100000 in
set_option maxHeartbeats 2000000 in
/-- runes.At, of no bytes. -/
theorem at_none_in (F : Fence) (n : Nat) (h1 : F.fn 10) (h2 : F.fn 23) (h3 : F.fn 46) (hro : F.round = none) (hn4 : 4 ≤ n) (w : World) :
    CallsIn F n Tryd.prog 10 #[.slice none 0 0, .int .i64 0] w fun e w' =>
      e = .returned (.tuple #[.agg #[.int .i64 0, .int .i64 0, .int .i64 1, .int .i64 1], .int .i64 0]) ∧ Below w.heap.size w w' := by
  have hn1 : 1 ≤ n := by omega
  refine callsIn_of_wp_marks Tryd.func10 rfl h1 ?_ hro
  simp only [Tryd.ntmps10, List.size_toArray, List.length_cons, List.length_nil, Nat.reduceAdd, Nat.reduceSub, Array.replicate_succ, Array.replicate_zero, List.push_toArray, List.append_toArray, List.nil_append, List.cons_append]
  have hcv := fun o1 o2 o3 => run_convert_bytes_nil (P := Tryd.prog) (((w.alloc o1).alloc o2).alloc o3) 22 5 Tryd.underlying22 Tryd.underlying5 0 0 9 Tryd.underlying9
  gi_wp2_with (gi_at_call 23; refine (all_in F (n - 1) h2 hro _ _).mono ?_; rintro e w' ⟨rfl, rfl⟩)
  obtain ⟨W0, hW0⟩ : ∃ W0, (((w.alloc (.cells #[.slice none 0 0] 22)).alloc (.cells #[.int .i64 0, .int .i64 0, .int .i64 0, .int .i64 0] 35)).alloc (.cells #[.int .i64 0, .int .i64 0, .int .i64 1, .int .i64 1] 35)).alloc (.cells #[.string ByteArray.empty] 9) = W0 := ⟨_, rfl⟩
  have hz0 : W0.heap.size = w.heap.size + 4 := by rw [← hW0]; simp
  have k0 : Blk W0 w.heap.size #[.slice none 0 0] 22 := by rw [← hW0]; exact (((Blk.new w _ _).alloc _).alloc _).alloc _
  have k1 : Blk W0 (w.heap.size + 1) #[.int .i64 0, .int .i64 0, .int .i64 0, .int .i64 0] 35 := by
    rw [← hW0]; have := ((Blk.new (w.alloc (.cells #[.slice none 0 0] 22)) #[.int .i64 0, .int .i64 0, .int .i64 0, .int .i64 0] 35).alloc (.cells #[.int .i64 0, .int .i64 0, .int .i64 1, .int .i64 1] 35)).alloc (.cells #[.string ByteArray.empty] 9); rw [World.size_alloc] at this; exact this
  have k2 : Blk W0 (w.heap.size + 1 + 1) #[.int .i64 0, .int .i64 0, .int .i64 1, .int .i64 1] 35 := by
    rw [← hW0]; have := (Blk.new ((w.alloc (.cells #[.slice none 0 0] 22)).alloc (.cells #[.int .i64 0, .int .i64 0, .int .i64 0, .int .i64 0] 35)) #[.int .i64 0, .int .i64 0, .int .i64 1, .int .i64 1] 35).alloc (.cells #[.string ByteArray.empty] 9); rw [World.size_alloc, World.size_alloc] at this; exact this
  have k3 : Blk W0 (w.heap.size + 1 + 1 + 1) #[.string ByteArray.empty] 9 := by
    rw [← hW0]; have := (Blk.new (((w.alloc (.cells #[.slice none 0 0] 22)).alloc (.cells #[.int .i64 0, .int .i64 0, .int .i64 0, .int .i64 0] 35)).alloc (.cells #[.int .i64 0, .int .i64 0, .int .i64 1, .int .i64 1] 35)) #[.string ByteArray.empty] 9); rw [World.size_alloc, World.size_alloc, World.size_alloc] at this; exact this
  have hB0 : Below w.heap.size w W0 := by rw [← hW0]; exact ((((Below.refl _ w).alloc (Nat.le_refl _) _).alloc (by simp) _).alloc (by simp; omega) _).alloc (by simp; omega) _
  rw [hW0]
  clear hW0 hcv
  have hs : (ByteArray.empty : ByteArray).size ≤ 1000000000 := by show (0 : Nat) ≤ _; omega
  refine wpIn_rangeFunc_ownF hro hn1 (gf := 46) (lb := #[.pointer (some ⟨w.heap.size + 1 + 1 + 1, 0, none⟩)]) rfl h3 (enters_of Tryd.func46 (by kernel_rfl) rfl)
    (all1_stops F (n - 1) h3 hro (by omega) W0 ByteArray.empty hs (w.heap.size + 1 + 1 + 1) (k3.cell 0 _ rfl)) walksK_t walksK_b (Below.refl _ _) (fun _ => rfl)
    (fun pre W => (Blk W w.heap.size #[.slice none 0 0] 22 ∧ Blk W (w.heap.size + 1) #[.int .i64 0, .int .i64 0, .int .i64 0, .int .i64 0] 35 ∧
        Blk W (w.heap.size + 1 + 1) #[.int .i64 0, .int .i64 (plFold [] (pre.map Subtype.val)).1, .int .i64 (plFold [] (pre.map Subtype.val)).2.1, .int .i64 (plFold [] (pre.map Subtype.val)).2.2] 35) ∧ Below w.heap.size w W)
    (fun _ _ _ => False)
    (OwnFrom.and (Own.from (fun s A B row hs hg hr => ⟨hs.1.kept hg hr, hs.2.1.kept hg hr, hs.2.2.kept hg hr⟩) _) (ownFrom_below (Nat.le_refl _) (by rw [hz0]; omega)))
    (fun _ _ _ _ _ hs _ _ => hs)
    ⟨⟨k0, k1, k2⟩, hB0⟩
    (fun x => { tmps := #[.slice none 0 0, .int .i64 0, .pointer (some ⟨w.heap.size, 0, none⟩), undef, .pointer (some ⟨w.heap.size + 1, 0, none⟩), .int .i64 0, .pointer (some ⟨w.heap.size + 1 + 1, 0, none⟩), .int .i64 x.1.1, .int .i32 x.1.2, .int .i64 0, .bool false, .bool false, .int .i64 0, .slice none 0 0, .int .i64 0, .bool false, .bool false, undef, .int .i64 0, .agg #[.int .i64 0, .int .i64 0, .int .i64 1, .int .i64 1], .slice none 0 0, .int .i64 0, .slice none 0 0, .string ByteArray.empty, .func (.func 46) #[] #[.pointer (some ⟨w.heap.size + 1 + 1 + 1, 0, none⟩)], .int .i64 x.1.1, .int .i32 x.1.2, undef, undef, undef, undef, undef, undef, undef, undef, undef, undef, undef, undef, undef, undef, undef, undef, undef, undef, undef, undef, undef, undef, undef, undef, undef, undef, undef, undef, undef, undef, undef, undef, undef, undef, undef], defers := [] }) ?assign ?body ?done ?stop
  case assign =>
    intro l' x W K hK
    unfold enc2
    rw [zip_two]
    gi_wp2
    exact hK
  case body =>
    rintro l' pre x W ⟨⟨b0, b1, b2⟩, hB⟩ hlen
    exact absurd hlen (Nat.not_lt_zero _)
  case done =>
    rintro D ys W hD hys ⟨⟨b0, b1, b2⟩, hB⟩ hK
    have hys2 : ys.map Subtype.val = [] := hys
    rw [hys2] at b2
    change Blk W (w.heap.size + 1 + 1) #[.int .i64 0, .int .i64 0, .int .i64 1, .int .i64 1] _ at b2
    clear hys hys2
    have e0 : W.cell? ⟨w.heap.size + 1 + 1, 0, none⟩ = some (.int .i64 0) := b2.cell 0 _ rfl
    have e1 : W.cell? ⟨w.heap.size + 1 + 1, 1, none⟩ = some (.int .i64 0) := b2.cell 1 _ rfl
    have e2 : W.cell? ⟨w.heap.size + 1 + 1, 2, none⟩ = some (.int .i64 1) := b2.cell 2 _ rfl
    have e3 : W.cell? ⟨w.heap.size + 1 + 1, 3, none⟩ = some (.int .i64 1) := b2.cell 3 _ rfl
    have g0 : W.cell? ⟨w.heap.size + 1, 0, none⟩ = some (.int .i64 0) := b1.cell 0 _ rfl
    have g1 : W.cell? ⟨w.heap.size + 1, 1, none⟩ = some (.int .i64 0) := b1.cell 1 _ rfl
    have g2 : W.cell? ⟨w.heap.size + 1, 2, none⟩ = some (.int .i64 0) := b1.cell 2 _ rfl
    have g3 : W.cell? ⟨w.heap.size + 1, 3, none⟩ = some (.int .i64 0) := b1.cell 3 _ rfl
    have f0 : W.frozen? ⟨w.heap.size + 1, 0, none⟩ = false := b1.free 0
    have f1 : W.frozen? ⟨w.heap.size + 1, 1, none⟩ = false := b1.free 1
    have f2 : W.frozen? ⟨w.heap.size + 1, 2, none⟩ = false := b1.free 2
    have f3 : W.frozen? ⟨w.heap.size + 1, 3, none⟩ = false := b1.free 3
    have Hb0 := Lib.hid b0
    have Hb1 := Lib.hid b1
    have Hb2 := Lib.hid b2
    clear b0 b1 b2 k0 k1 k2 k3
    gi_wp2
    obtain ⟨W', hW'⟩ : ∃ W', ((((W.setCell ⟨w.heap.size + 1, 0, none⟩ (.int .i64 0)).setCell ⟨w.heap.size + 1, 1, none⟩ (.int .i64 0)).setCell ⟨w.heap.size + 1, 2, none⟩ (.int .i64 1)).setCell ⟨w.heap.size + 1, 3, none⟩ (.int .i64 1)) = W' := ⟨_, rfl⟩
    rw [hW']
    have B1 : Blk W' (w.heap.size + 1) #[.int .i64 0, .int .i64 0, .int .i64 1, .int .i64 1] 35 := by
      rw [← hW']; have := (((Hb1.out.set 0 (.int .i64 0)).set 1 (.int .i64 0)).set 2 (.int .i64 1)).set 3 (.int .i64 1); simpa using this
    have hK' : W'.heap[D]? = some (.deferred (some [])) := by
      rw [← hW']; exact ((((KeepsOthers.setCell W ⟨w.heap.size + 1, 0, none⟩ (.int .i64 0)).trans (KeepsOthers.setCell _ ⟨w.heap.size + 1, 1, none⟩ (.int .i64 0))).trans (KeepsOthers.setCell _ ⟨w.heap.size + 1, 2, none⟩ (.int .i64 1))).trans (KeepsOthers.setCell _ ⟨w.heap.size + 1, 3, none⟩ (.int .i64 1))).same D _ hK rfl
    have hB' : Below w.heap.size w W' := by
      rw [← hW']; exact (((hB.setCell (p := ⟨w.heap.size + 1, 0, none⟩) (by simp only; omega) _).setCell (p := ⟨w.heap.size + 1, 1, none⟩) (by simp only; omega) _).setCell (p := ⟨w.heap.size + 1, 2, none⟩) (by simp only; omega) _).setCell (p := ⟨w.heap.size + 1, 3, none⟩) (by simp only; omega) _
    have B2 := B1.kept (grownBy_putObj' W' D (.deferred none)) (fun r e => by cases e; exact ⟨_, hK', rfl⟩)
    have hB2 := hB'.trans (belowK_b (w := w) (Nat.le_refl _) W' D _ (.deferred none) (by omega) hK' rfl rfl)
    refine ⟨by simp, .inl ⟨_, _, rfl, run_takeDeferred hK', ?_⟩⟩
    have q0 := B2.cell 0 _ rfl
    have q1 := B2.cell 1 _ rfl
    have q2 := B2.cell 2 _ rfl
    have q3 := B2.cell 3 _ rfl
    simp only [List.getElem_toArray, List.getElem_cons_zero, List.getElem_cons_succ] at q0 q1 q2 q3
    refine ⟨.tuple #[.agg #[.int .i64 0, .int .i64 0, .int .i64 1, .int .i64 1], .int .i64 0], ?_, rfl, hB2⟩
    simp [results, Tryd.results10, go_sem, q0, q1, q2, q3]
  case stop =>
    rintro D c pre W _ _ h _
    exact h.elim
end Go.Proofs.YtjmejlncomaclaaDoor.Lx
