/- The walk of runes.All, to the place asked for. Condition: at most 1000000000 bytes. -/
import Derived.RangeFuncNested
import Derived.RangeFuncBound
import Derived.RangeFuncCalls
import Derived.RangeFuncLeaves
import Derived.Shelf.Abstract
import Derived.Shelf.RegionOpen
import Derived.OwnWalkIn
import Derived.TacticsInMore
import Derived.LoopNIn
import Derived.LoopIn
import Derived.BigGuardIn
import Derived.BigGuardPartIn
import Derived.Test.YtjmejlncomaclaaDoorLxW4
import Derived.Test.YtjmejlncomaclaaDoorLxWorld
namespace Go.Proofs.YtjmejlncomaclaaDoor.Lx
open Go.RowKit Go.Shelf
attribute [local go_sem] Oper.semAt_some

/-- A character with its place, both within bounds. -/
abbrev Ch := { x : Nat × Nat // x.1 ≤ 1000000000 ∧ x.2 ≤ 1114111 }
def enc2 (x : Ch) : Array Value := #[.int .i64 x.1.1, .int .i32 x.1.2]

theorem zip_two (p q : Tmp) (u v : Value) (t : Array Value) : ((#[p, q] : Array Tmp).zip #[u, v]).foldl (fun t (p, v) => t.setIfInBounds p v) t = (t.setIfInBounds p u).setIfInBounds q v := by simp

theorem iterAt_grown (w : World) (k : Nat) (s : ByteArray) (pos : Nat) : w.grownBy (w.iterAt k s pos) (some k) :=
  ⟨rfl, rfl, rfl, by rw [Lib.iterAt_size]; exact Nat.le_refl _, fun j _ hne => Lib.iterAt_other w k j s pos (fun e => hne (by rw [e]))⟩

set_option maxRecDepth 100000 in
set_option maxHeartbeats 2000000 in
/-- runes.All's iterator gives the characters of the text. -/
theorem all1_stops (F : Fence) (n : Nat) (hf : F.fn 46) (hro : F.round = none) (hn : 1 ≤ n) (w : World) (s : ByteArray) (hs : s.size ≤ 1000000000) (Bs : Nat) (hB : w.cell? ⟨Bs, 0, none⟩ = some (.string s)) :
    SeqStopsK F n Tryd.prog 46 #[.pointer (some ⟨Bs, 0, none⟩)] enc2 KeepsWalks (fun xs => xs.map Subtype.val = chars s.data.toList) (fun pre => pre.map Subtype.val <+: chars s.data.toList) s.size w := fun l J Jx W hW hJ hJx hY h0 => by
  have hBW : W.cell? ⟨Bs, 0, none⟩ = some (.string s) := (hW.cell (World.block_lt_of_cell? w _ hB)).trans hB
  refine callsIn_of_wp Tryd.func46 rfl hf ?_ hro
  simp only [Tryd.ntmps46, List.size_toArray, List.length_cons, List.length_nil, Nat.reduceAdd, Nat.reduceSub, Array.replicate_succ, Array.replicate_zero, List.push_toArray, List.append_toArray, List.nil_append, List.cons_append]
  have hI0 : J [] (W.iter s 0) := hJ [] W _ none h0 (World.grownBy_alloc W _ none) (fun r e => by cases e)
  gi_wp2
  gi_loopw [3] (fun _ wr => ∃ (pos : Nat) (pre : List Ch), pos ≤ s.size ∧ pre.length ≤ pos ∧ chars s.data.toList = pre.map Subtype.val ++ charsAt pos (s.data.toList.drop pos) ∧ wr.heap[W.heap.size]? = some (.stringIter s pos) ∧ J pre wr)
    (fun _ wr => s.size - wr.iterPos W.heap.size)
  case atStart => exact ⟨0, [], Nat.zero_le _, Nat.le_refl _, by simp [chars_eq], World.iter_heap _ _ _, hI0⟩
  case round =>
    obtain ⟨pos, pre, hpos, hlen, he, hit, hj⟩ := hrel
    have He := Lib.hid he
    clear he
    have hit0 := Lib.hid hit
    by_cases hp : pos < s.size
    · have hne := drop_ne hp
      have hle := dec_le _ hne
      have h1 := dec_pos (s.data.toList.drop pos)
      have hbd := dec_bd (s.data.toList.drop pos)
      have hca := charsAt_cons pos _ hne
      rw [List.drop_drop] at hca
      have hl : (s.data.toList.drop pos).length = s.size - pos := by rw [Lib.size_eq]; simp
      rw [hl] at hle
      have hnx := fun ty => next_at (P := Tryd.prog) wr W.heap.size s pos ty hit hp
      obtain ⟨D, hD⟩ : ∃ D, dec (s.data.toList.drop pos) = D := ⟨_, rfl⟩
      rw [hD] at hle h1 hca hnx hbd
      have Hca := Lib.hid hca
      have hI := Lib.iterAt_heap wr W.heap.size s pos (pos + D.2) hit
      have hJ2 : J pre (wr.iterAt W.heap.size s (pos + D.2)) := hJ pre wr _ (some W.heap.size) hj (iterAt_grown _ _ _ _) (fun r e => by cases e; exact ⟨Nat.le_refl _, _, hit, rfl⟩)
      obtain ⟨fn, tmps, assign, body, hy, hR⟩ := hY pre ⟨(pos, D.1), by simp only; omega⟩ (wr.iterAt W.heap.size s (pos + D.2)) hJ2 (by omega)
      dsimp only [enc2] at hy
      clear hca hl hD hne hit
      gi_wp2
      refine hR.mono ?_
      rintro e W3 (⟨rfl, hJ3, hk3⟩ | ⟨rfl, hJx3⟩)
      · gi_wp2
        go_roundw
        case rel => exact ⟨pos + D.2, pre ++ [⟨(pos, D.1), by simp only; omega⟩], by omega, by simp; omega, by rw [He.out, Hca.out]; simp, hk3.same _ _ hI rfl, hJ3⟩
        case measure =>
          have e1 : wr.iterPos W.heap.size = pos := by simp [World.iterPos, hit0.out]
          have e2 : W3.iterPos W.heap.size = pos + D.2 := by simp [World.iterPos, hk3.same _ _ hI rfl]
          rw [e1, e2]; omega
      · gi_wp2
        refine bodyPost_ret (results_none rfl _ _ _) rfl ?_
        exact ⟨⟨_, rfl⟩, .inr ⟨pre ++ [⟨(pos, D.1), by simp only; omega⟩], ⟨charsAt (pos + D.2) (s.data.toList.drop (pos + D.2)), by rw [He.out, Hca.out]; simp⟩, hJx3⟩⟩
    · have hnx := fun ty => Lib.run_next_end_at (P := Tryd.prog) wr W.heap.size s pos ty hit hp
      gi_wp2
      go_end0
      exact ⟨⟨_, rfl⟩, .inl ⟨pre, by rw [He.out, List.drop_of_length_le (by rw [← Lib.size_eq]; omega)]; simp [charsAt_nil], hj⟩⟩
/-- runes.All: the iterator, over the text in a new cell. -/
theorem all_in (F : Fence) (n : Nat) (hf : F.fn 23) (hro : F.round = none) (s : ByteArray) (w : World) : CallsIn F n Tryd.prog 23 #[.string s] w fun e w' =>
    e = .returned (.func (.func 46) #[] #[.pointer (some ⟨w.heap.size, 0, none⟩)]) ∧ w.alloc (.cells #[.string s] 9) = w' := by
  refine callsIn_of_wp Tryd.func23 rfl hf ?_ hro
  simp only [Tryd.ntmps23, List.size_toArray, List.length_cons, List.length_nil, Nat.reduceAdd, Nat.reduceSub, Array.replicate_succ, Array.replicate_zero, List.push_toArray, List.append_toArray, List.nil_append, List.cons_append]
  gi_wp2
  go_ret
  exact ⟨rfl, rfl⟩

theorem strOfNums_take (l : List UInt8) (a : Nat) : strOfNums ((l.take a).map fun b => (b.toNat : Int)) = ⟨(l.take a).toArray⟩ := by
  unfold strOfNums
  congr 2
  rw [List.map_map]
  refine (List.map_congr_left ?_).trans (List.map_id _)
  intro b _
  simp

/-- What a round of runes.At's loop leaves where a line ends. -/
theorem at_line {w W : World} {N a u li co : Nat} {bv : Value} {T1 T2 : TypeId} (_hN : w.heap.size = N) (b0 : Blk W N #[bv] T1) (b1 : Blk W (N + 1) #[.int .i64 0, .int .i64 0, .int .i64 0, .int .i64 0] T2)
    (b2 : Blk W (N + 1 + 1) #[.int .i64 a, .int .i64 u, .int .i64 li, .int .i64 co] T2) (hB : Below N w W) (W' : World)
    (hW : (((W.setCell ⟨N + 1 + 1, 1, none⟩ (.int .i64 (u + 1))).setCell ⟨N + 1 + 1, 3, none⟩ (.int .i64 (co + 1))).setCell ⟨N + 1 + 1, 2, none⟩ (.int .i64 (li + 1))).setCell ⟨N + 1 + 1, 3, none⟩ (.int .i64 1) = W') :
    KeepsOthers W W' ∧ KeepsWalks W W' ∧ (Blk W' N #[bv] T1 ∧ Blk W' (N + 1) #[.int .i64 0, .int .i64 0, .int .i64 0, .int .i64 0] T2 ∧ Blk W' (N + 1 + 1) #[.int .i64 a, .int .i64 ((u + 1 : Nat) : Int), .int .i64 ((li + 1 : Nat) : Int), .int .i64 ((1 : Nat) : Int)] T2) ∧ Below N w W' := by
  subst hW
  have hk : KeepsOthers W _ := (((KeepsOthers.setCell W ⟨N + 1 + 1, 1, none⟩ (.int .i64 (u + 1))).trans (KeepsOthers.setCell _ ⟨N + 1 + 1, 3, none⟩ (.int .i64 (co + 1)))).trans (KeepsOthers.setCell _ ⟨N + 1 + 1, 2, none⟩ (.int .i64 (li + 1)))).trans (KeepsOthers.setCell _ ⟨N + 1 + 1, 3, none⟩ (.int .i64 1))
  refine ⟨hk, hk.walks, ⟨?_, ?_, ?_⟩, ?_⟩
  · exact (((b0.other _ _ (by simp only; omega)).other _ _ (by simp only; omega)).other _ _ (by simp only; omega)).other _ _ (by simp only; omega)
  · exact (((b1.other _ _ (by simp only; omega)).other _ _ (by simp only; omega)).other _ _ (by simp only; omega)).other _ _ (by simp only; omega)
  · have := (((b2.set 1 (.int .i64 (u + 1))).set 3 (.int .i64 (co + 1))).set 2 (.int .i64 (li + 1))).set 3 (.int .i64 1)
    simpa using this
  · exact (((hB.setCell (p := ⟨N + 1 + 1, 1, none⟩) (by simp only; omega) _).setCell (p := ⟨N + 1 + 1, 3, none⟩) (by simp only; omega) _).setCell (p := ⟨N + 1 + 1, 2, none⟩) (by simp only; omega) _).setCell (p := ⟨N + 1 + 1, 3, none⟩) (by simp only; omega) _
theorem at_plain {w W : World} {N a u li co : Nat} {bv : Value} {T1 T2 : TypeId} (_hN : w.heap.size = N) (b0 : Blk W N #[bv] T1) (b1 : Blk W (N + 1) #[.int .i64 0, .int .i64 0, .int .i64 0, .int .i64 0] T2)
    (b2 : Blk W (N + 1 + 1) #[.int .i64 a, .int .i64 u, .int .i64 li, .int .i64 co] T2) (hB : Below N w W) (W' : World)
    (hW : (W.setCell ⟨N + 1 + 1, 1, none⟩ (.int .i64 (u + 1))).setCell ⟨N + 1 + 1, 3, none⟩ (.int .i64 (co + 1)) = W') :
    KeepsOthers W W' ∧ KeepsWalks W W' ∧ (Blk W' N #[bv] T1 ∧ Blk W' (N + 1) #[.int .i64 0, .int .i64 0, .int .i64 0, .int .i64 0] T2 ∧ Blk W' (N + 1 + 1) #[.int .i64 a, .int .i64 ((u + 1 : Nat) : Int), .int .i64 li, .int .i64 ((co + 1 : Nat) : Int)] T2) ∧ Below N w W' := by
  subst hW
  have hk : KeepsOthers W _ := (KeepsOthers.setCell W ⟨N + 1 + 1, 1, none⟩ (.int .i64 (u + 1))).trans (KeepsOthers.setCell _ ⟨N + 1 + 1, 3, none⟩ (.int .i64 (co + 1)))
  refine ⟨hk, hk.walks, ⟨?_, ?_, ?_⟩, ?_⟩
  · exact (b0.other _ _ (by simp only; omega)).other _ _ (by simp only; omega)
  · exact (b1.other _ _ (by simp only; omega)).other _ _ (by simp only; omega)
  · have := (b2.set 1 (.int .i64 (u + 1))).set 3 (.int .i64 (co + 1))
    simpa using this
  · exact (hB.setCell (p := ⟨N + 1 + 1, 1, none⟩) (by simp only; omega) _).setCell (p := ⟨N + 1 + 1, 3, none⟩) (by simp only; omega) _

set_option maxRecDepth 100000 in
set_option maxHeartbeats 2000000 in
/-- runes.At, within the bytes. -/
theorem at_some_in (F : Fence) (n : Nat) (h1 : F.fn 10) (h2 : F.fn 23) (h3 : F.fn 46) (hro : F.round = none) (hn4 : 4 ≤ n) (l : List UInt8) (b off cap : Nat) (a : Nat) (w : World) (hl : l.length ≤ cap) (hn : l.length ≤ 1000000000) (ha : a ≤ l.length) (hbw : b < w.heap.size) (hc : Cells w b off l) :
    CallsIn F n Tryd.prog 10 #[.slice (some ⟨b, off, none⟩) l.length cap, .int .i64 a] w fun e w' =>
      e = .returned (.tuple #[.agg #[.int .i64 a, .int .i64 (place l a).rune, .int .i64 (place l a).line, .int .i64 (place l a).col], .int .i64 0]) ∧ Below w.heap.size w w' := by
  have hn1 : 1 ≤ n := by omega
  refine callsIn_of_wp_marks Tryd.func10 rfl h1 ?_ hro
  simp only [Tryd.ntmps10, List.size_toArray, List.length_cons, List.length_nil, Nat.reduceAdd, Nat.reduceSub, Array.replicate_succ, Array.replicate_zero, List.push_toArray, List.append_toArray, List.nil_append, List.cons_append]
  have hcv := fun o1 o2 o3 => run_convert_bytes_arg (P := Tryd.prog) (((w.alloc o1).alloc o2).alloc o3) 22 5 Tryd.underlying22 Tryd.underlying5 b off a cap ((l.take a).map fun b => (b.toNat : Int)) (by simp; omega)
    (fun i hi => by
      have h3 : Below w.heap.size w (((w.alloc o1).alloc o2).alloc o3) := (((Below.refl _ w).alloc (Nat.le_refl _) _).alloc (by simp) _).alloc (by simp; omega) _
      rw [cell_kept h3 (hc i (by omega))]
      simp [List.getD_eq_getElem?_getD, hi, List.getElem?_eq_getElem (show i < l.length by omega)]) 9 Tryd.underlying9
  simp only [strOfNums_take] at hcv
  have Hc := Lib.hid hc
  clear hc
  gi_wp2_with (gi_at_call 23; refine (all_in F (n - 1) h2 hro _ _).mono ?_; rintro e w' ⟨rfl, rfl⟩)
  obtain ⟨W0, hW0⟩ : ∃ W0, (((w.alloc (.cells #[.slice (some ⟨b, off, none⟩) l.length cap] 22)).alloc (.cells #[.int .i64 0, .int .i64 0, .int .i64 0, .int .i64 0] 35)).alloc (.cells #[.int .i64 a, .int .i64 0, .int .i64 1, .int .i64 1] 35)).alloc (.cells #[.string ⟨(l.take a).toArray⟩] 9) = W0 := ⟨_, rfl⟩
  have hz0 : W0.heap.size = w.heap.size + 4 := by rw [← hW0]; simp
  have k0 : Blk W0 w.heap.size #[.slice (some ⟨b, off, none⟩) l.length cap] 22 := by rw [← hW0]; exact (((Blk.new w _ _).alloc _).alloc _).alloc _
  have k1 : Blk W0 (w.heap.size + 1) #[.int .i64 0, .int .i64 0, .int .i64 0, .int .i64 0] 35 := by
    rw [← hW0]; have := ((Blk.new (w.alloc (.cells #[.slice (some ⟨b, off, none⟩) l.length cap] 22)) #[.int .i64 0, .int .i64 0, .int .i64 0, .int .i64 0] 35).alloc (.cells #[.int .i64 a, .int .i64 0, .int .i64 1, .int .i64 1] 35)).alloc (.cells #[.string ⟨(l.take a).toArray⟩] 9); rw [World.size_alloc] at this; exact this
  have k2 : Blk W0 (w.heap.size + 1 + 1) #[.int .i64 a, .int .i64 0, .int .i64 1, .int .i64 1] 35 := by
    rw [← hW0]; have := (Blk.new ((w.alloc (.cells #[.slice (some ⟨b, off, none⟩) l.length cap] 22)).alloc (.cells #[.int .i64 0, .int .i64 0, .int .i64 0, .int .i64 0] 35)) #[.int .i64 a, .int .i64 0, .int .i64 1, .int .i64 1] 35).alloc (.cells #[.string ⟨(l.take a).toArray⟩] 9); rw [World.size_alloc, World.size_alloc] at this; exact this
  have k3 : Blk W0 (w.heap.size + 1 + 1 + 1) #[.string ⟨(l.take a).toArray⟩] 9 := by
    rw [← hW0]; have := (Blk.new (((w.alloc (.cells #[.slice (some ⟨b, off, none⟩) l.length cap] 22)).alloc (.cells #[.int .i64 0, .int .i64 0, .int .i64 0, .int .i64 0] 35)).alloc (.cells #[.int .i64 a, .int .i64 0, .int .i64 1, .int .i64 1] 35)) #[.string ⟨(l.take a).toArray⟩] 9); rw [World.size_alloc, World.size_alloc, World.size_alloc] at this; exact this
  have hB0 : Below w.heap.size w W0 := by rw [← hW0]; exact ((((Below.refl _ w).alloc (Nat.le_refl _) _).alloc (by simp) _).alloc (by simp; omega) _).alloc (by simp; omega) _
  rw [hW0]
  clear hW0 hcv
  have hs : (⟨(l.take a).toArray⟩ : ByteArray).size ≤ 1000000000 := by rw [Lib.size_eq]; simp; omega
  refine wpIn_rangeFunc_ownF hro hn1 (gf := 46) (lb := #[.pointer (some ⟨w.heap.size + 1 + 1 + 1, 0, none⟩)]) rfl h3 (enters_of Tryd.func46 (by kernel_rfl) rfl)
    (all1_stops F (n - 1) h3 hro (by omega) W0 ⟨(l.take a).toArray⟩ hs (w.heap.size + 1 + 1 + 1) (k3.cell 0 _ rfl)) walksK_t walksK_b (Below.refl _ _) (fun _ => rfl)
    (fun pre W => (Blk W w.heap.size #[.slice (some ⟨b, off, none⟩) l.length cap] 22 ∧ Blk W (w.heap.size + 1) #[.int .i64 0, .int .i64 0, .int .i64 0, .int .i64 0] 35 ∧
        Blk W (w.heap.size + 1 + 1) #[.int .i64 a, .int .i64 (plFold l (pre.map Subtype.val)).1, .int .i64 (plFold l (pre.map Subtype.val)).2.1, .int .i64 (plFold l (pre.map Subtype.val)).2.2] 35) ∧ Below w.heap.size w W)
    (fun _ _ _ => False)
    (OwnFrom.and (Own.from (fun s A B row hs hg hr => ⟨hs.1.kept hg hr, hs.2.1.kept hg hr, hs.2.2.kept hg hr⟩) _) (ownFrom_below (Nat.le_refl _) (by rw [hz0]; omega)))
    (fun _ _ _ _ _ hs _ _ => hs)
    ⟨⟨k0, k1, k2⟩, hB0⟩
    (fun x => { tmps := #[.slice (some ⟨b, off, none⟩) l.length cap, .int .i64 a, .pointer (some ⟨w.heap.size, 0, none⟩), undef, .pointer (some ⟨w.heap.size + 1, 0, none⟩), .int .i64 0, .pointer (some ⟨w.heap.size + 1 + 1, 0, none⟩), .int .i64 x.1.1, .int .i32 x.1.2, .int .i64 a, .bool (decide ((a : Int) < 0)), .bool (decide ((a : Int) < 0)), .int .i64 a, .slice (some ⟨b, off, none⟩) l.length cap, .int .i64 l.length, .bool false, .bool (decide ((a : Int) < 0)), undef, .int .i64 a, .agg #[.int .i64 a, .int .i64 0, .int .i64 1, .int .i64 1], .slice (some ⟨b, off, none⟩) l.length cap, .int .i64 a, .slice (some ⟨b, off, none⟩) a cap, .string ⟨(l.take a).toArray⟩, .func (.func 46) #[] #[.pointer (some ⟨w.heap.size + 1 + 1 + 1, 0, none⟩)], .int .i64 x.1.1, .int .i32 x.1.2, undef, undef, undef, undef, undef, undef, undef, undef, undef, undef, undef, undef, undef, undef, undef, undef, undef, undef, undef, undef, undef, undef, undef, undef, undef, undef, undef, undef, undef, undef, undef, undef, undef, undef, undef], defers := [] }) ?assign ?body ?done ?stop
  case assign =>
    intro l' x W K hK
    unfold enc2
    rw [zip_two]
    gi_wp2
    exact hK
  case body =>
    rintro l' pre x W ⟨⟨b0, b1, b2⟩, hB⟩ hlen
    obtain ⟨⟨i, r⟩, hi, hr⟩ := x
    simp only at hi hr
    have hle := plFold_le l (pre.map Subtype.val)
    obtain ⟨u, hu⟩ : ∃ u, (plFold l (pre.map Subtype.val)).1 = u := ⟨_, rfl⟩
    obtain ⟨li, hli⟩ : ∃ u, (plFold l (pre.map Subtype.val)).2.1 = u := ⟨_, rfl⟩
    obtain ⟨co, hco⟩ : ∃ u, (plFold l (pre.map Subtype.val)).2.2 = u := ⟨_, rfl⟩
    have hst : plFold l ((pre ++ [(⟨(i, r), hi, hr⟩ : Ch)]).map Subtype.val) = plStep l (u, li, co) (i, r) := by
      rw [List.map_append, List.map_cons, List.map_nil, plFold_snoc, ← hu, ← hli, ← hco]
    rw [hu, hli, hco] at b2 hle
    rw [List.length_map] at hle
    have hul : u ≤ pre.length := by omega
    have hll : li ≤ pre.length + 1 := hle.2.1
    have hcl : co ≤ pre.length + 1 := hle.2.2
    clear hle
    have hlen2 : pre.length < 1000000000 := by omega
    clear hlen
    have Hst := Lib.hid hst
    clear hst hu hli hco
    have e0 : W.cell? ⟨w.heap.size, 0, none⟩ = some (.slice (some ⟨b, off, none⟩) l.length cap) := b0.cell 0 _ rfl
    have e1 : W.cell? ⟨w.heap.size + 1 + 1, 1, none⟩ = some (.int .i64 u) := b2.cell 1 _ rfl
    have e2 : W.cell? ⟨w.heap.size + 1 + 1, 2, none⟩ = some (.int .i64 li) := b2.cell 2 _ rfl
    have e3 : W.cell? ⟨w.heap.size + 1 + 1, 3, none⟩ = some (.int .i64 co) := b2.cell 3 _ rfl
    have f1 : W.frozen? ⟨w.heap.size + 1 + 1, 1, none⟩ = false := b2.free 1
    have f2 : W.frozen? ⟨w.heap.size + 1 + 1, 2, none⟩ = false := b2.free 2
    have f3 : W.frozen? ⟨w.heap.size + 1 + 1, 3, none⟩ = false := b2.free 3
    have Hb0 := Lib.hid b0
    have Hb1 := Lib.hid b1
    have Hb2 := Lib.hid b2
    have hCW := Hc.out.belowB hB hbw
    clear b0 b1 b2 k0 k1 k2 k3
    by_cases t1 : r = 10
    · have t1b : (((r : Nat) : Int) == 10) = true := by simp; omega
      have T1 := Lib.hid t1
      clear t1
      gi_wp2
      all_goals try (rename_i h _; simp [undef] at h; done)
      have hh := at_line rfl Hb0.out Hb1.out Hb2.out hB _ rfl
      refine ⟨hh.1, hh.2.1, ?_, hh.2.2.2⟩
      have hq : plStep l (u, li, co) (i, r) = (u + 1, li + 1, 1) := by unfold plStep; exact if_pos (.inl T1.out)
      simp only [Hst.out, hq]
      exact hh.2.2.1
    · have t1b : (((r : Nat) : Int) == 10) = false := by simp; omega
      have T1 := Lib.hid t1
      clear t1
      by_cases t2 : r = 13
      · have t2b : (((r : Nat) : Int) == 13) = true := by simp; omega
        have T2 := Lib.hid t2
        clear t2
        by_cases t3 : l.length ≤ i + 1
        · have t3b : (l.length : Int) ≤ (i : Int) + 1 := by omega
          gi_wp2
          all_goals try (rename_i h _; simp [undef] at h; done)
          have hh := at_line rfl Hb0.out Hb1.out Hb2.out hB _ rfl
          refine ⟨hh.1, hh.2.1, ?_, hh.2.2.2⟩
          have hq : plStep l (u, li, co) (i, r) = (u + 1, li + 1, 1) := by unfold plStep; exact if_pos (.inr ⟨T2.out, .inl t3⟩)
          simp only [Hst.out, hq]
          exact hh.2.2.1
        · have t3b : ¬ (l.length : Int) ≤ (i : Int) + 1 := by omega
          have hcx : ∀ v1 v2, ((W.setCell ⟨w.heap.size + 1 + 1, 1, none⟩ v1).setCell ⟨w.heap.size + 1 + 1, 3, none⟩ v2).cell? ⟨b, off + (i + 1), none⟩ = some (.int .u8 (l.getD (i + 1) 0).toNat) := by
            intro v1 v2
            rw [World.cell?_of_block (w := W) (by rw [heap_setCell_other _ _ _ _ (by simp only; omega), heap_setCell_other _ _ _ _ (by simp only; omega)])]
            exact hCW (i + 1) (by omega)
          have hcx' : ∀ v1 v2, ((W.setCell ⟨w.heap.size + 1 + 1, 1, none⟩ v1).setCell ⟨w.heap.size + 1 + 1, 3, none⟩ v2).cell? ⟨b, off + i + 1, none⟩ = some (.int .u8 (l.getD (i + 1) 0).toNat) := hcx
          obtain ⟨x, hx⟩ : ∃ x, l.getD (i + 1) 0 = x := ⟨_, rfl⟩
          simp only [hx] at hcx hcx'
          have HX := Lib.hid hx
          clear hx
          have hxl := x.toNat_lt
          obtain ⟨xn, hxn⟩ : ∃ xn, x.toNat = xn := ⟨_, rfl⟩
          simp only [hxn] at hcx hcx' hxl
          have HXN := Lib.hid hxn
          clear hxn
          by_cases t4 : xn = 10
          · have t4b : (((xn : Nat) : Int) != 10) = false := by simp [t4]
            have T4 := Lib.hid t4
            clear t4
            gi_wp2
            all_goals try (rename_i h _; simp [undef] at h; done)
            have hh := at_plain rfl Hb0.out Hb1.out Hb2.out hB _ rfl
            refine ⟨hh.1, hh.2.1, ?_, hh.2.2.2⟩
            have hq : plStep l (u, li, co) (i, r) = (u + 1, li, co + 1) := by unfold plStep; exact if_neg (by
              rintro (h | ⟨_, h | h⟩)
              · exact T1.out h
              · exact t3 h
              · apply h
                simp only
                rw [HX.out]
                apply UInt8.toNat_inj.1
                rw [HXN.out, T4.out]
                rfl)
            simp only [Hst.out, hq]
            exact hh.2.2.1
          · have t4b : (((xn : Nat) : Int) != 10) = true := by rw [bne_iff_ne]; omega
            have T4 := Lib.hid t4
            clear t4
            gi_wp2
            all_goals try (rename_i h _; simp [undef] at h; done)
            have hh := at_line rfl Hb0.out Hb1.out Hb2.out hB _ rfl
            refine ⟨hh.1, hh.2.1, ?_, hh.2.2.2⟩
            have hq : plStep l (u, li, co) (i, r) = (u + 1, li + 1, 1) := by unfold plStep; exact if_pos (.inr ⟨T2.out, .inr (by
              simp only
              rw [HX.out]
              intro h
              apply T4.out
              rw [← HXN.out, h]
              rfl)⟩)
            simp only [Hst.out, hq]
            exact hh.2.2.1
      · have t2b : (((r : Nat) : Int) == 13) = false := by simp; omega
        have T2 := Lib.hid t2
        clear t2
        gi_wp2
        all_goals try (rename_i h _; simp [undef] at h; done)
        have hh := at_plain rfl Hb0.out Hb1.out Hb2.out hB _ rfl
        refine ⟨hh.1, hh.2.1, ?_, hh.2.2.2⟩
        have hq : plStep l (u, li, co) (i, r) = (u + 1, li, co + 1) := by unfold plStep; exact if_neg (by rintro (h | ⟨h, _⟩); exact T1.out h; exact T2.out h)
        simp only [Hst.out, hq]
        exact hh.2.2.1
  case done =>
    rintro D ys W hD hys ⟨⟨b0, b1, b2⟩, hB⟩ hK
    rw [hys] at b2
    have hpl : (plFold l (chars (l.take a))).1 = (place l a).rune ∧ (plFold l (chars (l.take a))).2.1 = (place l a).line ∧ (plFold l (chars (l.take a))).2.2 = (place l a).col := ⟨rfl, rfl, rfl⟩
    change Blk W (w.heap.size + 1 + 1) #[.int .i64 a, .int .i64 (place l a).rune, .int .i64 (place l a).line, .int .i64 (place l a).col] _ at b2
    obtain ⟨u, hu⟩ : ∃ u, (place l a).rune = u := ⟨_, rfl⟩
    obtain ⟨li, hli⟩ : ∃ u, (place l a).line = u := ⟨_, rfl⟩
    obtain ⟨co, hco⟩ : ∃ u, (place l a).col = u := ⟨_, rfl⟩
    rw [hu, hli, hco] at b2
    have Hu := Lib.hid hu
    have Hli := Lib.hid hli
    have Hco := Lib.hid hco
    clear hu hli hco
    clear hpl hys
    have e0 : W.cell? ⟨w.heap.size + 1 + 1, 0, none⟩ = some (.int .i64 a) := b2.cell 0 _ rfl
    have e1 : W.cell? ⟨w.heap.size + 1 + 1, 1, none⟩ = some (.int .i64 u) := b2.cell 1 _ rfl
    have e2 : W.cell? ⟨w.heap.size + 1 + 1, 2, none⟩ = some (.int .i64 li) := b2.cell 2 _ rfl
    have e3 : W.cell? ⟨w.heap.size + 1 + 1, 3, none⟩ = some (.int .i64 co) := b2.cell 3 _ rfl
    have g0 : W.cell? ⟨w.heap.size + 1, 0, none⟩ = some (.int .i64 0) := b1.cell 0 _ rfl
    have g1 : W.cell? ⟨w.heap.size + 1, 1, none⟩ = some (.int .i64 0) := b1.cell 1 _ rfl
    have g2 : W.cell? ⟨w.heap.size + 1, 2, none⟩ = some (.int .i64 0) := b1.cell 2 _ rfl
    have g3 : W.cell? ⟨w.heap.size + 1, 3, none⟩ = some (.int .i64 0) := b1.cell 3 _ rfl
    have f0 : W.frozen? ⟨w.heap.size + 1, 0, none⟩ = false := b1.free 0
    have f1 : W.frozen? ⟨w.heap.size + 1, 1, none⟩ = false := b1.free 1
    have f2 : W.frozen? ⟨w.heap.size + 1, 2, none⟩ = false := b1.free 2
    have f3 : W.frozen? ⟨w.heap.size + 1, 3, none⟩ = false := b1.free 3
    have Hb0 := Lib.hid b0
    have Hb1 := Lib.hid b1
    have Hb2 := Lib.hid b2
    clear b0 b1 b2 k0 k1 k2 k3
    gi_wp2
    obtain ⟨W', hW'⟩ : ∃ W', ((((W.setCell ⟨w.heap.size + 1, 0, none⟩ (.int .i64 a)).setCell ⟨w.heap.size + 1, 1, none⟩ (.int .i64 u)).setCell ⟨w.heap.size + 1, 2, none⟩ (.int .i64 li)).setCell ⟨w.heap.size + 1, 3, none⟩ (.int .i64 co)) = W' := ⟨_, rfl⟩
    rw [hW']
    have B1 : Blk W' (w.heap.size + 1) #[.int .i64 a, .int .i64 u, .int .i64 li, .int .i64 co] 35 := by
      rw [← hW']; have := (((Hb1.out.set 0 (.int .i64 a)).set 1 (.int .i64 u)).set 2 (.int .i64 li)).set 3 (.int .i64 co); simpa using this
    have hK' : W'.heap[D]? = some (.deferred (some [])) := by
      rw [← hW']; exact ((((KeepsOthers.setCell W ⟨w.heap.size + 1, 0, none⟩ (.int .i64 a)).trans (KeepsOthers.setCell _ ⟨w.heap.size + 1, 1, none⟩ (.int .i64 u))).trans (KeepsOthers.setCell _ ⟨w.heap.size + 1, 2, none⟩ (.int .i64 li))).trans (KeepsOthers.setCell _ ⟨w.heap.size + 1, 3, none⟩ (.int .i64 co))).same D _ hK rfl
    have hB' : Below w.heap.size w W' := by
      rw [← hW']; exact (((hB.setCell (p := ⟨w.heap.size + 1, 0, none⟩) (by simp only; omega) _).setCell (p := ⟨w.heap.size + 1, 1, none⟩) (by simp only; omega) _).setCell (p := ⟨w.heap.size + 1, 2, none⟩) (by simp only; omega) _).setCell (p := ⟨w.heap.size + 1, 3, none⟩) (by simp only; omega) _
    have B2 := B1.kept (grownBy_putObj' W' D (.deferred none)) (fun r e => by cases e; exact ⟨_, hK', rfl⟩)
    have hB2 := hB'.trans (belowK_b (w := w) (Nat.le_refl _) W' D _ (.deferred none) (by omega) hK' rfl rfl)
    refine ⟨by simp, .inl ⟨_, _, rfl, run_takeDeferred hK', ?_⟩⟩
    have q0 := B2.cell 0 _ rfl
    have q1 := B2.cell 1 _ rfl
    have q2 := B2.cell 2 _ rfl
    have q3 := B2.cell 3 _ rfl
    simp only [List.getElem_toArray, List.getElem_cons_zero, List.getElem_cons_succ] at q0 q1 q2 q3
    refine ⟨.tuple #[.agg #[.int .i64 a, .int .i64 u, .int .i64 li, .int .i64 co], .int .i64 0], ?_, by rw [Hu.out, Hli.out, Hco.out], hB2⟩
    simp [results, Tryd.results10, go_sem, q0, q1, q2, q3]
  case stop =>
    rintro D c pre W _ _ h _
    exact h.elim
end Go.Proofs.YtjmejlncomaclaaDoor.Lx
