/- runes.At, lexis.fault, and the beginnings of lexis.word: each answers as the plain function says. Condition: the tables; at most 1000000000 bytes. -/
import Derived.Test.YtjmejlncomaclaaDoorLxMend
namespace Go.Proofs.YtjmejlncomaclaaDoor.Lx
open Go.RowKit

/-- A slice of bytes, nil or not, that reads as l. -/
def RB (w : World) (v : Value) (l : List UInt8) : Prop :=
  (v = .slice none 0 0 ∧ l = []) ∨ ∃ b off cap, v = .slice (some ⟨b, off, none⟩) l.length cap ∧ l.length ≤ cap ∧ b < w.heap.size ∧ Cells w b off l
theorem RB.below {w w' : World} {v : Value} {l : List UInt8} (h : RB w v l) (hb : Below w.heap.size w w') : RB w' v l := by
  rcases h with h | ⟨b, off, cap, h1, h2, h3, h4⟩
  · exact .inl h
  · exact .inr ⟨b, off, cap, h1, h2, Nat.lt_of_lt_of_le h3 hb.size, h4.below hb⟩

/-- A place, as its four cells. -/
def plV (p : Place) : Value := .agg #[.int .i64 p.byte, .int .i64 p.rune, .int .i64 p.line, .int .i64 p.col]

/-- runes.At, within the bytes. -/
theorem at_any (v : Value) (l : List UInt8) (a : Nat) (w : World) (h : RB w v l) (hn : l.length ≤ 1000000000) (ha : a ≤ l.length) :
    Calls Tryd.prog 10 #[v, .int .i64 a] w fun e w' => e = .returned (.tuple #[plV (place l a), .int .i64 0]) ∧ Below w.heap.size w w' := by
  rcases h with ⟨rfl, rfl⟩ | ⟨b, off, cap, rfl, h2, h3, h4⟩
  · obtain rfl : a = 0 := by simpa using ha
    exact callsIn_wide.1 (at_none_in Fence.wide 5 trivial trivial trivial rfl (by omega) w)
  · exact callsIn_wide.1 (at_some_in Fence.wide 5 trivial trivial trivial rfl (by omega) l b off cap a w h2 hn ha h3 h4)

theorem place_byte (l : List UInt8) (a : Nat) : (place l a).byte = a := rfl

/-- lexis.fault. -/
theorem fault_any (v : Value) (l : List UInt8) (a : Nat) (why : Int) (w : World) (h : RB w v l) (hn : l.length ≤ 1000000000) (ha : a ≤ l.length) :
    Calls Tryd.prog 17 #[v, .int .i64 a, .int .i64 why] w fun e w' => ∃ k, e = .returned (.iface 44 (.pointer (some ⟨k, 0, none⟩))) ∧ w.heap.size ≤ k ∧
      Blk w' k #[.int .i64 (place l a).byte, .int .i64 (place l a).rune, .int .i64 (place l a).line, .int .i64 (place l a).col, .int .i64 why] 48 ∧ Below w.heap.size w w' := by
  have hA := at_any v l a w h hn ha
  obtain ⟨p, hp⟩ : ∃ p, place l a = p := ⟨_, rfl⟩
  rw [hp] at hA
  have Hp := Lib.hid hp
  clear hp
  unfold plV at hA
  go_enter Tryd.func17, Tryd.ntmps17
  go_wp2_with (go_at_call 10; refine hA.mono ?_; rintro e w1 ⟨rfl, hb1⟩)

  go_ret
  refine ⟨_, rfl, ?_, ?_, ?_⟩
  · have := hb1.size; omega
  · rw [Hp.out]
    have := Blk.new (w1.alloc (.cells #[.int .i64 p.byte, .int .i64 p.rune, .int .i64 p.line, .int .i64 p.col] 35)) #[.int .i64 p.byte, .int .i64 p.rune, .int .i64 p.line, .int .i64 p.col, .int .i64 why] 48
    rw [World.size_alloc] at this
    exact this
  · exact (hb1.alloc hb1.size _).alloc (by have := hb1.size; simp; omega) _

theorem run_digits (l : List UInt8) : ∀ b ∈ l.take (run 4 l), 48 ≤ b.toNat ∧ b.toNat ≤ 57 := by
  suffices h : ∀ k (l : List UInt8), l.length ≤ k → ∀ b ∈ l.take (run 4 l), 48 ≤ b.toNat ∧ b.toNat ≤ 57 from h _ l (Nat.le_refl _)
  intro k
  induction k with
  | zero => intro l h b hb; cases l with
    | nil => simp at hb
    | cons x t => simp at h
  | succ k ih =>
    intro l h b hb
    cases l with
    | nil => simp at hb
    | cons x t =>
      rw [run_cons 4 _ (by simp)] at hb
      split at hb
      · rename_i hc
        have h4 := (isC4 _).1 hc
        obtain ⟨b', t', he, hx, h2⟩ := dec_low (x :: t) (by simp) (by omega)
        cases he
        rw [h2, Nat.add_comm, List.take_succ_cons] at hb
        rcases List.mem_cons.1 hb with rfl | hb
        · omega
        · exact ih t (by simpa using h) b (by simpa using hb)
      · simp at hb

theorem ext0 (s : ByteArray) (n : Nat) : (s.extract 0 n).data.toList = s.data.toList.take n := by rw [Lib.extract_data]; simp
theorem extE (s : ByteArray) (n : Nat) : (s.extract n s.size).data.toList = s.data.toList.drop n := by
  rw [Lib.extract_data, List.take_of_length_le]
  rw [List.length_drop, Lib.size_eq]
  exact Nat.le_refl _
/-- What lexis.word answers, as it lies: the word's seven cells (its place is none), how many bytes, whether there is one. -/
def wdV (x : Wd) : Value := .agg #[.int .i64 x.kind, .string ⟨x.text.toArray⟩, .int .i64 x.num, .int .i64 0, .int .i64 0, .int .i64 0, .int .i64 0]
def wordV (r : Wd × Nat × Bool) : Value := .tuple #[wdV r.1, .int .i64 r.2.1, .bool r.2.2]

theorem set7 {W : World} {N : Nat} {T : TypeId} {a0 a1 a2 a3 a4 a5 a6 : Value} (h : Blk W N #[a0, a1, a2, a3, a4, a5, a6] T) (v0 v1 v2 v3 v4 v5 v6 : Value) :
    Blk (((((((W.setCell ⟨N, 0, none⟩ v0).setCell ⟨N, 1, none⟩ v1).setCell ⟨N, 2, none⟩ v2).setCell ⟨N, 3, none⟩ v3).setCell ⟨N, 4, none⟩ v4).setCell ⟨N, 5, none⟩ v5).setCell ⟨N, 6, none⟩ v6) N #[v0, v1, v2, v3, v4, v5, v6] T := by
  have := ((((((h.set 0 v0).set 1 v1).set 2 v2).set 3 v3).set 4 v4).set 5 v5).set 6 v6
  simpa using this
theorem below7 {W0 W : World} {N B : Nat} (h : Below B W0 W) (hN : B ≤ N) (v0 v1 v2 v3 v4 v5 v6 : Value) :
    Below B W0 (((((((W.setCell ⟨N, 0, none⟩ v0).setCell ⟨N, 1, none⟩ v1).setCell ⟨N, 2, none⟩ v2).setCell ⟨N, 3, none⟩ v3).setCell ⟨N, 4, none⟩ v4).setCell ⟨N, 5, none⟩ v5).setCell ⟨N, 6, none⟩ v6) :=
  ((((((h.setCell (p := ⟨N, 0, none⟩) hN _).setCell (p := ⟨N, 1, none⟩) hN _).setCell (p := ⟨N, 2, none⟩) hN _).setCell (p := ⟨N, 3, none⟩) hN _).setCell (p := ⟨N, 4, none⟩) hN _).setCell (p := ⟨N, 5, none⟩) hN _).setCell (p := ⟨N, 6, none⟩) hN _
theorem cells7 {W : World} {N : Nat} {T : TypeId} {v0 v1 v2 v3 v4 v5 v6 : Value} (h : Blk W N #[v0, v1, v2, v3, v4, v5, v6] T) :
    (W.cell? ⟨N, 0, none⟩ = some v0 ∧ W.cell? ⟨N, 1, none⟩ = some v1 ∧ W.cell? ⟨N, 2, none⟩ = some v2 ∧ W.cell? ⟨N, 3, none⟩ = some v3 ∧ W.cell? ⟨N, 4, none⟩ = some v4 ∧ W.cell? ⟨N, 5, none⟩ = some v5 ∧ W.cell? ⟨N, 6, none⟩ = some v6) ∧
    (W.frozen? ⟨N, 0, none⟩ = false ∧ W.frozen? ⟨N, 1, none⟩ = false ∧ W.frozen? ⟨N, 2, none⟩ = false ∧ W.frozen? ⟨N, 3, none⟩ = false ∧ W.frozen? ⟨N, 4, none⟩ = false ∧ W.frozen? ⟨N, 5, none⟩ = false ∧ W.frozen? ⟨N, 6, none⟩ = false) :=
  ⟨⟨h.cell 0 _ rfl, h.cell 1 _ rfl, h.cell 2 _ rfl, h.cell 3 _ rfl, h.cell 4 _ rfl, h.cell 5 _ rfl, h.cell 6 _ rfl⟩, ⟨h.free 0, h.free 1, h.free 2, h.free 3, h.free 4, h.free 5, h.free 6⟩⟩
/-- The word's variable, as it is made. -/
def wd0 : Array Value := #[.int .i64 0, .string ⟨#[]⟩, .int .i64 0, .int .i64 0, .int .i64 0, .int .i64 0, .int .i64 0]
theorem word_start (s : ByteArray) (w : World) (hV : Vars w) (hne : 0 < s.size) : ∃ W1 W2 : World, ((w.alloc (.cells #[.int .i64 0, .string ⟨#[]⟩, .int .i64 0, .int .i64 0, .int .i64 0, .int .i64 0, .int .i64 0] 37)).iter s 0) = W1 ∧
    (∀ ty, (Instr.next (.pointer (some ⟨w.heap.size + 1, 0, none⟩)) true ty).run Tryd.prog W1 = .ok (.tuple #[.bool true, .int .i64 (0 : Nat), .int .i32 (dec s.data.toList).1]) W2) ∧
    Vars W2 ∧ Blk W2 w.heap.size wd0 37 ∧ Below w.heap.size w W2 ∧ w.heap.size < W2.heap.size := by
  obtain ⟨W1, hW⟩ : ∃ W1, ((w.alloc (.cells #[.int .i64 0, .string ⟨#[]⟩, .int .i64 0, .int .i64 0, .int .i64 0, .int .i64 0, .int .i64 0] 37)).iter s 0) = W1 := ⟨_, rfl⟩
  have hI : W1.heap[w.heap.size + 1]? = some (.stringIter s 0) := by
    rw [← hW]; have := World.iter_heap (w.alloc (.cells #[.int .i64 0, .string ⟨#[]⟩, .int .i64 0, .int .i64 0, .int .i64 0, .int .i64 0, .int .i64 0] 37)) s 0; rw [World.size_alloc] at this; exact this
  have hB : Below w.heap.size w W1 := by rw [← hW]; exact ((Below.refl _ _).alloc (Nat.le_refl _) _).alloc (by simp) _
  have hK : Blk W1 w.heap.size wd0 37 := by rw [← hW]; exact (Blk.new w _ _).alloc _
  refine ⟨W1, W1.iterAt (w.heap.size + 1) s (0 + (dec s.data.toList).2), hW, fun ty => ?_, ?_, ?_, ?_, ?_⟩
  · have := next_at (P := Tryd.prog) W1 (w.heap.size + 1) s 0 ty hI hne
    rw [List.drop_zero] at this
    exact this
  · exact hV.below (Lib.below_iterAt hB (by omega) _ _)
  · exact (Lib.iterAt_other W1 (w.heap.size + 1) w.heap.size s _ (by omega)).trans hK
  · exact Lib.below_iterAt hB (by omega) _ _
  · rw [Lib.iterAt_size]; have := (Array.getElem?_eq_some_iff.1 hI).1; omega

set_option maxRecDepth 100000 in
set_option maxHeartbeats 2000000 in
/-- lexis.word, where a name begins. -/
theorem word_name (s : ByteArray) (w : World) (hV : Vars w) (hs : s.size ≤ 1000000000) (hne : 0 < s.size) (h2 : isC 2 (dec s.data.toList).1 = true) :
    Calls Tryd.prog 20 #[.string s] w fun e w' => e = .returned (wordV (word s.data.toList)) ∧ Below w.heap.size w w' := by
  have hw : word s.data.toList = (⟨0, s.data.toList.take (run 3 s.data.toList), 0⟩, run 3 s.data.toList, true) := by unfold word; rw [if_pos h2]
  rw [hw]
  have hrl := run_le 3 _ s.data.toList (Nat.le_refl _)
  rw [← Lib.size_eq] at hrl
  obtain ⟨W1, W2, hW1, hnx, hV2, hK2, hB2, hz2⟩ := word_start s w hV hne
  have hr := fun W hb => run_any 3 s W (hV2.below hb) (by omega) (by omega) hs
  have hi := is_any 2 (dec s.data.toList).1 W2 hV2 (by omega) (by omega) (by omega)
  obtain ⟨D, hD⟩ : ∃ D, dec s.data.toList = D := ⟨_, rfl⟩
  obtain ⟨R, hR⟩ : ∃ R, run 3 s.data.toList = R := ⟨_, rfl⟩
  rw [hD] at hi hnx h2
  rw [show ((2 : Int).toNat) = 2 from rfl, show ((D.1 : Int).toNat) = D.1 by omega, h2] at hi
  simp only [show ((3 : Int).toNat) = 3 from rfl, hR] at hr
  rw [hR] at hrl
  have Hr := Lib.hid hr
  have HR := Lib.hid hR
  have HW1 := Lib.hid hW1
  clear hR hD h2 hw hr hW1
  go_enter Tryd.func20, Tryd.ntmps20
  go_wp2
  rw [HW1.out]
  refine wp_loop_rounds 1 ?_
  rw [rounds_succ]
  go_wp2_with (first | (go_at_call 42; refine hi.mono ?_; rintro e w1 ⟨rfl, hb1⟩; have hk1 := cells7 (hK2.below hb1); obtain ⟨⟨c0, c1, c2, c3, c4, c5, c6⟩, ⟨f0, f1, f2, f3, f4, f5, f6⟩⟩ := hk1) | (go_at_call 19; refine (Hr.out _ hb1).mono ?_; rintro e w2 ⟨rfl, hb2⟩; have hk2 := cells7 ((hK2.below hb1).below hb2); obtain ⟨⟨c0, c1, c2, c3, c4, c5, c6⟩, ⟨f0, f1, f2, f3, f4, f5, f6⟩⟩ := hk2))
  have B := set7 ((hK2.below hb1).below hb2) (.int .i64 0) (.string (s.extract 0 R)) (.int .i64 0) (.int .i64 0) (.int .i64 0) (.int .i64 0) (.int .i64 0)
  have hB := below7 (((hB2.trans (hb1.mono (by omega))).trans (hb2.mono (by have := hb1.size; omega)))) (Nat.le_refl _) (.int .i64 0) (.string (s.extract 0 R)) (.int .i64 0) (.int .i64 0) (.int .i64 0) (.int .i64 0) (.int .i64 0)
  obtain ⟨W', hW'⟩ : ∃ W', (((((((w2.setCell ⟨w.heap.size, 0, none⟩ (.int .i64 0)).setCell ⟨w.heap.size, 1, none⟩ (.string (s.extract 0 R))).setCell ⟨w.heap.size, 2, none⟩ (.int .i64 0)).setCell ⟨w.heap.size, 3, none⟩ (.int .i64 0)).setCell ⟨w.heap.size, 4, none⟩ (.int .i64 0)).setCell ⟨w.heap.size, 5, none⟩ (.int .i64 0)).setCell ⟨w.heap.size, 6, none⟩ (.int .i64 0)) = W' := ⟨_, rfl⟩
  rw [hW'] at B hB ⊢
  have q := (cells7 B).1
  exact bodyPost_ret (v := .tuple #[.agg #[.int .i64 0, .string (s.extract 0 R), .int .i64 0, .int .i64 0, .int .i64 0, .int .i64 0, .int .i64 0], .int .i64 R, .bool true]) (by simp [results, Tryd.results20, go_sem, q.1, q.2.1, q.2.2.1, q.2.2.2.1, q.2.2.2.2.1, q.2.2.2.2.2.1, q.2.2.2.2.2.2]) rfl
    ⟨by rw [HR.out]; unfold wordV wdV; rw [Lib.extract_eq]; simp, hB⟩
end Go.Proofs.YtjmejlncomaclaaDoor.Lx
