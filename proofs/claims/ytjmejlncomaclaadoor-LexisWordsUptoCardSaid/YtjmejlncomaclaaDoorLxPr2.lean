/- gimletlaw10.alike is true of two lists of words that agree; gimletlaw10's words as they lie. Condition: fewer than 2^40 words. -/
import Derived.Test.YtjmejlncomaclaaDoorLxPr1
import Derived.Test.YtjmejlncomaclaaDoorLxEq
import Derived.Deep.LoopGhost
import Derived.Deep.QuietTactic
namespace Go.Proofs.YtjmejlncomaclaaDoor.Lx
open Go.RowKit

/-- A word as it lies: its kind, text, number and place. -/
structure AW where
  kind : Int
  text : ByteArray
  num : Int
  b : Int
  r : Int
  l : Int
  c : Int
def awCells (a : AW) : List Value := [.int .i64 a.kind, .string a.text, .int .i64 a.num, .int .i64 a.b, .int .i64 a.r, .int .i64 a.l, .int .i64 a.c]
/-- A slice of words that reads as l. -/
def RW (w : World) (v : Value) (l : List AW) : Prop :=
  (v = .slice none 0 0 ∧ l = []) ∨ ∃ k off c, v = .slice (some ⟨k, off, none⟩) l.length c ∧ l.length ≤ c ∧ k < w.heap.size ∧
    ∀ (i : Nat) a, l[i]? = some a → ∀ (f : Nat) u, (awCells a)[f]? = some u → w.cell? ⟨k, off + i * 7 + f, none⟩ = some u
theorem RW.below {w w' : World} {v : Value} {l : List AW} (h : RW w v l) (hb : Below w.heap.size w w') : RW w' v l := by
  rcases h with h | ⟨k, off, c, h1, h2, h3, h4⟩
  · exact .inl h
  · exact .inr ⟨k, off, c, h1, h2, Nat.lt_of_lt_of_le h3 hb.size, fun i a hi f u hu => cell_kept hb (h4 i a hi f u hu)⟩
theorem RW.shape {w : World} {v : Value} {l : List AW} (h : RW w v l) : ∃ o c, v = .slice o l.length c ∧ l.length ≤ c ∧
    (0 < l.length → ∃ k off, o = some ⟨k, off, none⟩ ∧ k < w.heap.size ∧ ∀ (i : Nat) a, l[i]? = some a → ∀ (f : Nat) u, (awCells a)[f]? = some u → w.cell? ⟨k, off + i * 7 + f, none⟩ = some u) := by
  rcases h with ⟨rfl, rfl⟩ | ⟨k, off, c, h1, h2, h3, h4⟩
  · exact ⟨none, 0, rfl, Nat.le_refl _, fun h => absurd h (by simp)⟩
  · exact ⟨_, c, h1, h2, fun _ => ⟨k, off, rfl, h3, h4⟩⟩
/-- The same word, and the same place where that is asked. -/
def Same (pl : Bool) (a b : AW) : Prop := b.kind = a.kind ∧ b.text = a.text ∧ b.num = a.num ∧ (pl = true → b.b = a.b ∧ b.r = a.r ∧ b.l = a.l ∧ b.c = a.c)

set_option maxRecDepth 100000 in
set_option maxHeartbeats 4000000 in
/-- alike, of lists that agree. -/
theorem alike_any (va vb : Value) (la lb : List AW) (pl : Bool) (w : World) (ha : RW w va la) (hb : RW w vb lb) (hl : lb.length = la.length) (hn : la.length ≤ 1099511627776)
    (hs : ∀ (i : Nat) a b, la[i]? = some a → lb[i]? = some b → Same pl a b) :
    Calls Tryd.prog 12 #[va, vb, .bool pl] w fun e w' => e = .returned (.bool true) ∧ Below w.heap.size w w' := by
  obtain ⟨o1, c1, rfl, hc1, hs1⟩ := ha.shape
  obtain ⟨o2, c2, rfl, hc2, hs2⟩ := hb.shape
  rw [hl] at hs2 hc2 ⊢
  have Hs1 := Lib.hid hs1
  have Hs2 := Lib.hid hs2
  have Hs := Lib.hid hs
  have Hl := Lib.hid hl
  have EP := eq_place 9998
  clear hs1 hs2 hs ha hb hl
  go_enter Tryd.func12, Tryd.ntmps12
  go_wp2_with fail
  go_loopw [7] (fun i wr => ∃ j : Nat, j ≤ la.length ∧ i = .int .i64 j ∧ Below w.heap.size w wr) (fun i _ => la.length - (intOf i).toNat)
  case atStart => exact ⟨0, Nat.zero_le _, rfl, Below.refl _ _⟩
  case round =>
    obtain ⟨j, hj, rfl, hbr⟩ := hrel
    by_cases hlt : j < la.length
    · obtain ⟨k1, off1, rfl, hk1, hcl1⟩ := Hs1.out (by omega)
      obtain ⟨k2, off2, rfl, hk2, hcl2⟩ := Hs2.out (by omega)
      obtain ⟨a, hA⟩ : ∃ a, la[j]? = some a := ⟨_, List.getElem?_eq_getElem hlt⟩
      obtain ⟨b, hB⟩ : ∃ b, lb[j]? = some b := ⟨_, List.getElem?_eq_getElem (by rw [Hl.out]; exact hlt)⟩
      have hsame := Hs.out j a b hA hB
      have f1 := fun f u hu => cell_kept hbr (hcl1 j a hA f u hu)
      have f2 := fun f u hu => cell_kept hbr (hcl2 j b hB f u hu)
      obtain ⟨e1, e2, e3, e4⟩ := hsame
      unfold awCells at f1 f2
      rw [e1, e2, e3] at f2
      have a0 : wr.cell? ⟨k1, off1 + j * 7, none⟩ = some (.int .i64 a.kind) := f1 0 _ rfl
      have a1 := f1 1 _ rfl
      have a2 := f1 2 _ rfl
      have b0 : wr.cell? ⟨k2, off2 + j * 7, none⟩ = some (.int .i64 a.kind) := f2 0 _ rfl
      have b1 := f2 1 _ rfl
      have b2 := f2 2 _ rfl
      cases pl with
      | false =>
        clear f1 f2 e1 e2 e3 e4 hA hB hcl1 hcl2
        go_wp2_with fail
        go_quiet (fail)
        go_wp2_with fail
        go_round
        case rel => exact ⟨j + 1, by omega, by go_num, below_drewN hbr _⟩
        case measure => simp [intOf]; omega
      | true =>
        obtain ⟨g1, g2, g3, g4⟩ := e4 rfl
        rw [g1, g2, g3, g4] at f2
        have a3 := f1 3 _ rfl
        have a4 := f1 4 _ rfl
        have a5 := f1 5 _ rfl
        have a6 := f1 6 _ rfl
        have b3 := f2 3 _ rfl
        have b4 := f2 4 _ rfl
        have b5 := f2 5 _ rfl
        have b6 := f2 6 _ rfl
        clear f1 f2 e1 e2 e3 e4 g1 g2 g3 g4 hA hB hcl1 hcl2
        go_wp2_with fail
        go_quiet (fail)
        go_wp2_with fail
        go_round
        case rel => exact ⟨j + 1, by omega, by go_num, below_drewN hbr _⟩
        case measure => simp [intOf]; omega
    · obtain rfl : j = la.length := by omega
      go_wp2_with fail
      go_ret
      exact ⟨rfl, hbr⟩
end Go.Proofs.YtjmejlncomaclaaDoor.Lx
