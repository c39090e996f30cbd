/- gimletlaw10.awake is true. Condition: the tables. -/
import Derived.Test.YtjmejlncomaclaaDoorLxW8
import Derived.Test.YtjmejlncomaclaaDoorLxCover
import Derived.Lib.SlBytesConst
namespace Go.Proofs.YtjmejlncomaclaaDoor.Lx
open Go.RowKit

def awakeB : List UInt8 := [47, 47, 97, 91, 64, 120, 45, 49, 61, 39, 121, 39, 93, 62, 48, 48, 55]
def awakeW : List (Wd × Nat) := [(⟨3, [47, 47], 0⟩, 0), (⟨0, [97], 0⟩, 2), (⟨3, [91], 0⟩, 3), (⟨3, [64], 0⟩, 4), (⟨0, [120, 45, 49], 0⟩, 5), (⟨3, [61], 0⟩, 8), (⟨1, [121], 0⟩, 9), (⟨3, [93], 0⟩, 12), (⟨3, [62], 0⟩, 13), (⟨2, [], 7⟩, 14)]
theorem awake_words : words awakeB = .ok awakeW := by kernel_rfl

theorem const_cells (w : World) (l : List UInt8) (C : Array Value) (hC : C = (l.map fun b => Value.int .u8 b.toNat).toArray) (t : TypeId) (fr : Nat × Nat) : Cells (w.alloc (.cells C t fr)) w.heap.size 0 l := by
  intro j hj
  rw [Nat.zero_add, World.cell?_alloc_mark, hC]
  simp [List.getD_eq_getElem?_getD, List.getElem?_eq_getElem hj]
set_option maxRecDepth 100000 in
set_option maxHeartbeats 2000000 in
theorem awake_any (w : World) (hV : Vars w) : Calls Tryd.prog 6 #[] w fun e w' => e = .returned (.bool true) ∧ Below w.heap.size w w' := by
  have kc := fun (w : World) (C : Array Value) (n c : Nat) => Lib.run_convert_bytes_const (P := Tryd.prog) w 22 5 C n c Tryd.underlying22 Tryd.underlying5
  go_enter Tryd.func6, Tryd.ntmps6
  go_wp2_with fail
  have hR : RB (w.alloc (.cells #[.int .u8 47, .int .u8 47, .int .u8 97, .int .u8 91, .int .u8 64, .int .u8 120, .int .u8 45, .int .u8 49, .int .u8 61, .int .u8 39, .int .u8 121, .int .u8 39, .int .u8 93, .int .u8 62, .int .u8 48, .int .u8 48, .int .u8 55] 5 (17, 18))) (.slice (some ⟨w.heap.size, 0, none⟩) 17 17) awakeB :=
    .inr ⟨w.heap.size, 0, 17, rfl, by decide, by simp, const_cells w awakeB _ rfl _ _⟩
  have hB0 : Below w.heap.size w (w.alloc (.cells #[.int .u8 47, .int .u8 47, .int .u8 97, .int .u8 91, .int .u8 64, .int .u8 120, .int .u8 45, .int .u8 49, .int .u8 61, .int .u8 39, .int .u8 121, .int .u8 39, .int .u8 93, .int .u8 62, .int .u8 48, .int .u8 48, .int .u8 55] 5 (17, 18))) := (Below.refl _ _).alloc (Nat.le_refl _) _
  refine (words_any _ awakeB _ (hV.below hB0) hR (by decide)).mono ?_
  rintro e w1 h1
  unfold WordsAns at h1
  rw [awake_words] at h1
  obtain ⟨v, rfl, hown, _, hb1⟩ := h1
  rcases hown.2 with ⟨_, h⟩ | ⟨g, cap, cur, rfl, _, _, hc10, _⟩
  · exact absurd h (by decide)
  · have hcell : ∀ j u, (wdRow awakeB awakeW)[j]? = some u → j < 70 → w1.cell? ⟨g, j, none⟩ = some u := fun j u hj hlt => (hown.cellAt j hlt).trans hj
    have d1 : w1.cell? ⟨g, 1, none⟩ = some (.string ⟨#[47, 47]⟩) := hcell 1 _ rfl (by decide)
    have d29 : w1.cell? ⟨g, 29, none⟩ = some (.string ⟨#[120, 45, 49]⟩) := hcell 29 _ rfl (by decide)
    have d42 : w1.cell? ⟨g, 42, none⟩ = some (.int .i64 1) := hcell 42 _ rfl (by decide)
    have d43 : w1.cell? ⟨g, 43, none⟩ = some (.string ⟨#[121]⟩) := hcell 43 _ rfl (by decide)
    have d45 : w1.cell? ⟨g, 45, none⟩ = some (.int .i64 9) := hcell 45 _ rfl (by decide)
    have d65 : w1.cell? ⟨g, 65, none⟩ = some (.int .i64 7) := hcell 65 _ rfl (by decide)
    clear hcell hown
    go_wp2
    go_outline
    go_ret
    exact ⟨rfl, hB0.trans (hb1.mono hB0.size)⟩
end Go.Proofs.YtjmejlncomaclaaDoor.Lx
