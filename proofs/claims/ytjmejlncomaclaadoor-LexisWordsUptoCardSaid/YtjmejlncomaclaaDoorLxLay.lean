/- unicode/utf8.DecodeRune answers as the plain decoding says, by the shelf's contract. Condition: the tables of unicode/utf8. -/
import Derived.Test.YtjmejlncomaclaaDoorLxW1
import Derived.Shelf.Spec.DecodeRune
namespace Go.Proofs.YtjmejlncomaclaaDoor.Lx
open Go.RowKit
/-- The numbers that unicode/utf8.DecodeRune's contract of the shelf speaks of, at this program. -/
def dr_ren : Go.Shelf.Ren := ⟨fun | 32 => 40 | 49 => 61 | n => n, fun | 0 => 0 | 3 => 3 | 4 => 4 | 5 => 5 | 21 => 21 | 25 => 133 | 30 => 22 | 33 => 92 | 66 => 129 | 68 => 131 | 69 => 132 | n => n, fun | 2 => 1 | 3 => 2 | n => n⟩
theorem dr_lays : Go.Proofs.Lays7.n32 Tryd.prog dr_ren := {
  mixed := by kernel_rfl
  f32 := Tryd.func40.trans (congrArg some (by kernel_rfl))
  f49 := Tryd.func61.trans (congrArg some (by kernel_rfl))
  t0 := Tryd.underlying0
  a0 := Tryd.isAgg0
  z0 := Tryd.sizeOf0
  v0 := Tryd.zeroValue0
  i0 := by kernel_rfl
  t3 := Tryd.underlying3
  a3 := Tryd.isAgg3
  z3 := Tryd.sizeOf3
  v3 := Tryd.zeroValue3
  i3 := by kernel_rfl
  t4 := Tryd.underlying4
  a4 := Tryd.isAgg4
  z4 := Tryd.sizeOf4
  v4 := Tryd.zeroValue4
  i4 := by kernel_rfl
  t5 := Tryd.underlying5
  a5 := Tryd.isAgg5
  z5 := Tryd.sizeOf5
  v5 := Tryd.zeroValue5
  i5 := by kernel_rfl
  t21 := Tryd.underlying21
  a21 := Tryd.isAgg21
  z21 := Tryd.sizeOf21
  v21 := Tryd.zeroValue21
  i21 := by kernel_rfl
  t25 := Tryd.underlying133
  a25 := Tryd.isAgg133
  z25 := Tryd.sizeOf133
  v25 := Tryd.zeroValue133
  i25 := by kernel_rfl
  t30 := Tryd.underlying22
  a30 := Tryd.isAgg22
  z30 := Tryd.sizeOf22
  v30 := Tryd.zeroValue22
  i30 := by kernel_rfl
  t33 := Tryd.underlying92
  a33 := Tryd.isAgg92
  z33 := Tryd.sizeOf92
  v33 := Tryd.zeroValue92
  i33 := by kernel_rfl
  t66 := Tryd.underlying129
  a66 := Tryd.isAgg129
  z66 := Tryd.sizeOf129
  t68 := Tryd.underlying131
  a68 := Tryd.isAgg131
  z68 := Tryd.sizeOf131
  v68 := Tryd.zeroValue131
  i68 := by kernel_rfl
  t69 := Tryd.underlying132
  a69 := Tryd.isAgg132
  z69 := Tryd.sizeOf132
  v69 := Tryd.zeroValue132
  i69 := by kernel_rfl
  g2 := by kernel_rfl
  g3 := by kernel_rfl
}

theorem dec_go (s : ByteArray) : Lib.decodeGo s = decGo s.data.toList := by
  unfold Lib.decodeGo decGo
  by_cases h : s.size = 0
  · rw [if_pos h, if_pos (by rw [Lib.size_eq] at h; exact List.length_eq_zero_iff.1 h)]
  · rw [if_neg h, if_neg (by intro h2; rw [Lib.size_eq, h2] at h; exact h rfl), decode_dec, List.drop_zero]
/-- unicode/utf8.DecodeRune. -/
theorem decodeRune_any (l : List UInt8) (b off cap : Nat) (w : World) (hV : Vars w) (hp : ∀ j, j < l.length → w.cell? ⟨b, off + j, none⟩ = some (.int .u8 (l.getD j 0).toNat)) :
    Calls Tryd.prog 40 #[.slice (some ⟨b, off, none⟩) l.length cap] w fun e w' => e = .returned (.tuple #[.int .i32 (decGo l).1, .int .i64 (decGo l).2]) ∧ Below w.heap.size w w' := by
  have := Any7.utf8_DecodeRune dr_lays ⟨l.toArray⟩ b off cap w hV.u8 (fun j hj => by rw [get!_getD]; exact hp j hj)
  rw [dec_go] at this
  exact this
end Go.Proofs.YtjmejlncomaclaaDoor.Lx
