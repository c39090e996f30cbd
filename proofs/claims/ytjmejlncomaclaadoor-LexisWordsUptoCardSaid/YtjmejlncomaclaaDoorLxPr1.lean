/- gimletref10.number writes a number's decimal numeral. No conditions beyond the int's range. -/
import Derived.Test.YtjmejlncomaclaaDoorLxLaw1
import Derived.Test.YtjmejlncomaclaaDoorLxPrint2
import Derived.Deep.QuietTactic
import Derived.Deep.RegionHeld3
import Derived.BigQuiet
import Derived.IntWalk
import Derived.Lib.ItoaMem
namespace Go.Proofs.YtjmejlncomaclaaDoor.Lx
open Go.RowKit

/-- The making of a text out of bytes, as an operation (named, so that a region's walk doesn't try to take it ahead of the others). -/
abbrev toText (d : Operand) : Op := .convert 22 9 d
/-- A text of one byte that lies in a block. -/
theorem one_text (m : Nat) (hm : m < 208) (W : World) (k : Nat) (h : W.cell? ⟨k, 0, none⟩ = some (.int .u8 (48 + (m : Int)))) :
    (convert 22 9 (.slice (some ⟨k, 0, none⟩) 1 1)).run Tryd.prog W = .ok (.string ⟨#[48 + UInt8.ofNat m]⟩) W := by
  have := run_convert_bytes_arg (P := Tryd.prog) W 22 5 Tryd.underlying22 Tryd.underlying5 k 0 1 1 [48 + (m : Int)] (by simp)
    (fun i hi => by obtain rfl : i = 0 := by omega
                    simpa using h) 9 Tryd.underlying9
  have e : strOfNums [48 + (m : Int)] = ⟨#[48 + UInt8.ofNat m]⟩ := by
    have h1 : (48 + (m : Int)).toNat = 48 + m := by omega
    simp [strOfNums, h1]
  rw [this, e]
set_option maxRecDepth 100000 in
/-- gimletref10.number, of a number that is not negative. -/
theorem refnum_nat (u : Nat) (hu : u ≤ 9223372036854775807) : ∀ w, Calls Tryd.prog 37 #[.int .i64 u] w fun e w' => e = .returned (.string ⟨(Lib.decDigits u).toArray⟩) ∧ Below w.heap.size w w' := by
  induction u using Nat.strongRecOn with
  | ind u ih =>
    intro w
    by_cases hs : u < 10
    · have e1 : Lib.decDigits u = [UInt8.ofNat (48 + u)] := by rw [Lib.decDigits, dif_pos hs]
      have hC := one_text u (by omega) (w.alloc (.cells #[.int .u8 (48 + (u : Int))] 5)) w.heap.size ((Blk.new w _ _).cell 0 _ rfl)
      rw [e1, show UInt8.ofNat (48 + u) = 48 + UInt8.ofNat u by simp]
      go_enter Tryd.func37, Tryd.ntmps37
      go_wp2_with fail
      go_ret
      exact ⟨rfl, (Below.refl _ _).alloc (Nat.le_refl _) _⟩
    · have hq := ih (u / 10) (by omega) (by omega)
      have e1 : Lib.decDigits u = Lib.decDigits (u / 10) ++ [UInt8.ofNat (48 + u % 10)] := by rw [Lib.decDigits, dif_neg hs]
      have hC := one_text (u % 10) (by omega)
      
      have d1 : ((u / 10 : Nat) : Int) = (u : Int) / 10 := by omega
      have d0 : IntKind.i64.wrap ((u : Int) / 10) = (u : Int) / 10 := IntWalk.i64_in _ (by omega)
      rw [d1] at hq
      clear d1
      have d2 : (u : Int).tmod 10 = ((u % 10 : Nat) : Int) := by
        rw [Int.tmod_eq_emod_of_nonneg (by omega)]; omega
      have d3 : IntKind.i64.wrap (48 + ((u % 10 : Nat) : Int)) = 48 + ((u % 10 : Nat) : Int) := IntWalk.i64_in _ (by omega)
      have d4 : IntKind.u8.wrap (48 + ((u % 10 : Nat) : Int)) = 48 + ((u % 10 : Nat) : Int) := IntWalk.u8_in _ (by omega)
      rw [e1, show UInt8.ofNat (48 + u % 10) = 48 + UInt8.ofNat (u % 10) by simp]
      have hL : (Lib.decDigits (u / 10)).length ≤ 19 := by rw [Lib.decDigits_length]; exact nd_le 19 _ (by omega) (by omega)
      obtain ⟨S, hS⟩ : ∃ S : ByteArray, ⟨(Lib.decDigits (u / 10)).toArray⟩ = S := ⟨_, rfl⟩
      have hS2 : (⟨(Lib.decDigits (u / 10) ++ [48 + UInt8.ofNat (u % 10)]).toArray⟩ : ByteArray) = S ++ ⟨#[48 + UInt8.ofNat (u % 10)]⟩ := by
        rw [← hS]; apply ByteArray.ext; simp
      have hS3 : S.size ≤ 19 := by rw [← hS, Lib.size_eq]; exact hL
      rw [hS2]
      rw [hS] at hq
      generalize u % 10 = b at *
      clear ih e1 hS hS2 hL
      go_enter Tryd.func37, Tryd.ntmps37
      go_wp2_with fail
      rw [show Op.convert 22 9 (Operand.tmp 22) = toText (Operand.tmp 22) from rfl]
      have zz : ¬ 9223372036854775807 < S.size + 1 := by omega
      go_region_held3 (fun _ => True) (trivial) ((go_at_call 37; with_reducible refine (hq _).mono ?_; rintro e w1 ⟨rfl, hb1⟩; try have hC2 := hC w1 w.heap.size (((Blk.new w #[.int .u8 (48 + (b : Int))] 5).drew.below hb1).cell 0 _ rfl)))
      all_goals
        go_wp2_with fail
        go_ret
        refine ⟨rfl, ?_⟩
        first
          | exact ((Below.refl _ w).drew.trans hb1).alloc ((Below.refl _ w).drew.trans hb1).size _
          | exact ((Below.refl _ w).alloc (Nat.le_refl _) _).drew.trans (hb1.mono (by simp))
theorem least_text : (⟨#[45, 57, 50, 50, 51, 51, 55, 50, 48, 51, 54, 56, 53, 52, 55, 55, 53, 56, 48, 56]⟩ : ByteArray) = ⟨(Lib.itoa (-9223372036854775808)).toArray⟩ := by
  have : Lib.itoa (-9223372036854775808) = [45, 57, 50, 50, 51, 51, 55, 50, 48, 51, 54, 56, 53, 52, 55, 55, 53, 56, 48, 56] := by
    unfold Lib.itoa
    rw [if_pos (by decide)]
    simp [Lib.decDigits_eq, Lib.nDigits, Lib.dg]
    decide
  rw [this]
set_option maxRecDepth 100000 in
/-- gimletref10.number. -/
theorem refnum_any (n : Int) (h0 : -9223372036854775808 ≤ n) (h1 : n ≤ 9223372036854775807) (w : World) :
    Calls Tryd.prog 37 #[.int .i64 n] w fun e w' => e = .returned (.string ⟨(Lib.itoa n).toArray⟩) ∧ Below w.heap.size w w' := by
  by_cases hn : 0 ≤ n
  · obtain ⟨u, rfl⟩ : ∃ u : Nat, n = u := ⟨n.toNat, by omega⟩
    rw [Lib.itoa_nonneg]
    exact refnum_nat u (by omega) w
  · by_cases hm : n = -9223372036854775808
    · subst hm
      rw [← least_text]
      have hw0 : wrap64 9223372036854775808 = -9223372036854775808 := by unfold wrap64; omega
      go_enter Tryd.func37, Tryd.ntmps37
      go_wp2_with fail
      go_ret
      exact ⟨rfl, Below.refl _ _⟩
    · obtain ⟨u, rfl⟩ : ∃ u : Nat, n = -(u : Int) := ⟨(-n).toNat, by omega⟩
      have hq := refnum_nat u (by omega)
      have hL : (Lib.decDigits u).length ≤ 19 := by rw [Lib.decDigits_length]; exact nd_le 19 _ (by omega) (by omega)
      rw [Lib.itoa_neg u (by omega)]
      obtain ⟨S, hS⟩ : ∃ S : ByteArray, ⟨(Lib.decDigits u).toArray⟩ = S := ⟨_, rfl⟩
      have hS2 : (⟨(45 :: Lib.decDigits u).toArray⟩ : ByteArray) = ⟨#[45]⟩ ++ S := by
        rw [← hS]; apply ByteArray.ext; simp
      have hS3 : S.size ≤ 19 := by rw [← hS, Lib.size_eq]; exact hL
      rw [hS2]
      rw [hS] at hq
      have zz : ¬ 9223372036854775807 < 1 + S.size := by omega
      clear hS hS2 hL
      go_enter Tryd.func37, Tryd.ntmps37
      go_wp2_with fail
      refine (hq _).mono ?_
      rintro e w1 ⟨rfl, hb1⟩
      go_wp2_with fail
      go_ret
      exact ⟨rfl, hb1⟩
end Go.Proofs.YtjmejlncomaclaaDoor.Lx
