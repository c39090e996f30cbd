/- gimletref10.signs, sign, end. Condition: at most 1000000000 bytes. -/
import Derived.Test.YtjmejlncomaclaaDoorLxD6
import Derived.Deep.QuietTactic
import Derived.BigQuiet
namespace Go.Proofs.YtjmejlncomaclaaDoor.Lx
open Go.RowKit

def signVals : List Value := signs.map fun s => .string ⟨s.toArray⟩
set_option maxRecDepth 100000 in
/-- gimletref10.signs. -/
theorem signs_any (w : World) : Calls Tryd.prog 68 #[] w fun e w' => e = .returned (.slice (some ⟨w.heap.size, 0, none⟩) 15 15) ∧ w' = w.alloc (.cells signVals.toArray 9) := by
  go_enter Tryd.func68, Tryd.ntmps68
  go_wp2_with fail
  go_ret
  exact ⟨rfl, rfl⟩
theorem signs_len : signs.length = 15 := rfl
theorem signs_short : ∀ s ∈ signs, 1 ≤ s.length ∧ s.length ≤ 2 := by decide
theorem find_at {α : Type} (p : α → Bool) : ∀ (l : List α) (j : Nat) (x : α), (∀ s ∈ l.take j, p s = false) → l[j]? = some x → p x = true → l.find? p = some x
  | [], j, x, _, h, _ => by simp at h
  | a :: t, 0, x, _, h, hp => by simp at h; subst h; rw [List.find?_cons, hp]
  | a :: t, j + 1, x, hno, h, hp => by
    rw [List.find?_cons, hno a (by simp)]
    exact find_at p t j x (fun s hs => hno s (by simp [hs])) (by simpa using h) hp
theorem ext_take (S : ByteArray) (a n : Nat) : (S.extract a (a + n)).data.toList = (S.data.toList.drop a).take n := by
  rw [ByteArray.data_extract, Array.toList_extract]
  simp [List.extract]
theorem prefix_ext (S X : ByteArray) (a : Nat) (_h : a + X.size ≤ S.size) : Lib.hasPrefix (S.data.toList.drop a) X.data.toList = true ↔ S.extract a (a + X.size) = X := by
  have hz := Lib.size_eq X
  have hs := Lib.size_eq S
  simp only [Lib.hasPrefix, List.isPrefixOf_iff_prefix, List.prefix_iff_eq_take]
  rw [← hz, ← ext_take]
  constructor
  · intro h1
    rw [← Lib.mk_data (S.extract a (a + X.size)), ← h1, Lib.mk_data]
  · intro h1; rw [h1]
theorem prefix_long (S X : ByteArray) (a : Nat) (ha : a ≤ S.size) (h : ¬ a + X.size ≤ S.size) : Lib.hasPrefix (S.data.toList.drop a) X.data.toList = false := by
  rw [← Bool.not_eq_true]
  simp only [Lib.hasPrefix, List.isPrefixOf_iff_prefix]
  intro h1
  have := h1.length_le
  rw [List.length_drop, ← Lib.size_eq, ← Lib.size_eq] at this
  omega
theorem toList_eq (A B : ByteArray) : (A.toList == B.toList) = decide (A = B) := by
  rw [Lib.toList_data, Lib.toList_data, Bool.eq_iff_iff, beq_iff_eq, decide_eq_true_iff]
  constructor
  · intro h; rw [← Lib.mk_data A, h, Lib.mk_data]
  · intro h; rw [h]
set_option maxRecDepth 100000 in
set_option maxHeartbeats 4000000 in
/-- gimletref10.sign. -/
theorem refsign_any (S : ByteArray) (a : Nat) (w : World) (hs : S.size ≤ 1000000000) (ha : a ≤ S.size) :
    Calls Tryd.prog 53 #[.string S, .int .i64 a] w fun e w' => e = .returned (.string ⟨(sign (S.data.toList.drop a)).toArray⟩) ∧ Below w.heap.size w w' := by
  have hG := signs_any w
  go_enter Tryd.func53, Tryd.ntmps53
  go_wp2_with fail
  refine hG.mono ?_
  rintro e w1 ⟨rfl, rfl⟩
  have hB := Blk.new w signVals.toArray 9
  have hb := (Below.refl _ w).alloc (Nat.le_refl _) (.cells signVals.toArray 9)
  generalize w.alloc (.cells signVals.toArray 9) = w1 at hB hb ⊢
  go_wp2_with fail
  go_loopw [6] (fun i wr => ∃ j : Nat, j ≤ 15 ∧ i = .int .i64 j ∧ (∀ s ∈ signs.take j, Lib.hasPrefix (S.data.toList.drop a) s = false) ∧ Blk wr w.heap.size signVals.toArray 9 ∧ Below w.heap.size w wr) (fun i _ => 15 - (intOf i).toNat)
  case atStart => exact ⟨0, by omega, rfl, by simp, hB, hb⟩
  case round =>
    obtain ⟨j, hj, rfl, hno, hBr, hbr⟩ := hrel
    have Hno := Lib.hid hno
    clear hno
    by_cases hlt : j < 15
    · obtain ⟨x, hx⟩ : ∃ x, signs[j]? = some x := ⟨_, List.getElem?_eq_getElem (by rw [signs_len]; exact hlt)⟩
      have hxs := signs_short x (List.mem_of_getElem? hx)
      have hc := hBr.cell j (.string ⟨x.toArray⟩) (by simp [signVals, hx])
      obtain ⟨X, hX⟩ : ∃ X : ByteArray, ⟨x.toArray⟩ = X := ⟨_, rfl⟩
      have hXl : X.data.toList = x := by rw [← hX]
      have hXz : X.size = x.length := by rw [Lib.size_eq, hXl]
      rw [hX] at hc
      have hX1 : 1 ≤ X.size := by omega
      have hX2 : X.size ≤ 2 := by omega
      clear hxs
      have HXz := Lib.hid hXz
      clear hXz
      have hnext : ∀ (hp : Lib.hasPrefix (S.data.toList.drop a) x = false), ∀ s ∈ signs.take (j + 1), Lib.hasPrefix (S.data.toList.drop a) s = false := fun hp s hs => by
        rw [List.take_add_one, hx] at hs
        rcases List.mem_append.1 hs with h | h
        · exact Hno.out s h
        · simp at h; subst h; exact hp
      have Hnext := Lib.hid hnext
      clear hnext
      have HX := Lib.hid hX
      have HXl := Lib.hid hXl
      have Hx := Lib.hid hx
      have ws : IntKind.i64.wrap ((a : Int) + (X.size : Int)) = (a : Int) + (X.size : Int) := IntWalk.i64_in _ (by omega)
      clear hX hXl hx
      have hfree := hBr.free
      by_cases hfit : a + X.size ≤ S.size
      · have w1' : decide ((a : Int) + (X.size : Int) ≤ (S.size : Int)) = true := by simp; omega
        have hslc : ∀ wx, (Instr.slice 9 (.string S) (some (.int .i64 a)) (some (.int .i64 ((a : Int) + (X.size : Int)))) none).run Tryd.prog wx = .ok (.string (S.extract a (a + X.size))) wx := fun wx => by
          have := run_slice_string (P := Tryd.prog) wx 9 S .i64 .i64 (a : Int) ((a : Int) + (X.size : Int)) Tryd.underlying9 (by omega) (by omega) (by omega)
          rw [this, show ((a : Int)).toNat = a by omega, show ((a : Int) + (X.size : Int)).toNat = a + X.size by omega]
        by_cases heq : S.extract a (a + X.size) = X
        · rw [heq] at hslc
          have heqb : (X.toList == X.toList) = true := by simp
          go_wp2_with fail
          go_quiet (fail)
          go_wp2_with fail
          go_ret
          refine ⟨?_, below_drewN hbr _⟩
          have hp := (prefix_ext S X a hfit).2 heq
          rw [HXl.out] at hp
          have : sign (S.data.toList.drop a) = x := by unfold sign; rw [find_at _ signs j x Hno.out Hx.out hp]; rfl
          rw [this, HX.out]
          rfl
        · have heqb : ((S.extract a (a + X.size)).toList == X.toList) = false := by rw [toList_eq]; exact decide_eq_false heq
          go_wp2_with fail
          go_quiet (fail)
          go_wp2_with fail
          go_round
          case rel =>
            refine ⟨j + 1, by omega, by go_num, Hnext.out ?_, hBr, below_drewN hbr _⟩
            rw [← HXl.out, ← Bool.not_eq_true]
            exact fun h => heq ((prefix_ext S X a hfit).1 h)
          case measure => simp [intOf]; omega
      · have w1' : decide ((a : Int) + (X.size : Int) ≤ (S.size : Int)) = false := by simp; omega
        go_wp2_with fail
        go_quiet (fail)
        go_wp2_with fail
        go_round
        case rel => exact ⟨j + 1, by omega, by go_num, Hnext.out (by rw [← HXl.out]; exact prefix_long S X a ha hfit), hBr, below_drewN hbr _⟩
        case measure => simp [intOf]; omega
    · obtain rfl : j = 15 := by omega
      go_wp2_with fail
      go_ret
      have : sign (S.data.toList.drop a) = [] := by
        unfold sign
        rw [List.find?_eq_none.2 (fun s hs => by rw [Hno.out s (by rw [List.take_of_length_le (by rw [signs_len]; exact Nat.le_refl _)]; exact hs)]; simp)]
        rfl
      exact ⟨by rw [this]; rfl, hbr⟩
set_option maxRecDepth 100000 in
/-- gimletref10.end. -/
theorem end_any (S : ByteArray) (o : Option Addr) (n c k E : Nat) (w : World) (hk : (k < n → ∃ g, o = some ⟨g, 0, none⟩ ∧ w.cell? ⟨g, k * 3, none⟩ = some (.int .i64 E)) ∧ (¬ k < n → S.size = E)) :
    Calls Tryd.prog 52 #[.string S, .slice o n c, .int .i64 k] w fun e w' => e = .returned (.int .i64 E) ∧ w' = w := by
  by_cases h : k < n
  · obtain ⟨g, rfl, hc⟩ := hk.1 h
    clear hk
    go_enter Tryd.func52, Tryd.ntmps52
    go_wp2_with fail
    go_ret
    exact ⟨rfl, rfl⟩
  · have hE := Lib.hid (hk.2 h)
    clear hk
    have h2 : (n : Int) ≤ (k : Int) := by omega
    go_enter Tryd.func52, Tryd.ntmps52
    go_wp2_with fail
    go_ret
    exact ⟨by rw [← hE.out]; rfl, rfl⟩
end Go.Proofs.YtjmejlncomaclaaDoor.Lx
