/- utf8.FullRune, utf8.Valid and the tests ahead of them, strings.Fields over the signs, lexis.sign: each answers as the plain function says. Condition: the tables. -/
import Derived.Test.YtjmejlncomaclaaDoorLxW2
import Derived.Test.YtjmejlncomaclaaDoorShelf
namespace Go.Proofs.YtjmejlncomaclaaDoor.Lx
open Go.RowKit

/-- A slice of bytes that is not nil: its cells. -/
def Cells (w : World) (b off : Nat) (l : List UInt8) : Prop := ∀ j, j < l.length → w.cell? ⟨b, off + j, none⟩ = some (.int .u8 (l.getD j 0).toNat)
theorem Cells.below {w w' : World} {b off : Nat} {l : List UInt8} (h : Cells w b off l) (hb : Below w.heap.size w w') : Cells w' b off l := fun j hj => cell_kept hb (h j hj)
theorem Cells.belowB {B : Nat} {w w' : World} {b off : Nat} {l : List UInt8} (h : Cells w b off l) (hb : Below B w w') (hk : b < B) : Cells w' b off l := fun j hj => (hb.cell (p := ⟨b, off + j, none⟩) hk).trans (h j hj)
theorem Cells.drop {w : World} {b off : Nat} {l : List UInt8} (h : Cells w b off l) (p : Nat) : Cells w b (off + p) (l.drop p) := by
  intro j hj
  simp at hj
  have := h (p + j) (by omega)
  rw [Nat.add_assoc, this]
  simp [List.getD_eq_getElem?_getD, List.getElem?_drop]
theorem Cells.take {w : World} {b off : Nat} {l : List UInt8} (h : Cells w b off l) (p : Nat) : Cells w b off (l.take p) := by
  intro j hj
  simp at hj
  rw [h j (by omega)]
  simp [List.getD_eq_getElem?_getD, show j < p by omega]

theorem fullRune_eq (l : List UInt8) : fullRune l = fullN l.length (Lib.firstT (l.getD 0 0).toNat % 8) (Lib.accLo (Lib.firstT (l.getD 0 0).toNat / 16)) (Lib.accHi (Lib.firstT (l.getD 0 0).toNat / 16)) (l.getD 1 0).toNat (l.getD 2 0).toNat := rfl

theorem acc_bd (i : Nat) : Lib.accLo i < 256 ∧ Lib.accHi i < 256 := by unfold Lib.accLo Lib.accHi; constructor <;> (repeat' split) <;> omega

/-- unicode/utf8.FullRune, of some bytes. -/
theorem fullRune_any (l : List UInt8) (b off cap : Nat) (w : World) (hV : Vars w) (hl : l ≠ []) (hc : Cells w b off l) :
    Calls Tryd.prog 38 #[.slice (some ⟨b, off, none⟩) l.length cap] w fun e w' => e = .returned (.bool (fullRune l)) ∧ Below w.heap.size w w' := by
  have hp : 0 < l.length := List.length_pos_iff.2 hl
  have h0 := (l.getD 0 0).toNat_lt
  have hx := Lib.firstT_cases (l.getD 0 0).toNat
  have hx2 : Lib.firstT (l.getD 0 0).toNat < 256 ∧ Lib.firstT (l.getD 0 0).toNat % 8 ≤ 4 ∧ Lib.firstT (l.getD 0 0).toNat / 16 < 16 := by omega
  rw [fullRune_eq]
  exact fullRune_on l.length _ _ _ _ _ (l.getD 0 0).toNat (l.getD 1 0).toNat (l.getD 2 0).toNat b off cap w (by omega) hx2.2.1 hx2.1 h0 (l.getD 1 0).toNat_lt (l.getD 2 0).toNat_lt (acc_bd _).1 (acc_bd _).2
    (hV.u8.1 _ h0) rfl rfl hx2.2.2 (by rw [Nat.mul_comm]; exact (hV.u8.2 _ hx2.2.2).1) (by rw [Nat.mul_comm]; exact (hV.u8.2 _ hx2.2.2).2) (hc 0 (by omega)) (fun h => hc 1 h) (fun h => hc 2 h)

/-- runes.valid. -/
theorem valid_any (l : List UInt8) (b off cap : Nat) (w : World) (hV : Vars w) (hc : Cells w b off l) :
    Calls Tryd.prog 39 #[.slice (some ⟨b, off, none⟩) l.length cap] w fun e w' => e = .returned (.bool (validHd l)) ∧ Below w.heap.size w w' := by
  have hd := decodeRune_any l b off cap w hV hc
  obtain ⟨D, hD⟩ : ∃ D, decGo l = D := ⟨_, rfl⟩
  have hv : validHd l = (decide (D.1 ≠ 65533) || decide (1 < D.2)) := by unfold validHd; rw [hD]
  rw [hD] at hd
  have Hv := Lib.hid hv
  clear hv hD
  by_cases h1 : D.1 = 65533
  · have hb : (((D.1 : Nat) : Int) != 65533) = false := by simp [h1]
    have hi : ((D.1 : Nat) : Int) = 65533 := by omega
    have H1 := Lib.hid h1
    clear h1
    go_enter Tryd.func39, Tryd.ntmps39
    go_wp2_with (go_at_call 40; refine hd.mono ?_; rintro e w' ⟨rfl, hb2⟩)
    go_ret
    refine ⟨?_, hb2⟩
    rw [Hv.out, H1.out]
    congr 2
    simp
    omega
  · have hb : (((D.1 : Nat) : Int) != 65533) = true := by rw [bne_iff_ne]; omega
    have H1 := Lib.hid h1
    clear h1
    go_enter Tryd.func39, Tryd.ntmps39
    go_wp2_with (go_at_call 40; refine hd.mono ?_; rintro e w' ⟨rfl, hb2⟩)
    go_ret
    refine ⟨?_, hb2⟩
    rw [Hv.out, decide_eq_true H1.out]
    rfl
/-- lexis.sign. -/
theorem fields_signs (w : World) (hV : Vars w) : Calls Tryd.prog 63 #[.string ⟨#[47, 47, 32, 58, 58, 32, 33, 61, 32, 47, 32, 91, 32, 93, 32, 40, 32, 41, 32, 64, 32, 46, 32, 42, 32, 44, 32, 61, 32, 60, 32, 62]⟩] w
    fun e w' => e = .returned (.slice (some ⟨w.heap.size, 0, none⟩) 15 15) ∧ w.alloc (.cells (signs.map fun l => Value.string ⟨l.toArray⟩).toArray 9) = w' := by
  have h := Tryd.strings_Fields ⟨#[47, 47, 32, 58, 58, 32, 33, 61, 32, 47, 32, 91, 32, 93, 32, 40, 32, 41, 32, 64, 32, 46, 32, 42, 32, 44, 32, 61, 32, 60, 32, 62]⟩ w (by decide) (fun j b hb => by
    have := List.mem_of_getElem? hb
    revert this
    generalize b = c
    clear hb
    revert c
    decide) hV.asc
  have e : Lib.fields (⟨#[47, 47, 32, 58, 58, 32, 33, 61, 32, 47, 32, 91, 32, 93, 32, 40, 32, 41, 32, 64, 32, 46, 32, 42, 32, 44, 32, 61, 32, 60, 32, 62]⟩ : ByteArray).data.toList = signs := by decide
  rw [e] at h
  exact h.mono fun e w' ⟨h1, h2⟩ => ⟨h1, h2.symm⟩

/-- runes.begins. -/
theorem begins_any (l : List UInt8) (b off cap : Nat) (w : World) (hV : Vars w) (hl : l ≠ []) (hc : Cells w b off l) :
    Calls Tryd.prog 41 #[.slice (some ⟨b, off, none⟩) l.length cap] w fun e w' => e = .returned (.bool (begins l)) ∧ Below w.heap.size w w' := by
  have hf := fullRune_any l b off cap w hV hl hc
  obtain ⟨F, hF⟩ : ∃ F, fullRune l = F := ⟨_, rfl⟩
  have hv : begins l = (!F || validHd l) := by unfold begins; rw [hF]
  rw [hF] at hf
  have Hv := Lib.hid hv
  clear hv hF
  cases F with
  | false =>
    go_enter Tryd.func41, Tryd.ntmps41
    go_wp2_with (go_at_call 38; refine hf.mono ?_; rintro e w' ⟨rfl, hb2⟩)
    go_ret
    exact ⟨by rw [Hv.out]; rfl, hb2⟩
  | true =>
    have HV := Lib.hid hV
    have HC := Lib.hid hc
    clear hc
    go_enter Tryd.func41, Tryd.ntmps41
    go_wp2_with (first | (go_at_call 38; refine hf.mono ?_; rintro e w1 ⟨rfl, hb1⟩) | (go_at_call 39; refine (valid_any l b off cap _ (hV.below hb1) (HC.out.below hb1)).mono ?_; rintro e w2 ⟨rfl, hb2⟩))
    go_ret
    exact ⟨by rw [Hv.out]; rfl, hb1.trans (hb2.mono hb1.size)⟩

theorem sign_prefix_any (s : ByteArray) (_i : Nat) (l : List UInt8) (w : World) : Calls Tryd.prog 64 #[.string s, .string ⟨l.toArray⟩] w fun e w' => e = .returned (.bool (Lib.hasPrefix s.data.toList l)) ∧ w = w' :=
  (Tryd.strings_HasPrefix s ⟨l.toArray⟩ w).mono fun _ _ ⟨h1, h2⟩ => ⟨h1, h2.symm⟩
theorem sign_any (s : ByteArray) (w : World) (hV : Vars w) :
    Calls Tryd.prog 45 #[.string s] w fun e w' => e = .returned (.string ⟨(sign s.data.toList).toArray⟩) ∧ Below w.heap.size w w' := by
  have hf := fields_signs w hV
  go_enter Tryd.func45, Tryd.ntmps45
  go_wp2_with (go_at_call 63; refine hf.mono ?_; rintro e w' ⟨rfl, rfl⟩)
  have hcell : ∀ k, k < 15 → (w.alloc (.cells (signs.map fun l => Value.string ⟨l.toArray⟩).toArray 9)).cell? ⟨w.heap.size, k, none⟩ = some (.string ⟨(signs.getD k []).toArray⟩) := by
    intro k hk
    rw [World.cell?_alloc_mark]
    have : signs.length = 15 := rfl
    simp [List.getD_eq_getElem?_getD, List.getElem?_eq_getElem (show k < signs.length by omega)]
  obtain ⟨W, hW⟩ : ∃ W, w.alloc (.cells (signs.map fun l => Value.string ⟨l.toArray⟩).toArray 9) = W := ⟨_, rfl⟩
  have hBW : Below w.heap.size w W := by rw [← hW]; exact (Below.refl _ _).alloc (Nat.le_refl _) _
  rw [hW] at hcell ⊢
  clear hW
  have Hcell := Lib.hid hcell
  clear hcell hf
  go_loop [7] (fun i => ∃ k : Nat, k ≤ 15 ∧ i = .int .i64 k ∧ (signs.find? fun x => Lib.hasPrefix s.data.toList x) = (signs.drop k).find? fun x => Lib.hasPrefix s.data.toList x) (fun i => 15 - (intOf i).toNat)
  case atStart => exact ⟨0, Nat.zero_le _, rfl, rfl⟩
  case round =>
    obtain ⟨k, hk, rfl, he⟩ := hrel
    have He := Lib.hid he
    clear he
    by_cases hlt : k < 15
    · have hc := Hcell.out k hlt
      have hs : signs.drop k = signs.getD k [] :: signs.drop (k + 1) := by
        have : signs.length = 15 := rfl
        rw [List.drop_eq_getElem_cons (by omega)]
        simp [List.getD_eq_getElem?_getD, List.getElem?_eq_getElem (show k < signs.length by omega)]
      have Hs := Lib.hid hs
      clear hs
      obtain ⟨x, hx⟩ : ∃ x, signs.getD k [] = x := ⟨_, rfl⟩
      rw [hx] at hc
      have HX := Lib.hid hx
      clear hx
      have hp := sign_prefix_any s k x W
      obtain ⟨p, hpp⟩ : ∃ p, Lib.hasPrefix s.data.toList x = p := ⟨_, rfl⟩
      rw [hpp] at hp
      have HP := Lib.hid hpp
      clear hpp
      cases p with
      | true =>
        go_wp2_with (go_at_call 64; refine hp.mono ?_; rintro e w' ⟨rfl, rfl⟩)
        go_ret
        refine ⟨?_, hBW⟩
        unfold sign
        rw [He.out, Hs.out, List.find?_cons, HX.out, HP.out]
        rfl
      | false =>
        go_wp2_with (go_at_call 64; refine hp.mono ?_; rintro e w' ⟨rfl, rfl⟩)
        go_round
        case rel => exact ⟨k + 1, by omega, by go_num, by rw [He.out, Hs.out, List.find?_cons, HX.out, HP.out]⟩
        case measure => simp [intOf]; omega
    · go_wp2
      go_ret
      refine ⟨?_, hBW⟩
      unfold sign
      rw [He.out, List.drop_of_length_le (by show 15 ≤ k; omega)]
      rfl
end Go.Proofs.YtjmejlncomaclaaDoor.Lx
