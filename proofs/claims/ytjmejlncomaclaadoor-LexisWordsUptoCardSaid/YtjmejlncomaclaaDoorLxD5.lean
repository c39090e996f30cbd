/- gimletref01.value: a character's number out of its bytes. Condition: the bytes are a character. -/
import Derived.Test.YtjmejlncomaclaaDoorLxD4
namespace Go.Proofs.YtjmejlncomaclaaDoor.Lx
open Go.RowKit

/-- The number so far. -/
def valX (s : Nat) (B : Nat → Nat) : Nat → Nat
  | 0 => 0
  | 1 => B 0 - s
  | i + 2 => valX s B (i + 1) * 64 + (B (i + 1) - 128)
theorem valX_one (s : Nat) (B : Nat → Nat) : valX s B 1 = B 0 - s := rfl
theorem valX_next (s : Nat) (B : Nat → Nat) (i : Nat) : valX s B (i + 2) = valX s B (i + 1) * 64 + (B (i + 1) - 128) := rfl
theorem valX_le (s : Nat) (B : Nat → Nat) (h : ∀ i, B i < 256) (i : Nat) (hi : i ≤ 4) : valX s B i ≤ 100000000 := by
  have h0 := h 0
  have h1 := h 1
  have h2 := h 2
  have h3 := h 3
  have e1 := valX_one s B
  have e2 := valX_next s B 0
  have e3 := valX_next s B 1
  have e4 := valX_next s B 2
  simp only [Nat.zero_add, Nat.reduceAdd] at e2 e3 e4
  have hc : i = 0 ∨ i = 1 ∨ i = 2 ∨ i = 3 ∨ i = 4 := by omega
  rcases hc with rfl | rfl | rfl | rfl | rfl
  · exact Nat.zero_le _
  · omega
  · omega
  · omega
  · omega
set_option maxRecDepth 100000 in
/-- The bytes of a character. -/
theorem okc_parts {c : List UInt8} (h : Okc c) (hl : (dec c).2 = c.length) : ∃ n, c.length = n ∧ 1 ≤ n ∧ n ≤ 4 ∧
    (dec c).1 = (if n = 1 then (c.getD 0 0).toNat else valX (if n = 2 then 192 else if n = 3 then 224 else 240) (fun i => (c.getD i 0).toNat) n) ∧
    (n = 2 → 192 ≤ (c.getD 0 0).toNat) ∧ (n = 3 → 224 ≤ (c.getD 0 0).toNat) ∧ (n = 4 → 240 ≤ (c.getD 0 0).toNat) ∧ ∀ i, 1 ≤ i → i < n → 128 ≤ (c.getD i 0).toNat := by
  have hd := dec_front c (okc_ne h)
  rw [if_pos h] at hd
  obtain ⟨f1, f2, f3, f4⟩ := okc_front h
  have hk := ((okc_iff c).1 h).2.2
  have h4 := szOf_le (c.getD 0 0).toNat
  rw [hd] at hl
  simp only at hl
  refine ⟨szOf (c.getD 0 0).toNat, hl.symm, f4, h4, ?_, ?_, ?_, ?_, ?_⟩
  · rw [hd]
    simp only
    generalize szOf (c.getD 0 0).toNat = n at f4 h4
    unfold valN
    match n, f4, h4 with
    | 1, _, _ => rfl
    | 2, _, _ => rfl
    | 3, _, _ => rfl
    | 4, _, _ => rfl
  · intro e; unfold szOf at e; (repeat' split at e) <;> omega
  · intro e; unfold szOf at e; (repeat' split at e) <;> omega
  · intro e; unfold szOf at e; (repeat' split at e) <;> omega
  · intro i h1 h2
    have g1 : 128 ≤ goesLo (c.getD 0 0).toNat := by unfold goesLo; (repeat' split) <;> omega
    unfold frontN at hk
    match i, h1, Nat.lt_of_lt_of_le h2 h4 with
    | 1, _, _ => split at hk <;> omega
    | 2, _, _ => split at hk
                 · omega
                 · split at hk <;> omega
    | 3, _, _ => split at hk
                 · omega
                 · split at hk
                   · omega
                   · split at hk <;> omega
    | i + 4, _, h => omega
set_option maxRecDepth 100000 in
set_option maxHeartbeats 4000000 in
/-- gimletref01.value. -/
theorem value_any (v : Value) (c : List UInt8) (w : World) (h : RB w v c) (ho : Okc c) (hl : (dec c).2 = c.length) :
    Calls Tryd.prog 48 #[v] w fun e w' => e = .returned (.int .i64 (dec c).1) ∧ w' = w := by
  obtain ⟨n, hcl, hn1, hn4, hv, v2, v3, v4, vb⟩ := okc_parts ho hl
  rcases h with ⟨_, rfl⟩ | ⟨b, off, cap, rfl, h2, h3, h4⟩
  · simp at hcl; omega
  · obtain ⟨B, hB⟩ : ∃ B : Nat → Nat, ∀ i, (c.getD i 0).toNat = B i := ⟨_, fun _ => rfl⟩
    have hB2 : ∀ i, B i < 256 := fun i => by rw [← hB]; exact UInt8.toNat_lt _
    simp only [hB] at hv v2 v3 v4 vb
    have hcell : ∀ k, k < n → w.cell? ⟨b, off + k, none⟩ = some (.int .u8 (B k)) := fun k hk => by rw [← hB]; exact h4 k (by omega)
    rw [hcl] at h2 ⊢
    rw [hv]
    have c0 : w.cell? ⟨b, off, none⟩ = some (.int .u8 (B 0)) := hcell 0 (by omega)
    have hB0 := hB2 0
    have Hcell := Lib.hid hcell
    clear hB hcell h4 hv ho hl hcl
    by_cases n1 : n = 1
    · subst n1
      rw [if_pos rfl]
      go_enter Tryd.func48, Tryd.ntmps48
      go_wp2_with fail
      go_ret
      exact ⟨rfl, rfl⟩
    · rw [if_neg n1]
      have hs : ∃ s, (if n = 2 then 192 else if n = 3 then 224 else 240) = s ∧ s ≤ B 0 ∧ (n = 2 ∧ s = 192 ∨ n = 3 ∧ s = 224 ∨ n = 4 ∧ s = 240) := by
        refine ⟨_, rfl, ?_, ?_⟩
        · (repeat' split) <;> omega
        · (repeat' split) <;> omega
      obtain ⟨s, hs1, hs2, hs3⟩ := hs
      rw [hs1]
      have hXl := valX_le s B hB2
      have hX1 : ((valX s B 1 : Nat) : Int) = (B 0 : Int) - (s : Int) := by rw [valX_one]; omega
      obtain ⟨X, hX⟩ : ∃ X, valX s B = X := ⟨_, rfl⟩
      have hXs : ∀ i, 1 ≤ i → i < n → ((X (i + 1) : Nat) : Int) = 64 * (X i : Int) + (B i : Int) - 128 := fun i h1 h2 => by
        obtain ⟨j, rfl⟩ : ∃ j, i = j + 1 := ⟨i - 1, by omega⟩
        have := vb (j + 1) h1 h2
        rw [← hX, valX_next]
        omega
      rw [hX] at hXl hX1 ⊢
      have HXs := Lib.hid hXs
      have HX1 := Lib.hid hX1
      have Hvb := Lib.hid vb
      clear hX hXs v2 v3 v4 hs1 hX1 vb
      rcases hs3 with ⟨rfl, rfl⟩ | ⟨rfl, rfl⟩ | ⟨rfl, rfl⟩
      · go_enter Tryd.func48, Tryd.ntmps48
        go_wp2_with fail
        go_loopw [4, 5] (fun r j wr => ∃ i : Nat, 1 ≤ i ∧ i ≤ 2 ∧ j = .int .i64 i ∧ r = .int .i64 (X i) ∧ wr = w) (fun _ j _ => 4 - (intOf j).toNat)
        case atStart => exact ⟨1, by omega, by omega, rfl, by rw [HX1.out]; rfl, rfl⟩
        case round =>
          obtain ⟨i, hi1, hin, rfl, rfl, rfl⟩ := hrel
          by_cases hlt : i < 2
          · have ck := Hcell.out i hlt
            have hx := HXs.out i hi1 hlt
            have hxl := hXl i (by omega)
            have hbl := hB2 i
            have hbg := Hvb.out i hi1 hlt
            have m1 : IntKind.i64.wrap (64 * (X i : Int)) = 64 * (X i : Int) := IntWalk.i64_in _ (by omega)
            have m2 : IntKind.i64.wrap (64 * (X i : Int) + (B i : Int)) = 64 * (X i : Int) + (B i : Int) := IntWalk.i64_in _ (by omega)
            have m3 : IntKind.i64.wrap (64 * (X i : Int) + (B i : Int) - 128) = 64 * (X i : Int) + (B i : Int) - 128 := IntWalk.i64_in _ (by omega)
            have Hx := Lib.hid hx
            clear hx
            go_wp2_with fail
            go_round
            case rel => exact ⟨i + 1, by omega, by omega, by go_num, by rw [Hx.out], by first | rfl | trivial⟩
            case measure => simp [intOf]; omega
          · obtain rfl : i = 2 := by omega
            go_wp2_with fail
            go_ret
            exact ⟨rfl, rfl⟩
      · go_enter Tryd.func48, Tryd.ntmps48
        go_wp2_with fail
        go_loopw [4, 5] (fun r j wr => ∃ i : Nat, 1 ≤ i ∧ i ≤ 3 ∧ j = .int .i64 i ∧ r = .int .i64 (X i) ∧ wr = w) (fun _ j _ => 4 - (intOf j).toNat)
        case atStart => exact ⟨1, by omega, by omega, rfl, by rw [HX1.out]; rfl, rfl⟩
        case round =>
          obtain ⟨i, hi1, hin, rfl, rfl, rfl⟩ := hrel
          by_cases hlt : i < 3
          · have ck := Hcell.out i hlt
            have hx := HXs.out i hi1 hlt
            have hxl := hXl i (by omega)
            have hbl := hB2 i
            have hbg := Hvb.out i hi1 hlt
            have m1 : IntKind.i64.wrap (64 * (X i : Int)) = 64 * (X i : Int) := IntWalk.i64_in _ (by omega)
            have m2 : IntKind.i64.wrap (64 * (X i : Int) + (B i : Int)) = 64 * (X i : Int) + (B i : Int) := IntWalk.i64_in _ (by omega)
            have m3 : IntKind.i64.wrap (64 * (X i : Int) + (B i : Int) - 128) = 64 * (X i : Int) + (B i : Int) - 128 := IntWalk.i64_in _ (by omega)
            have Hx := Lib.hid hx
            clear hx
            go_wp2_with fail
            go_round
            case rel => exact ⟨i + 1, by omega, by omega, by go_num, by rw [Hx.out], by first | rfl | trivial⟩
            case measure => simp [intOf]; omega
          · obtain rfl : i = 3 := by omega
            go_wp2_with fail
            go_ret
            exact ⟨rfl, rfl⟩
      · go_enter Tryd.func48, Tryd.ntmps48
        go_wp2_with fail
        go_loopw [4, 5] (fun r j wr => ∃ i : Nat, 1 ≤ i ∧ i ≤ 4 ∧ j = .int .i64 i ∧ r = .int .i64 (X i) ∧ wr = w) (fun _ j _ => 4 - (intOf j).toNat)
        case atStart => exact ⟨1, by omega, by omega, rfl, by rw [HX1.out]; rfl, rfl⟩
        case round =>
          obtain ⟨i, hi1, hin, rfl, rfl, rfl⟩ := hrel
          by_cases hlt : i < 4
          · have ck := Hcell.out i hlt
            have hx := HXs.out i hi1 hlt
            have hxl := hXl i (by omega)
            have hbl := hB2 i
            have hbg := Hvb.out i hi1 hlt
            have m1 : IntKind.i64.wrap (64 * (X i : Int)) = 64 * (X i : Int) := IntWalk.i64_in _ (by omega)
            have m2 : IntKind.i64.wrap (64 * (X i : Int) + (B i : Int)) = 64 * (X i : Int) + (B i : Int) := IntWalk.i64_in _ (by omega)
            have m3 : IntKind.i64.wrap (64 * (X i : Int) + (B i : Int) - 128) = 64 * (X i : Int) + (B i : Int) - 128 := IntWalk.i64_in _ (by omega)
            have Hx := Lib.hid hx
            clear hx
            go_wp2_with fail
            go_round
            case rel => exact ⟨i + 1, by omega, by omega, by go_num, by rw [Hx.out], by first | rfl | trivial⟩
            case measure => simp [intOf]; omega
          · obtain rfl : i = 4 := by omega
            go_wp2_with fail
            go_ret
            exact ⟨rfl, rfl⟩
end Go.Proofs.YtjmejlncomaclaaDoor.Lx
