/- gimletref10.word, whole. Condition: at most 1000000000 bytes. -/
import Derived.Test.YtjmejlncomaclaaDoorLxD9
import Derived.Test.YtjmejlncomaclaaDoorLxD10
namespace Go.Proofs.YtjmejlncomaclaaDoor.Lx
section
open Go.RowKit

/-- The number of the character of that number. -/
def runeN (q : List UInt8) (k : Nat) : Nat := (dec (q.drop (bnd q k))).1
/-- A list of characters in a block. -/
def CL (w : World) (g : Nat) (q : List UInt8) : Prop := ∀ k, k < (chars q).length → w.cell? ⟨g, k * 3, none⟩ = some (.int .i64 (bnd q k)) ∧ w.cell? ⟨g, k * 3 + 1, none⟩ = some (.int .i64 (runeN q k))
theorem CL.below {w w' : World} {g : Nat} {q : List UInt8} (h : CL w g q) (hb : Below w.heap.size w w') : CL w' g q := fun k hk => ⟨cell_kept hb (h k hk).1, cell_kept hb (h k hk).2⟩
def RefWordAns (q : List UInt8) (i : Nat) (w : World) (e : Ending) (w' : World) : Prop :=
  match word (q.drop (bnd q i)) with
  | (x, n, true) => ∃ m : Nat, e = .returned (.tuple #[wdV x, .int .i64 m, .int .i64 (-1)]) ∧ bnd q (i + m) = bnd q i + n ∧ 1 ≤ m ∧ i + m ≤ (chars q).length ∧ Below w.heap.size w w'
  | (_, n, false) => ∃ (y : Wd) (u2 : Value) (k : Nat), e = .returned (.tuple #[wdV y, u2, .int .i64 k]) ∧ bnd q k = bnd q i + n ∧ k < (chars q).length ∧ Below w.heap.size w w'
theorem run_next (c : Nat) (q : List UInt8) (k : Nat) (h : k < (chars q).length) : run c (q.drop (bnd q k)) = if isC c (runeN q k) then (bnd q (k + 1) - bnd q k) + run c (q.drop (bnd q (k + 1))) else 0 := by
  have h1 := (chars_get q k h).1
  rw [run_cons c _ (drop_ne' h1), List.drop_drop, ← bnd_succ, bnd_succ]
  unfold runeN
  split
  · omega
  · rfl
theorem run_stop (c : Nat) (q : List UInt8) (k : Nat) (hk : k = (chars q).length) : run c (q.drop (bnd q k)) = 0 := by
  subst hk
  rw [chars_end, List.drop_length]; rfl

set_option maxRecDepth 100000 in
set_option maxHeartbeats 8000000 in
/-- gimletref10.word, at a name. -/
theorem refword_name (S : ByteArray) (g c : Nat) (q : List UInt8) (i : Nat) (w : World) (hq : S.data.toList = q) (hs : S.size ≤ 1000000000) (hi : i < (chars q).length) (hcl : CL w g q) (h2 : isC 2 (runeN q i) = true) :
    Calls Tryd.prog 29 #[.string S, .slice (some ⟨g, 0, none⟩) (chars q).length c, .int .i64 i] w (RefWordAns q i w) := by
  have hcs := charsAt_length q _ 0 (Nat.le_refl _)
  have hqs : q.length = S.size := by rw [Lib.size_eq, hq]
  rw [← chars_eq, hqs] at hcs
  have hw : word (q.drop (bnd q i)) = (⟨0, (q.drop (bnd q i)).take (run 3 (q.drop (bnd q i))), 0⟩, run 3 (q.drop (bnd q i)), true) := by
    have h2' : isC 2 (dec (q.drop (bnd q i))).1 = true := h2
    unfold word; rw [if_pos h2']
  have hrl := run_le 3 _ (q.drop (bnd q i)) (Nat.le_refl _)
  rw [List.length_drop, hqs] at hrl
  have hr0 := run_next 3 q i hi
  rw [if_pos (isC23 _ h2)] at hr0
  have hbm := bnd_lt q i
  have hbl := (chars_get q i hi).1
  have hA := fun k hk (o : Obj) => cell_kept ((Below.refl _ w).alloc (Nat.le_refl _) o) (hcl k hk).1
  have hB := fun k hk (o : Obj) => cell_kept ((Below.refl _ w).alloc (Nat.le_refl _) o) (hcl k hk).2
  have hnm := fun W => name_any (runeN q i) W
  rw [h2] at hnm
  have hrest := fun k W => rest_any (runeN q k) W
  have a0 := hA i hi
  have b0 := hB i hi
  have Hw := Lib.hid hw
  have HA := Lib.hid hA
  have HB := Lib.hid hB
  have Hq := Lib.hid hq
  have Hr0 := Lib.hid hr0
  have Hqs := Lib.hid hqs
  have Hbl := Lib.hid hbl
  have hsum : IntKind.i64.wrap ((i : Int) + 1) = (i : Int) + 1 := IntWalk.i64_in _ (by omega)
  obtain ⟨N, hN⟩ : ∃ N, (chars q).length = N := ⟨_, rfl⟩
  have hbd := fun k (hk : k ≤ (chars q).length) => (chars_drop q k hk).1
  rw [hN] at hi hcs
  simp only [hN] at HA HB hbd ⊢
  have HN := Lib.hid hN
  have Hbd := Lib.hid hbd
  obtain ⟨r, hr⟩ : ∃ r, runeN q i = r := ⟨_, rfl⟩
  obtain ⟨at_, hat⟩ : ∃ a, bnd q i = a := ⟨_, rfl⟩
  rw [hr] at b0 hnm
  rw [hat] at a0
  have Hat := Lib.hid hat
  clear hw hA hB hq hr0 hqs hbl hN hbd hr hat hcl h2
  go_enter Tryd.func29, Tryd.ntmps29
  go_wp2_with fail
  refine (hnm _).mono ?_
  rintro e w1 ⟨rfl, rfl⟩
  go_wp2_with fail
  have hslA : ∀ k, at_ ≤ bnd q k → bnd q k ≤ S.size → ∀ wx, (Instr.slice 9 (.string S) (some (.int .i64 at_)) (some (.int .i64 (bnd q k))) none).run Tryd.prog wx = .ok (.string (S.extract at_ (bnd q k))) wx := fun k h1 h2 wx => by
    have := run_slice_string (P := Tryd.prog) wx 9 S .i64 .i64 (at_ : Int) (bnd q k : Int) Tryd.underlying9 (by omega) (by omega) (by omega)
    rw [this, show ((at_ : Int)).toNat = at_ by omega, show ((bnd q k : Nat) : Int).toNat = bnd q k by omega]
  obtain ⟨R, hR⟩ : ∃ R, run 3 (q.drop at_) = R := ⟨_, rfl⟩
  rw [Hat.out] at hbm hrl
  have Hr0' := Hr0.out
  rw [Hat.out, hR] at Hr0'
  have Hw' := Hw.out
  rw [Hat.out, hR] at Hw'
  rw [hR] at hrl
  have Hw := Lib.hid Hw'
  have Hr0 := Lib.hid Hr0'
  clear Hw' Hr0' hR
  go_loopw [11] (fun v wr => ∃ k : Nat, i + 1 ≤ k ∧ k ≤ N ∧ v = .int .i64 k ∧ bnd q k + run 3 (q.drop (bnd q k)) = at_ + R ∧ wr = w.alloc (.cells #[.int .i64 0, .string ⟨#[]⟩, .int .i64 0, .int .i64 0, .int .i64 0, .int .i64 0, .int .i64 0] 37)) (fun v _ => N - (intOf v).toNat)
  case atStart => exact ⟨i + 1, Nat.le_refl _, hi, by go_num, by rw [Hr0.out]; omega, rfl⟩
  case round =>
    obtain ⟨k, hk1, hkN, rfl, hrun, rfl⟩ := hrel
    have hsl := hslA
    have hkb := Hbd.out k hkN
    rw [Hqs.out] at hkb
    have hkm := bnd_mono q (i + 1) k hk1
    have hfin : run 3 (q.drop (bnd q k)) = 0 → bnd q k = at_ + R := fun h => by omega
    have Hrun := Lib.hid hrun
    clear hrun hslA
    by_cases hkl : k < N
    · have ck := HB.out k hkl
      have ek := HA.out k hkl
      have hrst := hrest k
      have hnx := run_next 3 q k (by rw [HN.out]; exact hkl)
      cases h3 : isC 3 (runeN q k) with
      | true =>
        rw [h3, if_pos rfl] at hnx
        rw [h3] at hrst
        have hlt := bnd_lt q k
        have hnew : bnd q (k + 1) + run 3 (q.drop (bnd q (k + 1))) = at_ + R := by have := Hrun.out; omega
        have Hnew := Lib.hid hnew
        clear hnx h3 hnew hfin hsl
        generalize runeN q k = rk at ck hrst
        go_wp2_with (go_at_call 51; refine (hrst _).mono ?_; rintro e w2 ⟨rfl, rfl⟩)
        go_round
        case rel => exact ⟨k + 1, by omega, by omega, by go_num, Hnew.out, by first | rfl | trivial⟩
        case measure => simp [intOf]; omega
      | false =>
        rw [h3, if_neg (by simp)] at hnx
        rw [h3] at hrst
        have hstop := hnx
        clear hnx h3
        generalize runeN q k = rk at ck hrst
        have hE := end_any S (some ⟨g, 0, none⟩) N c k (bnd q k) (w.alloc (.cells #[.int .i64 0, .string ⟨#[]⟩, .int .i64 0, .int .i64 0, .int .i64 0, .int .i64 0, .int .i64 0] 37)) ⟨fun _ => ⟨g, rfl, ek _⟩, fun h => absurd hkl h⟩
        have hslc := hsl k (by omega) (by omega)
        have hsub : IntKind.i64.wrap ((k : Int) - (i : Int)) = (k : Int) - (i : Int) := IntWalk.i64_in _ (by omega)
        have hbE := hfin hstop
        have Hbe := Lib.hid hbE
        clear hfin hstop hsl hbE
        go_wp2_with (go_at_call 51; refine (hrst _).mono ?_; rintro e w2 ⟨rfl, rfl⟩)
        refine hE.mono ?_
        rintro e w2 ⟨rfl, rfl⟩
        go_wp2_with fail
        have hb9 := (Below.refl _ w).alloc (Nat.le_refl _) (.cells #[.int .i64 0, .string (S.extract at_ (bnd q k)), .int .i64 0, .int .i64 0, .int .i64 0, .int .i64 0, .int .i64 0] 37)
        refine bodyPost_ret (v := .tuple #[.agg #[.int .i64 0, .string (S.extract at_ (bnd q k)), .int .i64 0, .int .i64 0, .int .i64 0, .int .i64 0, .int .i64 0], .int .i64 ((k : Int) - (i : Int)), .int .i64 (-1)]) (by simp [results, Tryd.results29, go_sem]) rfl ?_
        unfold RefWordAns
        rw [Hat.out, Hw.out]
        refine ⟨k - i, ?_, ?_, by omega, by rw [HN.out]; omega, hb9⟩
        · rw [show ((k - i : Nat) : Int) = (k : Int) - (i : Int) by omega]
          unfold wdV
          have e1 : S.extract at_ (bnd q k) = ⟨((q.drop at_).take R).toArray⟩ := by
            rw [Hbe.out, ← Lib.mk_data (S.extract at_ (at_ + R)), ext_take, Hq.out]
          rw [e1]
          rfl
        · rw [show i + (k - i) = k by omega, Hbe.out]
    · have hkN' : k = N := by omega
      have hstop := run_stop 3 q k (by rw [HN.out]; exact hkN')
      have hNe : S.size = bnd q k := by rw [← Hqs.out, hkN', ← HN.out, chars_end]
      have hnb : decide ((k : Int) < (N : Int)) = false := by simp; omega
      clear hkN'
      have hE := end_any S (some ⟨g, 0, none⟩) N c k (bnd q k) (w.alloc (.cells #[.int .i64 0, .string ⟨#[]⟩, .int .i64 0, .int .i64 0, .int .i64 0, .int .i64 0, .int .i64 0] 37)) ⟨fun h => absurd h (by omega), fun _ => hNe⟩
      have hslc := hsl k (by omega) (by omega)
      have hsub : IntKind.i64.wrap ((k : Int) - (i : Int)) = (k : Int) - (i : Int) := IntWalk.i64_in _ (by omega)
      have hbE := hfin hstop
      have Hbe := Lib.hid hbE
      clear hfin hstop hsl hbE
      go_wp2_with fail
      refine hE.mono ?_
      rintro e w2 ⟨rfl, rfl⟩
      go_wp2_with fail
      have hb9 := (Below.refl _ w).alloc (Nat.le_refl _) (.cells #[.int .i64 0, .string (S.extract at_ (bnd q k)), .int .i64 0, .int .i64 0, .int .i64 0, .int .i64 0, .int .i64 0] 37)
      refine bodyPost_ret (v := .tuple #[.agg #[.int .i64 0, .string (S.extract at_ (bnd q k)), .int .i64 0, .int .i64 0, .int .i64 0, .int .i64 0, .int .i64 0], .int .i64 ((k : Int) - (i : Int)), .int .i64 (-1)]) (by simp [results, Tryd.results29, go_sem]) rfl ?_
      unfold RefWordAns
      rw [Hat.out, Hw.out]
      refine ⟨k - i, ?_, ?_, by omega, by rw [HN.out]; omega, hb9⟩
      · rw [show ((k - i : Nat) : Int) = (k : Int) - (i : Int) by omega]
        unfold wdV
        have e1 : S.extract at_ (bnd q k) = ⟨((q.drop at_).take R).toArray⟩ := by
          rw [Hbe.out, ← Lib.mk_data (S.extract at_ (at_ + R)), ext_take, Hq.out]
        rw [e1]
        rfl
      · rw [show i + (k - i) = k by omega, Hbe.out]
end

section
open Go.RowKit

theorem neg_of {b : Bool} (h : b = false) : ¬ b = true := by rw [h]; simp
/-- A character below 128 is one byte. -/
theorem low_char (q : List UInt8) (k : Nat) (hk : k < (chars q).length) (h : runeN q k < 128) : bnd q (k + 1) = bnd q k + 1 ∧ (q.getD (bnd q k) 0).toNat = runeN q k := by
  have hl := (chars_get q k hk).1
  obtain ⟨b, t, h1, h2, h3⟩ := dec_low (q.drop (bnd q k)) (drop_ne' hl) h
  refine ⟨by rw [bnd_succ, h3], ?_⟩
  have : q.getD (bnd q k) 0 = b := by
    have := congrArg (·.getD 0 0) h1
    simp only [List.getD_cons_zero] at this
    rw [← this, getD_drop, Nat.add_zero]
  rw [this]
  exact h2
theorem number_next (l : List UInt8) (p : Nat) (h : p < l.length) : number (l.take (p + 1)) = min (10 * number (l.take p) + ((l.getD p 0).toNat - 48)) 1000001 := by
  rw [number_snoc l p h]
  simp [List.getD_eq_getElem?_getD, List.getElem?_eq_getElem h]
set_option maxRecDepth 100000 in
set_option maxHeartbeats 8000000 in
/-- gimletref10.word, at digits. -/
theorem refword_num (S : ByteArray) (g c : Nat) (q : List UInt8) (i : Nat) (w : World) (hq : S.data.toList = q) (hs : S.size ≤ 1000000000) (hi : i < (chars q).length) (hcl : CL w g q) (h2 : isC 2 (runeN q i) = false) (h4 : isC 4 (runeN q i) = true) :
    Calls Tryd.prog 29 #[.string S, .slice (some ⟨g, 0, none⟩) (chars q).length c, .int .i64 i] w (RefWordAns q i w) := by
  have hd48 := (isC4 _).1 h4
  obtain ⟨hone, hbyte⟩ := low_char q i hi (by omega)
  have hd2 : isC 2 (dec (q.drop (bnd q i))).1 = false := h2
  have hd4 : isC 4 (dec (q.drop (bnd q i))).1 = true := h4
  have hcs := charsAt_length q _ 0 (Nat.le_refl _)
  have hqs : q.length = S.size := by rw [Lib.size_eq, hq]
  rw [← chars_eq, hqs] at hcs
  have hbm := bnd_lt q i
  have hbl := (chars_get q i hi).1
  have hA := fun k hk (o : Obj) => cell_kept ((Below.refl _ w).alloc (Nat.le_refl _) o) (hcl k hk).1
  have hB := fun k hk (o : Obj) => cell_kept ((Below.refl _ w).alloc (Nat.le_refl _) o) (hcl k hk).2
  have hnm := fun W => name_any (runeN q i) W
  rw [h2] at hnm
  have a0 := hA i hi
  have b0 := hB i hi
  have HA := Lib.hid hA
  have HB := Lib.hid hB
  have Hq := Lib.hid hq
  have Hqs := Lib.hid hqs
  have hsum : IntKind.i64.wrap ((i : Int) + 1) = (i : Int) + 1 := IntWalk.i64_in _ (by omega)
  obtain ⟨N, hN⟩ : ∃ N, (chars q).length = N := ⟨_, rfl⟩
  have hbd := fun k (hk : k ≤ (chars q).length) => (chars_drop q k hk).1
  have hlow := fun k hk h => low_char q k hk h
  have hr0 := run_next 4 q i hi
  rw [if_pos h4] at hr0
  have hrl := run_le 4 _ (q.drop (bnd q i)) (Nat.le_refl _)
  rw [List.length_drop, hqs] at hrl
  have hnx1 := number_next (q.drop (bnd q i)) 0 (by rw [List.length_drop]; omega)
  simp only [getD_drop, Nat.add_zero, Nat.zero_add, List.take_zero, hbyte] at hnx1
  rw [hN] at hi hcs
  simp only [hN] at HA HB hbd ⊢
  have HN := Lib.hid hN
  have Hbd := Lib.hid hbd
  obtain ⟨r, hr⟩ : ∃ r, runeN q i = r := ⟨_, rfl⟩
  obtain ⟨at_, hat⟩ : ∃ a, bnd q i = a := ⟨_, rfl⟩
  rw [hr] at b0 hnm hd48 hnx1
  rw [hat] at a0 hone hd2 hd4 hr0 hrl hnx1 hbl hbm
  obtain ⟨R, hR⟩ : ∃ R, run 4 (q.drop at_) = R := ⟨_, rfl⟩
  rw [hR] at hr0 hrl
  have hn1 : number ((q.drop at_).take 1) = r - 48 := by rw [hnx1]; unfold number; simp only [List.foldl_nil]; omega
  have Hat := Lib.hid hat
  have Hr0 := Lib.hid hr0
  have Hd2 := Lib.hid hd2
  have Hd4 := Lib.hid hd4
  have HR := Lib.hid hR
  have Hn1 := Lib.hid hn1
  have Hlow := Lib.hid hlow
  have Hone := Lib.hid hone
  have g1 : decide ((48 : Int) ≤ (r : Int)) = true := by simp; omega
  have g2 : decide ((r : Int) ≤ 57) = true := by simp; omega
  clear hq hqs hN hbd hr hat hcl h2 h4 hA hB hd2 hd4 hr0 hR hn1 hnx1 hlow hone hbyte
  go_enter Tryd.func29, Tryd.ntmps29
  go_wp2_with fail
  refine (hnm _).mono ?_
  rintro e w1 ⟨rfl, rfl⟩
  go_wp2_with fail
  go_loopw [11, 12] (fun v nv wr => ∃ k : Nat, i + 1 ≤ k ∧ k ≤ N ∧ v = .int .i64 k ∧ nv = .int .i64 (number ((q.drop at_).take (bnd q k - at_))) ∧ bnd q k + run 4 (q.drop (bnd q k)) = at_ + R ∧ wr = w.alloc (.cells #[.int .i64 0, .string ⟨#[]⟩, .int .i64 0, .int .i64 0, .int .i64 0, .int .i64 0, .int .i64 0] 37)) (fun v _ _ => N - (intOf v).toNat)
  case atStart => exact ⟨i + 1, Nat.le_refl _, hi, by go_num, by rw [Hone.out, Nat.add_sub_cancel_left, Hn1.out]; go_num, by rw [Hr0.out, Hone.out]; omega, rfl⟩
  case round =>
    obtain ⟨k, hk1, hkN, rfl, rfl, hrun, rfl⟩ := hrel
    have hkb := Hbd.out k hkN
    rw [Hqs.out] at hkb
    have hkm := bnd_mono q (i + 1) k hk1
    have hvl := number_le ((q.drop at_).take (bnd q k - at_))
    have hfin : run 4 (q.drop (bnd q k)) = 0 → bnd q k = at_ + R := fun h => by omega
    by_cases hkl : k < N
    · have ck := HB.out k hkl
      have hnx := run_next 4 q k (by rw [HN.out]; exact hkl)
      cases h4 : isC 4 (runeN q k) with
      | true =>
        rw [h4, if_pos rfl] at hnx
        have h48 := (isC4 _).1 h4
        obtain ⟨k1, k2⟩ := Hlow.out k (by rw [HN.out]; exact hkl) (by omega)
        have hnew : bnd q (k + 1) + run 4 (q.drop (bnd q (k + 1))) = at_ + R := by omega
        have hkl2 := Hbd.out (k + 1) hkl
        rw [Hqs.out] at hkl2
        have hnn := number_next (q.drop at_) (bnd q k - at_) (by rw [List.length_drop, Hqs.out]; omega)
        rw [getD_drop, show at_ + (bnd q k - at_) = bnd q k by omega, k2] at hnn
        have e1 : bnd q (k + 1) - at_ = bnd q k - at_ + 1 := by omega
        rw [← e1] at hnn
        obtain ⟨rk, hrk⟩ : ∃ rk, runeN q k = rk := ⟨_, rfl⟩
        rw [hrk] at hnn ck h48
        have Hnew := Lib.hid hnew
        obtain ⟨V, hV⟩ : ∃ V, number ((q.drop at_).take (bnd q k - at_)) = V := ⟨_, rfl⟩
        rw [hV] at hnn hvl ⊢
        have Hnn := Lib.hid hnn
        have g3 : decide ((48 : Int) ≤ (rk : Int)) = true := by simp; omega
        have g4 : decide ((rk : Int) ≤ 57) = true := by simp; omega
        have m1 : IntKind.i64.wrap (10 * (V : Int)) = 10 * (V : Int) := IntWalk.i64_in _ (by omega)
        have m2 : IntKind.i64.wrap (10 * (V : Int) + (rk : Int)) = 10 * (V : Int) + (rk : Int) := IntWalk.i64_in _ (by omega)
        have m3 : IntKind.i64.wrap (10 * (V : Int) + (rk : Int) - 48) = 10 * (V : Int) + (rk : Int) - 48 := IntWalk.i64_in _ (by omega)
        clear hnx h4 hnew hfin hrun hnn e1 k1 k2 hrk hV
        go_wp2_with fail
        go_round
        case rel => exact ⟨k + 1, by omega, by omega, by go_num, by rw [Hnn.out, show ((min (10 * V + (rk - 48)) 1000001 : Nat) : Int) = min (10 * (V : Int) + (rk : Int) - 48) 1000001 by omega], Hnew.out, by first | rfl | trivial⟩
        case measure => simp [intOf]; omega
      | false =>
        rw [h4, if_neg (by simp)] at hnx
        have hstop := hnx
        have hbE := hfin hstop
        obtain ⟨V, hV0⟩ : ∃ V, number ((q.drop at_).take (bnd q k - at_)) = V := ⟨_, rfl⟩
        rw [hV0] at hvl ⊢
        rw [hbE, Nat.add_sub_cancel_left] at hV0
        have HV := Lib.hid hV0
        have Hbe := Lib.hid hbE
        have hsub : IntKind.i64.wrap ((k : Int) - (i : Int)) = (k : Int) - (i : Int) := IntWalk.i64_in _ (by omega)
        have hd2k : (dec ((q.drop at_).drop R)).1 = runeN q k := by rw [List.drop_drop, ← hbE]; rfl
        have hdne : (q.drop at_).drop R ≠ [] := by rw [List.drop_drop, ← hbE]; exact drop_ne' (chars_get q k (by rw [HN.out]; exact hkl)).1
        have Hdne := Lib.hid hdne
        have hnmk := fun W => name_any (runeN q k) W
        have hr57 : (decide ((48 : Int) ≤ (runeN q k : Int)) = false) ∨ (decide ((48 : Int) ≤ (runeN q k : Int)) = true ∧ decide ((runeN q k : Int) ≤ 57) = false) := by
          have : ¬ (48 ≤ runeN q k ∧ runeN q k ≤ 57) := fun h => by rw [(isC4 _).2 h] at h4; cases h4
          by_cases h : 48 ≤ runeN q k
          · exact .inr ⟨by simp; omega, by simp; omega⟩
          · exact .inl (by simp; omega)
        obtain ⟨rk, hrk⟩ : ∃ rk, runeN q k = rk := ⟨_, rfl⟩
        rw [hrk] at ck hr57 hd2k
        simp only [hrk] at hnmk
        have Hd2e := Lib.hid hd2k
        clear hnx h4 hfin hrun hstop hbE hV0 hdne hd2k hrk
        by_cases hbig : 1000000 < V
        · have hbb : decide ((1000000 : Int) < (V : Int)) = true := by simp; omega
          rcases hr57 with h7 | ⟨h7, h8⟩
          all_goals
            go_wp2_with fail
            have hb9 := (Below.refl _ w).alloc (Nat.le_refl _) (.cells #[.int .i64 0, .string ⟨#[]⟩, .int .i64 0, .int .i64 0, .int .i64 0, .int .i64 0, .int .i64 0] 37)
            refine bodyPost_ret (v := .tuple #[.agg #[.int .i64 0, .string ⟨#[]⟩, .int .i64 0, .int .i64 0, .int .i64 0, .int .i64 0, .int .i64 0], .int .i64 0, .int .i64 (i : Int)]) (by simp [results, Tryd.results29, go_sem]) rfl ?_
            have hw : word (q.drop at_) = (⟨2, [], V⟩, 0, false) := by
              unfold word
              rw [if_neg (neg_of Hd2.out), if_pos Hd4.out, HR.out, HV.out]
              rw [if_pos hbig]
            unfold RefWordAns
            rw [Hat.out, hw]
            exact ⟨⟨0, [], 0⟩, _, i, rfl, by rw [Hat.out]; rfl, by rw [HN.out]; exact hi, hb9⟩
        · have hbb : decide ((1000000 : Int) < (V : Int)) = false := by simp; omega
          cases hc2 : isC 2 rk with
          | true =>
            have hd2k : isC 2 (dec ((q.drop at_).drop R)).1 = true := by rw [Hd2e.out]; exact hc2
            have Hd2k := Lib.hid hd2k
            rw [hc2] at hnmk
            clear hc2 hd2k
            rcases hr57 with h7 | ⟨h7, h8⟩
            all_goals
              go_wp2_with (go_at_call 50; refine (hnmk _).mono ?_; rintro e w2 ⟨rfl, rfl⟩)
              have hb9 := (Below.refl _ w).alloc (Nat.le_refl _) (.cells #[.int .i64 2, .string ⟨#[]⟩, .int .i64 V, .int .i64 0, .int .i64 0, .int .i64 0, .int .i64 0] 37)
              refine bodyPost_ret (v := .tuple #[.agg #[.int .i64 2, .string ⟨#[]⟩, .int .i64 V, .int .i64 0, .int .i64 0, .int .i64 0, .int .i64 0], .int .i64 ((k : Int) - (i : Int)), .int .i64 (k : Int)]) (by simp [results, Tryd.results29, go_sem]) rfl ?_
              have hw : word (q.drop at_) = (⟨2, [], V⟩, R, false) := by
                unfold word
                rw [if_neg (neg_of Hd2.out), if_pos Hd4.out, HR.out, HV.out]
                rw [if_neg hbig, if_pos ⟨Hdne.out, Hd2k.out⟩]
              unfold RefWordAns
              rw [Hat.out, hw]
              exact ⟨⟨2, [], V⟩, _, k, rfl, Hbe.out, by rw [HN.out]; exact hkl, hb9⟩
          | false =>
            have hd2k : isC 2 (dec ((q.drop at_).drop R)).1 = false := by rw [Hd2e.out]; exact hc2
            have Hd2k := Lib.hid hd2k
            rw [hc2] at hnmk
            clear hc2 hd2k
            rcases hr57 with h7 | ⟨h7, h8⟩
            all_goals
              go_wp2_with (go_at_call 50; refine (hnmk _).mono ?_; rintro e w2 ⟨rfl, rfl⟩)
              have hb9 := (Below.refl _ w).alloc (Nat.le_refl _) (.cells #[.int .i64 2, .string ⟨#[]⟩, .int .i64 V, .int .i64 0, .int .i64 0, .int .i64 0, .int .i64 0] 37)
              refine bodyPost_ret (v := .tuple #[.agg #[.int .i64 2, .string ⟨#[]⟩, .int .i64 V, .int .i64 0, .int .i64 0, .int .i64 0, .int .i64 0], .int .i64 ((k : Int) - (i : Int)), .int .i64 (-1)]) (by simp [results, Tryd.results29, go_sem]) rfl ?_
              have hw : word (q.drop at_) = (⟨2, [], V⟩, R, true) := by
                unfold word
                rw [if_neg (neg_of Hd2.out), if_pos Hd4.out, HR.out, HV.out]
                rw [if_neg hbig, if_neg (fun h => neg_of Hd2k.out h.2)]
              unfold RefWordAns
              rw [Hat.out, hw]
              refine ⟨k - i, ?_, ?_, by omega, by rw [HN.out]; omega, hb9⟩
              · rw [show ((k - i : Nat) : Int) = (k : Int) - (i : Int) by omega]
                rfl
              · rw [show i + (k - i) = k by omega, Hbe.out]
    · have hkN' : k = N := by omega
      have hstop := run_stop 4 q k (by rw [HN.out]; exact hkN')
      have hbE := hfin hstop
      obtain ⟨V, hV0⟩ : ∃ V, number ((q.drop at_).take (bnd q k - at_)) = V := ⟨_, rfl⟩
      rw [hV0] at hvl ⊢
      rw [hbE, Nat.add_sub_cancel_left] at hV0
      have HV := Lib.hid hV0
      have Hbe := Lib.hid hbE
      have hsub : IntKind.i64.wrap ((k : Int) - (i : Int)) = (k : Int) - (i : Int) := IntWalk.i64_in _ (by omega)
      have hdnil : (q.drop at_).drop R = [] := by rw [List.drop_drop, ← hbE, hkN', ← HN.out, chars_end, List.drop_length]
      have Hdnil := Lib.hid hdnil
      have hnb : decide ((k : Int) < (N : Int)) = false := by simp; omega
      clear hfin hrun hstop hbE hV0 hdnil hkN'
      by_cases hbig : 1000000 < V
      · have hbb : decide ((1000000 : Int) < (V : Int)) = true := by simp; omega
        go_wp2_with fail
        have hb9 := (Below.refl _ w).alloc (Nat.le_refl _) (.cells #[.int .i64 0, .string ⟨#[]⟩, .int .i64 0, .int .i64 0, .int .i64 0, .int .i64 0, .int .i64 0] 37)
        refine bodyPost_ret (v := .tuple #[.agg #[.int .i64 0, .string ⟨#[]⟩, .int .i64 0, .int .i64 0, .int .i64 0, .int .i64 0, .int .i64 0], .int .i64 0, .int .i64 (i : Int)]) (by simp [results, Tryd.results29, go_sem]) rfl ?_
        have hw : word (q.drop at_) = (⟨2, [], V⟩, 0, false) := by
          unfold word
          rw [if_neg (neg_of Hd2.out), if_pos Hd4.out, HR.out, HV.out]
          rw [if_pos hbig]
        unfold RefWordAns
        rw [Hat.out, hw]
        exact ⟨⟨0, [], 0⟩, _, i, rfl, by rw [Hat.out]; rfl, by rw [HN.out]; exact hi, hb9⟩
      · have hbb : decide ((1000000 : Int) < (V : Int)) = false := by simp; omega
        go_wp2_with fail
        have hb9 := (Below.refl _ w).alloc (Nat.le_refl _) (.cells #[.int .i64 2, .string ⟨#[]⟩, .int .i64 V, .int .i64 0, .int .i64 0, .int .i64 0, .int .i64 0] 37)
        refine bodyPost_ret (v := .tuple #[.agg #[.int .i64 2, .string ⟨#[]⟩, .int .i64 V, .int .i64 0, .int .i64 0, .int .i64 0, .int .i64 0], .int .i64 ((k : Int) - (i : Int)), .int .i64 (-1)]) (by simp [results, Tryd.results29, go_sem]) rfl ?_
        have hw : word (q.drop at_) = (⟨2, [], V⟩, R, true) := by
          unfold word
          rw [if_neg (neg_of Hd2.out), if_pos Hd4.out, HR.out, HV.out]
          rw [if_neg hbig, if_neg (fun h => h.1 Hdnil.out)]
        unfold RefWordAns
        rw [Hat.out, hw]
        refine ⟨k - i, ?_, ?_, by omega, by rw [HN.out]; omega, hb9⟩
        · rw [show ((k - i : Nat) : Int) = (k : Int) - (i : Int) by omega]
          rfl
        · rw [show i + (k - i) = k by omega, Hbe.out]
end

section
open Go.RowKit

theorem runeAt_next (r : Nat) (q : List UInt8) (k : Nat) (h : k < (chars q).length) : runeAt r (q.drop (bnd q k)) = if runeN q k = r then some 0 else (runeAt r (q.drop (bnd q (k + 1)))).map (· + (bnd q (k + 1) - bnd q k)) := by
  have h1 := (chars_get q k h).1
  rw [runeAt_cons r _ (drop_ne' h1), List.drop_drop, ← bnd_succ, bnd_succ, Nat.add_sub_cancel_left]
  rfl
theorem runeAt_stop (r : Nat) (q : List UInt8) (k : Nat) (hk : k = (chars q).length) : runeAt r (q.drop (bnd q k)) = none := by
  subst hk
  rw [chars_end, List.drop_length]; rfl
theorem signs_ascii : ∀ s ∈ signs, ∀ b ∈ s, b.toNat < 128 := by decide
theorem sign_mem' (l : List UInt8) (h : sign l ≠ []) : sign l ∈ signs := by
  unfold sign at h ⊢
  cases hf : signs.find? fun x => Lib.hasPrefix l x with
  | none => rw [hf] at h; exact absurd rfl h
  | some x => exact List.mem_of_find?_eq_some hf
theorem sign_bnd (q : List UInt8) (i : Nat) (hi : i < (chars q).length) (x : List UInt8) (hx : sign (q.drop (bnd q i)) = x) (hne : x ≠ []) : bnd q (i + x.length) = bnd q i + x.length ∧ i + x.length ≤ (chars q).length ∧ 1 ≤ x.length := by
  have hm := sign_mem' (q.drop (bnd q i)) (by rw [hx]; exact hne)
  rw [hx] at hm
  have hs := signs_short x hm
  have ha := signs_ascii x hm
  have ht := sign_take (q.drop (bnd q i))
  rw [hx] at ht
  have hbl := (chars_get q i hi).1
  have hlen : x.length ≤ q.length - bnd q i := by
    have := congrArg List.length ht
    rw [List.length_take, List.length_drop] at this; omega
  have hb : ∀ j, j < x.length → (q.getD (bnd q i + j) 0).toNat < 128 := fun j hj => by
    have : q.getD (bnd q i + j) 0 = x.getD j 0 := by
      rw [← getD_drop, ht, getD_take _ _ _ hj]
    rw [this]
    have hj2 : x.getD j 0 = x[j] := by simp [List.getD_eq_getElem?_getD, List.getElem?_eq_getElem hj]
    rw [hj2]
    exact ha _ (List.getElem_mem hj)
  have one : ∀ k, bnd q k < q.length → (q.getD (bnd q k) 0).toNat < 128 → bnd q (k + 1) = bnd q k + 1 := fun k h1 h2 => by
    rw [bnd_succ]
    cases hd : q.drop (bnd q k) with
    | nil => exact absurd hd (drop_ne' h1)
    | cons b t =>
      have : b = q.getD (bnd q k) 0 := by
        have := congrArg (·.getD 0 0) hd
        simp only [List.getD_cons_zero] at this
        rw [← this, getD_drop, Nat.add_zero]
      rw [dec_ascii b t (by rw [this]; exact h2)]
  have h1 := one i hbl (by have := hb 0 (by omega); rwa [Nat.add_zero] at this)
  by_cases h2 : x.length = 1
  · rw [h2]; exact ⟨h1, by omega, Nat.le_refl _⟩
  · have h3 : x.length = 2 := by omega
    have h4 : bnd q (i + 1) < q.length := by omega
    have h5 := one (i + 1) h4 (by rw [h1]; exact hb 1 (by omega))
    have h6 := (chars_lt q (i + 1) (by omega)).1 h4
    rw [h3]
    exact ⟨by rw [show i + 2 = i + 1 + 1 from rfl, h5, h1], by omega, by omega⟩
set_option maxRecDepth 100000 in
set_option maxHeartbeats 8000000 in
/-- gimletref10.word, at a quote. -/
theorem refword_quote (S : ByteArray) (g c : Nat) (q : List UInt8) (i : Nat) (w : World) (hq : S.data.toList = q) (hs : S.size ≤ 1000000000) (hi : i < (chars q).length) (hcl : CL w g q) (h2 : isC 2 (runeN q i) = false) (h4 : isC 4 (runeN q i) = false) (hqt : runeN q i = 34 ∨ runeN q i = 39) :
    Calls Tryd.prog 29 #[.string S, .slice (some ⟨g, 0, none⟩) (chars q).length c, .int .i64 i] w (RefWordAns q i w) := by
  obtain ⟨hone, _⟩ := low_char q i hi (by omega)
  have hd2 : isC 2 (dec (q.drop (bnd q i))).1 = false := h2
  have hd4 : isC 4 (dec (q.drop (bnd q i))).1 = false := h4
  have hdq : (dec (q.drop (bnd q i))).1 = 34 ∨ (dec (q.drop (bnd q i))).1 = 39 := hqt
  have hdr : (dec (q.drop (bnd q i))).1 = runeN q i := rfl
  have hcs := charsAt_length q _ 0 (Nat.le_refl _)
  have hqs : q.length = S.size := by rw [Lib.size_eq, hq]
  rw [← chars_eq, hqs] at hcs
  have hbm := bnd_lt q i
  have hbl := (chars_get q i hi).1
  have hA := fun k hk (o : Obj) => cell_kept ((Below.refl _ w).alloc (Nat.le_refl _) o) (hcl k hk).1
  have hB := fun k hk (o : Obj) => cell_kept ((Below.refl _ w).alloc (Nat.le_refl _) o) (hcl k hk).2
  have hnm := fun W => name_any (runeN q i) W
  rw [h2] at hnm
  have a0 := hA i hi
  have b0 := hB i hi
  have HA := Lib.hid hA
  have HB := Lib.hid hB
  have Hq := Lib.hid hq
  have Hqs := Lib.hid hqs
  have hsum : IntKind.i64.wrap ((i : Int) + 1) = (i : Int) + 1 := IntWalk.i64_in _ (by omega)
  obtain ⟨N, hN⟩ : ∃ N, (chars q).length = N := ⟨_, rfl⟩
  have hbd := fun k (hk : k ≤ (chars q).length) => (chars_drop q k hk).1
  have hlow := fun k hk h => low_char q k hk h
  rw [hN] at hi hcs
  simp only [hN] at HA HB hbd ⊢
  have HN := Lib.hid hN
  have Hbd := Lib.hid hbd
  obtain ⟨r, hr⟩ : ∃ r, runeN q i = r := ⟨_, rfl⟩
  obtain ⟨at_, hat⟩ : ∃ a, bnd q i = a := ⟨_, rfl⟩
  rw [hr] at b0 hnm hqt hdr
  rw [hat] at a0 hone hd2 hd4 hdq hdr hbl hbm
  have hwN : runeAt r ((q.drop at_).drop 1) = none → word (q.drop at_) = (⟨0, [], 0⟩, 0, false) := fun h => by
    unfold word
    rw [if_neg (neg_of hd2), if_neg (neg_of hd4), if_pos hdq, hdr, h]
  have hwS : ∀ e, runeAt r ((q.drop at_).drop 1) = some e → word (q.drop at_) = (⟨1, ((q.drop at_).drop 1).take e, 0⟩, e + 2, true) := fun e h => by
    unfold word
    rw [if_neg (neg_of hd2), if_neg (neg_of hd4), if_pos hdq, hdr, h]
  have HwN := Lib.hid hwN
  have HwS := Lib.hid hwS
  have Hat := Lib.hid hat
  have Hlow := Lib.hid hlow
  have Hone := Lib.hid hone
  have Hr := Lib.hid hr
  have g1 : decide ((48 : Int) ≤ (r : Int)) = false := by simp; omega
  have g2 : ((r : Int) == 34) = true ∨ ((r : Int) == 34) = false ∧ ((r : Int) == 39) = true := by
    rcases hqt with h | h
    · exact .inl (by simp; omega)
    · exact .inr ⟨by simp; omega, by simp; omega⟩
  have hr128 : r < 128 := by omega
  clear hq hqs hN hbd hat hcl h2 h4 hA hB hd2 hd4 hlow hone hwN hwS hdq hdr hqt hr
  rcases g2 with g2 | ⟨g2, g3⟩
  all_goals
    go_enter Tryd.func29, Tryd.ntmps29
    go_wp2_with fail
    refine (hnm _).mono ?_
    rintro e w1 ⟨rfl, rfl⟩
    go_wp2_with fail
    go_loopw [11] (fun v wr => ∃ k : Nat, i + 1 ≤ k ∧ k ≤ N ∧ v = .int .i64 k ∧ runeAt r ((q.drop at_).drop 1) = (runeAt r (q.drop (bnd q k))).map (· + (bnd q k - at_ - 1)) ∧ wr = w.alloc (.cells #[.int .i64 0, .string ⟨#[]⟩, .int .i64 0, .int .i64 0, .int .i64 0, .int .i64 0, .int .i64 0] 37)) (fun v _ => N - (intOf v).toNat)
    case atStart =>
      refine ⟨i + 1, Nat.le_refl _, hi, by go_num, ?_, rfl⟩
      rw [Hone.out, List.drop_drop, show at_ + 1 - at_ - 1 = 0 by omega]
      cases runeAt r (q.drop (at_ + 1)) <;> rfl
    case round =>
      obtain ⟨k, hk1, hkN, rfl, hrun, rfl⟩ := hrel
      have hkb := Hbd.out k hkN
      rw [Hqs.out] at hkb
      have hkm := bnd_mono q (i + 1) k hk1
      have hbe : at_ + 1 ≤ bnd q k := by have := Hone.out; omega
      have Hrun := Lib.hid hrun
      clear hrun
      by_cases hkl : k < N
      · have ck := HB.out k hkl
        have ek := HA.out k hkl
        have hnx := runeAt_next r q k (by rw [HN.out]; exact hkl)
        have hlt := bnd_lt q k
        by_cases hrk : runeN q k = r
        · have k1 := (Hlow.out k (by rw [HN.out]; exact hkl) (by omega)).1
          rw [if_pos hrk] at hnx
          have hfin : runeAt r ((q.drop at_).drop 1) = some (bnd q k - at_ - 1) := by rw [Hrun.out, hnx]; simp
          have hW := HwS.out _ hfin
          rw [hrk] at ck
          obtain ⟨E, hE⟩ : ∃ E, bnd q k = E := ⟨_, rfl⟩
          rw [hE] at ek hkb hbe hW k1
          have hslc : ∀ wx, (Instr.slice 9 (.string S) (some (.int .i64 ((at_ : Int) + 1))) (some (.int .i64 E)) none).run Tryd.prog wx = .ok (.string (S.extract (at_ + 1) E)) wx := fun wx => by
            have := run_slice_string (P := Tryd.prog) wx 9 S .i64 .i64 ((at_ : Int) + 1) (E : Int) Tryd.underlying9 (by omega) (by omega) (by omega)
            rw [this, show ((at_ : Int) + 1).toNat = at_ + 1 by omega, show ((E : Nat) : Int).toNat = E by omega]
          have hs1 : IntKind.i64.wrap ((at_ : Int) + 1) = (at_ : Int) + 1 := IntWalk.i64_in _ (by omega)
          have hs2 : IntKind.i64.wrap ((k : Int) + 1) = (k : Int) + 1 := IntWalk.i64_in _ (by omega)
          have hs3 : IntKind.i64.wrap ((k : Int) + 1 - (i : Int)) = (k : Int) + 1 - (i : Int) := IntWalk.i64_in _ (by omega)
          have hkne : ((k : Int) == (N : Int)) = false := by simp; omega
          have HW := Lib.hid hW
          have K1 := Lib.hid k1
          clear hnx hfin hW hrk hlt k1 hE hkm
          go_wp2_with fail
          have hb9 := (Below.refl _ w).alloc (Nat.le_refl _) (.cells #[.int .i64 1, .string (S.extract (at_ + 1) E), .int .i64 0, .int .i64 0, .int .i64 0, .int .i64 0, .int .i64 0] 37)
          refine bodyPost_ret (v := .tuple #[.agg #[.int .i64 1, .string (S.extract (at_ + 1) E), .int .i64 0, .int .i64 0, .int .i64 0, .int .i64 0, .int .i64 0], .int .i64 ((k : Int) + 1 - (i : Int)), .int .i64 (-1)]) (by simp [results, Tryd.results29, go_sem]) rfl ?_
          unfold RefWordAns
          rw [Hat.out, HW.out]
          refine ⟨k + 1 - i, ?_, ?_, by omega, by rw [HN.out]; omega, hb9⟩
          · rw [show ((k + 1 - i : Nat) : Int) = (k : Int) + 1 - (i : Int) by omega]
            unfold wdV
            have e1 : S.extract (at_ + 1) E = ⟨(((q.drop at_).drop 1).take (E - at_ - 1)).toArray⟩ := by
              have e2 : E = at_ + 1 + (E - at_ - 1) := by omega
              rw [← Lib.mk_data (S.extract (at_ + 1) E)]
              conv => lhs; rw [e2]
              rw [ext_take, Hq.out, List.drop_drop]
            rw [e1]
            rfl
          · rw [show i + (k + 1 - i) = k + 1 by omega, K1.out]; omega
        · rw [if_neg hrk] at hnx
          have hnew : runeAt r ((q.drop at_).drop 1) = (runeAt r (q.drop (bnd q (k + 1)))).map (· + (bnd q (k + 1) - at_ - 1)) := by
            rw [Hrun.out, hnx]
            cases runeAt r (q.drop (bnd q (k + 1))) with
            | none => rfl
            | some e => simp only [Option.map_some, Option.some.injEq]; omega
          have Hnew := Lib.hid hnew
          have hrb : ((runeN q k : Int) == (r : Int)) = false := by simp; omega
          clear hnx hnew
          obtain ⟨rk, hrk2⟩ : ∃ rk, runeN q k = rk := ⟨_, rfl⟩
          rw [hrk2] at ck hrb
          clear hrk hrk2
          go_wp2_with fail
          go_round
          case rel => exact ⟨k + 1, by omega, by omega, by go_num, Hnew.out, by first | rfl | trivial⟩
          case measure => simp [intOf]; omega
      · have hkN' : k = N := by omega
        have hfin : runeAt r ((q.drop at_).drop 1) = none := by rw [Hrun.out, runeAt_stop r q k (by rw [HN.out]; exact hkN')]; rfl
        have hW := HwN.out hfin
        have HW := Lib.hid hW
        have hnb : decide ((k : Int) < (N : Int)) = false := by simp; omega
        have hkne : ((k : Int) == (N : Int)) = true := by simp; omega
        clear hfin hW hkN'
        go_wp2_with fail
        have hb9 := (Below.refl _ w).alloc (Nat.le_refl _) (.cells #[.int .i64 0, .string ⟨#[]⟩, .int .i64 0, .int .i64 0, .int .i64 0, .int .i64 0, .int .i64 0] 37)
        refine bodyPost_ret (v := .tuple #[.agg #[.int .i64 0, .string ⟨#[]⟩, .int .i64 0, .int .i64 0, .int .i64 0, .int .i64 0, .int .i64 0], .int .i64 0, .int .i64 (i : Int)]) (by simp [results, Tryd.results29, go_sem]) rfl ?_
        unfold RefWordAns
        rw [Hat.out, HW.out]
        exact ⟨⟨0, [], 0⟩, _, i, rfl, by rw [Hat.out]; rfl, by rw [HN.out]; exact hi, hb9⟩
end

section
open Go.RowKit

set_option maxRecDepth 100000 in
set_option maxHeartbeats 8000000 in
/-- gimletref10.word, at a sign, or where nothing begins a word. -/
theorem refword_sign (S : ByteArray) (g c : Nat) (q : List UInt8) (i : Nat) (w : World) (hq : S.data.toList = q) (hs : S.size ≤ 1000000000) (hi : i < (chars q).length) (hcl : CL w g q) (h2 : isC 2 (runeN q i) = false) (h4 : isC 4 (runeN q i) = false) (hqt : ¬ (runeN q i = 34 ∨ runeN q i = 39)) :
    Calls Tryd.prog 29 #[.string S, .slice (some ⟨g, 0, none⟩) (chars q).length c, .int .i64 i] w (RefWordAns q i w) := by
  have hcs := charsAt_length q _ 0 (Nat.le_refl _)
  have hqs : q.length = S.size := by rw [Lib.size_eq, hq]
  rw [← chars_eq, hqs] at hcs
  have hbm := bnd_lt q i
  have hbl := (chars_get q i hi).1
  have hA := fun k hk (o : Obj) => cell_kept ((Below.refl _ w).alloc (Nat.le_refl _) o) (hcl k hk).1
  have hB := fun k hk (o : Obj) => cell_kept ((Below.refl _ w).alloc (Nat.le_refl _) o) (hcl k hk).2
  have hnm := fun W => name_any (runeN q i) W
  rw [h2] at hnm
  have a0 := hA i hi
  have b0 := hB i hi
  have HA := Lib.hid hA
  have HB := Lib.hid hB
  have Hq := Lib.hid hq
  have Hqs := Lib.hid hqs
  have hsum : IntKind.i64.wrap ((i : Int) + 1) = (i : Int) + 1 := IntWalk.i64_in _ (by omega)
  obtain ⟨N, hN⟩ : ∃ N, (chars q).length = N := ⟨_, rfl⟩
  have hbd := fun k (hk : k ≤ (chars q).length) => (chars_drop q k hk).1
  have hG := refsign_any S (bnd q i) (w.alloc (.cells #[.int .i64 0, .string ⟨#[]⟩, .int .i64 0, .int .i64 0, .int .i64 0, .int .i64 0, .int .i64 0] 37)) hs (by omega)
  rw [hq] at hG
  obtain ⟨x, hx⟩ : ∃ x, sign (q.drop (bnd q i)) = x := ⟨_, rfl⟩
  have hsb := sign_bnd q i hi x hx
  rw [hx] at hG
  have hw : word (q.drop (bnd q i)) = (⟨3, x, 0⟩, x.length, decide (x ≠ [])) := by
    have h2' : isC 2 (dec (q.drop (bnd q i))).1 = false := h2
    have h4' : isC 4 (dec (q.drop (bnd q i))).1 = false := h4
    have hq' : ¬ ((dec (q.drop (bnd q i))).1 = 34 ∨ (dec (q.drop (bnd q i))).1 = 39) := hqt
    unfold word
    rw [if_neg (neg_of h2'), if_neg (neg_of h4'), if_neg hq', hx]
  have h57 : (decide ((48 : Int) ≤ (runeN q i : Int)) = false) ∨ (decide ((48 : Int) ≤ (runeN q i : Int)) = true ∧ decide ((runeN q i : Int) ≤ 57) = false) := by
    have : ¬ (48 ≤ runeN q i ∧ runeN q i ≤ 57) := fun h => by rw [(isC4 _).2 h] at h4; cases h4
    by_cases h : 48 ≤ runeN q i
    · exact .inr ⟨by simp; omega, by simp; omega⟩
    · exact .inl (by simp; omega)
  have g34 : ((runeN q i : Int) == 34) = false := by simp; omega
  have g39 : ((runeN q i : Int) == 39) = false := by simp; omega
  rw [hN] at hi hcs
  simp only [hN] at HA HB hbd ⊢
  have HN := Lib.hid hN
  have Hbd := Lib.hid hbd
  obtain ⟨r, hr⟩ : ∃ r, runeN q i = r := ⟨_, rfl⟩
  obtain ⟨at_, hat⟩ : ∃ a, bnd q i = a := ⟨_, rfl⟩
  rw [hr] at b0 hnm h57 g34 g39
  rw [hat] at a0 hG hw hsb
  have hk1 := Blk.new w #[.int .i64 0, .string ⟨#[]⟩, .int .i64 0, .int .i64 0, .int .i64 0, .int .i64 0, .int .i64 0] 37
  have hb1 := (Below.refl _ w).alloc (Nat.le_refl _) (.cells #[.int .i64 0, .string ⟨#[]⟩, .int .i64 0, .int .i64 0, .int .i64 0, .int .i64 0, .int .i64 0] 37)
  have hxl : x.length ≤ 2 := by
    by_cases hxn : x = []
    · subst hxn; exact Nat.zero_le _
    · exact (signs_short x (by rw [← hx]; exact sign_mem' _ (by rw [hx]; exact hxn))).2
  have hxs : (⟨x.toArray⟩ : ByteArray).size = x.length := by rw [Lib.size_eq]
  have Hat := Lib.hid hat
  have Hw := Lib.hid hw
  have Hsb := Lib.hid hsb
  have Hk1 := Lib.hid hk1
  clear hq hqs hN hbd hat hcl h2 h4 hA hB hw hsb hx hqt hr hk1
  have hxe : x = [] ∨ ((⟨x.toArray⟩ : ByteArray).toList.isEmpty = false ∧ x ≠ []) := by
    cases x with
    | nil => exact .inl rfl
    | cons a t => exact .inr ⟨by rw [Lib.toList_data]; rfl, by simp⟩
  rcases hxe with rfl | ⟨hxe, hxn⟩
  · rcases h57 with h7 | ⟨h7, h8⟩
    all_goals
      go_enter Tryd.func29, Tryd.ntmps29
      go_wp2_with fail
      refine (hnm _).mono ?_
      rintro e w1 ⟨rfl, rfl⟩
      go_wp2_with fail
      refine hG.mono ?_
      rintro e w3 ⟨rfl, hb3⟩
      have hb13 := hb1.trans (hb3.mono hb1.size)
      have hk3 := Hk1.out.below hb3
      obtain ⟨⟨c0, c1, c2, c3, c4, c5, c6⟩, ⟨f0, f1, f2, f3, f4, f5, f6⟩⟩ := cells7 hk3
      have Hk3 := Lib.hid hk3
      clear hk3
      go_wp2_with fail
      have B7 := set7 Hk3.out (.int .i64 0) (.string ⟨#[]⟩) (.int .i64 0) (.int .i64 0) (.int .i64 0) (.int .i64 0) (.int .i64 0)
      have hB7 := below7 hb13 (Nat.le_refl _) (.int .i64 0) (.string ⟨#[]⟩) (.int .i64 0) (.int .i64 0) (.int .i64 0) (.int .i64 0) (.int .i64 0)
      obtain ⟨w9, hw9⟩ : ∃ W', (((((((w3.setCell ⟨w.heap.size, 0, none⟩ (.int .i64 0)).setCell ⟨w.heap.size, 1, none⟩ (.string ⟨#[]⟩)).setCell ⟨w.heap.size, 2, none⟩ (.int .i64 0)).setCell ⟨w.heap.size, 3, none⟩ (.int .i64 0)).setCell ⟨w.heap.size, 4, none⟩ (.int .i64 0)).setCell ⟨w.heap.size, 5, none⟩ (.int .i64 0)).setCell ⟨w.heap.size, 6, none⟩ (.int .i64 0)) = W' := ⟨_, rfl⟩
      rw [hw9] at B7 hB7
      rw [hw9]
      have qq := (cells7 B7).1
      refine bodyPost_ret (v := .tuple #[.agg #[.int .i64 0, .string ⟨#[]⟩, .int .i64 0, .int .i64 0, .int .i64 0, .int .i64 0, .int .i64 0], .int .i64 0, .int .i64 (i : Int)]) (by simp [results, Tryd.results29, go_sem, qq.1, qq.2.1, qq.2.2.1, qq.2.2.2.1, qq.2.2.2.2.1, qq.2.2.2.2.2.1, qq.2.2.2.2.2.2]) rfl ?_
      unfold RefWordAns
      rw [Hat.out, Hw.out]
      exact ⟨⟨0, [], 0⟩, _, i, rfl, by rw [Hat.out]; rfl, by rw [HN.out]; exact hi, hB7⟩
  · have hne2 : x.isEmpty = false := by cases x with
      | nil => exact absurd rfl hxn
      | cons a t => rfl
    rcases h57 with h7 | ⟨h7, h8⟩
    all_goals
      go_enter Tryd.func29, Tryd.ntmps29
      go_wp2_with fail
      refine (hnm _).mono ?_
      rintro e w1 ⟨rfl, rfl⟩
      go_wp2_with fail
      refine hG.mono ?_
      rintro e w3 ⟨rfl, hb3⟩
      have hb13 := hb1.trans (hb3.mono hb1.size)
      have hk3 := Hk1.out.below hb3
      obtain ⟨⟨c0, c1, c2, c3, c4, c5, c6⟩, ⟨f0, f1, f2, f3, f4, f5, f6⟩⟩ := cells7 hk3
      have Hk3 := Lib.hid hk3
      clear hk3
      go_wp2_with fail
      have B7 := set7 Hk3.out (.int .i64 3) (.string ⟨x.toArray⟩) (.int .i64 0) (.int .i64 0) (.int .i64 0) (.int .i64 0) (.int .i64 0)
      have hB7 := below7 hb13 (Nat.le_refl _) (.int .i64 3) (.string ⟨x.toArray⟩) (.int .i64 0) (.int .i64 0) (.int .i64 0) (.int .i64 0) (.int .i64 0)
      obtain ⟨w9, hw9⟩ : ∃ W', (((((((w3.setCell ⟨w.heap.size, 0, none⟩ (.int .i64 3)).setCell ⟨w.heap.size, 1, none⟩ (.string ⟨x.toArray⟩)).setCell ⟨w.heap.size, 2, none⟩ (.int .i64 0)).setCell ⟨w.heap.size, 3, none⟩ (.int .i64 0)).setCell ⟨w.heap.size, 4, none⟩ (.int .i64 0)).setCell ⟨w.heap.size, 5, none⟩ (.int .i64 0)).setCell ⟨w.heap.size, 6, none⟩ (.int .i64 0)) = W' := ⟨_, rfl⟩
      rw [hw9] at B7 hB7
      rw [hw9]
      have qq := (cells7 B7).1
      refine bodyPost_ret (v := .tuple #[.agg #[.int .i64 3, .string ⟨x.toArray⟩, .int .i64 0, .int .i64 0, .int .i64 0, .int .i64 0, .int .i64 0], .int .i64 x.length, .int .i64 (-1)]) (by simp [results, Tryd.results29, go_sem, qq.1, qq.2.1, qq.2.2.1, qq.2.2.2.1, qq.2.2.2.2.1, qq.2.2.2.2.2.1, qq.2.2.2.2.2.2]) rfl ?_
      unfold RefWordAns
      rw [Hat.out, Hw.out]
      rw [decide_eq_true hxn]
      obtain ⟨s1, s2, s3⟩ := Hsb.out hxn
      exact ⟨x.length, rfl, s1, s3, s2, hB7⟩
/-- gimletref10.word. -/
theorem refword_any (S : ByteArray) (g c : Nat) (q : List UInt8) (i : Nat) (w : World) (hq : S.data.toList = q) (hs : S.size ≤ 1000000000) (hi : i < (chars q).length) (hcl : CL w g q) :
    Calls Tryd.prog 29 #[.string S, .slice (some ⟨g, 0, none⟩) (chars q).length c, .int .i64 i] w (RefWordAns q i w) := by
  cases h2 : isC 2 (runeN q i) with
  | true => exact refword_name S g c q i w hq hs hi hcl h2
  | false =>
    cases h4 : isC 4 (runeN q i) with
    | true => exact refword_num S g c q i w hq hs hi hcl h2 h4
    | false =>
      by_cases hqt : runeN q i = 34 ∨ runeN q i = 39
      · exact refword_quote S g c q i w hq hs hi hcl h2 h4 hqt
      · exact refword_sign S g c q i w hq hs hi hcl h2 h4 hqt
end
end Go.Proofs.YtjmejlncomaclaaDoor.Lx
