/- gimletref01.value and Good: a character's number; how many bytes are good. Condition: at most 1000000000 bytes. -/
import Derived.Test.YtjmejlncomaclaaDoorLxD3
namespace Go.Proofs.YtjmejlncomaclaaDoor.Lx
open Go.RowKit

theorem exists_stop (b : List UInt8) : ∃ n, Reach b n ∧ (bnd b n = b.length ∨ (bnd b n < b.length ∧ ¬ Okc (b.drop (bnd b n)))) := by
  suffices h : ∀ k n, b.length - bnd b n ≤ k → Reach b n → ∃ n, Reach b n ∧ (bnd b n = b.length ∨ (bnd b n < b.length ∧ ¬ Okc (b.drop (bnd b n)))) from h b.length 0 (by omega) (Reach.zero b)
  intro k
  induction k with
  | zero => intro n h hr; exact ⟨n, hr, .inl (by have := hr.le; omega)⟩
  | succ k ih =>
    intro n h hr
    by_cases he : bnd b n = b.length
    · exact ⟨n, hr, .inl he⟩
    · have hlt : bnd b n < b.length := by have := hr.le; omega
      by_cases ho : Okc (b.drop (bnd b n))
      · have := bnd_lt b n
        exact ih (n + 1) (by omega) (hr.step hlt ho)
      · exact ⟨n, hr, .inr ⟨hlt, ho⟩⟩
set_option maxRecDepth 100000 in
set_option maxHeartbeats 4000000 in
/-- gimletref01.Good. -/
theorem refgood_any (v : Value) (q : List UInt8) (w : World) (h : RB w v q) (hn : q.length ≤ 1000000000) :
    Calls Tryd.prog 24 #[v] w fun e w' => e = .returned (.int .i64 (good q)) ∧ w' = w := by
  have hF := fun a ha => front_any v q a w h hn ha
  obtain ⟨o, c, rfl⟩ : ∃ o c, v = .slice o q.length c := by
    rcases h with ⟨rfl, rfl⟩ | ⟨b, off, cap, rfl, _⟩
    · exact ⟨none, 0, rfl⟩
    · exact ⟨_, _, rfl⟩
  have HF := Lib.hid hF
  clear hF h
  go_enter Tryd.func24, Tryd.ntmps24
  go_wp2_with fail
  go_loopw [3] (fun i wr => ∃ n : Nat, i = .int .i64 (bnd q n) ∧ Reach q n ∧ wr = w) (fun i _ => q.length - (intOf i).toNat)
  case atStart => exact ⟨0, rfl, Reach.zero q, rfl⟩
  case round =>
    obtain ⟨n, rfl, hr, rfl⟩ := hrel
    have hle := hr.le
    by_cases hlt : bnd q n < q.length
    · have h1 := HF.out (bnd q n) (by omega)
      have hfl := front_le (q.drop (bnd q n))
      by_cases ho : Okc (q.drop (bnd q n))
      · have hd := dec_ok ho
        have hs := bnd_succ q n
        have hlt2 := bnd_lt q n
        have hr2 := hr.step hlt ho
        have hle2 := hr2.le
        have e1 : (front (q.drop (bnd q n))).1 = bnd q (n + 1) - bnd q n := by rw [ho.2]; omega
        have e2 : (front (q.drop (bnd q n))).2 = bnd q (n + 1) - bnd q n := by omega
        rw [e1, e2] at h1
        obtain ⟨d, hd2⟩ : ∃ d, bnd q (n + 1) = bnd q n + d := ⟨bnd q (n + 1) - bnd q n, by omega⟩
        rw [hd2, show bnd q n + d - bnd q n = d by omega] at h1
        obtain ⟨A, hA⟩ : ∃ A, bnd q n = A := ⟨_, rfl⟩
        rw [hA] at h1 hd2 hlt2 hlt ⊢
        have hd0 : ((d : Int) == 0) = false := by simp; omega
        rw [hd2] at hle2 hlt2
        have Hd2 := Lib.hid hd2
        have Hr2 := Lib.hid hr2
        clear e1 e2 hs hd hd2 hr hr2 ho hfl hle
        go_wp2_with fail
        refine h1.mono ?_
        rintro e w1 ⟨rfl, rfl⟩
        go_wp2_with fail
        go_round
        case rel => exact ⟨n + 1, by rw [Hd2.out]; go_num, Hr2.out, by first | rfl | trivial⟩
        case measure => simp [intOf]; omega
      · have hg := good_bad hr hlt ho
        obtain ⟨A, hA⟩ : ∃ A, bnd q n = A := ⟨_, rfl⟩
        have hst : (front (q.drop (bnd q n))).2 = 0 ∨ ((front (q.drop (bnd q n))).1 < (front (q.drop (bnd q n))).2 ∧ (front (q.drop (bnd q n))).2 ≠ 0) := by
          unfold Okc at ho; omega
        rw [hA] at h1 hg hst hlt hfl ⊢
        obtain ⟨⟨k, m⟩, hkm⟩ : ∃ x, front (q.drop A) = x := ⟨_, rfl⟩
        rw [hkm] at h1 hg hst hfl
        simp only at h1 hg hst hfl
        have Hg := Lib.hid hg
        have hkl : k ≤ 4 := by omega
        clear hg hkm ho hr
        rcases hst with rfl | ⟨hkm, hm0⟩
        · go_wp2_with fail
          refine h1.mono ?_
          rintro e w1 ⟨rfl, rfl⟩
          go_wp2_with fail
          go_ret
          exact ⟨by rw [Hg.out]; rfl, rfl⟩
        · have hd0 : ((m : Int) == 0) = false := by simp; omega
          have hkmb : decide ((k : Int) < (m : Int)) = true := by simp; omega
          go_wp2_with fail
          refine h1.mono ?_
          rintro e w1 ⟨rfl, rfl⟩
          go_wp2_with fail
          go_ret
          exact ⟨by rw [Hg.out]; rfl, rfl⟩
    · have hg := good_whole hr (by omega)
      have e : bnd q n = q.length := by omega
      have Hg := Lib.hid hg
      rw [e]
      clear hg hr hle hlt e
      go_wp2_with fail
      go_ret
      exact ⟨by rw [Hg.out]; rfl, rfl⟩
end Go.Proofs.YtjmejlncomaclaaDoor.Lx
