/- unicode/utf8.FullRune answers as the plain function says. Condition: the tables of unicode/utf8. -/
import Derived.Test.YtjmejlncomaclaaDoorLxLay
namespace Go.Proofs.YtjmejlncomaclaaDoor.Lx
open Go.RowKit

def fullN (n k lo hi b1 b2 : Nat) : Bool :=
  if n = 0 then false
  else if k ≤ n then true
  else if 1 < n ∧ (b1 < lo ∨ hi < b1) then true
  else decide (2 < n ∧ (b2 < 128 ∨ 191 < b2))

set_option maxRecDepth 100000 in
set_option maxHeartbeats 4000000 in
theorem fullRune_on (n x k i lo hi b0 b1 b2 : Nat) (b off cap : Nat) (w : World) (hn : 1 ≤ n) (hk4 : k ≤ 4) (hx : x < 256) (h0 : b0 < 256) (_h1 : b1 < 256) (h2 : b2 < 256) (_hlo : lo < 256) (_hhi : hi < 256)
    (hT : w.cell? ⟨1, b0, none⟩ = some (.int .u8 x)) (hxk : x % 8 = k) (hxi : x / 16 = i) (hi16 : i < 16)
    (a1 : w.cell? ⟨2, i * 2, none⟩ = some (.int .u8 lo)) (a2 : w.cell? ⟨2, i * 2 + 1, none⟩ = some (.int .u8 hi))
    (c0 : w.cell? ⟨b, off, none⟩ = some (.int .u8 b0)) (c1 : 1 < n → w.cell? ⟨b, off + 1, none⟩ = some (.int .u8 b1)) (c2 : 2 < n → w.cell? ⟨b, off + 2, none⟩ = some (.int .u8 b2)) :
    Calls Tryd.prog 38 #[.slice (some ⟨b, off, none⟩) n cap] w fun e w' => e = .returned (.bool (fullN n k lo hi b1 b2)) ∧ Below w.heap.size w w' := by
  have hz : (((n : Int)) == 0) = false := by simp; omega
  have hn' : (1 : Int) ≤ (n : Int) := by omega
  have hm : (x : Int) % 8 = (k : Int) := by omega
  have hd : (x : Int) / 16 = (i : Int) := by omega
  clear hxk hxi
  by_cases hk : k ≤ n
  · have hk1 : (k : Int) ≤ (n : Int) := by omega
    go_enter Tryd.func38, Tryd.ntmps38
    go_wp2
  
    go_ret
    exact ⟨by rw [show fullN n k lo hi b1 b2 = true from by unfold fullN; rw [if_neg (by omega), if_pos (by omega)]]; rfl, Below.refl _ _⟩
  · have hk1 : ¬ (k : Int) ≤ (n : Int) := by omega
    by_cases hn1 : n = 1
    · subst hn1
      go_enter Tryd.func38, Tryd.ntmps38
      go_wp2
      go_quiet (fail)
      go_wp2
      go_ret
      exact ⟨by rw [show fullN 1 k lo hi b1 b2 = false from by unfold fullN; rw [if_neg (by omega), if_neg (by omega)]; simp <;> omega]; rfl, below_drewN ((Below.refl _ _).alloc (Nat.le_refl _) _) _⟩
    · by_cases hn2 : n = 2
      · subst hn2
        have e1 := fun o => cell_kept ((Below.refl _ w).alloc (Nat.le_refl _) o) (c1 (by omega))
        clear c1 c2
        by_cases hb1 : b1 < lo
        · have hb1i : (b1 : Int) < lo := by omega
          go_enter Tryd.func38, Tryd.ntmps38
          go_wp2
          go_quiet (fail)
          go_wp2
          go_ret
          exact ⟨by rw [show fullN 2 k lo hi b1 b2 = true from by unfold fullN; rw [if_neg (by omega), if_neg (by omega)]; simp <;> omega]; rfl, below_drewN ((Below.refl _ _).alloc (Nat.le_refl _) _) _⟩
        · by_cases hb2 : hi < b1
          · have hb1i : ¬ (b1 : Int) < lo := by omega
            have hb2i : (hi : Int) < (b1 : Int) := by omega
            go_enter Tryd.func38, Tryd.ntmps38
            go_wp2
            go_quiet (fail)
            go_wp2
            go_ret
            exact ⟨by rw [show fullN 2 k lo hi b1 b2 = true from by unfold fullN; rw [if_neg (by omega), if_neg (by omega)]; simp <;> omega]; rfl, below_drewN ((Below.refl _ _).alloc (Nat.le_refl _) _) _⟩
          · have hb1i : ¬ (b1 : Int) < lo := by omega
            have hb2i : ¬ (hi : Int) < (b1 : Int) := by omega
            go_enter Tryd.func38, Tryd.ntmps38
            go_wp2
            go_quiet (fail)
            go_wp2
            go_ret
            exact ⟨by rw [show fullN 2 k lo hi b1 b2 = false from by unfold fullN; rw [if_neg (by omega), if_neg (by omega)]; simp <;> omega]; rfl, below_drewN ((Below.refl _ _).alloc (Nat.le_refl _) _) _⟩
      · obtain rfl : n = 3 := by omega
        have e1 := fun o => cell_kept ((Below.refl _ w).alloc (Nat.le_refl _) o) (c1 (by omega))
        have e2 := fun o => cell_kept ((Below.refl _ w).alloc (Nat.le_refl _) o) (c2 (by omega))
        clear c1 c2
        by_cases hb1 : b1 < lo
        · have hb1i : (b1 : Int) < lo := by omega
          go_enter Tryd.func38, Tryd.ntmps38
          go_wp2
          go_quiet (fail)
          go_wp2
          go_ret
          exact ⟨by rw [show fullN 3 k lo hi b1 b2 = true from by unfold fullN; rw [if_neg (by omega), if_neg (by omega)]; simp <;> omega]; rfl, below_drewN ((Below.refl _ _).alloc (Nat.le_refl _) _) _⟩
        · by_cases hb2 : hi < b1
          · have hb1i : ¬ (b1 : Int) < lo := by omega
            have hb2i : (hi : Int) < (b1 : Int) := by omega
            go_enter Tryd.func38, Tryd.ntmps38
            go_wp2
            go_quiet (fail)
            go_wp2
            go_ret
            exact ⟨by rw [show fullN 3 k lo hi b1 b2 = true from by unfold fullN; rw [if_neg (by omega), if_neg (by omega)]; simp <;> omega]; rfl, below_drewN ((Below.refl _ _).alloc (Nat.le_refl _) _) _⟩
          · have hb1i : ¬ (b1 : Int) < lo := by omega
            have hb2i : ¬ (hi : Int) < (b1 : Int) := by omega
            by_cases hd1 : b2 < 128
            · have hd1i : (b2 : Int) < 128 := by omega
              go_enter Tryd.func38, Tryd.ntmps38
              go_wp2
              go_quiet (fail)
              go_wp2
              go_ret
              exact ⟨by rw [show fullN 3 k lo hi b1 b2 = true from by unfold fullN; rw [if_neg (by omega), if_neg (by omega)]; simp <;> omega]; rfl, below_drewN ((Below.refl _ _).alloc (Nat.le_refl _) _) _⟩
            · by_cases hd2 : 191 < b2
              · have hd1i : ¬ (b2 : Int) < 128 := by omega
                have hd2i : (191 : Int) < (b2 : Int) := by omega
                go_enter Tryd.func38, Tryd.ntmps38
                go_wp2
                go_quiet (fail)
                go_wp2
                go_ret
                exact ⟨by rw [show fullN 3 k lo hi b1 b2 = true from by unfold fullN; rw [if_neg (by omega), if_neg (by omega)]; simp <;> omega]; rfl, below_drewN ((Below.refl _ _).alloc (Nat.le_refl _) _) _⟩
              · have hd1i : ¬ (b2 : Int) < 128 := by omega
                have hd2i : ¬ (191 : Int) < (b2 : Int) := by omega
                go_enter Tryd.func38, Tryd.ntmps38
                go_wp2
                go_quiet (fail)
                go_wp2
                go_ret
                exact ⟨by rw [show fullN 3 k lo hi b1 b2 = false from by unfold fullN; rw [if_neg (by omega), if_neg (by omega)]; simp <;> omega]; rfl, below_drewN ((Below.refl _ _).alloc (Nat.le_refl _) _) _⟩
end Go.Proofs.YtjmejlncomaclaaDoor.Lx
