/- lexis.good: the first place from which the bytes are no characters. Condition: the tables; at most 1000000000 bytes. -/
import Derived.Test.YtjmejlncomaclaaDoorLxW3
namespace Go.Proofs.YtjmejlncomaclaaDoor.Lx
open Go.RowKit

theorem decGo_drop (l : List UInt8) (p : Nat) (h : p < l.length) : 1 ≤ (decGo (l.drop p)).2 ∧ p + (decGo (l.drop p)).2 ≤ l.length := by
  have hne : l.drop p ≠ [] := by intro h1; have := congrArg List.length h1; simp at this; omega
  unfold decGo
  rw [if_neg hne]
  have h1 := dec_pos (l.drop p)
  have h2 := dec_le (l.drop p) hne
  simp at h2
  exact ⟨h1, by omega⟩
theorem goodA_le (b : List UInt8) : ∀ k p, p ≤ b.length → goodA k b p ≤ b.length ∧ p ≤ goodA k b p := by
  intro k
  induction k with
  | zero => intro p h; exact ⟨h, Nat.le_refl _⟩
  | succ k ih =>
    intro p h
    unfold goodA
    split
    · rename_i hc
      have := decGo_drop b p hc.1
      have h2 := ih (p + (decGo (b.drop p)).2) this.2
      omega
    · exact ⟨h, Nat.le_refl _⟩
theorem goodB_le (b : List UInt8) (p : Nat) : ∀ k n, n ≤ b.length → goodB k b p n ≤ b.length ∧ n ≤ goodB k b p n := by
  intro k
  induction k with
  | zero => intro n h; exact ⟨h, Nat.le_refl _⟩
  | succ k ih =>
    intro n h
    unfold goodB
    split
    · rename_i hc
      have h2 := ih (n + 1) (by omega)
      omega
    · exact ⟨h, Nat.le_refl _⟩
theorem good_le (b : List UInt8) : good b ≤ b.length := (goodB_le b _ _ _ (goodA_le b _ 0 (Nat.zero_le _)).1).1

set_option maxRecDepth 100000 in
set_option maxHeartbeats 1000000 in
/-- runes.Good, of some bytes. -/
theorem good_any (l : List UInt8) (b off cap : Nat) (w : World) (hV : Vars w) (hl : l.length ≤ cap) (hn : l.length ≤ 1000000000) (hc : Cells w b off l) :
    Calls Tryd.prog 18 #[.slice (some ⟨b, off, none⟩) l.length cap] w fun e w' => e = .returned (.int .i64 (good l)) ∧ Below w.heap.size w w' := by
  have HV := Lib.hid hV
  have HC := Lib.hid hc
  clear hV hc
  go_enter Tryd.func18, Tryd.ntmps18
  go_wp2
  go_loopw [3] (fun i wr => ∃ p k : Nat, p ≤ l.length ∧ l.length - p ≤ k ∧ i = .int .i64 p ∧ goodA l.length l 0 = goodA k l p ∧ Below w.heap.size w wr) (fun i _ => l.length - (intOf i).toNat)
  case atStart => exact ⟨0, l.length, Nat.zero_le _, by omega, rfl, rfl, Below.refl _ _⟩
  case round =>
    obtain ⟨p, k, hp, hk, rfl, he, hb⟩ := hrel
    have He := Lib.hid he
    clear he
    by_cases hlt : p < l.length
    · have hV1 := HV.out.below hb
      have hC1 := (HC.out.below hb).drop p
      have hne : l.drop p ≠ [] := by intro h1; have := congrArg List.length h1; simp at this; omega
      have hD := decGo_drop l p hlt
      have hf := fullRune_any (l.drop p) b (off + p) (cap - p) wr hV1 hne hC1
      rw [List.length_drop] at hf
      obtain ⟨F, hF⟩ : ∃ F, fullRune (l.drop p) = F := ⟨_, rfl⟩
      rw [hF] at hf
      have HF := Lib.hid hF
      obtain ⟨k, rfl⟩ : ∃ k', k = k' + 1 := ⟨k - 1, by omega⟩
      have hg : goodA (k + 1) l p = if p < l.length ∧ fullRune (l.drop p) = true ∧ validHd (l.drop p) = true then goodA k l (p + (decGo (l.drop p)).2) else p := rfl
      have HG := Lib.hid hg
      have HC1 := Lib.hid hC1
      clear hg hF hC1 hne
      have hsz1 := hb.size
      cases F with
      | false =>
        have HA := Lib.hid (show goodA l.length l 0 = p by rw [He.out, HG.out, if_neg (by rw [HF.out]; simp)])
        go_wp2_with (go_at_call 38; refine hf.mono ?_; rintro e w1 ⟨rfl, hb1⟩)
        have HB := hb.trans (hb1.mono hsz1)
        clear hb hb1 hV1
        have hbW := HB
        go_loopw [6] (fun i wr => ∃ n k : Nat, p ≤ n ∧ n ≤ l.length ∧ l.length - n ≤ k ∧ i = .int .i64 n ∧ goodB l.length l p p = goodB k l p n ∧ Below w.heap.size w wr) (fun i _ => l.length - (intOf i).toNat)
        case atStart => exact ⟨p, l.length, Nat.le_refl _, hp, by omega, rfl, rfl, hbW⟩
        case round =>
          obtain ⟨n, k2, hpn, hn2, hk2, rfl, he2, hb2⟩ := hrel
          have He2 := Lib.hid he2
          clear he2 hbW HB
          by_cases hlt2 : n < l.length
          · have hV2 := HV.out.below hb2
            have hC2 := ((HC.out.below hb2).take (n + 1)).drop p
            have hlen2 : ((l.take (n + 1)).drop p).length = n + 1 - p := by rw [List.length_drop, List.length_take]; omega
            have hne2 : (l.take (n + 1)).drop p ≠ [] := by intro h1; rw [h1] at hlen2; simp at hlen2; omega
            have hg2 := begins_any ((l.take (n + 1)).drop p) b (off + p) (cap - p) wr hV2 hne2 hC2
            rw [hlen2] at hg2
            obtain ⟨G, hG⟩ : ∃ G, begins ((l.take (n + 1)).drop p) = G := ⟨_, rfl⟩
            rw [hG] at hg2
            have HG2 := Lib.hid hG
            obtain ⟨k2, rfl⟩ : ∃ k', k2 = k' + 1 := ⟨k2 - 1, by omega⟩
            have hgB : goodB (k2 + 1) l p n = if n < l.length ∧ begins ((l.take (n + 1)).drop p) = true then goodB k2 l p (n + 1) else n := rfl
            have HGB := Lib.hid hgB
            have hsz := hb2.size
            clear hgB hG hne2 hlen2 hC2
            cases G with
            | true =>
              go_wp2_with (go_at_call 41; refine hg2.mono ?_; rintro e w4 ⟨rfl, hb4⟩)
              go_roundw
              case rel => exact ⟨n + 1, k2, by omega, by omega, by omega, by go_num, by rw [He2.out, HGB.out, if_pos ⟨hlt2, HG2.out⟩], hb2.trans (hb4.mono hsz)⟩
              case measure => simp [intOf]; omega
            | false =>
              go_wp2_with (go_at_call 41; refine hg2.mono ?_; rintro e w4 ⟨rfl, hb4⟩)
              go_ret
              refine ⟨?_, hb2.trans (hb4.mono hsz)⟩
              unfold good
              rw [HA.out, He2.out, HGB.out, if_neg (by rw [HG2.out]; simp)]
              rfl
          · go_wp2
            go_ret
            refine ⟨?_, hb2⟩
            unfold good
            rw [HA.out, He2.out]
            cases k2 with
            | zero => rfl
            | succ k2 =>
              rw [show goodB (k2 + 1) l p n = if n < l.length ∧ begins ((l.take (n + 1)).drop p) = true then goodB k2 l p (n + 1) else n from rfl, if_neg (by omega)]
              rfl
      | true =>
        obtain ⟨V, hVV⟩ : ∃ V, validHd (l.drop p) = V := ⟨_, rfl⟩
        have hv := fun W hb1 => valid_any (l.drop p) b (off + p) (cap - p) W (hV1.below hb1) (HC1.out.below hb1)
        rw [hVV, List.length_drop] at hv
        have HVV := Lib.hid hVV
        have Hv := Lib.hid hv
        clear hVV hv
        cases V with
        | false =>
          have HA := Lib.hid (show goodA l.length l 0 = p by rw [He.out, HG.out, if_neg (by rw [HVV.out]; simp)])
          go_wp2_with (first | (go_at_call 38; refine hf.mono ?_; rintro e w1 ⟨rfl, hb1⟩) | (go_at_call 39; refine (Hv.out _ hb1).mono ?_; rintro e w2 ⟨rfl, hb2⟩))
          have HB := (hb.trans (hb1.mono hsz1)).trans (hb2.mono (by have := hb1.size; omega))
          clear hb hb1 hb2 hV1
          have hbW := HB
          go_loopw [6] (fun i wr => ∃ n k : Nat, p ≤ n ∧ n ≤ l.length ∧ l.length - n ≤ k ∧ i = .int .i64 n ∧ goodB l.length l p p = goodB k l p n ∧ Below w.heap.size w wr) (fun i _ => l.length - (intOf i).toNat)
          case atStart => exact ⟨p, l.length, Nat.le_refl _, hp, by omega, rfl, rfl, hbW⟩
          case round =>
            obtain ⟨n, k2, hpn, hn2, hk2, rfl, he2, hb2⟩ := hrel
            have He2 := Lib.hid he2
            clear he2 hbW HB
            by_cases hlt2 : n < l.length
            · have hV2 := HV.out.below hb2
              have hC2 := ((HC.out.below hb2).take (n + 1)).drop p
              have hlen2 : ((l.take (n + 1)).drop p).length = n + 1 - p := by rw [List.length_drop, List.length_take]; omega
              have hne2 : (l.take (n + 1)).drop p ≠ [] := by intro h1; rw [h1] at hlen2; simp at hlen2; omega
              have hg2 := begins_any ((l.take (n + 1)).drop p) b (off + p) (cap - p) wr hV2 hne2 hC2
              rw [hlen2] at hg2
              obtain ⟨G, hG⟩ : ∃ G, begins ((l.take (n + 1)).drop p) = G := ⟨_, rfl⟩
              rw [hG] at hg2
              have HG2 := Lib.hid hG
              obtain ⟨k2, rfl⟩ : ∃ k', k2 = k' + 1 := ⟨k2 - 1, by omega⟩
              have hgB : goodB (k2 + 1) l p n = if n < l.length ∧ begins ((l.take (n + 1)).drop p) = true then goodB k2 l p (n + 1) else n := rfl
              have HGB := Lib.hid hgB
              have hsz := hb2.size
              clear hgB hG hne2 hlen2 hC2
              cases G with
              | true =>
                go_wp2_with (go_at_call 41; refine hg2.mono ?_; rintro e w4 ⟨rfl, hb4⟩)
                go_roundw
                case rel => exact ⟨n + 1, k2, by omega, by omega, by omega, by go_num, by rw [He2.out, HGB.out, if_pos ⟨hlt2, HG2.out⟩], hb2.trans (hb4.mono hsz)⟩
                case measure => simp [intOf]; omega
              | false =>
                go_wp2_with (go_at_call 41; refine hg2.mono ?_; rintro e w4 ⟨rfl, hb4⟩)
                go_ret
                refine ⟨?_, hb2.trans (hb4.mono hsz)⟩
                unfold good
                rw [HA.out, He2.out, HGB.out, if_neg (by rw [HG2.out]; simp)]
                rfl
            · go_wp2
              go_ret
              refine ⟨?_, hb2⟩
              unfold good
              rw [HA.out, He2.out]
              cases k2 with
              | zero => rfl
              | succ k2 =>
                rw [show goodB (k2 + 1) l p n = if n < l.length ∧ begins ((l.take (n + 1)).drop p) = true then goodB k2 l p (n + 1) else n from rfl, if_neg (by omega)]
                rfl
        | true =>
          have hdd := fun W hb1 => decodeRune_any (l.drop p) b (off + p) (cap - p) W (hV1.below hb1) (HC1.out.below hb1)
          obtain ⟨D, hDD⟩ : ∃ D, decGo (l.drop p) = D := ⟨_, rfl⟩
          rw [hDD, List.length_drop] at hdd
          rw [hDD] at hD
          have HD := Lib.hid hDD
          have Hdd := Lib.hid hdd
          clear hDD hdd
          go_wp2_with (first | (go_at_call 38; refine hf.mono ?_; rintro e w1 ⟨rfl, hb1⟩) | (go_at_call 39; refine (Hv.out _ hb1).mono ?_; rintro e w2 ⟨rfl, hb2⟩) | (go_at_call 40; refine (Hdd.out _ (hb1.trans (hb2.mono hb1.size))).mono ?_; rintro e w3 ⟨rfl, hb3⟩))
          go_roundw
          case rel => exact ⟨p + D.2, k, by omega, by omega, by go_num, by rw [He.out, HG.out, if_pos ⟨hlt, HF.out, HVV.out⟩, HD.out], (hb.trans (hb1.mono hsz1)).trans ((hb2.mono (by have := hb1.size; omega)).trans (hb3.mono (by have := hb1.size; have := hb2.size; omega)))⟩
          case measure => simp [intOf]; omega
    · have HA := Lib.hid (show goodA l.length l 0 = p by
        rw [He.out]
        cases k with
        | zero => rfl
        | succ k => rw [show goodA (k + 1) l p = if p < l.length ∧ fullRune (l.drop p) = true ∧ validHd (l.drop p) = true then goodA k l (p + (decGo (l.drop p)).2) else p from rfl, if_neg (by omega)])
      go_wp2
      have HB := hb
      clear hb
      have hbW := HB
      go_loopw [6] (fun i wr => ∃ n k : Nat, p ≤ n ∧ n ≤ l.length ∧ l.length - n ≤ k ∧ i = .int .i64 n ∧ goodB l.length l p p = goodB k l p n ∧ Below w.heap.size w wr) (fun i _ => l.length - (intOf i).toNat)
      case atStart => exact ⟨p, l.length, Nat.le_refl _, hp, by omega, rfl, rfl, hbW⟩
      case round =>
        obtain ⟨n, k2, hpn, hn2, hk2, rfl, he2, hb2⟩ := hrel
        have He2 := Lib.hid he2
        clear he2 hbW HB
        by_cases hlt2 : n < l.length
        · omega
        · go_wp2
          go_ret
          refine ⟨?_, hb2⟩
          unfold good
          rw [HA.out, He2.out]
          cases k2 with
          | zero => rfl
          | succ k2 =>
            rw [show goodB (k2 + 1) l p n = if n < l.length ∧ begins ((l.take (n + 1)).drop p) = true then goodB k2 l p (n + 1) else n from rfl, if_neg (by omega)]
            rfl
end Go.Proofs.YtjmejlncomaclaaDoor.Lx
