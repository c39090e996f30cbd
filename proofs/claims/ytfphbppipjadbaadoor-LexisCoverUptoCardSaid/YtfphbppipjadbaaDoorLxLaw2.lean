/- gimletlaw10.LexisCover is true where there are words. Condition: the tables; at most 1000000000 bytes. -/
import Derived.Test.YtfphbppipjadbaaDoorLxLaw1
import Derived.Deep.LoopGhost
import Derived.BigGuard
import Derived.Deep.QuietTactic
import Derived.BigQuiet
import Derived.IntWalk
namespace Go.Proofs.YtfphbppipjadbaaDoor.Lx
open Go.RowKit

theorem blank_cases {b : UInt8} (h : blankB b) :
    (((b.toNat : Int) != 32) = false) ∨ (((b.toNat : Int) != 32) = true ∧ ((b.toNat : Int) != 9) = false) ∨ (((b.toNat : Int) != 32) = true ∧ ((b.toNat : Int) != 9) = true ∧ ((b.toNat : Int) != 10) = false) ∨
    (((b.toNat : Int) != 32) = true ∧ ((b.toNat : Int) != 9) = true ∧ ((b.toNat : Int) != 10) = true ∧ ((b.toNat : Int) != 13) = false) := by
  unfold blankB at h
  rcases h with h | h | h | h
  · exact .inl (by rw [h]; rfl)
  · exact .inr (.inl ⟨by rw [h]; rfl, by rw [h]; rfl⟩)
  · exact .inr (.inr (.inl ⟨by rw [h]; rfl, by rw [h]; rfl, by rw [h]; rfl⟩))
  · exact .inr (.inr (.inr ⟨by rw [h]; rfl, by rw [h]; rfl, by rw [h]; rfl, by rw [h]; rfl⟩))

theorem slice_str {b off : Nat} {q : List UInt8} (w : World) (hc : Cells w b off q) (a : Nat) (T : List UInt8) (n m : Nat) (hn : n = m) (hT : T.length = m) (ha : a + m ≤ q.length) (ht : (q.drop a).take m = T) (c : Nat) :
    ∀ d, (convert 22 9 (.slice (some ⟨b, off + a, none⟩) n c)).run Tryd.prog (w.drewN d) = .ok (.string ⟨T.toArray⟩) (w.drewN d) := by
  intro d
  subst hn
  have e0 : strOfNums (T.map fun b => (b.toNat : Int)) = ⟨T.toArray⟩ := by have := strOfNums_take T T.length; rwa [List.take_length] at this
  have := run_convert_bytes_arg (P := Tryd.prog) (w.drewN d) 22 5 Tryd.underlying22 Tryd.underlying5 b (off + a) n c (T.map fun b => (b.toNat : Int)) (by simp [hT])
    (fun i hi => by
      have h := hc (a + i) (by omega)
      rw [Nat.add_assoc]
      refine Eq.trans ?_ (h.trans ?_)
      · simp [go_sem]
      · have : T[i]? = q[a + i]? := by rw [← ht, List.getElem?_take_of_lt hi, List.getElem?_drop]
        simp [List.getD_eq_getElem?_getD, List.getElem?_map, this, List.getElem?_eq_getElem (show a + i < q.length by omega)]) 9 Tryd.underlying9
  rwa [e0] at this

set_option maxRecDepth 100000 in
set_option maxHeartbeats 40000000 in
/-- LexisCover, where there are words. -/
theorem cover_some (b off cap : Nat) (q : List UInt8) (l : List (Wd × Nat)) (w : World) (hV : Vars w) (h2 : q.length ≤ cap) (h3 : b < w.heap.size) (h4 : Cells w b off q) (hn : q.length ≤ 1000000000)
    (hw : words q = .ok l) (hl : l ≠ []) :
    Calls Tryd.prog 3 #[.slice (some ⟨b, off, none⟩) q.length cap] w fun e w' => e = .returned (.bool true) ∧ Below w.heap.size w w' := by
  have hC := words_cover q l hw
  have hA := awake_any w hV
  have hW := fun W (hb : Below w.heap.size w W) => words_any (.slice (some ⟨b, off, none⟩) q.length cap) q W (hV.below hb) (RB.below (.inr ⟨b, off, cap, rfl, h2, h3, h4⟩) hb) hn
  have HW := Lib.hid hW
  have Hw := Lib.hid hw
  have HC := Lib.hid hC
  have H4 := Lib.hid h4
  have HV := Lib.hid hV
  clear hW hw hC h4 hV
  go_enter Tryd.func3, Tryd.ntmps3
  go_wp2_with fail
  refine hA.mono ?_
  rintro e w1 ⟨rfl, hb1⟩
  go_wp2_with fail
  refine (HW.out _ hb1).mono ?_
  rintro e w2 h
  unfold WordsAns at h
  rw [Hw.out] at h
  obtain ⟨v, rfl, hown, _, hb2⟩ := h
  have hb02 := hb1.trans (hb2.mono hb1.size)
  have hc2 := H4.out.below hb02
  rcases hown.2 with ⟨_, h⟩ | ⟨g, cap2, cur, rfl, _, _, hcc, hml⟩
  · exact absurd (List.length_eq_zero_iff.1 h) hl
  · have hcell : ∀ k x, l[k]? = some x → ∀ f u, f < 7 → (wdCells q x)[f]? = some u → w2.cell? ⟨g, k * 7 + f, none⟩ = some u := by
      intro k x hk f u hf hu
      have hkl : k < l.length := (List.getElem?_eq_some_iff.1 hk).1
      rw [hown.cellAt (k * 7 + f) (by omega)]
      exact wdRow_get q l k x hk f u hf hu
    have hll : l.length ≤ 9223372036854775807 := Nat.le_trans hcc (Nat.le_trans hml.1 (by decide))
    have Hcell := Lib.hid hcell
    have Hc2 := Lib.hid hc2
    clear hcell hown hc2 hb1 hb2
    go_wp2_with fail
    go_loopw [5, 6] (fun a i wr => ∃ k p d : Nat, k ≤ l.length ∧ i = .int .i64 k ∧ a = .int .i64 p ∧ p ≤ q.length ∧ Cover q p (l.drop k) ∧ wr = w2.drewN d) (fun _ i _ => l.length + 1 - (intOf i).toNat)
    case atStart => exact ⟨0, 0, 0, Nat.zero_le _, rfl, rfl, Nat.zero_le _, HC.out, rfl⟩
    case round =>
      obtain ⟨k, p, d, hk, rfl, rfl, hp, hcv, rfl⟩ := hrel
      by_cases hlt : k < l.length
      · obtain ⟨⟨x, s⟩, hx⟩ : ∃ x, l[k]? = some x := ⟨_, List.getElem?_eq_getElem hlt⟩
        have hdr : l.drop k = (x, s) :: l.drop (k + 1) := by
          rw [List.drop_eq_getElem_cons hlt]
          have : l[k] = (x, s) := by rw [List.getElem?_eq_getElem hlt] at hx; exact Option.some.inj hx
          rw [this]
        rw [hdr] at hcv
        obtain ⟨hps, hsl, hbl, n, hwa, hcv2⟩ := hcv
        have e0 : w2.cell? ⟨g, k * 7, none⟩ = some (.int .i64 x.kind) := Hcell.out k _ hx 0 _ (by omega) rfl
        have e1 : w2.cell? ⟨g, k * 7 + 1, none⟩ = some (.string ⟨x.text.toArray⟩) := Hcell.out k _ hx 1 _ (by omega) rfl
        have e3 : w2.cell? ⟨g, k * 7 + 3, none⟩ = some (.int .i64 s) := Hcell.out k _ hx 3 _ (by omega) rfl
        have Hbl := Lib.hid hbl
        have Hwa := Lib.hid hwa
        have Hcv2 := Lib.hid hcv2
        clear hdr hx hbl hwa hcv2
        go_wp2_with fail
        go_loop [5] (fun a => ∃ j : Nat, p ≤ j ∧ j ≤ s ∧ a = .int .i64 j) (fun a => s - (intOf a).toNat)
        case atStart => exact ⟨p, Nat.le_refl _, hps, rfl⟩
        case round =>
          obtain ⟨j, hpj, hjs, rfl⟩ := hrel
          by_cases hjlt : j < s
          · have hbj := blank_cases (Hbl.out j hpj hjlt)
            have hcj := Hc2.out j (by omega)
            obtain ⟨B, hB⟩ : ∃ B, (q.getD j 0).toNat = B := ⟨_, rfl⟩
            rw [hB] at hbj hcj
            clear hB
            rcases hbj with t1 | ⟨t1, t2⟩ | ⟨t1, t2, t3⟩ | ⟨t1, t2, t3, t4⟩
            all_goals
              as_aux_lemma =>
                go_wp2
                go_round
                case rel => exact ⟨j + 1, by omega, by omega, by go_num⟩
                case measure => simp [intOf]; omega
          · obtain rfl : j = s := by omega
            obtain ⟨hn1, hsn, hkind⟩ := Hwa.out
            rcases hkind with ⟨hk1, rfl, hq1, ht1⟩ | ⟨hk2, hd1, hd2, ht2⟩ | ⟨hk3, rfl, ht3⟩
            · have e0' : w2.cell? ⟨g, k * 7, none⟩ = some (.int .i64 1) := by rw [e0, hk1]; rfl
              have c0 := Hc2.out j (by omega)
              have c1 := Hc2.out (j + (x.text.length + 2) - 1) (by omega)
              rw [show off + (j + (x.text.length + 2) - 1) = off + (j + x.text.length + 1) by omega, ← hq1] at c1
              generalize (q.getD j 0) = B at c0 c1
              clear e0 hq1 hk1
              obtain ⟨T, hT⟩ : ∃ T, x.text = T := ⟨_, rfl⟩
              rw [hT] at e1 hsn hn1 c1 ht1
              obtain ⟨L, hL⟩ : ∃ L, T.length = L := ⟨_, rfl⟩
              rw [hL] at hsn hn1 c1 ht1
              rw [show off + (j + L + 1) = off + (j + (L + 1)) by omega] at c1
              have hcv := slice_str w2 Hc2.out (j + 1) T (j + (L + 1) - (j + 1)) L (by omega) hL (by omega) ht1 (cap - (j + 1))
              have Ht := Lib.hid ht1
              clear ht1
              have s1 : IntKind.i64.wrap ((j : Int) + ((L : Int) + 2)) = (j : Int) + ((L : Int) + 2) := IntWalk.i64_in _ (by omega)
              have s2 : IntKind.i64.wrap ((j : Int) + ((L : Int) + 2) - 1) = (j : Int) + ((L : Int) + 2) - 1 := IntWalk.i64_in _ (by omega)
              have s3 : IntKind.i64.wrap ((j : Int) + 1) = (j : Int) + 1 := IntWalk.i64_in _ (by omega)
              have g1 : (((L : Int) + 2) == 0) = false := by simp; omega
              have g2 : decide ((q.length : Int) < (j : Int) + ((L : Int) + 2)) = false := by simp; omega
              have g3 : (0 : Int) ≤ (j : Int) + 1 ∧ (j : Int) + 1 ≤ (j : Int) + ((L : Int) + 2) - 1 ∧ (j : Int) + ((L : Int) + 2) - 1 ≤ q.length ∧ (j : Int) + ((L : Int) + 2) - 1 < q.length ∧ (0 : Int) ≤ (j : Int) + ((L : Int) + 2) - 1 ∧ (j : Int) < q.length := by omega
              obtain ⟨g3, g4, g5, g6, g7, g8⟩ := g3
              as_aux_lemma =>
                go_wp2_with fail
                go_quiet (fail)
                clear s1 s2 s3 g1 g2 g3 g4 g5 g6 g7 g8
                go_wp2
                go_round
                case rel => exact ⟨k + 1, j + (L + 2), _, by omega, by go_num, by go_num, by omega, by have := Hcv2.out; rwa [hT, hL] at this, rfl⟩
                case measure => simp [intOf]; omega
            · have e0' : w2.cell? ⟨g, k * 7, none⟩ = some (.int .i64 2) := by rw [e0, hk2]; rfl
              clear e0
              have Hd1 := Lib.hid hd1
              have Hd2 := Lib.hid hd2
              clear hd1 hd2
              go_wp2_with fail
              go_loop [8] (fun a => ∃ t : Nat, t ≤ n ∧ a = .int .i64 t) (fun a => n - (intOf a).toNat)
              case atStart => exact ⟨0, Nat.zero_le _, rfl⟩
              case round =>
                obtain ⟨t, htn, rfl⟩ := hrel
                have s1 : IntKind.i64.wrap ((j : Int) + (t : Int)) = (j : Int) + (t : Int) := IntWalk.i64_in _ (by omega)
                have gn : (0 : Int) ≤ (j : Int) + (t : Int) := by omega
                by_cases htl : t < n
                · have hdg := Hd1.out t htl
                  unfold digitB at hdg
                  have ct := Hc2.out (j + t) (by omega)
                  generalize (q.getD (j + t) 0).toNat = B at hdg ct
                  have g1 : decide ((j : Int) + (t : Int) < (q.length : Int)) = true := by simp; omega
                  have g2 : decide ((48 : Int) ≤ (B : Int)) = true := by simp; omega
                  have g3 : decide ((B : Int) ≤ 57) = true := by simp; omega
                  as_aux_lemma =>
                    go_wp2
                    go_round
                    case rel => exact ⟨t + 1, by omega, by go_num⟩
                    case measure => simp [intOf]; omega
                · obtain rfl : t = n := by omega
                  have k1 : ((t : Int) == 0) = false := by simp; omega
                  have k2 : decide ((q.length : Int) < (j : Int) + (t : Int)) = false := by simp; omega
                  by_cases hjl : j + t < q.length
                  · have hdg := Hd2.out hjl
                    unfold digitB at hdg
                    have ct := Hc2.out (j + t) hjl
                    generalize (q.getD (j + t) 0).toNat = B at hdg ct
                    have g1 : decide ((j : Int) + (t : Int) < (q.length : Int)) = true := by simp; omega
                    have g1' : (j : Int) + (t : Int) < (q.length : Int) := by omega
                    by_cases hB : 48 ≤ B
                    · have g2 : decide ((48 : Int) ≤ (B : Int)) = true := by simp; omega
                      have g3 : decide ((B : Int) ≤ 57) = false := by simp; omega
                      as_aux_lemma =>
                        go_wp2_with fail
                        go_quiet (fail)
                        clear s1 k1 k2 g1 g1' g2 g3
                        go_wp2
                        go_round
                        case rel => exact ⟨k + 1, j + t, _, by omega, by go_num, by go_num, by omega, Hcv2.out, rfl⟩
                        case measure => simp [intOf]; omega
                    · have g2 : decide ((48 : Int) ≤ (B : Int)) = false := by simp; omega
                      as_aux_lemma =>
                        go_wp2_with fail
                        go_quiet (fail)
                        clear s1 k1 k2 g1 g1' g2
                        go_wp2
                        go_round
                        case rel => exact ⟨k + 1, j + t, _, by omega, by go_num, by go_num, by omega, Hcv2.out, rfl⟩
                        case measure => simp [intOf]; omega
                  · have g1 : decide ((j : Int) + (t : Int) < (q.length : Int)) = false := by simp; omega
                    as_aux_lemma =>
                      go_wp2_with fail
                      go_quiet (fail)
                      clear s1 k1 k2 g1
                      go_wp2
                      go_round
                      case rel => exact ⟨k + 1, j + t, _, by omega, by go_num, by go_num, by omega, Hcv2.out, rfl⟩
                      case measure => simp [intOf]; omega
            · obtain ⟨T, hT⟩ : ∃ T, x.text = T := ⟨_, rfl⟩
              rw [hT] at e1 hsn hn1 ht3
              obtain ⟨L, hL⟩ : ∃ L, T.length = L := ⟨_, rfl⟩
              rw [hL] at hsn hn1 ht3
              have hcv := slice_str w2 Hc2.out j T (j + L - j) L (by omega) hL (by omega) ht3 (cap - j)
              have hcv' := slice_str w2 Hc2.out j T L L rfl hL (by omega) ht3 (cap - j)
              have Ht := Lib.hid ht3
              clear ht3
              have hcv2 := Hcv2.out
              rw [hT, hL] at hcv2
              have Hcv3 := Lib.hid hcv2
              clear hcv2
              have s1 : IntKind.i64.wrap ((j : Int) + (L : Int)) = (j : Int) + (L : Int) := IntWalk.i64_in _ (by omega)
              have g1 : ((L : Int) == 0) = false := by simp; omega
              have g2 : decide ((q.length : Int) < (j : Int) + (L : Int)) = false := by simp; omega
              have g3 : (0 : Int) ≤ (j : Int) + (L : Int) ∧ (j : Int) ≤ (j : Int) + (L : Int) ∧ (j : Int) + (L : Int) ≤ q.length := by omega
              obtain ⟨g3, g4, g5⟩ := g3
              rcases hk3 with hk3 | hk3
              · have e0' : w2.cell? ⟨g, k * 7, none⟩ = some (.int .i64 0) := by rw [e0, hk3]; rfl
                clear e0
                as_aux_lemma =>
                  go_wp2_with fail
                  go_quiet (fail)
                  clear s1 g1 g2 g3 g4 g5
                  go_wp2
                  go_round
                  case rel => exact ⟨k + 1, j + L, _, by omega, by go_num, by go_num, by omega, Hcv3.out, rfl⟩
                  case measure => simp [intOf]; omega
              · have e0' : w2.cell? ⟨g, k * 7, none⟩ = some (.int .i64 3) := by rw [e0, hk3]; rfl
                clear e0
                as_aux_lemma =>
                  go_wp2_with fail
                  go_quiet (fail)
                  clear s1 g1 g2 g3 g4 g5
                  go_wp2
                  go_round
                  case rel => exact ⟨k + 1, j + L, _, by omega, by go_num, by go_num, by omega, Hcv3.out, rfl⟩
                  case measure => simp [intOf]; omega
      · obtain rfl : k = l.length := by omega
        rw [List.drop_length] at hcv
        have hbl : ∀ j, p ≤ j → j < q.length → blankB (q.getD j 0) := hcv
        have Hbl := Lib.hid hbl
        clear hcv hbl
        go_wp2_with fail
        go_loop [5] (fun a => ∃ j : Nat, p ≤ j ∧ j ≤ q.length ∧ a = .int .i64 j) (fun a => q.length - (intOf a).toNat)
        case atStart => exact ⟨p, Nat.le_refl _, hp, rfl⟩
        case round =>
          obtain ⟨j, hpj, hjs, rfl⟩ := hrel
          by_cases hjlt : j < q.length
          · have hbj := blank_cases (Hbl.out j hpj hjlt)
            have hcj := Hc2.out j (by omega)
            obtain ⟨B, hB⟩ : ∃ B, (q.getD j 0).toNat = B := ⟨_, rfl⟩
            rw [hB] at hbj hcj
            clear hB
            rcases hbj with t1 | ⟨t1, t2⟩ | ⟨t1, t2, t3⟩ | ⟨t1, t2, t3, t4⟩
            all_goals
              as_aux_lemma =>
                go_wp2
                go_round
                case rel => exact ⟨j + 1, by omega, by omega, by go_num⟩
                case measure => simp [intOf]; omega
          · obtain rfl : j = q.length := by omega
            as_aux_lemma =>
              go_wp2
              go_ret
              exact ⟨rfl, below_drewN hb02 _⟩
end Go.Proofs.YtfphbppipjadbaaDoor.Lx
