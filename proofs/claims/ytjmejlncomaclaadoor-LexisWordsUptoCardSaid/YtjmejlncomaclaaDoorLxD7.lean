/- gimletref01.At and gimletref10.At: where a byte stands. Condition: at most 1000000000 bytes. -/
import Derived.Test.YtjmejlncomaclaaDoorLxD6
import Derived.Deep.QuietTactic
import Derived.BigQuiet
namespace Go.Proofs.YtjmejlncomaclaaDoor.Lx
open Go.RowKit

/-- A list of characters, as it lies in a block of its own. -/
theorem ch_shape {w : World} {base : Nat} {u : Value} {p : List UInt8} {cs : List (Nat × Nat)} (h : w.ownsRow base 75 3 u cs.length (chRow p cs)) : ∃ o c, u = .slice o cs.length c ∧ cs.length ≤ c ∧
    (0 < cs.length → ∃ g, o = some ⟨g, 0, none⟩ ∧ base ≤ g ∧ g < w.heap.size ∧ ∀ (j : Nat) x, cs[j]? = some x → ∀ (f : Nat) u, (chCells p x)[f]? = some u → w.cell? ⟨g, j * 3 + f, none⟩ = some u) := by
  have hown := h
  rcases h.2 with ⟨hv, h0⟩ | ⟨g, cap, cur, rfl, hg, hh, hcc, hml⟩
  · exact ⟨none, 0, by rw [hv, h0], by omega, fun h => absurd h (by omega)⟩
  · refine ⟨_, cap, rfl, hcc, fun _ => ⟨g, rfl, hg, (Array.getElem?_eq_some_iff.1 hh).1, fun j x hx f u hu => ?_⟩⟩
    have hf : f < 3 := by have := (List.getElem?_eq_some_iff.1 hu).1; simpa [chCells] using this
    have hil := (List.getElem?_eq_some_iff.1 hx).1
    exact (hown.cellAt (j * 3 + f) (by omega)).trans (chRow_get p cs j x hx f u hu)
/-- As it was, but for one block. -/
def But (k : Nat) (w w' : World) : Prop := ∀ i, i < w.heap.size → i ≠ k → w'.heap[i]? = w.heap[i]?
theorem But.cell {k : Nat} {w w' : World} (h : But k w w') {a : Addr} {v : Value} (hc : w.cell? a = some v) (hk : a.block ≠ k) : w'.cell? a = some v := by
  have hl := World.block_lt_of_cell? w a hc
  have := h a.block hl hk
  unfold World.cell? at hc ⊢
  rw [this]; exact hc
theorem But.set {k : Nat} {w w' : World} (h : But k w w') (o : Nat) (v : Value) : But k w (w'.setCell ⟨k, o, none⟩ v) := fun i hi hk =>
  (heap_setCell_other w' ⟨k, o, none⟩ i v hk).trans (h i hi hk)
theorem plFold_next (q : List UInt8) (cs : List (Nat × Nat)) (j : Nat) (x : Nat × Nat) (h : cs[j]? = some x) : plFold q (cs.take (j + 1)) = plStep q (plFold q (cs.take j)) x := by
  rw [List.take_add_one, h]
  exact plFold_snoc q _ x

set_option maxRecDepth 100000 in
set_option maxHeartbeats 8000000 in
/-- gimletref01.At. -/
theorem at01_some (b off cap : Nat) (q : List UInt8) (a : Nat) (w : World) (h2 : q.length ≤ cap) (h3 : b < w.heap.size) (h4 : Cells w b off q) (hn : q.length ≤ 1000000000) (ha : a ≤ q.length) :
    Calls Tryd.prog 49 #[.slice (some ⟨b, off, none⟩) q.length cap, .int .i64 a] w fun e w' => e = .returned (.tuple #[plV (place q a), .int .i64 0]) ∧ Below w.heap.size w w' := by
  have hP := fun W (hb : Below w.heap.size w W) => RB.part (w := W) h2 (Nat.lt_of_lt_of_le h3 hb.size) (h4.below hb) 0 a (by omega)
  simp only [List.drop_zero, Nat.add_zero, Nat.sub_zero] at hP
  have hC := fun W (hb : Below w.heap.size w W) => chars_any _ (q.take a) W (hP W hb) (by rw [List.length_take]; omega)
  have hpl : (place q a) = ⟨a, (plFold q (chars (q.take a))).1, (plFold q (chars (q.take a))).2.1, (plFold q (chars (q.take a))).2.2⟩ := rfl
  have hgets := chars_get (q.take a)
  have hrg := chRow_get (q.take a) (chars (q.take a))
  have hclen := charsAt_length (q.take a) _ 0 (Nat.le_refl _)
  rw [← chars_eq, List.length_take] at hclen
  obtain ⟨p, hp⟩ : ∃ p, q.take a = p := ⟨_, rfl⟩
  have hpq : ∀ i, (p.drop i).length ≤ q.length := fun i => by rw [← hp]; simp; omega
  rw [hp] at hpl hclen hgets hrg
  simp only [hp] at hC
  obtain ⟨cs, hcs⟩ : ∃ cs, chars p = cs := ⟨_, rfl⟩
  rw [hcs] at hpl hclen hgets hrg
  simp only [hcs] at hC
  have hb2 : Below w.heap.size w ((w.alloc (.cells #[.int .i64 0, .int .i64 0, .int .i64 0, .int .i64 0] 111)).alloc (.cells #[.int .i64 a, .int .i64 0, .int .i64 1, .int .i64 1] 111)) :=
    ((Below.refl _ w).alloc (Nat.le_refl _) _).alloc (by simp) _
  have hC2 := hC _ hb2
  have H4 := Lib.hid h4
  have Hpl := Lib.hid hpl
  have Hgets := Lib.hid hgets
  have Hrg := Lib.hid hrg
  rw [hpl]
  clear h4 hpl hgets hrg hC hP hcs hp
  go_enter Tryd.func49, Tryd.ntmps49
  go_wp2_with fail
  refine hC2.mono ?_
  rintro e w1 ⟨u, rfl, hown, hb1⟩
  have hR1 := (Blk.below (Blk.alloc (Blk.new w #[.int .i64 0, .int .i64 0, .int .i64 0, .int .i64 0] 111) (.cells #[.int .i64 a, .int .i64 0, .int .i64 1, .int .i64 1] 111)) hb1)
  have hP1 := (Blk.below (Blk.new (w.alloc (.cells #[.int .i64 0, .int .i64 0, .int .i64 0, .int .i64 0] 111)) #[.int .i64 a, .int .i64 0, .int .i64 1, .int .i64 1] 111) hb1)
  rw [World.size_alloc] at hP1
  have hb01 := hb2.trans (hb1.mono hb2.size)
  have hsz : w.heap.size + 2 ≤ w1.heap.size := by have := hb1.size; simp only [World.size_alloc] at this; omega
  obtain ⟨o, c, rfl, hcc, hrow⟩ := ch_shape hown
  have Hrow := Lib.hid hrow
  simp only [World.size_alloc] at hrow
  clear hown hC2 hb1 hrow
  go_wp2_with fail
  go_loopw [8] (fun i wr => ∃ j : Nat, j ≤ cs.length ∧ i = .int .i64 j ∧ Blk wr (w.heap.size + 1) #[.int .i64 a, .int .i64 (plFold q (cs.take j)).1, .int .i64 (plFold q (cs.take j)).2.1, .int .i64 (plFold q (cs.take j)).2.2] 111 ∧ But (w.heap.size + 1) w1 wr ∧ Below w.heap.size w wr) (fun i _ => cs.length - (intOf i).toNat)
  case atStart => exact ⟨0, Nat.zero_le _, rfl, hP1, fun _ _ _ => rfl, hb01⟩
  case round =>
    obtain ⟨j, hj, rfl, hPr, hBut, hbr⟩ := hrel
    by_cases hlt : j < cs.length
    · obtain ⟨g, rfl, hg1, hg2, hgc⟩ := Hrow.out (by omega)
      simp only [World.size_alloc] at hg1
      obtain ⟨⟨ca, cr⟩, hx⟩ : ∃ x, cs[j]? = some x := ⟨_, List.getElem?_eq_getElem hlt⟩
      have hfl := plFold_le q (cs.take j)
      rw [List.length_take, Nat.min_eq_left hj] at hfl
      have hfn := plFold_next q cs j _ hx
      obtain ⟨⟨s1, s2, s3⟩, hst⟩ : ∃ s, plFold q (cs.take j) = s := ⟨_, rfl⟩
      rw [hst] at hPr hfl hfn
      simp only at hPr hfl
      obtain rfl : s1 = j := hfl.1
      obtain ⟨_, hs2, hs3⟩ := hfl
      have Hfn := Lib.hid hfn
      have Hst := Lib.hid hst
      clear hfn hst
      obtain ⟨hcp, hcg⟩ := Hgets.out s1 hlt
      rw [hx] at hcg
      cases hcg
      have hdl := dec_low (p.drop (bnd p s1)) (drop_ne' hcp)
      have hdp := dec_pos (p.drop (bnd p s1))
      have hdle := dec_le (p.drop (bnd p s1)) (drop_ne' hcp)
      rw [List.length_drop] at hdle
      have hpl2 := hpq 0
      rw [List.drop_zero] at hpl2
      obtain ⟨ca, hca⟩ : ∃ ca, bnd p s1 = ca := ⟨_, rfl⟩
      rw [hca] at hx Hfn hdl hcp hdp hdle
      obtain ⟨⟨cr, d⟩, hrd⟩ : ∃ x, dec (p.drop ca) = x := ⟨_, rfl⟩
      rw [hrd] at hx Hfn hdl hdp hdle
      simp only at hx Hfn hdl hdp hdle
      have hd : (dec (p.drop (ca, cr).1)).2 = d := by rw [hrd]
      have hd13 : cr = 13 → d = 1 := fun h => by obtain ⟨_, _, _, _, h3⟩ := hdl (by omega); exact h3
      clear hdl hrd hca
      have p1 := hPr.cell 1 _ rfl
      have p3 := hPr.cell 3 _ rfl
      have pf := hPr.free
      have hB3 := (hPr.set 1 (.int .i64 ((s1 : Int) + 1))).set 3 (.int .i64 ((s3 : Int) + 1))
      have hBut3 := (hBut.set 1 (.int .i64 ((s1 : Int) + 1))).set 3 (.int .i64 ((s3 : Int) + 1))
      have hb3 : Below w.heap.size w ((wr.setCell ⟨w.heap.size + 1, 1, none⟩ (.int .i64 ((s1 : Int) + 1))).setCell ⟨w.heap.size + 1, 3, none⟩ (.int .i64 ((s3 : Int) + 1))) := (hbr.setCell (p := ⟨w.heap.size + 1, 1, none⟩) (by simp) _).setCell (p := ⟨w.heap.size + 1, 3, none⟩) (by simp) _
      have ws : IntKind.i64.wrap ((ca : Int) + (d : Int)) = (ca : Int) + (d : Int) := IntWalk.i64_in _ (by omega)
      clear hPr hBut
      go_wp2_with fail
      generalize ((wr.setCell ⟨w.heap.size + 1, 1, none⟩ (.int .i64 ((s1 : Int) + 1))).setCell ⟨w.heap.size + 1, 3, none⟩ (.int .i64 ((s3 : Int) + 1))) = W3 at hB3 hBut3 hb3 ⊢
      clear p1 p3 pf hbr
      have c0 : W3.cell? ⟨g, s1 * 3, none⟩ = some (.int .i64 ca) := hBut3.cell (hgc s1 _ hx 0 _ rfl) (by simp only; omega)
      have c1 : W3.cell? ⟨g, s1 * 3 + 1, none⟩ = some (.int .i64 cr) := hBut3.cell (hgc s1 _ hx 1 _ rfl) (by simp only; omega)
      have c2 : W3.cell? ⟨g, s1 * 3 + 2, none⟩ = some (.int .i64 d) := by
        have := hBut3.cell (hgc s1 _ hx 2 _ rfl) (by simp only; omega)
        rwa [hd] at this
      have p2 := hB3.cell 2 (.int .i64 s2) rfl
      have p3 := hB3.cell 3 (.int .i64 ((s3 : Int) + 1)) rfl
      have pf := hB3.free
      have hq := fun (h : ca + 1 < q.length) => (H4.out.below hb3) (ca + 1) h
      clear hgc hx hd
      have hcase : (cr = 13 ∧ ca + 1 < q.length ∧ q.getD (ca + 1) 0 = 10) ∨ (cr = 13 ∧ ca + 1 < q.length ∧ q.getD (ca + 1) 0 ≠ 10) ∨ (cr = 13 ∧ ¬ ca + 1 < q.length) ∨ cr = 10 ∨ (cr ≠ 13 ∧ cr ≠ 10) := by
        by_cases h1 : cr = 13
        · by_cases h2 : ca + 1 < q.length
          · by_cases h3 : q.getD (ca + 1) 0 = 10
            · exact .inl ⟨h1, h2, h3⟩
            · exact .inr (.inl ⟨h1, h2, h3⟩)
          · exact .inr (.inr (.inl ⟨h1, h2⟩))
        · by_cases h2 : cr = 10
          · exact .inr (.inr (.inr (.inl h2)))
          · exact .inr (.inr (.inr (.inr ⟨h1, h2⟩)))
      have h10 : ∀ y : UInt8, ((y.toNat : Int) == 10) = decide (y = 10) := fun y => by
        rw [Bool.eq_iff_iff, beq_iff_eq, decide_eq_true_iff]
        constructor
        · intro h; apply UInt8.toNat_inj.1; simp; omega
        · intro h; subst h; rfl
      go_quiet (fail)
      rcases hcase with ⟨rfl, hl, hy⟩ | ⟨rfl, hl, hy⟩ | ⟨rfl, hl⟩ | rfl | ⟨hn13, hn10⟩
      · obtain rfl := hd13 rfl
        have hst2 : plStep q (s1, s2, s3) (ca, 13) = (s1 + 1, s2, s3 + 1) := by
          unfold plStep; rw [if_neg]; rintro (h | ⟨_, h | h⟩)
          · simp at h
          · simp only at h; omega
          · exact h hy
        have hyb := h10 (q.getD (ca + 1) 0)
        rw [decide_eq_true hy] at hyb
        have qc := hq hl
        obtain ⟨Y, hY⟩ : ∃ Y, (q.getD (ca + 1) 0).toNat = Y := ⟨_, rfl⟩
        rw [hY] at qc hyb
        have hlb : decide ((ca : Int) + 1 < (q.length : Int)) = true := by simp; omega
        clear hq hY hy h10
        go_wp2_with fail
        go_round
        case rel => exact ⟨s1 + 1, by omega, by go_num, by rw [Hfn.out, hst2]; push_cast; exact hB3.drewN _, hBut3, below_drewN hb3 _⟩
        case measure => simp [intOf]; omega
      · obtain rfl := hd13 rfl
        have hst2 : plStep q (s1, s2, s3) (ca, 13) = (s1 + 1, s2 + 1, 1) := by
          unfold plStep; rw [if_pos (.inr ⟨rfl, .inr hy⟩)]
        have hyb := h10 (q.getD (ca + 1) 0)
        rw [decide_eq_false hy] at hyb
        have qc := hq hl
        obtain ⟨Y, hY⟩ : ∃ Y, (q.getD (ca + 1) 0).toNat = Y := ⟨_, rfl⟩
        rw [hY] at qc hyb
        have hlb : decide ((ca : Int) + 1 < (q.length : Int)) = true := by simp; omega
        clear hq hY hy h10
        go_wp2_with fail
        go_round
        case rel => exact ⟨s1 + 1, by omega, by go_num, by rw [Hfn.out, hst2]; push_cast; exact ((hB3.set 2 (.int .i64 ((s2 : Int) + 1))).set 3 (.int .i64 1)).drewN _, (hBut3.set 2 (.int .i64 ((s2 : Int) + 1))).set 3 (.int .i64 1), below_drewN ((hb3.setCell (p := ⟨w.heap.size + 1, 2, none⟩) (by simp) _).setCell (p := ⟨w.heap.size + 1, 3, none⟩) (by simp) _) _⟩
        case measure => simp [intOf]; omega
      · obtain rfl := hd13 rfl
        have hst2 : plStep q (s1, s2, s3) (ca, 13) = (s1 + 1, s2 + 1, 1) := by
          unfold plStep; rw [if_pos (.inr ⟨rfl, .inl (by simp only; omega)⟩)]
        have hlb : decide ((ca : Int) + 1 < (q.length : Int)) = false := by simp; omega
        clear hq h10
        go_wp2_with fail
        go_round
        case rel => exact ⟨s1 + 1, by omega, by go_num, by rw [Hfn.out, hst2]; push_cast; exact ((hB3.set 2 (.int .i64 ((s2 : Int) + 1))).set 3 (.int .i64 1)).drewN _, (hBut3.set 2 (.int .i64 ((s2 : Int) + 1))).set 3 (.int .i64 1), below_drewN ((hb3.setCell (p := ⟨w.heap.size + 1, 2, none⟩) (by simp) _).setCell (p := ⟨w.heap.size + 1, 3, none⟩) (by simp) _) _⟩
        case measure => simp [intOf]; omega
      · have hst2 : plStep q (s1, s2, s3) (ca, 10) = (s1 + 1, s2 + 1, 1) := by
          unfold plStep; rw [if_pos (.inl rfl)]
        clear hq h10
        go_wp2_with fail
        go_round
        case rel => exact ⟨s1 + 1, by omega, by go_num, by rw [Hfn.out, hst2]; push_cast; exact ((hB3.set 2 (.int .i64 ((s2 : Int) + 1))).set 3 (.int .i64 1)).drewN _, (hBut3.set 2 (.int .i64 ((s2 : Int) + 1))).set 3 (.int .i64 1), below_drewN ((hb3.setCell (p := ⟨w.heap.size + 1, 2, none⟩) (by simp) _).setCell (p := ⟨w.heap.size + 1, 3, none⟩) (by simp) _) _⟩
        case measure => simp [intOf]; omega
      · have hst2 : plStep q (s1, s2, s3) (ca, cr) = (s1 + 1, s2, s3 + 1) := by
          unfold plStep; rw [if_neg]; rintro (h | ⟨h, _⟩)
          · exact hn10 h
          · exact hn13 h
        have b13 : ((cr : Int) == 13) = false := by simp; omega
        have b10 : ((cr : Int) == 10) = false := by simp; omega
        clear hq h10
        go_wp2_with fail
        go_round
        case rel => exact ⟨s1 + 1, by omega, by go_num, by rw [Hfn.out, hst2]; push_cast; exact hB3.drewN _, hBut3, below_drewN hb3 _⟩
        case measure => simp [intOf]; omega
    · obtain rfl : j = cs.length := by omega
      rw [List.take_length] at hPr
      have hRr : Blk wr w.heap.size #[.int .i64 0, .int .i64 0, .int .i64 0, .int .i64 0] 111 := (hBut _ (by omega) (by omega)).trans hR1
      have r0 := hPr.cell 0 _ rfl
      have r1 := hPr.cell 1 _ rfl
      have r2 := hPr.cell 2 _ rfl
      have r3 := hPr.cell 3 _ rfl
      have o0 := hRr.cell 0 _ rfl
      have o1 := hRr.cell 1 _ rfl
      have o2 := hRr.cell 2 _ rfl
      have o3 := hRr.cell 3 _ rfl
      have rf := hRr.free
      go_wp2_with fail
      have B9 := (((hRr.set 0 (.int .i64 a)).set 1 (.int .i64 (plFold q cs).1)).set 2 (.int .i64 (plFold q cs).2.1)).set 3 (.int .i64 (plFold q cs).2.2)
      have hb9 := (((hbr.setCell (p := ⟨w.heap.size, 0, none⟩) (Nat.le_refl _) (.int .i64 a)).setCell (p := ⟨w.heap.size, 1, none⟩) (Nat.le_refl _) (.int .i64 (plFold q cs).1)).setCell (p := ⟨w.heap.size, 2, none⟩) (Nat.le_refl _) (.int .i64 (plFold q cs).2.1)).setCell (p := ⟨w.heap.size, 3, none⟩) (Nat.le_refl _) (.int .i64 (plFold q cs).2.2)
      generalize ((((wr.setCell ⟨w.heap.size, 0, none⟩ (.int .i64 a)).setCell ⟨w.heap.size, 1, none⟩ (.int .i64 (plFold q cs).1)).setCell ⟨w.heap.size, 2, none⟩ (.int .i64 (plFold q cs).2.1)).setCell ⟨w.heap.size, 3, none⟩ (.int .i64 (plFold q cs).2.2)) = w9 at B9 hb9 ⊢
      have q0 := B9.cell 0 (.int .i64 a) rfl
      have q1 := B9.cell 1 (.int .i64 (plFold q cs).1) rfl
      have q2 := B9.cell 2 (.int .i64 (plFold q cs).2.1) rfl
      have q3 := B9.cell 3 (.int .i64 (plFold q cs).2.2) rfl
      unfold plV
      exact bodyPost_ret (v := .tuple #[.agg #[.int .i64 a, .int .i64 (plFold q cs).1, .int .i64 (plFold q cs).2.1, .int .i64 (plFold q cs).2.2], .int .i64 0]) (by simp [results, Tryd.results49, go_sem, q0, q1, q2, q3]) rfl ⟨rfl, hb9⟩
set_option maxRecDepth 100000 in
set_option maxHeartbeats 4000000 in
/-- gimletref10.At. -/
theorem at10_some (b off cap : Nat) (q : List UInt8) (a : Nat) (w : World) (h2 : q.length ≤ cap) (h3 : b < w.heap.size) (h4 : Cells w b off q) (hn : q.length ≤ 1000000000) (ha : a ≤ q.length) :
    Calls Tryd.prog 26 #[.slice (some ⟨b, off, none⟩) q.length cap, .int .i64 a] w fun e w' => e = .returned (plV (place q a)) ∧ Below w.heap.size w w' := by
  have hb0 : Below w.heap.size w (w.alloc (.cells #[.int .i64 0, .int .i64 0, .int .i64 0, .int .i64 0] 35)) := (Below.refl _ w).alloc (Nat.le_refl _) _
  have hA := at01_some b off cap q a _ h2 (Nat.lt_of_lt_of_le h3 hb0.size) (h4.below hb0) hn ha
  obtain ⟨P, hP⟩ : ∃ P, place q a = P := ⟨_, rfl⟩
  rw [hP] at hA ⊢
  unfold plV at hA ⊢
  clear h4 hP
  go_enter Tryd.func26, Tryd.ntmps26
  go_wp2_with fail
  refine hA.mono ?_
  rintro e w1 ⟨rfl, hb1⟩
  have hR1 := (Blk.new w #[.int .i64 0, .int .i64 0, .int .i64 0, .int .i64 0] 35).below hb1
  have hb01 := hb0.trans (hb1.mono hb0.size)
  have hR2 := hR1.alloc (.cells #[.int .i64 P.byte, .int .i64 P.rune, .int .i64 P.line, .int .i64 P.col] 111)
  have hb02 := hb01.alloc hb01.size (.cells #[.int .i64 P.byte, .int .i64 P.rune, .int .i64 P.line, .int .i64 P.col] 111)
  have o0 := fun o => (hR1.alloc o).cell 0 _ rfl
  have o1 := fun o => (hR1.alloc o).cell 1 _ rfl
  have o2 := fun o => (hR1.alloc o).cell 2 _ rfl
  have o3 := fun o => (hR1.alloc o).cell 3 _ rfl
  have rf := fun o => (hR1.alloc o).free
  go_wp2_with fail
  have B9 := (((hR2.set 0 (.int .i64 P.byte)).set 1 (.int .i64 P.rune)).set 2 (.int .i64 P.line)).set 3 (.int .i64 P.col)
  have hb9 := (((hb02.setCell (p := ⟨w.heap.size, 0, none⟩) (Nat.le_refl _) (.int .i64 P.byte)).setCell (p := ⟨w.heap.size, 1, none⟩) (Nat.le_refl _) (.int .i64 P.rune)).setCell (p := ⟨w.heap.size, 2, none⟩) (Nat.le_refl _) (.int .i64 P.line)).setCell (p := ⟨w.heap.size, 3, none⟩) (Nat.le_refl _) (.int .i64 P.col)
  generalize (((((w1.alloc (.cells #[.int .i64 P.byte, .int .i64 P.rune, .int .i64 P.line, .int .i64 P.col] 111)).setCell ⟨w.heap.size, 0, none⟩ (.int .i64 P.byte)).setCell ⟨w.heap.size, 1, none⟩ (.int .i64 P.rune)).setCell ⟨w.heap.size, 2, none⟩ (.int .i64 P.line)).setCell ⟨w.heap.size, 3, none⟩ (.int .i64 P.col)) = w9 at B9 hb9 ⊢
  have q0 := B9.cell 0 (.int .i64 P.byte) rfl
  have q1 := B9.cell 1 (.int .i64 P.rune) rfl
  have q2 := B9.cell 2 (.int .i64 P.line) rfl
  have q3 := B9.cell 3 (.int .i64 P.col) rfl
  exact bodyPost_ret (v := .agg #[.int .i64 P.byte, .int .i64 P.rune, .int .i64 P.line, .int .i64 P.col]) (by simp [results, Tryd.results26, go_sem, q0, q1, q2, q3]) rfl ⟨rfl, hb9⟩
end Go.Proofs.YtjmejlncomaclaaDoor.Lx
