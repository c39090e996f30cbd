/- gimletlaw10.LexisPieces is true where both texts are words. Condition: the tables; at most 10000000 bytes each. -/
import Derived.Test.YtjmejlncomaclaaDoorLxEq
import Derived.Deep.RegionHeld3
namespace Go.Proofs.YtjmejlncomaclaaDoor.Lx
open Go.RowKit

theorem row_shape {w : World} {base : Nat} {T : TypeId} {v : Value} {n : Nat} {xs : List Value} (h : w.ownsRow base T 7 v n xs) : ∃ o c, v = .slice o n c ∧ n ≤ 9223372036854775807 ∧
    (0 < n → ∃ g, o = some ⟨g, 0, none⟩ ∧ g < w.heap.size ∧ ∀ j u, j < n * 7 → xs[j]? = some u → w.cell? ⟨g, j, none⟩ = some u) := by
  have hown := h
  rcases h.2 with ⟨hv, h0⟩ | ⟨g, cap, cur, rfl, hg, hh, hcc, hml⟩
  · subst h0
    exact ⟨none, 0, hv, by omega, fun h => absurd h (by omega)⟩
  · exact ⟨_, _, rfl, Nat.le_trans hcc (Nat.le_trans hml.1 (by decide)), fun _ => ⟨g, rfl, (Array.getElem?_eq_some_iff.1 hh).1, fun j u hj hu => (hown.cellAt j hj).trans hu⟩⟩
/-- The making of bytes out of a text, as an operation (named, so that a region's walk doesn't try to take it ahead of the others). -/
abbrev toBytes (d : Operand) : Op := .convert 9 22 d
set_option maxRecDepth 100000 in
set_option maxHeartbeats 4000000 in
/-- LexisPieces, where both texts are words. -/
theorem pieces_ok (vp vq : Value) (p q : List UInt8) (lp lq : List (Wd × Nat)) (n : Int) (w : World) (hV : Vars w) (hp : RB w vp p) (hq : RB w vq q) (hnp : p.length ≤ 10000000) (hnq : q.length ≤ 10000000) (hw : words p = .ok lp) (hw2 : words q = .ok lq) :
    Calls Tryd.prog 3 #[vp, vq, .int .i64 n] w fun e w' => e = .returned (.bool true) ∧ Below w.heap.size w w' := by
  have hA := awake_any w hV
  have n1 : -5 < n.tmod 5 := Int.lt_tmod_of_pos n (by decide)
  have n2 : n.tmod 5 < 5 := Int.tmod_lt_of_pos n (by decide)
  obtain ⟨m, hm, hm5⟩ : ∃ m : Nat, (n.tmod 5 + 5).tmod 5 = (m : Int) ∧ m < 5 := by
    rw [Int.tmod_eq_emod_of_nonneg (by omega)]
    exact ⟨((n.tmod 5 + 5) % 5).toNat, by omega, by omega⟩
  have hm0 : IntKind.i64.wrap (n.tmod 5 + 5) = n.tmod 5 + 5 := IntWalk.i64_in _ (by omega)
  obtain ⟨G, hG⟩ : ∃ G, gaps[m]? = some G := ⟨_, List.getElem?_eq_getElem (by simpa [gaps] using hm5)⟩
  have hgv := gap_val m G hG
  obtain ⟨SG, hSG⟩ : ∃ S, (⟨G.toArray⟩ : ByteArray) = S := ⟨_, rfl⟩
  have hgl : SG.data.toList = G := by rw [← hSG]
  rw [hSG] at hgv
  clear hSG
  have HGl := Lib.hid hgl
  clear hgl
  have HV := Lib.hid hV
  have hWp := fun W (hb : Below w.heap.size w W) => words_any vp p W (hV.below hb) (RB.below hp hb) (by omega)
  have hWq := fun W (hb : Below w.heap.size w W) => words_any vq q W (hV.below hb) (RB.below hq hb) (by omega)
  have hCp := fun W (hb : Below w.heap.size w W) => str_of_RB (RB.below hp hb)
  have hCq := fun W (hb : Below w.heap.size w W) => str_of_RB (RB.below hq hb)
  have HWp := Lib.hid hWp
  have HWq := Lib.hid hWq
  have HCp := Lib.hid hCp
  have HCq := Lib.hid hCq
  have Hw := Lib.hid hw
  have Hw2 := Lib.hid hw2
  have HG := Lib.hid hG
  have Hp := Lib.hid hp
  clear hWp hWq hCp hCq hw hw2 hG hV hp hq
  go_enter Tryd.func3, Tryd.ntmps3
  go_wp2_with fail
  refine hA.mono ?_
  rintro e w1 ⟨rfl, hb1⟩
  go_wp2_with fail
  refine (HWp.out _ (hb1.alloc hb1.size _)).mono ?_
  rintro e w2 h
  obtain ⟨v1, rfl, hr1, hb2⟩ := h.ok lp Hw.out
  clear h
  have hb02 := (hb1.alloc hb1.size _).trans (hb2.mono (Below.size (hb1.alloc hb1.size _)))
  go_wp2_with fail
  refine (HWq.out _ hb02).mono ?_
  rintro e w3 h
  obtain ⟨v2, rfl, hr2, hb3⟩ := h.ok lq Hw2.out
  clear h
  have hb03 := hb02.trans (hb3.mono hb02.size)
  obtain ⟨o1, c1, rfl, hl1, hs1⟩ := row_shape hr1.1
  obtain ⟨o2, c2, rfl, hl2, hs2⟩ := row_shape hr2.1
  have Hs1 := Lib.hid hs1
  have Hs2 := Lib.hid hs2
  clear hr1 hr2 hs1 hs2
  have cP := HCp.out _ hb03
  have cQ := HCq.out _ hb03
  obtain ⟨SP, hSP⟩ : ∃ S, (⟨p.toArray⟩ : ByteArray) = S := ⟨_, rfl⟩
  obtain ⟨SQ, hSQ⟩ : ∃ S, (⟨q.toArray⟩ : ByteArray) = S := ⟨_, rfl⟩
  rw [hSP] at cP
  rw [hSQ] at cQ
  have hQ : (SP ++ SG ++ SQ).data.toList = p ++ (G ++ q) := by
    rw [← hSP, ← hSQ]
    simp [HGl.out]
  have z1 : SP.size ≤ 10000000 := by rw [← hSP, Lib.size_eq]; exact hnp
  have z2 : SQ.size ≤ 10000000 := by rw [← hSQ, Lib.size_eq]; exact hnq
  have z3 : SG.size ≤ 3 := by rw [Lib.size_eq, HGl.out]; exact (gap_ok m G HG.out).2.2
  have z4 : (p ++ (G ++ q)).length ≤ 1000000000 := by
    have := (gap_ok m G HG.out).2.2
    simp only [List.length_append]; omega
  have HSQ := Lib.hid hSQ
  have HSP := Lib.hid hSP
  clear hSP hSQ
  obtain ⟨C, w4, cB, hRB, hb4⟩ := bytes_of_str w3 (SP ++ SG ++ SQ)
  have hb04 := hb03.trans (hb4.mono hb03.size)
  rw [hQ] at hRB
  have HQ := Lib.hid hQ
  simp only [ByteArray.size_append] at hRB
  have HRB := Lib.hid hRB
  have Hb3 := Lib.hid hb3
  have Hb4 := Lib.hid hb4
  have hW4 := words_any _ _ w4 (HV.out.below hb04) hRB z4
  clear hQ hRB hb3 hb4 z4
  go_wp2_with fail
  refine hW4.mono ?_
  rintro e w5 h
  have gok := gap_ok m G HG.out
  obtain ⟨v3, rfl, hr3, hb5⟩ := h.ok _ (words_join p G q gok.1 gok.2.1 lp lq Hw.out Hw2.out)
  have hb05 := hb04.trans (hb5.mono hb04.size)
  obtain ⟨o3, c3, rfl, hl3, hs3⟩ := row_shape hr3.1
  have Hs3 := Lib.hid hs3
  clear hr3 hs3 h gok
  simp only [List.length_append, List.length_map] at hl3
  have hB3 := Hb3.out
  have hB4 := (Hb4.out).mono (Nat.le_refl _)
  have hB25 : Below w2.heap.size w2 w5 := (hB3.trans (hB4.mono hB3.size)).trans (hb5.mono (hB3.trans (hB4.mono hB3.size)).size)
  have hB35 : Below w3.heap.size w3 w5 := hB4.trans (hb5.mono hB4.size)
  clear hB3 hB4 hb5
  have hcp := fun y hy => cover_lt p lp 0 (words_cover p lp Hw.out) y hy
  have hcq := fun y hy => cover_lt q lq 0 (words_cover q lq Hw2.out) y hy
  have Hcp := Lib.hid hcp
  have Hcq := Lib.hid hcq
  clear hcp hcq
  have EW := eq_word
  go_wp2_with fail
  go_loopw [15] (fun i wr => ∃ j : Nat, j ≤ lp.length + lq.length ∧ i = .int .i64 j ∧ Below w5.heap.size w5 wr) (fun i _ => lp.length + lq.length - (intOf i).toNat)
  case atStart => exact ⟨0, Nat.zero_le _, rfl, Below.refl _ _⟩
  case round =>
    obtain ⟨j, hj, rfl, hbr⟩ := hrel
    by_cases hlt : j < lp.length + lq.length
    · obtain ⟨g3, rfl, hg3, hcl3⟩ := Hs3.out (by simp only [List.length_append, List.length_map]; omega)
      by_cases hl : j < lp.length
      · obtain ⟨g1, rfl, hg1, hcl1⟩ := Hs1.out (by omega)
        obtain ⟨⟨x, s⟩, hx⟩ : ∃ x, lp[j]? = some x := ⟨_, List.getElem?_eq_getElem hl⟩
        have hs := Hcp.out (x, s) (List.mem_of_getElem? hx)
        have hpl := place_left p (G ++ q) s hs
        have hx3 : (lp ++ lq.map fun y => (y.1, p.length + G.length + y.2))[j]? = some (x, s) := by rw [List.getElem?_append_left hl]; exact hx
        have f1 : ∀ f u, f < 7 → (wdCells p (x, s))[f]? = some u → wr.cell? ⟨g1, j * 7 + f, none⟩ = some u := fun f u hf hu =>
          cell_kept hbr (cell_kept hB25 (hcl1 _ u (by omega) (wdRow_get p lp j _ hx f u hf hu)))
        have f3 : ∀ f u, f < 7 → (wdCells (p ++ (G ++ q)) (x, s))[f]? = some u → wr.cell? ⟨g3, j * 7 + f, none⟩ = some u := fun f u hf hu =>
          cell_kept hbr (hcl3 _ u (by simp only [List.length_append, List.length_map]; omega) (wdRow_get _ _ j _ hx3 f u hf hu))
        unfold wdCells at f1 f3
        rw [hpl] at f3
        generalize place p s = P at f1 f3
        have a0 : wr.cell? ⟨g1, j * 7, none⟩ = some (.int .i64 x.kind) := f1 0 _ (by omega) rfl
        have a1 := f1 1 _ (by omega) rfl
        have a2 := f1 2 _ (by omega) rfl
        have a3 := f1 3 _ (by omega) rfl
        have a4 := f1 4 _ (by omega) rfl
        have a5 := f1 5 _ (by omega) rfl
        have a6 := f1 6 _ (by omega) rfl
        have b0 : wr.cell? ⟨g3, j * 7, none⟩ = some (.int .i64 x.kind) := f3 0 _ (by omega) rfl
        have b1 := f3 1 _ (by omega) rfl
        have b2 := f3 2 _ (by omega) rfl
        have b3 := f3 3 _ (by omega) rfl
        have b4 := f3 4 _ (by omega) rfl
        have b5 := f3 5 _ (by omega) rfl
        have b6 := f3 6 _ (by omega) rfl
        clear f1 f3 hx3 hpl hs hx hcl1 hcl3
        go_wp2_with fail
        go_quiet (fail)
        go_wp2_with fail
        go_round
        case rel => exact ⟨j + 1, by omega, by go_num, below_drewN hbr _⟩
        case measure => simp [intOf]; omega
      · obtain ⟨i, rfl⟩ : ∃ i, j = lp.length + i := ⟨j - lp.length, by omega⟩
        obtain ⟨g2, rfl, hg2, hcl2⟩ := Hs2.out (by omega)
        obtain ⟨⟨x, s⟩, hx⟩ : ∃ x, lq[i]? = some x := ⟨_, List.getElem?_eq_getElem (by omega)⟩
        have hs : s < q.length := Hcq.out (x, s) (List.mem_of_getElem? hx)
        have hx3 : (lp ++ lq.map fun y => (y.1, p.length + G.length + y.2))[lp.length + i]? = some (x, p.length + G.length + s) := by
          rw [List.getElem?_append_right (by omega), Nat.add_sub_cancel_left, List.getElem?_map, hx]; rfl
        have f2 : ∀ f u, f < 7 → (wdCells q (x, s))[f]? = some u → wr.cell? ⟨g2, i * 7 + f, none⟩ = some u := fun f u hf hu =>
          cell_kept hbr (cell_kept hB35 (hcl2 _ u (by omega) (wdRow_get q lq i _ hx f u hf hu)))
        have f3 : ∀ f u, f < 7 → (wdCells (p ++ (G ++ q)) (x, p.length + G.length + s))[f]? = some u → wr.cell? ⟨g3, (lp.length + i) * 7 + f, none⟩ = some u := fun f u hf hu =>
          cell_kept hbr (hcl3 _ u (by simp only [List.length_append, List.length_map]; omega) (wdRow_get _ _ _ _ hx3 f u hf hu))
        have hCq := HCq.out wr (hb05.trans (hbr.mono hb05.size))
        rw [HSQ.out] at hCq
        have hcB := fun W => Lib.run_convert_string_bytes (P := Tryd.prog) W 9 22 5 (SP ++ SG ++ SQ) Tryd.underlying9 Tryd.underlying22 Tryd.underlying5
        have c2 : wr.cell? ⟨g2, i * 7 + 3, none⟩ = some (.int .i64 s) := f2 3 _ (by omega) rfl
        have hWs : w5.heap.size ≤ wr.heap.size := hbr.size
        have F2 := Lib.hid f2
        have F3 := Lib.hid f3
        have Hbr := Lib.hid hbr
        have hS : ∀ W, Below wr.heap.size wr W → W.cell? ⟨g2, i * 7 + 3, none⟩ = some (.int .i64 s) ∧ (convert 22 9 vq).run Tryd.prog W = .ok (.string SQ) W ∧ Below wr.heap.size wr W := fun W hW => by
          refine ⟨cell_kept hW (f2 3 _ (by omega) rfl), ?_, hW⟩
          have h0 := hb05.trans (hbr.mono hb05.size)
          have := HCq.out W (h0.trans (hW.mono h0.size))
          rwa [HSQ.out] at this
        have hBW : ∀ W, Below wr.heap.size wr W → Below wr.heap.size wr (Lib.bytesWorld W 5 (SP ++ SG ++ SQ)) := fun W hW => hW.trans ⟨rfl, rfl, rfl, by rw [Lib.bytesWorld_size]; omega, fun k hk => Lib.bytesWorld_at_old W 5 _ k (Nat.lt_of_lt_of_le hk hW.size)⟩
        clear f2 f3 hbr hcl2 hcl3 hx hx3
        have g2lt : g2 < wr.heap.size := World.block_lt_of_cell? wr _ c2
        have s1 : IntKind.i64.wrap ((lp.length : Int) + (i : Int) - (lp.length : Int)) = (i : Int) := by rw [IntWalk.i64_in _ (by omega)]; omega
        have s2 : IntKind.i64.wrap ((SP.size : Int) + (SG.size : Int) + (s : Int)) = (SP.size : Int) + (SG.size : Int) + (s : Int) := IntWalk.i64_in _ (by omega)
        have i1 : (0 : Int) ≤ (i : Int) := by omega
        have i2 : (i : Int) < (lq.length : Int) := by omega
        obtain ⟨P, hP⟩ : ∃ P, place (p ++ (G ++ q)) (p.length + G.length + s) = P := ⟨_, rfl⟩
        have hAt : ∀ (k C : Nat) (W : World), RB W (.slice (some ⟨k, 0, none⟩) (SP.size + SG.size + SQ.size) C) (p ++ (G ++ q)) → Below wr.heap.size wr W → Calls Tryd.prog 10 #[.slice (some ⟨k, 0, none⟩) (SP.size + SG.size + SQ.size) C, .int .i64 ((SP.size : Int) + (SG.size : Int) + (s : Int))] W fun e w' => e = .returned (.tuple #[.agg #[.int .i64 P.byte, .int .i64 P.rune, .int .i64 P.line, .int .i64 P.col], .int .i64 0]) ∧ Below wr.heap.size wr w' ∧ Below W.heap.size W w' := by
          intro k C W hR hb
          have hG3 : G.length ≤ 3 := (gap_ok m G HG.out).2.2
          have h := at_any _ (p ++ (G ++ q)) (p.length + G.length + s) W hR (by simp only [List.length_append]; omega) (by simp only [List.length_append]; omega)
          rw [hP] at h
          have e0 : ((SP.size : Int) + (SG.size : Int) + (s : Int)) = ((p.length + G.length + s : Nat) : Int) := by
            have e1 : SP.size = p.length := by rw [← HSP.out, Lib.size_eq]
            have e2 : SG.size = G.length := by rw [Lib.size_eq, HGl.out]
            rw [e1, e2]; push_cast; rfl
          rw [e0]
          exact h.mono fun e w' ⟨h1, h2⟩ => ⟨h1, hb.trans (h2.mono hb.size), h2⟩
        have hRW : ∀ W, RB (Lib.bytesWorld W 5 (SP ++ SG ++ SQ)) (.slice (some ⟨W.heap.size, 0, none⟩) (SP.size + SG.size + SQ.size) (grownCap W (SP.size + SG.size + SQ.size) 0 5)) (p ++ (G ++ q)) := fun W => by
          have hsz := Lib.size_eq (SP ++ SG ++ SQ)
          rw [HQ.out, ByteArray.size_append, ByteArray.size_append] at hsz
          refine .inr ⟨W.heap.size, 0, _, by rw [hsz], by rw [← hsz]; exact grownCap_ge W _ 0 5, (Array.getElem?_eq_some_iff.1 (Lib.bytesWorld_at_new W 5 (SP ++ SG ++ SQ))).1, fun j hj => ?_⟩
          have h := Lib.bytesWorld_cell W 5 (SP ++ SG ++ SQ) j (by rw [ByteArray.size_append, ByteArray.size_append]; omega)
          rw [HQ.out] at h
          rw [Nat.zero_add]; exact h
        have HP := Lib.hid hP
        clear hP
        go_wp2_with fail
        have hd0 : Below wr.heap.size wr wr.drew := (Below.refl _ _).drew
        have hd1 := hBW _ hd0
        have hR1 : RB (Lib.bytesWorld wr.drew 5 (SP ++ SG ++ SQ)) (.slice (some ⟨wr.heap.size, 0, none⟩) (SP.size + SG.size + SQ.size) (grownCap wr.drew (SP.size + SG.size + SQ.size) 0 5)) (p ++ (G ++ q)) := hRW wr.drew
        have hAt1 := hAt _ _ _ hR1 hd1
        have hd2 := hd1.alloc hd1.size (.cells #[.int .i64 0, .int .i64 0, .int .i64 0, .int .i64 0] 35)
        have hR2 := RB.below hR1 ((Below.refl _ (Lib.bytesWorld wr.drew 5 (SP ++ SG ++ SQ))).alloc (Nat.le_refl _) (.cells #[.int .i64 0, .int .i64 0, .int .i64 0, .int .i64 0] 35))
        have hAt2 := hAt _ _ _ hR2 hd2
        have hd3 := ((Below.refl wr.heap.size wr).alloc (Nat.le_refl _) (.cells #[.int .i64 0, .int .i64 0, .int .i64 0, .int .i64 0] 35)).drew
        have hd4 := hBW _ hd3
        have hR4 : RB (Lib.bytesWorld (wr.alloc (.cells #[.int .i64 0, .int .i64 0, .int .i64 0, .int .i64 0] 35)).drew 5 (SP ++ SG ++ SQ)) (.slice (some ⟨wr.heap.size + 1, 0, none⟩) (SP.size + SG.size + SQ.size) (grownCap (wr.alloc (.cells #[.int .i64 0, .int .i64 0, .int .i64 0, .int .i64 0] 35)).drew (SP.size + SG.size + SQ.size) 0 5)) (p ++ (G ++ q)) := by
          have h := hRW (wr.alloc (.cells #[.int .i64 0, .int .i64 0, .int .i64 0, .int .i64 0] 35)).drew
          rw [show (wr.alloc (.cells #[.int .i64 0, .int .i64 0, .int .i64 0, .int .i64 0] 35)).drew.heap.size = wr.heap.size + 1 from World.size_alloc _ _] at h
          exact h
        have hAt4 := hAt _ _ _ hR4 hd4
        have hBk4 : Blk (Lib.bytesWorld (wr.alloc (.cells #[.int .i64 0, .int .i64 0, .int .i64 0, .int .i64 0] 35)).drew 5 (SP ++ SG ++ SQ)) wr.heap.size #[.int .i64 0, .int .i64 0, .int .i64 0, .int .i64 0] 35 :=
          (Lib.bytesWorld_at_old (wr.alloc (.cells #[.int .i64 0, .int .i64 0, .int .i64 0, .int .i64 0] 35)).drew 5 (SP ++ SG ++ SQ) wr.heap.size (by rw [show (wr.alloc (.cells #[.int .i64 0, .int .i64 0, .int .i64 0, .int .i64 0] 35)).drew.heap.size = wr.heap.size + 1 from World.size_alloc _ _]; omega)).trans (Blk.new wr _ _)
        have zz : ¬ 9223372036854775807 < SP.size + SG.size + SQ.size := by omega
        rw [show Op.convert 9 22 (Operand.tmp 107) = toBytes (Operand.tmp 107) from rfl]
        go_region_held3 (fun w' => w'.cell? ⟨g2, i * 7 + 3, none⟩ = some (.int .i64 s) ∧ (convert 22 9 vq).run Tryd.prog w' = .ok (.string SQ) w' ∧ Below wr.heap.size wr w')
          (with_reducible (first | exact hS _ hd0 | exact hS _ hd1 | exact hS _ (hb6.alloc hb6.size _) | exact hS _ hb6 | exact hS _ (hd0.alloc (Nat.le_refl _) _) | exact hS _ hd2 | exact hS _ hd3 | exact hS _ hd4 | exact hS _ ((((hb6.setCell hd1.size _).setCell hd1.size _).setCell hd1.size _).setCell hd1.size _) | exact hS _ ((((hb6.setCell (Nat.le_refl _) _).setCell (Nat.le_refl _) _).setCell (Nat.le_refl _) _).setCell (Nat.le_refl _) _)))
          (first | (go_at_call 10; with_reducible refine hAt1.mono ?_; rintro e w6 ⟨rfl, hb6, hb6'⟩) | (go_at_call 10; with_reducible refine hAt2.mono ?_; rintro e w6 ⟨rfl, hb6, hb6'⟩; have hB6 := Blk.below (Blk.new (Lib.bytesWorld wr.drew 5 (SP ++ SG ++ SQ)) #[.int .i64 0, .int .i64 0, .int .i64 0, .int .i64 0] 35) hb6'; have k0 := hB6.cell 0 _ rfl; have k1 := hB6.cell 1 _ rfl; have k2 := hB6.cell 2 _ rfl; have k3 := hB6.cell 3 _ rfl; have fr := hB6.free) | (go_at_call 10; with_reducible refine hAt4.mono ?_; rintro e w6 ⟨rfl, hb6, hb6'⟩; have hB6 := Blk.below hBk4 hb6'; have k0 := hB6.cell 0 _ rfl; have k1 := hB6.cell 1 _ rfl; have k2 := hB6.cell 2 _ rfl; have k3 := hB6.cell 3 _ rfl; have fr := hB6.free))
        rename_i hHeld
        have hb7 := hHeld.2.2
        have hbk := Blk.new w6 #[.int .i64 P.byte, .int .i64 P.rune, .int .i64 P.line, .int .i64 P.col] 35
        clear hHeld
        generalize w6.alloc (.cells #[.int .i64 P.byte, .int .i64 P.rune, .int .i64 P.line, .int .i64 P.col] 35) = W7 at hb7 hbk ⊢
        rotate_left
        rename_i hHeld
        have hb7 := hHeld.2.2
        have hbk := (((hB6.set 0 (.int .i64 P.byte)).set 1 (.int .i64 P.rune)).set 2 (.int .i64 P.line)).set 3 (.int .i64 P.col)
        clear hHeld
        generalize (((w6.setCell ⟨(Lib.bytesWorld wr.drew 5 (SP ++ SG ++ SQ)).heap.size, 0, none⟩ (.int .i64 P.byte)).setCell ⟨(Lib.bytesWorld wr.drew 5 (SP ++ SG ++ SQ)).heap.size, 1, none⟩ (.int .i64 P.rune)).setCell ⟨(Lib.bytesWorld wr.drew 5 (SP ++ SG ++ SQ)).heap.size, 2, none⟩ (.int .i64 P.line)).setCell ⟨(Lib.bytesWorld wr.drew 5 (SP ++ SG ++ SQ)).heap.size, 3, none⟩ (.int .i64 P.col) = W7 at hb7 hbk ⊢
        rotate_left
        rename_i hHeld
        have hb7 := hHeld.2.2
        have hbk := (((hB6.set 0 (.int .i64 P.byte)).set 1 (.int .i64 P.rune)).set 2 (.int .i64 P.line)).set 3 (.int .i64 P.col)
        clear hHeld
        generalize (((w6.setCell ⟨wr.heap.size, 0, none⟩ (.int .i64 P.byte)).setCell ⟨wr.heap.size, 1, none⟩ (.int .i64 P.rune)).setCell ⟨wr.heap.size, 2, none⟩ (.int .i64 P.line)).setCell ⟨wr.heap.size, 3, none⟩ (.int .i64 P.col) = W7 at hb7 hbk ⊢
        rotate_left
        all_goals
          have q0 := fun o => (hbk.alloc o).cell 0 (.int .i64 P.byte) rfl
          have q1 := fun o => (hbk.alloc o).cell 1 (.int .i64 P.rune) rfl
          have q2 := fun o => (hbk.alloc o).cell 2 (.int .i64 P.line) rfl
          have q3 := fun o => (hbk.alloc o).cell 3 (.int .i64 P.col) rfl
          have f2 := fun f u hf hu => cell_kept hb7 (F2.out f u hf hu)
          have f3 := fun f u hf hu o => cell_kept (hb7.alloc hb7.size o) (F3.out f u hf hu)
          unfold wdCells at f2 f3
          rw [HP.out] at f3
          generalize place q s = R at f2
          have a0 : W7.cell? ⟨g2, i * 7, none⟩ = some (.int .i64 x.kind) := f2 0 _ (by omega) rfl
          have a1 := f2 1 _ (by omega) rfl
          have a2 := f2 2 _ (by omega) rfl
          have a3 := f2 3 _ (by omega) rfl
          have a4 := f2 4 _ (by omega) rfl
          have a5 := f2 5 _ (by omega) rfl
          have a6 := f2 6 _ (by omega) rfl
          have b0 : ∀ o, (W7.alloc o).cell? ⟨g3, (lp.length + i) * 7, none⟩ = some (.int .i64 x.kind) := f3 0 _ (by omega) rfl
          have b1 := f3 1 _ (by omega) rfl
          have b2 := f3 2 _ (by omega) rfl
          have b3 := f3 3 _ (by omega) rfl
          have b4 := f3 4 _ (by omega) rfl
          have b5 := f3 5 _ (by omega) rfl
          have b6 := f3 6 _ (by omega) rfl
          clear f2 f3 hAt hRW hR1 hAt1 hd2 hR2 hAt2 hd3 hd4 hR4 hAt4 hBk4 hd0 hd1 hS hBW
          try clear hB6 k0 k1 k2 k3 fr
          go_wp2_with fail
          go_quiet (fail)
          go_wp2_with fail
          go_round
          case rel => exact ⟨lp.length + i + 1, by omega, by go_num, Hbr.out.trans ((below_drewN (hb7.alloc hb7.size _) _).mono Hbr.out.size)⟩
          case measure => simp [intOf]; omega
    · obtain rfl : j = lp.length + lq.length := by omega
      go_wp2_with fail
      go_ret
      exact ⟨rfl, hb05.trans (hbr.mono hb05.size)⟩
end Go.Proofs.YtjmejlncomaclaaDoor.Lx
