/- gimletref10.Words answers as lexis.Words' plain function says. Condition: at most 1000000000 bytes. -/
import Derived.Test.YtjmejlncomaclaaDoorLxD16
namespace Go.Proofs.YtjmejlncomaclaaDoor.Lx
open Go.RowKit

theorem own_set {w : World} {B : Nat} {T : TypeId} {size : Nat} {v : Value} {n : Nat} {xs : List Value} (h : w.ownsRow B T size v n xs) (a : Addr) (u : Value) (ha : a.block < B) : (w.setCell a u).ownsRow B T size v n xs := by
  obtain ⟨h1, h2⟩ := h
  refine ⟨h1, ?_⟩
  rcases h2 with h2 | ⟨g, cap, cur, a1, a2, a3, a4⟩
  · exact .inl h2
  · exact .inr ⟨g, cap, cur, a1, a2, (heap_setCell_other w a g u (by omega)).trans a3, a4⟩
set_option maxRecDepth 100000 in
set_option maxHeartbeats 20000000 in
/-- gimletref10.Words, where the bytes are no characters all through. -/
theorem refwords_some (b off cap : Nat) (q : List UInt8) (w : World) (h2 : q.length ≤ cap) (h3 : b < w.heap.size) (h4 : Cells w b off q) (hn : q.length ≤ 1000000000) :
    Calls Tryd.prog 11 #[.slice (some ⟨b, off, none⟩) q.length cap] w (RefWordsAns q w) := by
  obtain ⟨n0, hstop⟩ : ∃ n0, Stop q n0 := exists_stop q
  have hG := fun W (hb : Below w.heap.size w W) => refgood_any (.slice (some ⟨b, off, none⟩) q.length cap) q W (RB.below (.inr ⟨b, off, cap, rfl, h2, h3, h4⟩) hb) hn
  have hgl := good_le q
  have hts := fun i t => tk_step (q := q) (n0 := n0) (i := i) (t := t) hstop
  have hte := fun t => tk_end (q := q) (n0 := n0) (t := t) hstop
  have ht0 : TK q n0 0 [] := ⟨0, Nat.zero_le _, Nat.le_refl _, by rw [show bnd q 0 = 0 from rfl]; rfl, fun h => by have := bnd_lt q 0; rw [show bnd q 0 = 0 from rfl] at this; exact this⟩
  obtain ⟨G, hGe⟩ : ∃ G, good q = G := ⟨_, rfl⟩
  rw [hGe] at hgl
  simp only [hGe] at hG hts hte
  have Hts := Lib.hid hts
  have Hte := Lib.hid hte
  have Ht0 := Lib.hid ht0
  have H4 := Lib.hid h4
  have HGe := Lib.hid hGe
  clear hts hte ht0 h4 hstop hGe
  have hb2 : Below w.heap.size w ((w.alloc (.cells #[.int .i64 0, .int .i64 0, .int .i64 0, .int .i64 0] 35)).alloc (.cells #[.slice none 0 0, .bool false] 67)) := ((Below.refl _ w).alloc (Nat.le_refl _) _).alloc (by simp) _
  have hR := (Blk.new w #[.int .i64 0, .int .i64 0, .int .i64 0, .int .i64 0] 35).alloc (.cells #[.slice none 0 0, .bool false] 67)
  have hD := Blk.new (w.alloc (.cells #[.int .i64 0, .int .i64 0, .int .i64 0, .int .i64 0] 35)) #[.slice none 0 0, .bool false] 67
  rw [World.size_alloc] at hD
  have HR := Lib.hid hR
  have HD := Lib.hid hD
  have Hb2 := Lib.hid hb2
  have hG1 := hG _ ((Below.refl _ w).alloc (Nat.le_refl _) (.cells #[.int .i64 0, .int .i64 0, .int .i64 0, .int .i64 0] 35))
  clear hR hD hb2 hG
  go_enter Tryd.func11, Tryd.ntmps11
  go_wp2_with fail
  refine hG1.mono ?_
  rintro e w1 ⟨rfl, rfl⟩
  go_wp2_with fail
  go_loopw [7] (fun v wr => ∃ (i : Nat) (tv : Value) (t : List UInt8), i ≤ G ∧ v = .int .i64 i ∧ Blk wr (w.heap.size + 1) #[tv, .bool false] 67 ∧ RB wr tv t ∧ TK q n0 i t ∧ Blk wr w.heap.size #[.int .i64 0, .int .i64 0, .int .i64 0, .int .i64 0] 35 ∧ Below w.heap.size w wr) (fun v _ => G - (intOf v).toNat)
  case atStart => exact ⟨0, .slice none 0 0, [], Nat.zero_le _, rfl, HD.out, .inl ⟨rfl, rfl⟩, Ht0.out, HR.out, Hb2.out⟩
  case round =>
    obtain ⟨i, tv, t, hiG, rfl, hDr, hRt, htk, hRr, hbr⟩ := hrel
    by_cases hlt : i < G
    · obtain ⟨n, t1, t2, t3, t4⟩ := Hts.out i t htk hlt
      have hx : wr.cell? ⟨b, off + i, none⟩ = some (.int .u8 (q.getD i 0).toNat) := (H4.out.below hbr) i (by omega)
      have hT := take_any (w.heap.size + 1) tv t (q.getD i 0) wr hDr hRt t3 n t1 t2
      obtain ⟨x, hxe⟩ : ∃ x, q.getD i 0 = x := ⟨_, rfl⟩
      rw [hxe] at hx hT t4
      obtain ⟨X, hX⟩ : ∃ X, x.toNat = X := ⟨_, rfl⟩
      rw [hX] at hx hT
      have Ht4 := Lib.hid t4
      have HRr := Lib.hid hRr
      clear t1 t4 htk hRr hxe
      go_wp2_with fail
      refine hT.mono ?_
      rintro e w2 ⟨u, tv', rfl, hD2, hR2, hb2⟩
      go_wp2_with fail
      go_round
      case rel => exact ⟨i + 1, tv', _, by omega, by go_num, hD2, hR2, Ht4.out, HRr.out.belowB hb2 (by omega), hbr.trans ((hb2.mono (by omega)).mono (Nat.le_refl _))⟩
      case measure => simp [intOf]; omega
    · obtain rfl : i = G := by omega
      have hD0 := hDr.cell 0 _ rfl
      have hRf := hRr.free
      have r0 := hRr.cell 0 _ rfl
      have r1 := hRr.cell 1 _ rfl
      have r2 := hRr.cell 2 _ rfl
      have r3 := hRr.cell 3 _ rfl
      have HRr := Lib.hid hRr
      rcases Hte.out t htk with ⟨hm, rfl, hGl⟩ | ⟨hm, hGb⟩
      · obtain ⟨o, c, rfl⟩ : ∃ o c, tv = .slice o 0 c := by
          rcases hRt with ⟨rfl, _⟩ | ⟨b, off, cap, rfl, _⟩
          · exact ⟨_, _, rfl⟩
          · exact ⟨_, _, rfl⟩
        have hgb : ¬ i < q.length := by omega
        have hC := chars_any (.slice (some ⟨b, off, none⟩) q.length cap) q wr (RB.below (.inr ⟨b, off, cap, rfl, h2, h3, H4.out⟩) hbr) hn
        have hcl := charsAt_length q _ 0 (Nat.le_refl _)
        rw [← chars_eq] at hcl
        have hw : words q = match wordsF (q.length + 1) q (run 1 q) with | .ok l => .ok l | .error p => .error (p, 104) := by unfold words; rw [if_neg (by simp [hm])]; cases wordsF (q.length + 1) q (run 1 q) <;> rfl
        have hcv := fun W (hb : Below w.heap.size w W) => run_convert_bytes_arg (P := Tryd.prog) W 22 5 Tryd.underlying22 Tryd.underlying5 b off q.length cap (q.map fun b => (b.toNat : Int)) (by simp)
          (fun i hi => by rw [(H4.out.below hb) i hi]; simp [List.getD_eq_getElem?_getD, List.getElem?_eq_getElem hi]) 9 Tryd.underlying9
        have e0 : strOfNums (q.map fun b => (b.toNat : Int)) = ⟨q.toArray⟩ := by have := strOfNums_take q q.length; rwa [List.take_length] at this
        obtain ⟨S, hS⟩ : ∃ S : ByteArray, ⟨q.toArray⟩ = S := ⟨_, rfl⟩
        rw [e0, hS] at hcv
        have hSq : S.data.toList = q := by rw [← hS]
        have hSz : S.size ≤ 1000000000 := by rw [Lib.size_eq, hSq]; exact hn
        obtain ⟨X, hX⟩ : ∃ X, wordsF (q.length + 1) q (run 1 q) = X := ⟨_, rfl⟩
        rw [hX] at hw
        have HX := Lib.hid hX
        have Hw := Lib.hid hw
        have HSq := Lib.hid hSq
        have Hcv := Lib.hid hcv
        clear hm hw hX hS e0 hSq hcv htk hRt hGl hRr hDr
        go_wp2_with fail
        refine hC.mono ?_
        rintro e w2 ⟨u, rfl, hown, hb2⟩
        have hb02 := hbr.trans (hb2.mono hbr.size)
        have hcv2 := Hcv.out w2 hb02
        have hR2 := HRr.out.below hb2
        obtain ⟨o3, c3, rfl, hcc, hrow⟩ := ch_shape hown
        have Hrow := Lib.hid hrow
        have HR2 := Lib.hid hR2
        clear hown hC hrow r0 r1 r2 r3 hRf hD0 hR2
        go_wp2_with fail
        have hRlt : w.heap.size < w2.heap.size := HR2.out.lt
        have hcells : ∀ k, k < (chars q).length → ∃ g, o3 = some ⟨g, 0, none⟩ ∧ CL w2 g q := fun k hk => by
          obtain ⟨g, h1, _, _, h4⟩ := Hrow.out (by omega)
          refine ⟨g, h1, fun j hj => ?_⟩
          have hx := (chars_get q j hj).2
          exact ⟨h4 j _ hx 0 _ rfl, h4 j _ hx 1 _ rfl⟩
        have Hcells := Lib.hid hcells
        obtain ⟨i0, hi, hz0, hz1, hz2⟩ := info_parts infoWord
        have Hi := Lib.hid hi
        have Hend := Lib.hid (chars_end q)
        clear hcells hi Hrow
        go_loopw [10, 11] (fun v ci wx => ∃ (k j : Nat) (dn : List (Wd × Nat)), j ≤ (chars q).length ∧ ci = .int .i64 j ∧ q.length - skip q (bnd q j) < k ∧ X = (wordsF k q (skip q (bnd q j))).map (dn ++ ·) ∧ dn.length ≤ j ∧ wx.ownsRow w2.heap.size 37 7 v dn.length (wdRow q dn) ∧ Below w2.heap.size w2 wx) (fun _ ci _ => (chars q).length - (intOf ci).toNat)
        case atStart =>
          refine ⟨q.length + 1, 0, [], Nat.zero_le _, rfl, by omega, ?_, Nat.le_refl _, World.ownsRow_nil _ _ _ _, Below.refl _ _⟩
          rw [show skip q (bnd q 0) = run 1 q by simp [skip, show bnd q 0 = 0 from rfl], HX.out]
          cases X <;> rfl
        case round =>
          obtain ⟨k, j, dn, hjN, rfl, hk, he, hdl, hown, hb⟩ := hrel
          have Hown := Lib.hid hown
          have He := Lib.hid he
          clear hown he
          by_cases hlt : j < (chars q).length
          · obtain ⟨g, rfl, hCL0⟩ := Hcells.out j hlt
            have hCL := CL.below hCL0 hb
            have ck := (hCL j hlt).2
            have ek := (hCL j hlt).1
            have hbk := fun W => blank_any (runeN q j) W
            cases h1 : isC 1 (runeN q j) with
            | true =>
              rw [h1] at hbk
              have hsk := skip_blank q j hlt h1
              rw [hsk] at hk
              have he' := He.out
              rw [hsk] at he'
              have He' := Lib.hid he'
              clear he' hsk h1
              generalize runeN q j = r at ck hbk
              go_wp2_with fail
              refine (hbk _).mono ?_
              rintro e w3 ⟨rfl, rfl⟩
              go_wp2_with fail
              go_round
              case rel => exact ⟨k, j + 1, dn, by omega, by go_num, hk, He'.out, by omega, Hown.out, hb⟩
              case measure => simp [intOf]; omega
            | false =>
              rw [h1] at hbk
              have hsk := skip_word q j hlt h1
              rw [hsk] at hk
              have he' := He.out
              rw [hsk] at he'
              have hWd := refword_any S g c3 q j wr HSq.out hSz hlt hCL
              have hbl := (chars_get q j hlt).1
              obtain ⟨k, rfl⟩ : ∃ k', k = k' + 1 := ⟨k - 1, by omega⟩
              have hsucc := wordsF_succ k q (bnd q j)
              rw [if_pos hbl] at hsucc
              have hwl := word_le (q.drop (bnd q j)) (drop_ne' hbl)
              rw [List.length_drop] at hwl
              rw [hsucc] at he'
              have hb0x := hb02.trans (hb.mono hb02.size)
              obtain ⟨A, hA⟩ : ∃ A, bnd q j = A := ⟨_, rfl⟩
              obtain ⟨⟨x, n, ok⟩, hx⟩ : ∃ x, word (q.drop A) = x := ⟨_, rfl⟩
              unfold RefWordAns at hWd
              rw [hA] at hWd he' hwl ek hk hbl
              rw [hx] at hWd he' hwl
              simp only at he' hwl
              have hAle : A ≤ q.length := by omega
              have He' := Lib.hid he'
              have HCL := Lib.hid hCL0
              have HA := Lib.hid hA
              clear he' hsk h1 hx hsucc hA hCL hCL0
              generalize runeN q j = r at ck hbk
              cases ok with
              | false =>
                simp only at hWd
                go_wp2_with fail
                refine (hbk _).mono ?_
                rintro e w3 ⟨rfl, rfl⟩
                go_wp2_with fail
                refine hWd.mono ?_
                rintro e w4 ⟨y, u2, kk, rfl, hbe, hkk, hb4⟩
                unfold wdV
                have hb5 := hb4.alloc hb4.size (.cells #[.int .i64 y.kind, .string ⟨y.text.toArray⟩, .int .i64 y.num, .int .i64 0, .int .i64 0, .int .i64 0, .int .i64 0] 37)
                have hb06 := hb0x.trans (hb5.mono hb0x.size)
                have hb26 := hb.trans (hb5.mono hb.size)
                have ekk := ((HCL.out.below hb26) kk hkk).1
                rw [hbe] at ekk
                have hkl2 := (chars_get q kk hkk).1
                rw [hbe] at hkl2
                have hAt := at10_some b off cap q (A + n) _ h2 (Nat.lt_of_lt_of_le h3 hb06.size) (H4.out.below hb06) hn (by omega)
                obtain ⟨P, hP⟩ : ∃ P, place q (A + n) = P := ⟨_, rfl⟩
                rw [hP] at hAt
                unfold plV at hAt
                have HP := Lib.hid hP
                have hw9 : words q = .error (A + n, 104) := by rw [Hw.out, He'.out]; rfl
                have Hw9 := Lib.hid hw9
                have hkk0 : decide ((0 : Int) ≤ (kk : Int)) = true := by simp
                clear hP hw9 hWd hbe hb4
                go_wp2_with fail
                refine hAt.mono ?_
                rintro e w6 ⟨rfl, hb6⟩
                have hb07 := hb06.trans (hb6.mono hb06.size)
                have hR3 := HR2.out.below (hb26.trans (hb6.mono hb26.size))
                have s0 := hR3.cell 0 _ rfl
                have s1 := hR3.cell 1 _ rfl
                have s2 := hR3.cell 2 _ rfl
                have s3 := hR3.cell 3 _ rfl
                have sf := hR3.free
                have HR3 := Lib.hid hR3
                clear hR3 hAt
                go_wp2_with fail
                have B9 := ((((HR3.out.set 0 (.int .i64 P.byte)).set 1 (.int .i64 P.rune)).set 2 (.int .i64 P.line)).set 3 (.int .i64 P.col))
                have hb9 := ((((hb07.setCell (p := ⟨w.heap.size, 0, none⟩) (Nat.le_refl _) (.int .i64 P.byte)).setCell (p := ⟨w.heap.size, 1, none⟩) (Nat.le_refl _) (.int .i64 P.rune)).setCell (p := ⟨w.heap.size, 2, none⟩) (Nat.le_refl _) (.int .i64 P.line)).setCell (p := ⟨w.heap.size, 3, none⟩) (Nat.le_refl _) (.int .i64 P.col))
                generalize ((((w6.setCell ⟨w.heap.size, 0, none⟩ (.int .i64 P.byte)).setCell ⟨w.heap.size, 1, none⟩ (.int .i64 P.rune)).setCell ⟨w.heap.size, 2, none⟩ (.int .i64 P.line)).setCell ⟨w.heap.size, 3, none⟩ (.int .i64 P.col)) = w9 at B9 hb9 ⊢
                have qq0 := B9.cell 0 (.int .i64 P.byte) rfl
                have qq1 := B9.cell 1 (.int .i64 P.rune) rfl
                have qq2 := B9.cell 2 (.int .i64 P.line) rfl
                have qq3 := B9.cell 3 (.int .i64 P.col) rfl
                refine bodyPost_ret (v := .tuple #[.slice none 0 0, .agg #[.int .i64 P.byte, .int .i64 P.rune, .int .i64 P.line, .int .i64 P.col], .int .i64 104]) (by simp [results, Tryd.results11, go_sem, qq0, qq1, qq2, qq3]) rfl ?_
                unfold RefWordsAns
                rw [Hw9.out]
                simp only
                rw [HP.out]
                exact ⟨rfl, hb9⟩
              | true =>
                simp only at hWd
                go_wp2_with fail
                refine (hbk _).mono ?_
                rintro e w3 ⟨rfl, rfl⟩
                go_wp2_with fail
                refine hWd.mono ?_
                rintro e w4 ⟨m, rfl, hbe, hm1, hmN, hb4⟩
                unfold wdV
                have hb5 := hb4.alloc hb4.size (.cells #[.int .i64 x.kind, .string ⟨x.text.toArray⟩, .int .i64 x.num, .int .i64 0, .int .i64 0, .int .i64 0, .int .i64 0] 37)
                have hb06 := hb0x.trans (hb5.mono hb0x.size)
                have hb26 := hb.trans (hb5.mono hb.size)
                have ekk := ((HCL.out.below hb26) j hlt).1
                rw [HA.out] at ekk
                have hAt := at10_some b off cap q A _ h2 (Nat.lt_of_lt_of_le h3 hb06.size) (H4.out.below hb06) hn hAle
                obtain ⟨pl, hP⟩ : ∃ P, place q A = P := ⟨_, rfl⟩
                rw [hP] at hAt
                unfold plV at hAt
                have Hpl := Lib.hid hP
                have Hbe := Lib.hid hbe
                clear hP hWd hbe
                go_wp2_with fail
                refine hAt.mono ?_
                rintro e w5 ⟨rfl, hb6⟩
                have hk5 := (Blk.new w4 #[.int .i64 x.kind, .string ⟨x.text.toArray⟩, .int .i64 x.num, .int .i64 0, .int .i64 0, .int .i64 0, .int .i64 0] 37).below hb6
                obtain ⟨⟨c0, c1, c2, c3, c4, c5, c6⟩, ⟨f0, f1, f2, f3, f4, f5, f6⟩⟩ := cells7 hk5
                have hb07 := hb06.trans (hb6.mono hb06.size)
                have hb27 := hb26.trans (hb6.mono hb26.size)
                have hbx5 : Below w3.heap.size w3 w5 := hb5.trans (hb6.mono hb5.size)
                obtain ⟨W6, hW6⟩ : ∃ W', ((((w5.setCell ⟨w4.heap.size, 3, none⟩ (.int .i64 pl.byte)).setCell ⟨w4.heap.size, 4, none⟩ (.int .i64 pl.rune)).setCell ⟨w4.heap.size, 5, none⟩ (.int .i64 pl.line)).setCell ⟨w4.heap.size, 6, none⟩ (.int .i64 pl.col)) = W' := ⟨_, rfl⟩
                have hB6 : Below w3.heap.size w3 W6 := by
                  rw [← hW6]
                  exact ((((hbx5.setCell (p := ⟨w4.heap.size, 3, none⟩) hb4.size _).setCell (p := ⟨w4.heap.size, 4, none⟩) hb4.size _).setCell (p := ⟨w4.heap.size, 5, none⟩) hb4.size _).setCell (p := ⟨w4.heap.size, 6, none⟩) hb4.size _)
                have hs6 : W6.heap.size = w5.heap.size := by rw [← hW6]; simp only [sizeSet]
                have hown6 := ownsRow_below Hown.out hB6
                have hn6 := fun j u h => cells_new (w := W6) (l := [.int .i64 x.kind, .string ⟨x.text.toArray⟩, .int .i64 x.num, .int .i64 pl.byte, .int .i64 pl.rune, .int .i64 pl.line, .int .i64 pl.col]) (t := 37) j u h
                have hb26' := hb.trans (hB6.mono hb.size)
                rw [hs6, ← hW6] at hn6
                rw [← hW6] at hown6
                have Hown6 := Lib.hid hown6
                have Hn6 := Lib.hid hn6
                have Hb26 := Lib.hid hb26'
                have Hs6 := Lib.hid hs6
                have HW6 := Lib.hid hW6
                have hmj : IntKind.i64.wrap ((j : Int) + (m : Int)) = (j : Int) + (m : Int) := IntWalk.i64_in _ (by omega)
                clear hk5 hAt hb6 hb5 hb4 hW6 hB6 hs6 hown6 hn6 hb26' hb26 hb27 hb06 hb07 hbx5
                go_wp2_with (at_builtin; go_must (refine wpList_append_own _ rfl _ _ 25 rfl w2.heap.size 37 i0 (.agg #[.int .i64 0, .string ⟨#[]⟩, .int .i64 0, .int .i64 0, .int .i64 0, .int .i64 0, .int .i64 0]) 7 64 Tryd.underlying25 Hi.out hz0 hz1 hz2 rfl (by decide) _ _ _ rfl (Hown6.out.alloc _) ⟨w5.heap.size, 0, none⟩ 1 1 [.int .i64 x.kind, .string ⟨x.text.toArray⟩, .int .i64 x.num, .int .i64 pl.byte, .int .i64 pl.rune, .int .i64 pl.line, .int .i64 pl.col] rfl rfl Hn6.out ?c2 ?c3 ?c4 ?c5 ?_))
                case c2 => intro u hu; simp at hu; rcases hu with rfl | rfl | rfl | rfl | rfl | rfl | rfl <;> rfl
                case c3 => unfold maxLen; omega
                case c4 => omega
                case c5 => have h8 := Hb26.out.size; have h9 := Hs6.out; rw [h9] at h8; rw [← HW6.out] at h9; simp only [World.size_alloc]; omega
                · intro v' w7 hown7 hgrow7 hnil7
                  have hb7 : Below w2.heap.size w2 w7 := by
                    have h1 := Hb26.out
                    rw [← HW6.out] at h1
                    exact ((h1.alloc h1.size _).grown hgrow7 (by simp only [World.size_alloc]; have := h1.size; omega) (fun k hk => (Hown.out.lt k hk).1))
                  have hown8 : w7.ownsRow w2.heap.size 37 7 v' (dn ++ [(x, A)]).length (wdRow q (dn ++ [(x, A)])) := by
                    rw [wdRow_snoc, List.length_append]
                    unfold wdCells
                    rw [Hpl.out]
                    exact hown7
                  have Hown8 := Lib.hid hown8
                  clear hown7 hgrow7 hnil7 hown8
                  go_wp2_with fail
                  go_round
                  case rel =>
                    refine ⟨k, j + m, dn ++ [(x, A)], hmN, by go_num, ?_, ?_, by simp; omega, Hown8.out, hb7⟩
                    · rw [Hbe.out]
                      have := skip_le q (A + n) (by have := (hwl trivial).2; omega)
                      have := (hwl trivial).1
                      omega
                    · rw [Hbe.out, He'.out]
                      unfold skip
                      cases wordsF k q (A + n + run 1 (q.drop (A + n))) <;> simp [Except.map]
                  case measure => simp [intOf]; omega
          · have hjN' : j = (chars q).length := by omega
            have hX : X = .ok dn := by
              have := He.out
              rw [hjN', Hend.out, skip, List.drop_length, show run 1 [] = 0 from rfl, Nat.add_zero, wordsF_end _ _ _ (Nat.le_refl _)] at this
              rw [this]; simp [Except.map]
            have hRx := HR2.out.below hb
            have hb0x := hb02.trans (hb.mono hb02.size)
            have s0 := hRx.cell 0 _ rfl
            have s1 := hRx.cell 1 _ rfl
            have s2 := hRx.cell 2 _ rfl
            have s3 := hRx.cell 3 _ rfl
            have sf := hRx.free
            have HRx := Lib.hid hRx
            have HXe := Lib.hid hX
            clear hRx hX hjN'
            go_wp2_with fail
            have hown9 := own_set (own_set (own_set (own_set Hown.out ⟨w.heap.size, 0, none⟩ (.int .i64 0) hRlt) ⟨w.heap.size, 1, none⟩ (.int .i64 0) hRlt) ⟨w.heap.size, 2, none⟩ (.int .i64 0) hRlt) ⟨w.heap.size, 3, none⟩ (.int .i64 0) hRlt
            have B9 := ((((HRx.out.set 0 (.int .i64 0)).set 1 (.int .i64 0)).set 2 (.int .i64 0)).set 3 (.int .i64 0))
            have hb9 := ((((hb0x.setCell (p := ⟨w.heap.size, 0, none⟩) (Nat.le_refl _) (.int .i64 0)).setCell (p := ⟨w.heap.size, 1, none⟩) (Nat.le_refl _) (.int .i64 0)).setCell (p := ⟨w.heap.size, 2, none⟩) (Nat.le_refl _) (.int .i64 0)).setCell (p := ⟨w.heap.size, 3, none⟩) (Nat.le_refl _) (.int .i64 0))
            generalize ((((wr.setCell ⟨w.heap.size, 0, none⟩ (.int .i64 0)).setCell ⟨w.heap.size, 1, none⟩ (.int .i64 0)).setCell ⟨w.heap.size, 2, none⟩ (.int .i64 0)).setCell ⟨w.heap.size, 3, none⟩ (.int .i64 0)) = w9 at B9 hb9 hown9 ⊢
            have qq0 := B9.cell 0 (.int .i64 0) rfl
            have qq1 := B9.cell 1 (.int .i64 0) rfl
            have qq2 := B9.cell 2 (.int .i64 0) rfl
            have qq3 := B9.cell 3 (.int .i64 0) rfl
            refine bodyPost_ret (v := .tuple #[u10, .agg #[.int .i64 0, .int .i64 0, .int .i64 0, .int .i64 0], .int .i64 0]) (by simp [results, Tryd.results11, go_sem, qq0, qq1, qq2, qq3]) rfl ?_
            unfold RefWordsAns
            rw [Hw.out, HXe.out]
            exact ⟨_, rfl, ownsRow_base hown9 (Nat.le_of_lt hRlt), hb9⟩
      · have hw : words q = .error (i, 103) := by unfold words; rw [if_pos hm, HGe.out]
        have hAt := at10_some b off cap q i wr h2 (Nat.lt_of_lt_of_le h3 hbr.size) (H4.out.below hbr) hn hgl
        obtain ⟨P, hP⟩ : ∃ P, place q i = P := ⟨_, rfl⟩
        rw [hP] at hAt
        unfold plV at hAt
        have HP := Lib.hid hP
        have Hw := Lib.hid hw
        have hcase : i < q.length ∨ (¬ i < q.length ∧ ∃ o n c, tv = .slice o n c ∧ 0 < n) := by
          rcases hGb with h | ⟨h, h2⟩
          · exact .inl h
          · right
            refine ⟨by omega, ?_⟩
            rcases hRt with ⟨_, h3⟩ | ⟨b, off, cap, h3, _⟩
            · exact absurd h3 h2
            · exact ⟨_, _, _, h3, List.length_pos_iff.2 h2⟩
        clear hP hw hm hRt htk hGb hDr
        rcases hcase with hgb | ⟨hgb, o, nn, c, rfl, hnn⟩
        all_goals
          clear hRr
          go_wp2_with fail
          refine hAt.mono ?_
          rintro e w3 ⟨rfl, hb3⟩
          have hR3 := HRr.out.below hb3
          have hb03 := hbr.trans (hb3.mono hbr.size)
          have s0 := hR3.cell 0 _ rfl
          have s1 := hR3.cell 1 _ rfl
          have s2 := hR3.cell 2 _ rfl
          have s3 := hR3.cell 3 _ rfl
          have sf := hR3.free
          have HR3 := Lib.hid hR3
          clear hR3
          go_wp2_with fail
          have B9 := ((((HR3.out.set 0 (.int .i64 P.byte)).set 1 (.int .i64 P.rune)).set 2 (.int .i64 P.line)).set 3 (.int .i64 P.col))
          have hb9 := ((((hb03.setCell (p := ⟨w.heap.size, 0, none⟩) (Nat.le_refl _) (.int .i64 P.byte)).setCell (p := ⟨w.heap.size, 1, none⟩) (Nat.le_refl _) (.int .i64 P.rune)).setCell (p := ⟨w.heap.size, 2, none⟩) (Nat.le_refl _) (.int .i64 P.line)).setCell (p := ⟨w.heap.size, 3, none⟩) (Nat.le_refl _) (.int .i64 P.col))
          generalize ((((w3.setCell ⟨w.heap.size, 0, none⟩ (.int .i64 P.byte)).setCell ⟨w.heap.size, 1, none⟩ (.int .i64 P.rune)).setCell ⟨w.heap.size, 2, none⟩ (.int .i64 P.line)).setCell ⟨w.heap.size, 3, none⟩ (.int .i64 P.col)) = w9 at B9 hb9 ⊢
          have qq0 := B9.cell 0 (.int .i64 P.byte) rfl
          have qq1 := B9.cell 1 (.int .i64 P.rune) rfl
          have qq2 := B9.cell 2 (.int .i64 P.line) rfl
          have qq3 := B9.cell 3 (.int .i64 P.col) rfl
          refine bodyPost_ret (v := .tuple #[.slice none 0 0, .agg #[.int .i64 P.byte, .int .i64 P.rune, .int .i64 P.line, .int .i64 P.col], .int .i64 103]) (by simp [results, Tryd.results11, go_sem, qq0, qq1, qq2, qq3]) rfl ?_
          unfold RefWordsAns
          rw [Hw.out]
          simp only
          rw [HP.out]
          exact ⟨rfl, hb9⟩
end Go.Proofs.YtjmejlncomaclaaDoor.Lx
