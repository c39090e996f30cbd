/- gimletlaw10.LexisWords is true at every bytes. Conditions: the tables; errors.errorType; at most 10000000 bytes. -/
import Derived.Test.YtjmejlncomaclaaDoorLxLw0
import Derived.Deep.QuietTactic
import Derived.BigQuiet
import Derived.IntWalk
import Derived.Laws.AppendOwnNone
namespace Go.Proofs.YtjmejlncomaclaaDoor.Lx
section
open Go.RowKit


set_option maxRecDepth 100000 in
set_option maxHeartbeats 8000000 in
/-- LexisWords, no bytes. -/
theorem law_nil (w : World) (hV : Vars w) (l : List (Wd × Nat)) (hw : words [] = .ok l) :
    Calls Tryd.prog 4 #[.slice none 0 0] w fun e w' => e = .returned (.bool true) ∧ Below w.heap.size w w' := by
  have hq : RB w (.slice none 0 0) [] := .inl ⟨rfl, rfl⟩
  have Hq := Lib.hid hq
  clear hq
  have hA := awake_any w hV
  have hp0 : ∀ W, Sem.run Tryd.prog (pure #[] : Sem (Array Value)) W = .ok #[] W := fun W => Sem.run_pure ..
  have hs0 : ∀ a W, Sem.run Tryd.prog (storeCells a []) W = .ok () W := fun a W => by simp [storeCells, Sem.run_pure]
  obtain ⟨i0, hi, hz0, hz1, hz2⟩ := info_parts infoU8
  have Hi := Lib.hid hi
  obtain ⟨i1, hj1, hy0, hy1, hy2⟩ := info_parts infoWord
  have Hj1 := Lib.hid hj1
  clear hj1
  have HV := Lib.hid hV
  have Hw := Lib.hid hw
  clear hi hV hw
  go_enter Tryd.func4, Tryd.ntmps4
  go_wp2_with fail
  refine hA.mono ?_
  rintro e w1 ⟨rfl, hb1⟩
  clear hA
  have hb2 := hb1.alloc hb1.size (.cells #[] 5)
  have hown2 : (w1.alloc (.cells #[] 5)).ownsRow w.heap.size 5 1 (.slice (some ⟨w1.heap.size, 0, none⟩) 0 0) 0 [] :=
    ⟨rfl, .inr ⟨w1.heap.size, 0, #[], rfl, hb1.size, heap_alloc_new w1 _, Nat.le_refl _, by decide, rfl, rfl⟩⟩
  have Hown2 := Lib.hid hown2
  clear hown2
  have hn3 : ∀ (j : Nat) u, [Value.int .u8 71][j]? = some u → ((w1.alloc (.cells #[] 5)).alloc (.cells #[.int .u8 71] 5)).cell? ((⟨(w1.alloc (.cells #[] 5)).heap.size, 0, none⟩ : Addr).add j) = some u := fun j u h => cells_new (w := w1.alloc (.cells #[] 5)) (l := [.int .u8 71]) (t := 5) j u h
  simp only [World.size_alloc] at hn3
  have Hn3 := Lib.hid hn3
  clear hn3
  go_wp2_with (first | (refine wpList_append_own_none (o := ⟨some 18, _, _, _, _, _⟩) rfl _ _ 22 rfl w.heap.size 5 i0 1 Tryd.underlying22 Hi.out _ 0 [] rfl Hown2.out rfl ?_) | (at_builtin; refine wpList_append_own (o := ⟨some 21, _, _, _, _, _⟩) _ rfl _ _ 22 rfl w.heap.size 5 i0 (.int .u8 0) 1 1 Tryd.underlying22 Hi.out hz0 hz1 hz2 rfl (by decide) _ _ _ rfl (Hown2.out.alloc _) ⟨w1.heap.size + 1, 0, none⟩ 1 1 [.int .u8 71] rfl rfl Hn3.out ?d1 ?d3 ?d4 ?d5 ?_))
  case d1 => intro u hu; simp at hu; subst hu; rfl
  case d3 => unfold maxLen; omega
  case d4 => omega
  case d5 => simp only [World.size_alloc]; have := hb1.size; omega
  · intro v4 w4 hown4 hgrow4 hnil4
    have hnil : ([] : List UInt8).length = 0 := rfl
    have hb4 : Below w.heap.size w w4 := (hb2.alloc hb2.size _).grown hgrow4 (by simp only [World.size_alloc]; have := hb1.size; omega) (fun k hk => (Hown2.out.lt k hk).1)
    obtain ⟨g, C, rfl, hg1, hg2, hC⟩ : ∃ g C, v4 = .slice (some ⟨g, 0, none⟩) (1) C ∧ w.heap.size ≤ g ∧ g < w4.heap.size ∧ 1 ≤ C := by
      rcases hown4.2 with ⟨_, h⟩ | ⟨g, C, cur, h1, h2, h3, h4, _⟩
      · omega
      · exact ⟨g, C, h1, h2, (Array.getElem?_eq_some_iff.1 h3).1, h4⟩
    have hRB : RB w4 (.slice (some ⟨g, 0, none⟩) 0 C) [] := .inr ⟨g, 0, C, rfl, by simp, hg2, fun j hj => by simp at hj⟩
    have h71 : w4.cell? ⟨g, 0, none⟩ = some (.int .u8 71) := (hown4.cellAt 0 (by omega)).trans rfl
    have hwd := words_any _ [] w4 (HV.out.below hb4) hRB (by omega)
    have HRB := Lib.hid hRB
    have H71 := Lib.hid h71
    have Hown4 := Lib.hid hown4
    clear hgrow4 hnil4 Hown2 Hn3 hb2 hb1 hRB h71 hown4
    go_wp2_with fail
    refine hwd.mono ?_
    rintro e w5 h5
    clear hwd
    have hRB5 := fun hb => RB.below HRB.out (w' := w5) hb
    obtain ⟨vw, rfl, ⟨hown5, _⟩, hb5⟩ := h5.ok l Hw.out
    have hb05 := hb4.trans (hb5.mono hb4.size)
    have hwd := words_any _ [] w5 (HV.out.below hb05) (hRB5 hb5) (by omega)
    have Hown5 := Lib.hid hown5
    clear h5 hown5 hRB5
    go_wp2_with fail
    refine hwd.mono ?_
    rintro e w6 h6
    clear hwd
    obtain ⟨vx, rfl, ⟨hown6, _⟩, hb6⟩ := h6.ok l Hw.out
    have hb06 := hb05.trans (hb6.mono hb05.size)
    have Hown6 := Lib.hid hown6
    clear h6 hown6
    have hrw := refwords_any (.slice none 0 0) [] w6 (RB.below Hq.out hb06) (by omega)
    unfold RefWordsAns at hrw
    rw [Hw.out] at hrw
    go_wp2_with fail
    refine hrw.mono ?_
    rintro e w7 ⟨vv, rfl, hown7, hb7⟩
    have hb07 := hb06.trans (hb7.mono hb06.size)
    have Hown7 := Lib.hid hown7
    clear hrw hown7
    have hb8 : Below w7.heap.size w7 (w7.alloc (.cells #[.int .i64 0, .int .i64 0, .int .i64 0, .int .i64 0] 35)) := (Below.refl _ w7).alloc (Nat.le_refl _) _
    have hb78 := hb7.trans (hb8.mono hb7.size)
    have hb68 := hb6.trans (hb78.mono hb6.size)
    have hb58 := hb5.trans (hb68.mono hb5.size)
    have hb08 := hb4.trans (hb58.mono hb4.size)
    have hL : (l.map (awOf [])).length ≤ 1099511627776 := by
      have h1 := bulk_wd Hw.out
      have h2 := bulk_len (l.map (awOf []))
      omega
    have hsame : ∀ (i : Nat) a b, (l.map (awOf []))[i]? = some a → (l.map (awOf []))[i]? = some b → Same true a b := fun i a b h1 h2 => by
      rw [h1] at h2; cases h2; exact ⟨rfl, rfl, rfl, fun _ => ⟨rfl, rfl, rfl, rfl⟩⟩
    have hll : (l.map (awOf [])).length = l.length := List.length_map ..
    have r5 : w5.ownsRow w4.heap.size 37 7 vw (l.map (awOf [])).length (awRow (l.map (awOf []))) := by rw [awRow_wd, hll]; exact Hown5.out
    have r6 : w6.ownsRow w5.heap.size 37 7 vx (l.map (awOf [])).length (awRow (l.map (awOf []))) := by rw [awRow_wd, hll]; exact Hown6.out
    have r7 : w7.ownsRow w6.heap.size 37 7 vv (l.map (awOf [])).length (awRow (l.map (awOf []))) := by rw [awRow_wd, hll]; exact Hown7.out
    clear Hown5 Hown6 Hown7 hll
    generalize l.map (awOf []) = L at hL hsame r5 r6 r7
    have s5 := ownsRow_below (ownsRow_below (ownsRow_below r5 hb6) hb7) hb8
    have s6 := ownsRow_below (ownsRow_below r6 hb7) hb8
    have s7 := ownsRow_below r7 hb8
    have hR8 := RB.below HRB.out (hb58.mono (Nat.le_refl _))
    have h718 := cell_kept hb58 H71.out
    have hq8 := RB.below Hq.out hb08
    obtain ⟨o5, c5, rfl⟩ : ∃ o c, vw = .slice o L.length c := by
      rcases r5.2 with ⟨h, h0⟩ | ⟨g, C, cur, h, _⟩
      · exact ⟨none, 0, by rw [h, h0]⟩
      · exact ⟨_, _, h⟩
    obtain ⟨o7, c7, rfl⟩ : ∃ o c, vv = .slice o L.length c := by
      rcases r7.2 with ⟨h, h0⟩ | ⟨g, C, cur, h, _⟩
      · exact ⟨none, 0, by rw [h, h0]⟩
      · exact ⟨_, _, h⟩
    have hg5 : ∀ g5 o, o5 = some (⟨g5, o, none⟩ : Addr) → g5 < w5.heap.size ∧ o = 0 ∧ w4.heap.size ≤ g5 := fun g5 o h => by
      rcases r5.2 with ⟨h1, _⟩ | ⟨g, C, cur, h1, hh1, hh2, _⟩
      · rw [h] at h1; cases h1
      · rw [h] at h1; cases h1; exact ⟨(Array.getElem?_eq_some_iff.1 hh2).1, rfl, hh1⟩
    have hob := fun k hk => (World.ownsRow.lt r5 k hk).2
    clear r5 r6 r7
    go_wp2_with fail
    generalize w7.alloc (.cells #[.int .i64 0, .int .i64 0, .int .i64 0, .int .i64 0] 35) = W8 at hb8 hb78 hb68 hb58 hb08 s5 s6 s7 hR8 h718 hq8 ⊢
    have hcv1 := fun d => str_of_RB (RB.below hR8 (below_drewN (Below.refl _ W8) d))
    have hcv2 := fun d => str_of_RB (RB.below hq8 (below_drewN (Below.refl _ W8) d))
    obtain ⟨S, hS⟩ : ∃ S : ByteArray, ⟨([] : List UInt8).toArray⟩ = S := ⟨_, rfl⟩
    rw [hS] at hcv1 hcv2
    have S5 := Lib.hid s5
    have S6 := Lib.hid s6
    have S7 := Lib.hid s7
    have Hsame := Lib.hid hsame
    have b1 : ((0 : Int)) < ((1 : Nat) : Int) := by omega
    have b2 : (0 : Int) ≤ (0 : Int) := by omega
    have b3 : ((0 : Int)) < (0 : Int) + 1 := by omega
    have b4 : 0 ≤ C := by omega
    have b5 : 0 < 1 := by omega
    clear s5 s6 s7 hR8 hq8 hS hsame
    have hal1 : ∀ n, Calls Tryd.prog 12 #[.slice o5 L.length c5, .slice o7 L.length c7, .bool true] (W8.drewN n) fun e w' => e = .returned (.bool true) ∧ ∃ m, w' = (W8.drewN n).drewN m := fun n => alike_same _ _ L L true (W8.drewN n) (RW.below (RW.own S5.out) (below_drewN (Below.refl _ _) n)) (RW.below (RW.own S7.out) (below_drewN (Below.refl _ _) n)) rfl hL Hsame.out
    have hal2 : ∀ n, Calls Tryd.prog 12 #[vx, .slice o7 L.length c7, .bool true] (W8.drewN n) fun e w' => e = .returned (.bool true) ∧ ∃ m, w' = (W8.drewN n).drewN m := fun n => alike_same _ _ L L true (W8.drewN n) (RW.below (RW.own S6.out) (below_drewN (Below.refl _ _) n)) (RW.below (RW.own S7.out) (below_drewN (Below.refl _ _) n)) rfl hL Hsame.out
    go_quiet (first | (go_at_call 12; with_reducible exact Calls.quiet_of (hal1 _)) | (go_at_call 12; with_reducible exact Calls.quiet_of (hal2 _)))
    have hb9 := below_drewN hb08 nq
    have hb49 := below_drewN hb58 nq
    have hB9 := ownsRow_below Hown4.out hb49
    have s5 := ownsRow_below S5.out (below_drewN (Below.refl _ W8) nq)
    have s6 := ownsRow_below S6.out (below_drewN (Below.refl _ W8) nq)
    have s7 := ownsRow_below S7.out (below_drewN (Below.refl _ W8) nq)
    generalize W8.drewN nq = W9 at hb9 hb49 hB9 s5 s6 s7 ⊢
    have hsz4 := hb4.size
    have hsz5 := hb5.size
    have hsz6 := hb6.size
    have HB9 := Lib.hid hB9
    clear S5 S6 S7 hal1 hal2 hcv1 hcv2 b1 b2 b3 b4 b5 HRB H71 Hown4 hb4 hb5 hb6 hb7 hb8 hb78 hb68 hb58 hb08 hb05 hb06 hb07 hB9 h718
    have S5 := Lib.hid s5
    have S6 := Lib.hid s6
    have S7 := Lib.hid s7
    have hb59 := hb9.size
    clear s5 s6 s7
    go_wp2_with fail
    go_loopw [12] (fun ci wx => ∃ (j : Nat) (xs : List Value), j ≤ 1 ∧ ci = .int .i64 j ∧ wx.ownsRow w.heap.size 5 1 (.slice (some ⟨g, 0, none⟩) (1) C) (1) xs ∧ wx.ownsRow w4.heap.size 37 7 (.slice o5 L.length c5) L.length (awRow L) ∧ wx.ownsRow w5.heap.size 37 7 vx L.length (awRow L) ∧ wx.ownsRow w6.heap.size 37 7 (.slice o7 L.length c7) L.length (awRow L) ∧ Below w.heap.size w wx) (fun ci _ => (1) - (intOf ci).toNat)
    case atStart => exact ⟨0, _, Nat.zero_le _, rfl, HB9.out, S5.out, S6.out, S7.out, hb9⟩
    case round =>
      obtain ⟨j, xs, hj, rfl, hB, t5, t6, t7, hbr⟩ := hrel
      have HBr := Lib.hid hB
      have T5 := Lib.hid t5
      have T6 := Lib.hid t6
      have T7 := Lib.hid t7
      clear hB t5 t6 t7
      by_cases hlt : j < 1
      · have hc := HBr.out.cellAt j (by omega)
        have hf := HBr.out.frozenAt j
        obtain ⟨u, hu⟩ : ∃ u, xs[j]? = some u := ⟨_, List.getElem?_eq_getElem (by have := HBr.out.1; omega)⟩
        rw [hu] at hc
        have hst := (HBr.out.stored j (.int .u8 88)).1
        have u5 := ownsRow_setCell_below T5.out (a := ⟨g, j, none⟩) hg2 (.int .u8 88)
        have u6 := ownsRow_setCell_below T6.out (a := ⟨g, j, none⟩) (by simp only; omega) (.int .u8 88)
        have u7 := ownsRow_setCell_below T7.out (a := ⟨g, j, none⟩) (by simp only; omega) (.int .u8 88)
        have hbs := hbr.setCell (p := ⟨g, j, none⟩) hg1 (.int .u8 88)
        have HST := Lib.hid hst
        have U5 := Lib.hid u5
        have U6 := Lib.hid u6
        have U7 := Lib.hid u7
        clear hst u5 u6 u7 hu
        go_wp2_with fail
        go_round
        case rel => exact ⟨j + 1, _, by omega, by go_num, HST.out, U5.out, U6.out, U7.out, hbs⟩
        case measure => simp [intOf]; omega
      · obtain rfl : j = 1 := by omega
        go_wp2_with fail
        clear HBr HB9 S5 S6 S7 hg1 hC
        go_loopw [13] (fun ci wx => ∃ (j : Nat) (xw : List Value), j ≤ L.length ∧ ci = .int .i64 j ∧ wx.ownsRow w4.heap.size 37 7 (.slice o5 L.length c5) L.length xw ∧ wx.ownsRow w5.heap.size 37 7 vx L.length (awRow L) ∧ wx.ownsRow w6.heap.size 37 7 (.slice o7 L.length c7) L.length (awRow L) ∧ Below w.heap.size w wx) (fun ci _ => L.length - (intOf ci).toNat)
        case atStart => exact ⟨0, _, Nat.zero_le _, rfl, T5.out, T6.out, T7.out, hbr⟩
        case round =>
          clear hbr T5 T6 T7 hj
          obtain ⟨j, xw, hj, rfl, y5, y6, y7, hbr⟩ := hrel
          have Y5 := Lib.hid y5
          have Y6 := Lib.hid y6
          have Y7 := Lib.hid y7
          clear y5 y6 y7
          by_cases hlt : j < L.length
          · obtain ⟨g5, rfl⟩ : ∃ g5, o5 = some ⟨g5, 0, none⟩ := by
              rcases Y5.out.2 with ⟨_, h⟩ | ⟨g, C, cur, h, _⟩
              · omega
              · cases h; exact ⟨_, rfl⟩
            have hg5a := (hg5 g5 0 rfl).1
            have hg5b := (hg5 g5 0 rfl).2.2
            clear hg5
            have hxl := Y5.out.1
            have kc0 : wr.cell? ⟨g5, j * 7, none⟩ = some (xw.getD (j * 7) .nilIface) := by
              refine (Y5.out.cellAt (j * 7) (by omega)).trans ?_
              rw [List.getElem?_eq_getElem (by omega), List.getD_eq_getElem?_getD, List.getElem?_eq_getElem (by omega), Option.getD_some]
            have kf0 := Y5.out.frozenAt (j * 7)
            have kc1 : wr.cell? ⟨g5, j * 7 + 1, none⟩ = some (xw.getD (j * 7 + 1) .nilIface) := by
              refine (Y5.out.cellAt (j * 7 + 1) (by omega)).trans ?_
              rw [List.getElem?_eq_getElem (by omega), List.getD_eq_getElem?_getD, List.getElem?_eq_getElem (by omega), Option.getD_some]
            have kf1 := Y5.out.frozenAt (j * 7 + 1)
            have kc2 : wr.cell? ⟨g5, j * 7 + 2, none⟩ = some (xw.getD (j * 7 + 2) .nilIface) := by
              refine (Y5.out.cellAt (j * 7 + 2) (by omega)).trans ?_
              rw [List.getElem?_eq_getElem (by omega), List.getD_eq_getElem?_getD, List.getElem?_eq_getElem (by omega), Option.getD_some]
            have kf2 := Y5.out.frozenAt (j * 7 + 2)
            have kc3 : wr.cell? ⟨g5, j * 7 + 3, none⟩ = some (xw.getD (j * 7 + 3) .nilIface) := by
              refine (Y5.out.cellAt (j * 7 + 3) (by omega)).trans ?_
              rw [List.getElem?_eq_getElem (by omega), List.getD_eq_getElem?_getD, List.getElem?_eq_getElem (by omega), Option.getD_some]
            have kf3 := Y5.out.frozenAt (j * 7 + 3)
            have kc4 : wr.cell? ⟨g5, j * 7 + 4, none⟩ = some (xw.getD (j * 7 + 4) .nilIface) := by
              refine (Y5.out.cellAt (j * 7 + 4) (by omega)).trans ?_
              rw [List.getElem?_eq_getElem (by omega), List.getD_eq_getElem?_getD, List.getElem?_eq_getElem (by omega), Option.getD_some]
            have kf4 := Y5.out.frozenAt (j * 7 + 4)
            have kc5 : wr.cell? ⟨g5, j * 7 + 5, none⟩ = some (xw.getD (j * 7 + 5) .nilIface) := by
              refine (Y5.out.cellAt (j * 7 + 5) (by omega)).trans ?_
              rw [List.getElem?_eq_getElem (by omega), List.getD_eq_getElem?_getD, List.getElem?_eq_getElem (by omega), Option.getD_some]
            have kf5 := Y5.out.frozenAt (j * 7 + 5)
            have kc6 : wr.cell? ⟨g5, j * 7 + 6, none⟩ = some (xw.getD (j * 7 + 6) .nilIface) := by
              refine (Y5.out.cellAt (j * 7 + 6) (by omega)).trans ?_
              rw [List.getElem?_eq_getElem (by omega), List.getD_eq_getElem?_getD, List.getElem?_eq_getElem (by omega), Option.getD_some]
            have kf6 := Y5.out.frozenAt (j * 7 + 6)
            have z5 := (((((((Y5.out.stored (j * 7) (.int .i64 0)).1.stored (j * 7 + 1) (.string ⟨#[115, 112, 111, 105, 108, 116]⟩)).1.stored (j * 7 + 2) (.int .i64 0)).1.stored (j * 7 + 3) (.int .i64 0)).1.stored (j * 7 + 4) (.int .i64 0)).1.stored (j * 7 + 5) (.int .i64 0)).1.stored (j * 7 + 6) (.int .i64 0)).1
            have z6 := ownsRow_setCell_below (ownsRow_setCell_below (ownsRow_setCell_below (ownsRow_setCell_below (ownsRow_setCell_below (ownsRow_setCell_below (ownsRow_setCell_below (Y6.out) (a := ⟨g5, j * 7, none⟩) hg5a (.int .i64 0)) (a := ⟨g5, j * 7 + 1, none⟩) hg5a (.string ⟨#[115, 112, 111, 105, 108, 116]⟩)) (a := ⟨g5, j * 7 + 2, none⟩) hg5a (.int .i64 0)) (a := ⟨g5, j * 7 + 3, none⟩) hg5a (.int .i64 0)) (a := ⟨g5, j * 7 + 4, none⟩) hg5a (.int .i64 0)) (a := ⟨g5, j * 7 + 5, none⟩) hg5a (.int .i64 0)) (a := ⟨g5, j * 7 + 6, none⟩) hg5a (.int .i64 0)
            have z7 := ownsRow_setCell_below (ownsRow_setCell_below (ownsRow_setCell_below (ownsRow_setCell_below (ownsRow_setCell_below (ownsRow_setCell_below (ownsRow_setCell_below (Y7.out) (a := ⟨g5, j * 7, none⟩) (by simp only; omega) (.int .i64 0)) (a := ⟨g5, j * 7 + 1, none⟩) (by simp only; omega) (.string ⟨#[115, 112, 111, 105, 108, 116]⟩)) (a := ⟨g5, j * 7 + 2, none⟩) (by simp only; omega) (.int .i64 0)) (a := ⟨g5, j * 7 + 3, none⟩) (by simp only; omega) (.int .i64 0)) (a := ⟨g5, j * 7 + 4, none⟩) (by simp only; omega) (.int .i64 0)) (a := ⟨g5, j * 7 + 5, none⟩) (by simp only; omega) (.int .i64 0)) (a := ⟨g5, j * 7 + 6, none⟩) (by simp only; omega) (.int .i64 0)
            have zb := (((((((hbr).setCell (p := ⟨g5, j * 7, none⟩) (by simp only; omega) (.int .i64 0)).setCell (p := ⟨g5, j * 7 + 1, none⟩) (by simp only; omega) (.string ⟨#[115, 112, 111, 105, 108, 116]⟩)).setCell (p := ⟨g5, j * 7 + 2, none⟩) (by simp only; omega) (.int .i64 0)).setCell (p := ⟨g5, j * 7 + 3, none⟩) (by simp only; omega) (.int .i64 0)).setCell (p := ⟨g5, j * 7 + 4, none⟩) (by simp only; omega) (.int .i64 0)).setCell (p := ⟨g5, j * 7 + 5, none⟩) (by simp only; omega) (.int .i64 0)).setCell (p := ⟨g5, j * 7 + 6, none⟩) (by simp only; omega) (.int .i64 0)
            have Z5 := Lib.hid z5
            have Z6 := Lib.hid z6
            have Z7 := Lib.hid z7
            have Zb := Lib.hid zb
            clear z5 z6 z7 zb
            generalize xw.getD (j * 7) .nilIface = e0 at kc0
            generalize xw.getD (j * 7 + 1) .nilIface = e1 at kc1
            generalize xw.getD (j * 7 + 2) .nilIface = e2 at kc2
            generalize xw.getD (j * 7 + 3) .nilIface = e3 at kc3
            generalize xw.getD (j * 7 + 4) .nilIface = e4 at kc4
            generalize xw.getD (j * 7 + 5) .nilIface = e5 at kc5
            generalize xw.getD (j * 7 + 6) .nilIface = e6 at kc6
            go_wp2_with fail
            go_round
            case rel => exact ⟨j + 1, _, by omega, by go_num, Z5.out, Z6.out, Z7.out, Zb.out⟩
            case measure => simp [intOf]; omega
          · obtain rfl : j = L.length := by omega
            have hn9 : ∀ (j : Nat) u, ([.int .i64 0, .string ⟨#[]⟩, .int .i64 0, .int .i64 0, .int .i64 0, .int .i64 0, .int .i64 0, .int .i64 0, .string ⟨#[]⟩, .int .i64 0, .int .i64 0, .int .i64 0, .int .i64 0, .int .i64 0, .int .i64 0, .string ⟨#[]⟩, .int .i64 0, .int .i64 0, .int .i64 0, .int .i64 0, .int .i64 0] : List Value)[j]? = some u → (wr.alloc (.cells #[.int .i64 0, .string ⟨#[]⟩, .int .i64 0, .int .i64 0, .int .i64 0, .int .i64 0, .int .i64 0, .int .i64 0, .string ⟨#[]⟩, .int .i64 0, .int .i64 0, .int .i64 0, .int .i64 0, .int .i64 0, .int .i64 0, .string ⟨#[]⟩, .int .i64 0, .int .i64 0, .int .i64 0, .int .i64 0, .int .i64 0] 37)).cell? ((⟨wr.heap.size, 0, none⟩ : Addr).add j) = some u := fun j u h => cells_new (w := wr) (l := [.int .i64 0, .string ⟨#[]⟩, .int .i64 0, .int .i64 0, .int .i64 0, .int .i64 0, .int .i64 0, .int .i64 0, .string ⟨#[]⟩, .int .i64 0, .int .i64 0, .int .i64 0, .int .i64 0, .int .i64 0, .int .i64 0, .string ⟨#[]⟩, .int .i64 0, .int .i64 0, .int .i64 0, .int .i64 0, .int .i64 0]) (t := 37) j u h
            have Hn9 := Lib.hid hn9
            have hbs := hbr.size
            have hbase : w.heap.size ≤ w4.heap.size := hsz4
            clear hn9
            go_wp2_with (at_builtin; refine wpList_append_own (o := ⟨some 139, _, _, _, _, _⟩) _ rfl _ _ 25 rfl w.heap.size 37 i1 (.agg #[.int .i64 0, .string ⟨#[]⟩, .int .i64 0, .int .i64 0, .int .i64 0, .int .i64 0, .int .i64 0]) 7 64 Tryd.underlying25 Hj1.out hy0 hy1 hy2 rfl (by decide) _ _ _ rfl ((ownsRow_base Y5.out hbase).alloc _) ⟨wr.heap.size, 0, none⟩ 3 3 [.int .i64 0, .string ⟨#[]⟩, .int .i64 0, .int .i64 0, .int .i64 0, .int .i64 0, .int .i64 0, .int .i64 0, .string ⟨#[]⟩, .int .i64 0, .int .i64 0, .int .i64 0, .int .i64 0, .int .i64 0, .int .i64 0, .string ⟨#[]⟩, .int .i64 0, .int .i64 0, .int .i64 0, .int .i64 0, .int .i64 0] rfl rfl Hn9.out ?e1 ?e3 ?e4 ?e5 ?_)
            case e1 => intro u hu; simp only [List.mem_cons, List.not_mem_nil, or_false] at hu; rcases hu with rfl | rfl | rfl | rfl | rfl | rfl | rfl | rfl | rfl | rfl | rfl | rfl | rfl | rfl | rfl | rfl | rfl | rfl | rfl | rfl | rfl <;> rfl
            case e3 => unfold maxLen; omega
            case e4 => omega
            case e5 => simp only [World.size_alloc]; omega
            · intro v9 w9 hown9 hgrow9 hnil9
              have hb9 : Below w.heap.size w w9 := (hbr.alloc hbs _).grown hgrow9 (by simp only [World.size_alloc]; omega) (fun k hk => (ownsRow_base Y5.out hbase).lt k hk |>.1)
              have hne6 : vx.ownBlock = none ∨ vx.ownBlock ≠ (Value.slice o5 L.length c5).ownBlock := by
                rcases h : vx.ownBlock with _ | k
                · exact .inl rfl
                · refine .inr fun e => ?_
                  have h1 := (Y6.out.lt k h).1
                  have h2 := hob k e.symm
                  omega
              have hne7 : (Value.slice o7 L.length c7).ownBlock = none ∨ (Value.slice o7 L.length c7).ownBlock ≠ (Value.slice o5 L.length c5).ownBlock := by
                rcases h : (Value.slice o7 L.length c7).ownBlock with _ | k
                · exact .inl rfl
                · refine .inr fun e => ?_
                  have h1 := (Y7.out.lt k h).1
                  have h2 := hob k e.symm
                  omega
              have x6 := RW.own ((Y6.out.alloc _).kept hgrow9 hne6)
              have x7 := RW.own ((Y7.out.alloc _).kept hgrow9 hne7)
              obtain ⟨o9, c9, rfl⟩ : ∃ o c, v9 = .slice o (L.length + 3) c := by
                rcases hown9.2 with ⟨h, h0⟩ | ⟨g, C, cur, h, _⟩
                · omega
                · exact ⟨_, _, h⟩
              have hal := alike_any _ _ L L true w9 x6 x7 rfl hL Hsame.out
              clear hown9 hgrow9 hnil9 x6 x7 hne6 hne7
              go_wp2_with fail
              refine hal.mono ?_
              rintro e w10 ⟨rfl, hb10⟩
              go_wp2_with fail
              go_ret
              exact ⟨rfl, hb9.trans (hb10.mono hb9.size)⟩
end

section
open Go.RowKit


set_option maxRecDepth 100000 in
set_option maxHeartbeats 8000000 in
/-- LexisWords, bytes that are words. -/
theorem law_ok (b off cap : Nat) (q : List UInt8) (w : World) (hV : Vars w) (h2 : q.length ≤ cap) (h3 : b < w.heap.size) (h4 : Cells w b off q) (hn : q.length ≤ 10000000) (l : List (Wd × Nat)) (hw : words q = .ok l) :
    Calls Tryd.prog 4 #[(.slice (some ⟨b, off, none⟩) q.length cap)] w fun e w' => e = .returned (.bool true) ∧ Below w.heap.size w w' := by
  have hq : RB w (.slice (some ⟨b, off, none⟩) q.length cap) q := .inr ⟨b, off, cap, rfl, h2, h3, h4⟩
  have Hq := Lib.hid hq
  clear hq
  have hA := awake_any w hV
  have hp0 : ∀ W, Sem.run Tryd.prog (pure #[] : Sem (Array Value)) W = .ok #[] W := fun W => Sem.run_pure ..
  have hs0 : ∀ a W, Sem.run Tryd.prog (storeCells a []) W = .ok () W := fun a W => by simp [storeCells, Sem.run_pure]
  obtain ⟨i0, hi, hz0, hz1, hz2⟩ := info_parts infoU8
  have Hi := Lib.hid hi
  obtain ⟨i1, hj1, hy0, hy1, hy2⟩ := info_parts infoWord
  have Hj1 := Lib.hid hj1
  clear hj1
  have HV := Lib.hid hV
  have Hw := Lib.hid hw
  clear hi hV hw
  go_enter Tryd.func4, Tryd.ntmps4
  go_wp2_with fail
  refine hA.mono ?_
  rintro e w1 ⟨rfl, hb1⟩
  clear hA
  have hb2 := hb1.alloc hb1.size (.cells #[] 5)
  have hown2 : (w1.alloc (.cells #[] 5)).ownsRow w.heap.size 5 1 (.slice (some ⟨w1.heap.size, 0, none⟩) 0 0) 0 [] :=
    ⟨rfl, .inr ⟨w1.heap.size, 0, #[], rfl, hb1.size, heap_alloc_new w1 _, Nat.le_refl _, by decide, rfl, rfl⟩⟩
  have Hown2 := Lib.hid hown2
  clear hown2
  have hnews : ∀ (j : Nat) u, (u8s q)[j]? = some u → (w1.alloc (.cells #[] 5)).cell? ((⟨b, off, none⟩ : Addr).add j) = some u := fun j u h => by
    have hj : j < q.length := by have := (List.getElem?_eq_some_iff.1 h).1; simpa [u8s] using this
    have hadd : (⟨b, off, none⟩ : Addr).add j = ⟨b, off + j, none⟩ := by unfold Addr.add; split <;> simp_all
    rw [hadd, cell_kept hb2 (h4 j hj), ← h]
    simp [u8s, List.getD_eq_getElem?_getD, List.getElem?_eq_getElem hj]
  have Hnews := Lib.hid hnews
  have hlen : (u8s q).length = q.length * 1 := by simp [u8s]
  have hone := u8s_one q
  have Hlen := Lib.hid hlen
  have Hone := Lib.hid hone
  have H4 := Lib.hid h4
  clear hnews hlen hone h4
  go_wp2_with (at_builtin; refine wpList_append_own (o := ⟨some 18, _, _, _, _, _⟩) _ rfl _ _ 22 rfl w.heap.size 5 i0 (.int .u8 0) 1 1 Tryd.underlying22 Hi.out hz0 hz1 hz2 rfl (by decide) _ _ _ rfl Hown2.out ⟨b, off, none⟩ q.length cap (u8s q) rfl Hlen.out Hnews.out Hone.out ?c3 ?c4 ?c5 ?_)
  case c3 => unfold maxLen; omega
  case c4 => omega
  case c5 => exact hb2.size
  · intro v3 w3 hown3 hgrow3 hnil3
    have hb3 : Below w.heap.size w w3 := hb2.grown hgrow3 hb2.size (fun k hk => by cases hk; exact hb1.size)
    have Hown3 := Lib.hid hown3
    clear hown3 hgrow3 hnil3 Hown2 Hnews Hlen Hone hb2 hb1
    have hn3 : ∀ (j : Nat) u, [Value.int .u8 71][j]? = some u → (w3.alloc (.cells #[.int .u8 71] 5)).cell? ((⟨w3.heap.size, 0, none⟩ : Addr).add j) = some u := fun j u h => cells_new (w := w3) (l := [.int .u8 71]) (t := 5) j u h
    have Hn3 := Lib.hid hn3
    clear hn3
    go_wp2_with (at_builtin; refine wpList_append_own (o := ⟨some 21, _, _, _, _, _⟩) _ rfl _ _ 22 rfl w.heap.size 5 i0 (.int .u8 0) 1 1 Tryd.underlying22 Hi.out hz0 hz1 hz2 rfl (by decide) _ _ _ rfl (Hown3.out.alloc _) ⟨w3.heap.size, 0, none⟩ 1 1 [.int .u8 71] rfl rfl Hn3.out ?d1 ?d3 ?d4 ?d5 ?_)
    case d1 => intro u hu; simp at hu; subst hu; rfl
    case d3 => unfold maxLen; omega
    case d4 => omega
    case d5 => simp only [World.size_alloc]; have := hb3.size; omega
    · intro v4 w4 hown4 hgrow4 hnil4
      have hb4 : Below w.heap.size w w4 := (hb3.alloc hb3.size _).grown hgrow4 (by simp only [World.size_alloc]; have := hb3.size; omega) (fun k hk => (Hown3.out.lt k hk).1)
      obtain ⟨g, C, rfl, hg1, hg2, hC⟩ : ∃ g C, v4 = .slice (some ⟨g, 0, none⟩) (q.length + 1) C ∧ w.heap.size ≤ g ∧ g < w4.heap.size ∧ q.length + 1 ≤ C := by
        rcases hown4.2 with ⟨_, h⟩ | ⟨g, C, cur, h1, h2, h3, h4, _⟩
        · omega
        · exact ⟨g, C, h1, h2, (Array.getElem?_eq_some_iff.1 h3).1, h4⟩
      have hRB : RB w4 (.slice (some ⟨g, 0, none⟩) q.length C) q := .inr ⟨g, 0, C, rfl, by omega, hg2, fun j hj => by
        rw [Nat.zero_add]
        refine (hown4.cellAt j (by omega)).trans ?_
        rw [List.getElem?_append_left (by simpa [u8s] using hj)]
        simp [u8s, List.getD_eq_getElem?_getD, List.getElem?_eq_getElem hj]⟩
      have h71 : w4.cell? ⟨g, q.length, none⟩ = some (.int .u8 71) := by
        refine (hown4.cellAt q.length (by omega)).trans ?_
        rw [List.getElem?_append_right (by simp [u8s])]
        simp [u8s]
      have hwd := words_any _ q w4 (HV.out.below hb4) hRB (by omega)
      have HRB := Lib.hid hRB
      have H71 := Lib.hid h71
      have Hown4 := Lib.hid hown4
      clear hgrow4 hnil4 Hown3 Hn3 hb3 hRB h71 hown4
      go_wp2_with fail
      refine hwd.mono ?_
      rintro e w5 h5
      clear hwd
      have hRB5 := fun hb => RB.below HRB.out (w' := w5) hb
      obtain ⟨vw, rfl, ⟨hown5, _⟩, hb5⟩ := h5.ok l Hw.out
      have hb05 := hb4.trans (hb5.mono hb4.size)
      have hwd := words_any _ q w5 (HV.out.below hb05) (hRB5 hb5) (by omega)
      have Hown5 := Lib.hid hown5
      clear h5 hown5 hRB5
      go_wp2_with fail
      refine hwd.mono ?_
      rintro e w6 h6
      clear hwd
      obtain ⟨vx, rfl, ⟨hown6, _⟩, hb6⟩ := h6.ok l Hw.out
      have hb06 := hb05.trans (hb6.mono hb05.size)
      have Hown6 := Lib.hid hown6
      clear h6 hown6
      have hrw := refwords_any (.slice (some ⟨b, off, none⟩) q.length cap) q w6 (RB.below Hq.out hb06) (by omega)
      unfold RefWordsAns at hrw
      rw [Hw.out] at hrw
      go_wp2_with fail
      refine hrw.mono ?_
      rintro e w7 ⟨vv, rfl, hown7, hb7⟩
      have hb07 := hb06.trans (hb7.mono hb06.size)
      have Hown7 := Lib.hid hown7
      clear hrw hown7
      have hb8 : Below w7.heap.size w7 (w7.alloc (.cells #[.int .i64 0, .int .i64 0, .int .i64 0, .int .i64 0] 35)) := (Below.refl _ w7).alloc (Nat.le_refl _) _
      have hb78 := hb7.trans (hb8.mono hb7.size)
      have hb68 := hb6.trans (hb78.mono hb6.size)
      have hb58 := hb5.trans (hb68.mono hb5.size)
      have hb08 := hb4.trans (hb58.mono hb4.size)
      have hL : (l.map (awOf q)).length ≤ 1099511627776 := by
        have h1 := bulk_wd Hw.out
        have h2 := bulk_len (l.map (awOf q))
        omega
      have hsame : ∀ (i : Nat) a b, (l.map (awOf q))[i]? = some a → (l.map (awOf q))[i]? = some b → Same true a b := fun i a b h1 h2 => by
        rw [h1] at h2; cases h2; exact ⟨rfl, rfl, rfl, fun _ => ⟨rfl, rfl, rfl, rfl⟩⟩
      have hll : (l.map (awOf q)).length = l.length := List.length_map ..
      have r5 : w5.ownsRow w4.heap.size 37 7 vw (l.map (awOf q)).length (awRow (l.map (awOf q))) := by rw [awRow_wd, hll]; exact Hown5.out
      have r6 : w6.ownsRow w5.heap.size 37 7 vx (l.map (awOf q)).length (awRow (l.map (awOf q))) := by rw [awRow_wd, hll]; exact Hown6.out
      have r7 : w7.ownsRow w6.heap.size 37 7 vv (l.map (awOf q)).length (awRow (l.map (awOf q))) := by rw [awRow_wd, hll]; exact Hown7.out
      clear Hown5 Hown6 Hown7 hll
      generalize l.map (awOf q) = L at hL hsame r5 r6 r7
      have s5 := ownsRow_below (ownsRow_below (ownsRow_below r5 hb6) hb7) hb8
      have s6 := ownsRow_below (ownsRow_below r6 hb7) hb8
      have s7 := ownsRow_below r7 hb8
      have hR8 := RB.below HRB.out (hb58.mono (Nat.le_refl _))
      have h718 := cell_kept hb58 H71.out
      have hq8 := RB.below Hq.out hb08
      obtain ⟨o5, c5, rfl⟩ : ∃ o c, vw = .slice o L.length c := by
        rcases r5.2 with ⟨h, h0⟩ | ⟨g, C, cur, h, _⟩
        · exact ⟨none, 0, by rw [h, h0]⟩
        · exact ⟨_, _, h⟩
      obtain ⟨o7, c7, rfl⟩ : ∃ o c, vv = .slice o L.length c := by
        rcases r7.2 with ⟨h, h0⟩ | ⟨g, C, cur, h, _⟩
        · exact ⟨none, 0, by rw [h, h0]⟩
        · exact ⟨_, _, h⟩
      have hg5 : ∀ g5 o, o5 = some (⟨g5, o, none⟩ : Addr) → g5 < w5.heap.size ∧ o = 0 ∧ w4.heap.size ≤ g5 := fun g5 o h => by
        rcases r5.2 with ⟨h1, _⟩ | ⟨g, C, cur, h1, hh1, hh2, _⟩
        · rw [h] at h1; cases h1
        · rw [h] at h1; cases h1; exact ⟨(Array.getElem?_eq_some_iff.1 hh2).1, rfl, hh1⟩
      have hob := fun k hk => (World.ownsRow.lt r5 k hk).2
      clear r5 r6 r7
      go_wp2_with fail
      generalize w7.alloc (.cells #[.int .i64 0, .int .i64 0, .int .i64 0, .int .i64 0] 35) = W8 at hb8 hb78 hb68 hb58 hb08 s5 s6 s7 hR8 h718 hq8 ⊢
      have hcv1 := fun d => str_of_RB (RB.below hR8 (below_drewN (Below.refl _ W8) d))
      have hcv2 := fun d => str_of_RB (RB.below hq8 (below_drewN (Below.refl _ W8) d))
      obtain ⟨S, hS⟩ : ∃ S : ByteArray, ⟨q.toArray⟩ = S := ⟨_, rfl⟩
      rw [hS] at hcv1 hcv2
      have S5 := Lib.hid s5
      have S6 := Lib.hid s6
      have S7 := Lib.hid s7
      have Hsame := Lib.hid hsame
      have b1 : ((q.length : Int)) < ((q.length + 1 : Nat) : Int) := by omega
      have b2 : (0 : Int) ≤ (q.length : Int) := by omega
      have b3 : ((q.length : Int)) < (q.length : Int) + 1 := by omega
      have b4 : q.length ≤ C := by omega
      have b5 : q.length < q.length + 1 := by omega
      clear s5 s6 s7 hR8 hq8 hS hsame
      have hal1 : ∀ n, Calls Tryd.prog 12 #[.slice o5 L.length c5, .slice o7 L.length c7, .bool true] (W8.drewN n) fun e w' => e = .returned (.bool true) ∧ ∃ m, w' = (W8.drewN n).drewN m := fun n => alike_same _ _ L L true (W8.drewN n) (RW.below (RW.own S5.out) (below_drewN (Below.refl _ _) n)) (RW.below (RW.own S7.out) (below_drewN (Below.refl _ _) n)) rfl hL Hsame.out
      have hal2 : ∀ n, Calls Tryd.prog 12 #[vx, .slice o7 L.length c7, .bool true] (W8.drewN n) fun e w' => e = .returned (.bool true) ∧ ∃ m, w' = (W8.drewN n).drewN m := fun n => alike_same _ _ L L true (W8.drewN n) (RW.below (RW.own S6.out) (below_drewN (Below.refl _ _) n)) (RW.below (RW.own S7.out) (below_drewN (Below.refl _ _) n)) rfl hL Hsame.out
      go_quiet (first | (go_at_call 12; with_reducible exact Calls.quiet_of (hal1 _)) | (go_at_call 12; with_reducible exact Calls.quiet_of (hal2 _)))
      have hb9 := below_drewN hb08 nq
      have hb49 := below_drewN hb58 nq
      have hB9 := ownsRow_below Hown4.out hb49
      have s5 := ownsRow_below S5.out (below_drewN (Below.refl _ W8) nq)
      have s6 := ownsRow_below S6.out (below_drewN (Below.refl _ W8) nq)
      have s7 := ownsRow_below S7.out (below_drewN (Below.refl _ W8) nq)
      generalize W8.drewN nq = W9 at hb9 hb49 hB9 s5 s6 s7 ⊢
      have hsz4 := hb4.size
      have hsz5 := hb5.size
      have hsz6 := hb6.size
      have HB9 := Lib.hid hB9
      clear S5 S6 S7 hal1 hal2 hcv1 hcv2 b1 b2 b3 b4 b5 HRB H71 Hown4 hb4 hb5 hb6 hb7 hb8 hb78 hb68 hb58 hb08 hb05 hb06 hb07 hB9 h718
      have S5 := Lib.hid s5
      have S6 := Lib.hid s6
      have S7 := Lib.hid s7
      have hb59 := hb9.size
      clear s5 s6 s7
      go_wp2_with fail
      go_loopw [12] (fun ci wx => ∃ (j : Nat) (xs : List Value), j ≤ q.length + 1 ∧ ci = .int .i64 j ∧ wx.ownsRow w.heap.size 5 1 (.slice (some ⟨g, 0, none⟩) (q.length + 1) C) (q.length + 1) xs ∧ wx.ownsRow w4.heap.size 37 7 (.slice o5 L.length c5) L.length (awRow L) ∧ wx.ownsRow w5.heap.size 37 7 vx L.length (awRow L) ∧ wx.ownsRow w6.heap.size 37 7 (.slice o7 L.length c7) L.length (awRow L) ∧ Below w.heap.size w wx) (fun ci _ => (q.length + 1) - (intOf ci).toNat)
      case atStart => exact ⟨0, _, Nat.zero_le _, rfl, HB9.out, S5.out, S6.out, S7.out, hb9⟩
      case round =>
        obtain ⟨j, xs, hj, rfl, hB, t5, t6, t7, hbr⟩ := hrel
        have HBr := Lib.hid hB
        have T5 := Lib.hid t5
        have T6 := Lib.hid t6
        have T7 := Lib.hid t7
        clear hB t5 t6 t7
        by_cases hlt : j < q.length + 1
        · have hc := HBr.out.cellAt j (by omega)
          have hf := HBr.out.frozenAt j
          obtain ⟨u, hu⟩ : ∃ u, xs[j]? = some u := ⟨_, List.getElem?_eq_getElem (by have := HBr.out.1; omega)⟩
          rw [hu] at hc
          have hst := (HBr.out.stored j (.int .u8 88)).1
          have u5 := ownsRow_setCell_below T5.out (a := ⟨g, j, none⟩) hg2 (.int .u8 88)
          have u6 := ownsRow_setCell_below T6.out (a := ⟨g, j, none⟩) (by simp only; omega) (.int .u8 88)
          have u7 := ownsRow_setCell_below T7.out (a := ⟨g, j, none⟩) (by simp only; omega) (.int .u8 88)
          have hbs := hbr.setCell (p := ⟨g, j, none⟩) hg1 (.int .u8 88)
          have HST := Lib.hid hst
          have U5 := Lib.hid u5
          have U6 := Lib.hid u6
          have U7 := Lib.hid u7
          clear hst u5 u6 u7 hu
          go_wp2_with fail
          go_round
          case rel => exact ⟨j + 1, _, by omega, by go_num, HST.out, U5.out, U6.out, U7.out, hbs⟩
          case measure => simp [intOf]; omega
        · obtain rfl : j = q.length + 1 := by omega
          go_wp2_with fail
          clear HBr HB9 S5 S6 S7 h3 hg1 hC
          go_loopw [13] (fun ci wx => ∃ (j : Nat) (xw : List Value), j ≤ L.length ∧ ci = .int .i64 j ∧ wx.ownsRow w4.heap.size 37 7 (.slice o5 L.length c5) L.length xw ∧ wx.ownsRow w5.heap.size 37 7 vx L.length (awRow L) ∧ wx.ownsRow w6.heap.size 37 7 (.slice o7 L.length c7) L.length (awRow L) ∧ Below w.heap.size w wx) (fun ci _ => L.length - (intOf ci).toNat)
          case atStart => exact ⟨0, _, Nat.zero_le _, rfl, T5.out, T6.out, T7.out, hbr⟩
          case round =>
            clear hbr T5 T6 T7 hj
            obtain ⟨j, xw, hj, rfl, y5, y6, y7, hbr⟩ := hrel
            have Y5 := Lib.hid y5
            have Y6 := Lib.hid y6
            have Y7 := Lib.hid y7
            clear y5 y6 y7
            by_cases hlt : j < L.length
            · obtain ⟨g5, rfl⟩ : ∃ g5, o5 = some ⟨g5, 0, none⟩ := by
                rcases Y5.out.2 with ⟨_, h⟩ | ⟨g, C, cur, h, _⟩
                · omega
                · cases h; exact ⟨_, rfl⟩
              have hg5a := (hg5 g5 0 rfl).1
              have hg5b := (hg5 g5 0 rfl).2.2
              clear hg5
              have hxl := Y5.out.1
              have kc0 : wr.cell? ⟨g5, j * 7, none⟩ = some (xw.getD (j * 7) .nilIface) := by
                refine (Y5.out.cellAt (j * 7) (by omega)).trans ?_
                rw [List.getElem?_eq_getElem (by omega), List.getD_eq_getElem?_getD, List.getElem?_eq_getElem (by omega), Option.getD_some]
              have kf0 := Y5.out.frozenAt (j * 7)
              have kc1 : wr.cell? ⟨g5, j * 7 + 1, none⟩ = some (xw.getD (j * 7 + 1) .nilIface) := by
                refine (Y5.out.cellAt (j * 7 + 1) (by omega)).trans ?_
                rw [List.getElem?_eq_getElem (by omega), List.getD_eq_getElem?_getD, List.getElem?_eq_getElem (by omega), Option.getD_some]
              have kf1 := Y5.out.frozenAt (j * 7 + 1)
              have kc2 : wr.cell? ⟨g5, j * 7 + 2, none⟩ = some (xw.getD (j * 7 + 2) .nilIface) := by
                refine (Y5.out.cellAt (j * 7 + 2) (by omega)).trans ?_
                rw [List.getElem?_eq_getElem (by omega), List.getD_eq_getElem?_getD, List.getElem?_eq_getElem (by omega), Option.getD_some]
              have kf2 := Y5.out.frozenAt (j * 7 + 2)
              have kc3 : wr.cell? ⟨g5, j * 7 + 3, none⟩ = some (xw.getD (j * 7 + 3) .nilIface) := by
                refine (Y5.out.cellAt (j * 7 + 3) (by omega)).trans ?_
                rw [List.getElem?_eq_getElem (by omega), List.getD_eq_getElem?_getD, List.getElem?_eq_getElem (by omega), Option.getD_some]
              have kf3 := Y5.out.frozenAt (j * 7 + 3)
              have kc4 : wr.cell? ⟨g5, j * 7 + 4, none⟩ = some (xw.getD (j * 7 + 4) .nilIface) := by
                refine (Y5.out.cellAt (j * 7 + 4) (by omega)).trans ?_
                rw [List.getElem?_eq_getElem (by omega), List.getD_eq_getElem?_getD, List.getElem?_eq_getElem (by omega), Option.getD_some]
              have kf4 := Y5.out.frozenAt (j * 7 + 4)
              have kc5 : wr.cell? ⟨g5, j * 7 + 5, none⟩ = some (xw.getD (j * 7 + 5) .nilIface) := by
                refine (Y5.out.cellAt (j * 7 + 5) (by omega)).trans ?_
                rw [List.getElem?_eq_getElem (by omega), List.getD_eq_getElem?_getD, List.getElem?_eq_getElem (by omega), Option.getD_some]
              have kf5 := Y5.out.frozenAt (j * 7 + 5)
              have kc6 : wr.cell? ⟨g5, j * 7 + 6, none⟩ = some (xw.getD (j * 7 + 6) .nilIface) := by
                refine (Y5.out.cellAt (j * 7 + 6) (by omega)).trans ?_
                rw [List.getElem?_eq_getElem (by omega), List.getD_eq_getElem?_getD, List.getElem?_eq_getElem (by omega), Option.getD_some]
              have kf6 := Y5.out.frozenAt (j * 7 + 6)
              have z5 := (((((((Y5.out.stored (j * 7) (.int .i64 0)).1.stored (j * 7 + 1) (.string ⟨#[115, 112, 111, 105, 108, 116]⟩)).1.stored (j * 7 + 2) (.int .i64 0)).1.stored (j * 7 + 3) (.int .i64 0)).1.stored (j * 7 + 4) (.int .i64 0)).1.stored (j * 7 + 5) (.int .i64 0)).1.stored (j * 7 + 6) (.int .i64 0)).1
              have z6 := ownsRow_setCell_below (ownsRow_setCell_below (ownsRow_setCell_below (ownsRow_setCell_below (ownsRow_setCell_below (ownsRow_setCell_below (ownsRow_setCell_below (Y6.out) (a := ⟨g5, j * 7, none⟩) hg5a (.int .i64 0)) (a := ⟨g5, j * 7 + 1, none⟩) hg5a (.string ⟨#[115, 112, 111, 105, 108, 116]⟩)) (a := ⟨g5, j * 7 + 2, none⟩) hg5a (.int .i64 0)) (a := ⟨g5, j * 7 + 3, none⟩) hg5a (.int .i64 0)) (a := ⟨g5, j * 7 + 4, none⟩) hg5a (.int .i64 0)) (a := ⟨g5, j * 7 + 5, none⟩) hg5a (.int .i64 0)) (a := ⟨g5, j * 7 + 6, none⟩) hg5a (.int .i64 0)
              have z7 := ownsRow_setCell_below (ownsRow_setCell_below (ownsRow_setCell_below (ownsRow_setCell_below (ownsRow_setCell_below (ownsRow_setCell_below (ownsRow_setCell_below (Y7.out) (a := ⟨g5, j * 7, none⟩) (by simp only; omega) (.int .i64 0)) (a := ⟨g5, j * 7 + 1, none⟩) (by simp only; omega) (.string ⟨#[115, 112, 111, 105, 108, 116]⟩)) (a := ⟨g5, j * 7 + 2, none⟩) (by simp only; omega) (.int .i64 0)) (a := ⟨g5, j * 7 + 3, none⟩) (by simp only; omega) (.int .i64 0)) (a := ⟨g5, j * 7 + 4, none⟩) (by simp only; omega) (.int .i64 0)) (a := ⟨g5, j * 7 + 5, none⟩) (by simp only; omega) (.int .i64 0)) (a := ⟨g5, j * 7 + 6, none⟩) (by simp only; omega) (.int .i64 0)
              have zb := (((((((hbr).setCell (p := ⟨g5, j * 7, none⟩) (by simp only; omega) (.int .i64 0)).setCell (p := ⟨g5, j * 7 + 1, none⟩) (by simp only; omega) (.string ⟨#[115, 112, 111, 105, 108, 116]⟩)).setCell (p := ⟨g5, j * 7 + 2, none⟩) (by simp only; omega) (.int .i64 0)).setCell (p := ⟨g5, j * 7 + 3, none⟩) (by simp only; omega) (.int .i64 0)).setCell (p := ⟨g5, j * 7 + 4, none⟩) (by simp only; omega) (.int .i64 0)).setCell (p := ⟨g5, j * 7 + 5, none⟩) (by simp only; omega) (.int .i64 0)).setCell (p := ⟨g5, j * 7 + 6, none⟩) (by simp only; omega) (.int .i64 0)
              have Z5 := Lib.hid z5
              have Z6 := Lib.hid z6
              have Z7 := Lib.hid z7
              have Zb := Lib.hid zb
              clear z5 z6 z7 zb
              generalize xw.getD (j * 7) .nilIface = e0 at kc0
              generalize xw.getD (j * 7 + 1) .nilIface = e1 at kc1
              generalize xw.getD (j * 7 + 2) .nilIface = e2 at kc2
              generalize xw.getD (j * 7 + 3) .nilIface = e3 at kc3
              generalize xw.getD (j * 7 + 4) .nilIface = e4 at kc4
              generalize xw.getD (j * 7 + 5) .nilIface = e5 at kc5
              generalize xw.getD (j * 7 + 6) .nilIface = e6 at kc6
              go_wp2_with fail
              go_round
              case rel => exact ⟨j + 1, _, by omega, by go_num, Z5.out, Z6.out, Z7.out, Zb.out⟩
              case measure => simp [intOf]; omega
            · obtain rfl : j = L.length := by omega
              have hn9 : ∀ (j : Nat) u, ([.int .i64 0, .string ⟨#[]⟩, .int .i64 0, .int .i64 0, .int .i64 0, .int .i64 0, .int .i64 0, .int .i64 0, .string ⟨#[]⟩, .int .i64 0, .int .i64 0, .int .i64 0, .int .i64 0, .int .i64 0, .int .i64 0, .string ⟨#[]⟩, .int .i64 0, .int .i64 0, .int .i64 0, .int .i64 0, .int .i64 0] : List Value)[j]? = some u → (wr.alloc (.cells #[.int .i64 0, .string ⟨#[]⟩, .int .i64 0, .int .i64 0, .int .i64 0, .int .i64 0, .int .i64 0, .int .i64 0, .string ⟨#[]⟩, .int .i64 0, .int .i64 0, .int .i64 0, .int .i64 0, .int .i64 0, .int .i64 0, .string ⟨#[]⟩, .int .i64 0, .int .i64 0, .int .i64 0, .int .i64 0, .int .i64 0] 37)).cell? ((⟨wr.heap.size, 0, none⟩ : Addr).add j) = some u := fun j u h => cells_new (w := wr) (l := [.int .i64 0, .string ⟨#[]⟩, .int .i64 0, .int .i64 0, .int .i64 0, .int .i64 0, .int .i64 0, .int .i64 0, .string ⟨#[]⟩, .int .i64 0, .int .i64 0, .int .i64 0, .int .i64 0, .int .i64 0, .int .i64 0, .string ⟨#[]⟩, .int .i64 0, .int .i64 0, .int .i64 0, .int .i64 0, .int .i64 0]) (t := 37) j u h
              have Hn9 := Lib.hid hn9
              have hbs := hbr.size
              have hbase : w.heap.size ≤ w4.heap.size := hsz4
              clear hn9
              go_wp2_with (at_builtin; refine wpList_append_own (o := ⟨some 139, _, _, _, _, _⟩) _ rfl _ _ 25 rfl w.heap.size 37 i1 (.agg #[.int .i64 0, .string ⟨#[]⟩, .int .i64 0, .int .i64 0, .int .i64 0, .int .i64 0, .int .i64 0]) 7 64 Tryd.underlying25 Hj1.out hy0 hy1 hy2 rfl (by decide) _ _ _ rfl ((ownsRow_base Y5.out hbase).alloc _) ⟨wr.heap.size, 0, none⟩ 3 3 [.int .i64 0, .string ⟨#[]⟩, .int .i64 0, .int .i64 0, .int .i64 0, .int .i64 0, .int .i64 0, .int .i64 0, .string ⟨#[]⟩, .int .i64 0, .int .i64 0, .int .i64 0, .int .i64 0, .int .i64 0, .int .i64 0, .string ⟨#[]⟩, .int .i64 0, .int .i64 0, .int .i64 0, .int .i64 0, .int .i64 0] rfl rfl Hn9.out ?e1 ?e3 ?e4 ?e5 ?_)
              case e1 => intro u hu; simp only [List.mem_cons, List.not_mem_nil, or_false] at hu; rcases hu with rfl | rfl | rfl | rfl | rfl | rfl | rfl | rfl | rfl | rfl | rfl | rfl | rfl | rfl | rfl | rfl | rfl | rfl | rfl | rfl | rfl <;> rfl
              case e3 => unfold maxLen; omega
              case e4 => omega
              case e5 => simp only [World.size_alloc]; omega
              · intro v9 w9 hown9 hgrow9 hnil9
                have hb9 : Below w.heap.size w w9 := (hbr.alloc hbs _).grown hgrow9 (by simp only [World.size_alloc]; omega) (fun k hk => (ownsRow_base Y5.out hbase).lt k hk |>.1)
                have hne6 : vx.ownBlock = none ∨ vx.ownBlock ≠ (Value.slice o5 L.length c5).ownBlock := by
                  rcases h : vx.ownBlock with _ | k
                  · exact .inl rfl
                  · refine .inr fun e => ?_
                    have h1 := (Y6.out.lt k h).1
                    have h2 := hob k e.symm
                    omega
                have hne7 : (Value.slice o7 L.length c7).ownBlock = none ∨ (Value.slice o7 L.length c7).ownBlock ≠ (Value.slice o5 L.length c5).ownBlock := by
                  rcases h : (Value.slice o7 L.length c7).ownBlock with _ | k
                  · exact .inl rfl
                  · refine .inr fun e => ?_
                    have h1 := (Y7.out.lt k h).1
                    have h2 := hob k e.symm
                    omega
                have x6 := RW.own ((Y6.out.alloc _).kept hgrow9 hne6)
                have x7 := RW.own ((Y7.out.alloc _).kept hgrow9 hne7)
                obtain ⟨o9, c9, rfl⟩ : ∃ o c, v9 = .slice o (L.length + 3) c := by
                  rcases hown9.2 with ⟨h, h0⟩ | ⟨g, C, cur, h, _⟩
                  · omega
                  · exact ⟨_, _, h⟩
                have hal := alike_any _ _ L L true w9 x6 x7 rfl hL Hsame.out
                clear hown9 hgrow9 hnil9 x6 x7 hne6 hne7
                go_wp2_with fail
                refine hal.mono ?_
                rintro e w10 ⟨rfl, hb10⟩
                go_wp2_with fail
                go_ret
                exact ⟨rfl, hb9.trans (hb10.mono hb9.size)⟩
end

section
open Go.RowKit

abbrev loadP (o : Operand) : Op := Op.load 44 o

set_option maxRecDepth 100000 in
set_option maxHeartbeats 8000000 in
/-- LexisWords, bytes that have a fault. -/
theorem law_err (b off cap : Nat) (q : List UInt8) (w : World) (hV : Vars w) (h2 : q.length ≤ cap) (h3 : b < w.heap.size) (h4 : Cells w b off q) (hn : q.length ≤ 10000000) (hE : w.cell? ⟨0, 0, none⟩ = some (.iface 99 (.agg #[.pointer (some ⟨11, 27, none⟩)]))) (P Y : Nat) (hw : words q = .error (P, Y)) :
    Calls Tryd.prog 4 #[(.slice (some ⟨b, off, none⟩) q.length cap)] w fun e w' => e = .returned (.bool true) ∧ Below w.heap.size w w' := by
  have hq : RB w (.slice (some ⟨b, off, none⟩) q.length cap) q := .inr ⟨b, off, cap, rfl, h2, h3, h4⟩
  have Hq := Lib.hid hq
  clear hq
  have hA := awake_any w hV
  have hp0 : ∀ W, Sem.run Tryd.prog (pure #[] : Sem (Array Value)) W = .ok #[] W := fun W => Sem.run_pure ..
  have hs0 : ∀ a W, Sem.run Tryd.prog (storeCells a []) W = .ok () W := fun a W => by simp [storeCells, Sem.run_pure]
  obtain ⟨i0, hi, hz0, hz1, hz2⟩ := info_parts infoU8
  have Hi := Lib.hid hi
  obtain ⟨i1, hj1, hy0, hy1, hy2⟩ := info_parts infoWord
  have Hj1 := Lib.hid hj1
  clear hj1
  have HV := Lib.hid hV
  have Hw := Lib.hid hw
  clear hi hV hw
  go_enter Tryd.func4, Tryd.ntmps4
  go_wp2_with fail
  refine hA.mono ?_
  rintro e w1 ⟨rfl, hb1⟩
  clear hA
  have hb2 := hb1.alloc hb1.size (.cells #[] 5)
  have hown2 : (w1.alloc (.cells #[] 5)).ownsRow w.heap.size 5 1 (.slice (some ⟨w1.heap.size, 0, none⟩) 0 0) 0 [] :=
    ⟨rfl, .inr ⟨w1.heap.size, 0, #[], rfl, hb1.size, heap_alloc_new w1 _, Nat.le_refl _, by decide, rfl, rfl⟩⟩
  have Hown2 := Lib.hid hown2
  clear hown2
  have hnews : ∀ (j : Nat) u, (u8s q)[j]? = some u → (w1.alloc (.cells #[] 5)).cell? ((⟨b, off, none⟩ : Addr).add j) = some u := fun j u h => by
    have hj : j < q.length := by have := (List.getElem?_eq_some_iff.1 h).1; simpa [u8s] using this
    have hadd : (⟨b, off, none⟩ : Addr).add j = ⟨b, off + j, none⟩ := by unfold Addr.add; split <;> simp_all
    rw [hadd, cell_kept hb2 (h4 j hj), ← h]
    simp [u8s, List.getD_eq_getElem?_getD, List.getElem?_eq_getElem hj]
  have Hnews := Lib.hid hnews
  have hlen : (u8s q).length = q.length * 1 := by simp [u8s]
  have hone := u8s_one q
  have Hlen := Lib.hid hlen
  have Hone := Lib.hid hone
  have H4 := Lib.hid h4
  clear hnews hlen hone h4
  go_wp2_with (at_builtin; refine wpList_append_own (o := ⟨some 18, _, _, _, _, _⟩) _ rfl _ _ 22 rfl w.heap.size 5 i0 (.int .u8 0) 1 1 Tryd.underlying22 Hi.out hz0 hz1 hz2 rfl (by decide) _ _ _ rfl Hown2.out ⟨b, off, none⟩ q.length cap (u8s q) rfl Hlen.out Hnews.out Hone.out ?c3 ?c4 ?c5 ?_)
  case c3 => unfold maxLen; omega
  case c4 => omega
  case c5 => exact hb2.size
  · intro v3 w3 hown3 hgrow3 hnil3
    have hb3 : Below w.heap.size w w3 := hb2.grown hgrow3 hb2.size (fun k hk => by cases hk; exact hb1.size)
    have Hown3 := Lib.hid hown3
    clear hown3 hgrow3 hnil3 Hown2 Hnews Hlen Hone hb2 hb1
    have hn3 : ∀ (j : Nat) u, [Value.int .u8 71][j]? = some u → (w3.alloc (.cells #[.int .u8 71] 5)).cell? ((⟨w3.heap.size, 0, none⟩ : Addr).add j) = some u := fun j u h => cells_new (w := w3) (l := [.int .u8 71]) (t := 5) j u h
    have Hn3 := Lib.hid hn3
    clear hn3
    go_wp2_with (at_builtin; refine wpList_append_own (o := ⟨some 21, _, _, _, _, _⟩) _ rfl _ _ 22 rfl w.heap.size 5 i0 (.int .u8 0) 1 1 Tryd.underlying22 Hi.out hz0 hz1 hz2 rfl (by decide) _ _ _ rfl (Hown3.out.alloc _) ⟨w3.heap.size, 0, none⟩ 1 1 [.int .u8 71] rfl rfl Hn3.out ?d1 ?d3 ?d4 ?d5 ?_)
    case d1 => intro u hu; simp at hu; subst hu; rfl
    case d3 => unfold maxLen; omega
    case d4 => omega
    case d5 => simp only [World.size_alloc]; have := hb3.size; omega
    · intro v4 w4 hown4 hgrow4 hnil4
      have hb4 : Below w.heap.size w w4 := (hb3.alloc hb3.size _).grown hgrow4 (by simp only [World.size_alloc]; have := hb3.size; omega) (fun k hk => (Hown3.out.lt k hk).1)
      obtain ⟨g, C, rfl, hg1, hg2, hC⟩ : ∃ g C, v4 = .slice (some ⟨g, 0, none⟩) (q.length + 1) C ∧ w.heap.size ≤ g ∧ g < w4.heap.size ∧ q.length + 1 ≤ C := by
        rcases hown4.2 with ⟨_, h⟩ | ⟨g, C, cur, h1, h2, h3, h4, _⟩
        · omega
        · exact ⟨g, C, h1, h2, (Array.getElem?_eq_some_iff.1 h3).1, h4⟩
      have hRB : RB w4 (.slice (some ⟨g, 0, none⟩) q.length C) q := .inr ⟨g, 0, C, rfl, by omega, hg2, fun j hj => by
        rw [Nat.zero_add]
        refine (hown4.cellAt j (by omega)).trans ?_
        rw [List.getElem?_append_left (by simpa [u8s] using hj)]
        simp [u8s, List.getD_eq_getElem?_getD, List.getElem?_eq_getElem hj]⟩
      have h71 : w4.cell? ⟨g, q.length, none⟩ = some (.int .u8 71) := by
        refine (hown4.cellAt q.length (by omega)).trans ?_
        rw [List.getElem?_append_right (by simp [u8s])]
        simp [u8s]
      have hwd := words_any _ q w4 (HV.out.below hb4) hRB (by omega)
      have HRB := Lib.hid hRB
      have H71 := Lib.hid h71
      have Hown4 := Lib.hid hown4
      clear hgrow4 hnil4 Hown3 Hn3 hb3 hRB h71 hown4
      go_wp2_with fail
      refine hwd.mono ?_
      rintro e w5 h5
      clear hwd
      have hRB5 := fun hb => RB.below HRB.out (w' := w5) hb
      obtain ⟨k5, rfl, hk5, hB5, hb5⟩ : ∃ k, e = .returned (.tuple #[.slice none 0 0, .iface 44 (.pointer (some ⟨k, 0, none⟩))]) ∧ w4.heap.size ≤ k ∧ Blk w5 k #[.int .i64 (place q P).byte, .int .i64 (place q P).rune, .int .i64 (place q P).line, .int .i64 (place q P).col, .int .i64 Y] 48 ∧ Below w4.heap.size w4 w5 := by
        unfold WordsAns at h5
        rw [Hw.out] at h5
        exact h5
      have hb05 := hb4.trans (hb5.mono hb4.size)
      have hwd := words_any _ q w5 (HV.out.below hb05) (hRB5 hb5) (by omega)
      have HB5 := Lib.hid hB5
      clear h5 hB5 hRB5
      go_wp2_with fail
      refine hwd.mono ?_
      rintro e w6 h6
      clear hwd
      obtain ⟨k6, rfl, _, _, hb6⟩ := h6.err _ Hw.out
      have hb06 := hb05.trans (hb6.mono hb05.size)
      clear h6
      have hrw := refwords_any (.slice (some ⟨b, off, none⟩) q.length cap) q w6 (RB.below Hq.out hb06) (by omega)
      unfold RefWordsAns at hrw
      rw [Hw.out] at hrw
      simp only at hrw
      generalize place q P = PL at HB5 hrw
      unfold plV at hrw
      go_wp2_with fail
      refine hrw.mono ?_
      rintro e w7 ⟨rfl, hb7⟩
      have hb07 := hb06.trans (hb7.mono hb06.size)
      clear hrw
      have hb8 : Below w7.heap.size w7 (w7.alloc (.cells #[.int .i64 PL.byte, .int .i64 PL.rune, .int .i64 PL.line, .int .i64 PL.col] 35)) := (Below.refl _ w7).alloc (Nat.le_refl _) _
      have hB8 := Blk.new w7 #[.int .i64 PL.byte, .int .i64 PL.rune, .int .i64 PL.line, .int .i64 PL.col] 35
      have hb78 := hb7.trans (hb8.mono hb7.size)
      have hb68 := hb6.trans (hb78.mono hb6.size)
      have hb58 := hb5.trans (hb68.mono hb5.size)
      have hb08 := hb4.trans (hb58.mono hb4.size)
      have hR8 := RB.below HRB.out (hb58.mono (Nat.le_refl _))
      have h718 := cell_kept hb58 H71.out
      have hq8 := RB.below Hq.out hb08
      have hk8 := HB5.out.below (hb68.mono (Nat.le_refl _))
      have hE8 := cell_kept hb08 hE
      go_wp2_with fail
      generalize w7.alloc (.cells #[.int .i64 PL.byte, .int .i64 PL.rune, .int .i64 PL.line, .int .i64 PL.col] 35) = W8 at hb8 hb78 hb68 hb58 hb08 hR8 h718 hq8 hk8 hE8 hB8 ⊢
      have hcv1 := fun d => str_of_RB (RB.below hR8 (below_drewN (Below.refl _ W8) d))
      have hcv2 := fun d => str_of_RB (RB.below hq8 (below_drewN (Below.refl _ W8) d))
      obtain ⟨S, hS⟩ : ∃ S : ByteArray, ⟨q.toArray⟩ = S := ⟨_, rfl⟩
      rw [hS] at hcv1 hcv2
      have HK8 := Lib.hid hk8
      have HE8 := Lib.hid hE8
      have HB8 := Lib.hid hB8
      have b1 : ((q.length : Int)) < ((q.length + 1 : Nat) : Int) := by omega
      have b2 : (0 : Int) ≤ (q.length : Int) := by omega
      have b3 : ((q.length : Int)) < (q.length : Int) + 1 := by omega
      have b4 : q.length ≤ C := by omega
      have b5 : q.length < q.length + 1 := by omega
      have y1 := words_why q (P, Y) Hw.out
      simp only at y1
      have y0 : (((Y : Nat) : Int) == 0) = false := by simp; omega
      have Y1 := Lib.hid y1
      clear hR8 hq8 hS hk8 hE8 hB8 y1
      have hal : ∀ n, Calls Tryd.prog 12 #[.slice none 0 0, .slice none 0 0, .bool true] (W8.drewN n) fun e w' => e = .returned (.bool true) ∧ ∃ m, w' = (W8.drewN n).drewN m := fun n => alike_same _ _ [] [] true (W8.drewN n) (.inl ⟨rfl, rfl⟩) (.inl ⟨rfl, rfl⟩) rfl (by simp) (fun i a b h _ => by simp at h)
      go_quiet ((go_at_call 12; with_reducible exact Calls.quiet_of (hal _)))
      have hb9 := below_drewN hb08 nq
      have K9 := HK8.out.below (below_drewN (Below.refl _ W8) nq)
      have E9 := cell_kept (below_drewN (Below.refl _ W8) nq) HE8.out
      have B9 := HB8.out.below (below_drewN (Below.refl _ W8) nq)
      generalize W8.drewN nq = W9 at hb9 K9 E9 B9 ⊢
      clear hcv1 hcv2 hal b1 b2 b3 b4 b5 HK8 HE8 HB8 h718 hb8 hb78 hb68 hb58 hb08 hb07 hb06 hb05 hb7 hb6 hb5 hb4 HRB H71 Hown4 HB5
      have HK9 := Lib.hid K9
      have HE9 := Lib.hid E9
      have HB9 := Lib.hid B9
      clear K9 E9 B9
      go_wp2_with fail
      obtain ⟨X, hX⟩ : ∃ X, W9.alloc (.cells #[.pointer none] 44) = X := ⟨_, rfl⟩
      have hkl := HK9.out.lt
      have hbl := HB9.out.lt
      have x5 : Blk X k5 #[.int .i64 PL.byte, .int .i64 PL.rune, .int .i64 PL.line, .int .i64 PL.col, .int .i64 Y] 48 := by rw [← hX]; exact HK9.out.alloc _
      have x7 : Blk X w7.heap.size #[.int .i64 PL.byte, .int .i64 PL.rune, .int .i64 PL.line, .int .i64 PL.col] 35 := by rw [← hX]; exact HB9.out.alloc _
      have x9 : Blk X W9.heap.size #[.pointer none] 44 := by rw [← hX]; exact Blk.new W9 _ _
      have hbX : Below w.heap.size w X := by rw [← hX]; exact hb9.alloc hb9.size _
      have hbW : Below W9.heap.size W9 X := by rw [← hX]; exact (Below.refl _ W9).alloc (Nat.le_refl _) _
      have hEX := cell_kept hbW HE9.out
      rw [hX]
      have hb9s := hb9.size
      clear hX HK9 HB9 HE9 hb9 hbW
      have EP := eq_place 9998
      have hwX := x9.lt
      have hbd : Below X.heap.size X X.drew := (Below.refl _ X).drew
      have hEd := cell_kept hbd hEX
      have d5 := x5.below hbd
      have d7 := x7.below hbd
      have d9 := x9.below hbd
      have hbD : Below w.heap.size w X.drew := hbX.trans (hbd.mono hbX.size)
      have y1 := Y1.out
      have y1' : (Y : Int) = 103 ∨ (Y : Int) = 104 := by omega
      have hI1 := is_why Y y1' k5 X.drew (d5.cell 4 _ rfl)
      have hI2 := is_query Y y1' k5 X.drew (d5.cell 4 _ rfl)
      have hA0 := as_hit ⟨k5, 0, none⟩ ⟨W9.heap.size, 0, none⟩ _ X.drew hEd (d9.cell 0 _ rfl) (d9.free 0)
      have h90 : X.drew.cell? ⟨W9.heap.size, 0, none⟩ = some (.pointer none) := d9.cell 0 _ rfl
      obtain ⟨VV, hv0, hv1⟩ : ∃ VV : World → Value, VV X.drew = .pointer none ∧ ∀ W', W'.cell? ⟨W9.heap.size, 0, none⟩ = some (.pointer (some ⟨k5, 0, none⟩)) → VV W' = .pointer (some ⟨k5, 0, none⟩) :=
        ⟨fun W' => (W'.cell? ⟨W9.heap.size, 0, none⟩).getD .nilIface, by simp only [h90]; rfl, fun W' h => by simp only [h]; rfl⟩
      have HS0 : (X.drew.cell? ⟨W9.heap.size, 0, none⟩ = some (VV X.drew) ∧ X.drew.cell? ⟨k5, 0, none⟩ = some (.int .i64 PL.byte) ∧ X.drew.cell? ⟨k5, 1, none⟩ = some (.int .i64 PL.rune) ∧ X.drew.cell? ⟨k5, 2, none⟩ = some (.int .i64 PL.line) ∧ X.drew.cell? ⟨k5, 3, none⟩ = some (.int .i64 PL.col) ∧ X.drew.cell? ⟨k5, 4, none⟩ = some (.int .i64 Y) ∧ X.drew.cell? ⟨w7.heap.size, 0, none⟩ = some (.int .i64 PL.byte) ∧ X.drew.cell? ⟨w7.heap.size, 1, none⟩ = some (.int .i64 PL.rune) ∧ X.drew.cell? ⟨w7.heap.size, 2, none⟩ = some (.int .i64 PL.line) ∧ X.drew.cell? ⟨w7.heap.size, 3, none⟩ = some (.int .i64 PL.col)) :=
        ⟨h90.trans (congrArg some hv0.symm), d5.cell 0 _ rfl, d5.cell 1 _ rfl, d5.cell 2 _ rfl, d5.cell 3 _ rfl, d5.cell 4 _ rfl, d7.cell 0 _ rfl, d7.cell 1 _ rfl, d7.cell 2 _ rfl, d7.cell 3 _ rfl⟩
      have hAs : Calls Tryd.prog 13 #[.iface 44 (.pointer (some ⟨k5, 0, none⟩)), .iface 46 (.pointer (some ⟨W9.heap.size, 0, none⟩))] X.drew fun e w' => e = .returned (.bool true) ∧ VV w' = .pointer (some ⟨k5, 0, none⟩) ∧ (w'.cell? ⟨W9.heap.size, 0, none⟩ = some (VV w') ∧ w'.cell? ⟨k5, 0, none⟩ = some (.int .i64 PL.byte) ∧ w'.cell? ⟨k5, 1, none⟩ = some (.int .i64 PL.rune) ∧ w'.cell? ⟨k5, 2, none⟩ = some (.int .i64 PL.line) ∧ w'.cell? ⟨k5, 3, none⟩ = some (.int .i64 PL.col) ∧ w'.cell? ⟨k5, 4, none⟩ = some (.int .i64 Y) ∧ w'.cell? ⟨w7.heap.size, 0, none⟩ = some (.int .i64 PL.byte) ∧ w'.cell? ⟨w7.heap.size, 1, none⟩ = some (.int .i64 PL.rune) ∧ w'.cell? ⟨w7.heap.size, 2, none⟩ = some (.int .i64 PL.line) ∧ w'.cell? ⟨w7.heap.size, 3, none⟩ = some (.int .i64 PL.col)) ∧ Below w.heap.size w w' := by
        refine hA0.mono ?_
        rintro e w' ⟨rfl, rfl⟩
        have m9 := ((((d9.alloc (.cells #[.pointer (some (⟨W9.heap.size, 0, none⟩ : Addr))] 46)).alloc (.cells #[.pointer (some ⟨11, 46, none⟩), .pointer (some ⟨X.drew.heap.size, 0, none⟩), .int .u64 150] 81)).alloc (.cells #[.pointer (some ⟨11, 46, none⟩), .pointer (some ⟨X.drew.heap.size, 0, none⟩), .int .u64 150] 81)).alloc (.cells #[.pointer (some (⟨k5, 0, none⟩ : Addr))] 44)).set 0 (.pointer (some ⟨k5, 0, none⟩))
        have m5 := ((((d5.alloc (.cells #[.pointer (some (⟨W9.heap.size, 0, none⟩ : Addr))] 46)).alloc (.cells #[.pointer (some ⟨11, 46, none⟩), .pointer (some ⟨X.drew.heap.size, 0, none⟩), .int .u64 150] 81)).alloc (.cells #[.pointer (some ⟨11, 46, none⟩), .pointer (some ⟨X.drew.heap.size, 0, none⟩), .int .u64 150] 81)).alloc (.cells #[.pointer (some (⟨k5, 0, none⟩ : Addr))] 44)).other ⟨W9.heap.size, 0, none⟩ (.pointer (some ⟨k5, 0, none⟩)) (by simp only; omega)
        have m7 := ((((d7.alloc (.cells #[.pointer (some (⟨W9.heap.size, 0, none⟩ : Addr))] 46)).alloc (.cells #[.pointer (some ⟨11, 46, none⟩), .pointer (some ⟨X.drew.heap.size, 0, none⟩), .int .u64 150] 81)).alloc (.cells #[.pointer (some ⟨11, 46, none⟩), .pointer (some ⟨X.drew.heap.size, 0, none⟩), .int .u64 150] 81)).alloc (.cells #[.pointer (some (⟨k5, 0, none⟩ : Addr))] 44)).other ⟨W9.heap.size, 0, none⟩ (.pointer (some ⟨k5, 0, none⟩)) (by simp only; omega)
        have m0 := m9.cell 0 (.pointer (some ⟨k5, 0, none⟩)) rfl
        have mv := hv1 _ m0
        refine ⟨rfl, mv, ⟨m0.trans (congrArg some mv.symm), m5.cell 0 _ rfl, m5.cell 1 _ rfl, m5.cell 2 _ rfl, m5.cell 3 _ rfl, m5.cell 4 _ rfl, m7.cell 0 _ rfl, m7.cell 1 _ rfl, m7.cell 2 _ rfl, m7.cell 3 _ rfl⟩, ?_⟩
        have g1 := hbD.alloc hbD.size (.cells #[.pointer (some (⟨W9.heap.size, 0, none⟩ : Addr))] 46)
        have g2 := g1.alloc g1.size (.cells #[.pointer (some ⟨11, 46, none⟩), .pointer (some ⟨X.drew.heap.size, 0, none⟩), .int .u64 150] 81)
        have g3 := g2.alloc g2.size (.cells #[.pointer (some ⟨11, 46, none⟩), .pointer (some ⟨X.drew.heap.size, 0, none⟩), .int .u64 150] 81)
        have g4 := g3.alloc g3.size (.cells #[.pointer (some (⟨k5, 0, none⟩ : Addr))] 44)
        exact g4.setCell (p := ⟨W9.heap.size, 0, none⟩) hb9s _
      clear hA0 hEd d5 d7 d9 hbD h90 hv0 hv1 y1 y1'
      have HI1 := Lib.hid hI1
      have HI2 := Lib.hid hI2
      have HAs := Lib.hid hAs
      have HS := Lib.hid HS0
      clear hI1 hI2 hAs HS0
      rw [show Op.load 44 (Operand.tmp 11) = loadP (Operand.tmp 11) from rfl]
      go_region_held3 (fun W' => (W'.cell? ⟨W9.heap.size, 0, none⟩ = some (VV W') ∧ W'.cell? ⟨k5, 0, none⟩ = some (.int .i64 PL.byte) ∧ W'.cell? ⟨k5, 1, none⟩ = some (.int .i64 PL.rune) ∧ W'.cell? ⟨k5, 2, none⟩ = some (.int .i64 PL.line) ∧ W'.cell? ⟨k5, 3, none⟩ = some (.int .i64 PL.col) ∧ W'.cell? ⟨k5, 4, none⟩ = some (.int .i64 Y) ∧ W'.cell? ⟨w7.heap.size, 0, none⟩ = some (.int .i64 PL.byte) ∧ W'.cell? ⟨w7.heap.size, 1, none⟩ = some (.int .i64 PL.rune) ∧ W'.cell? ⟨w7.heap.size, 2, none⟩ = some (.int .i64 PL.line) ∧ W'.cell? ⟨w7.heap.size, 3, none⟩ = some (.int .i64 PL.col))) (with_reducible (first | exact HS.out | exact hsc)) ((first | (go_at_call 8; with_reducible refine HI1.out.mono ?_; rintro e w1 ⟨rfl, rfl⟩) | (go_at_call 8; with_reducible refine HI2.out.mono ?_; rintro e w1 ⟨rfl, rfl⟩) | (go_at_call 13; with_reducible refine HAs.out.mono ?_; rintro e w1 ⟨rfl, hvv, hsc, hb1⟩)))
      go_wp2_with fail
      go_ret
      exact ⟨rfl, hb1⟩
end

section
open Go.RowKit

theorem words_empty : words [] = .ok [] := by rfl
/-- LexisWords. -/
theorem law_any (v : Value) (q : List UInt8) (w : World) (hV : Vars w) (hE : w.cell? ⟨0, 0, none⟩ = some (.iface 99 (.agg #[.pointer (some ⟨11, 27, none⟩)]))) (h : RB w v q) (hn : q.length ≤ 10000000) :
    Calls Tryd.prog 4 #[v] w fun e w' => e = .returned (.bool true) ∧ Below w.heap.size w w' := by
  rcases h with ⟨rfl, rfl⟩ | ⟨b, off, cap, rfl, h2, h3, h4⟩
  · exact law_nil w hV [] words_empty
  · rcases hw : words q with ⟨p, y⟩ | l
    · exact law_err b off cap q w hV h2 h3 h4 hn hE p y hw
    · exact law_ok b off cap q w hV h2 h3 h4 hn l hw
end
end Go.Proofs.YtjmejlncomaclaaDoor.Lx
