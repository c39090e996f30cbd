/- gimletlaw10.LexisPrints is true at every words and text. Condition: the tables; bulk. -/
import Derived.Test.YtjmejlncomaclaaDoorLxPr5
import Derived.Test.YtjmejlncomaclaaDoorLxPc2
namespace Go.Proofs.YtjmejlncomaclaaDoor.Lx
open Go.RowKit

def awRow (l : List AW) : List Value := l.flatMap awCells
theorem awRow_length (l : List AW) : (awRow l).length = l.length * 7 := by
  induction l with
  | nil => rfl
  | cons x t ih => unfold awRow at *; rw [List.flatMap_cons, List.length_append, ih]; simp [awCells]; omega
theorem awRow_at : ∀ (l : List AW) (j : Nat) (u : Value), (awRow l)[j]? = some u → ∃ i f a, j = i * 7 + f ∧ l[i]? = some a ∧ (awCells a)[f]? = some u
  | [], j, u, h => by simp [awRow] at h
  | x :: t, j, u, h => by
    unfold awRow at h
    rw [List.flatMap_cons] at h
    by_cases hj : j < 7
    · rw [List.getElem?_append_left (by simpa [awCells] using hj)] at h
      exact ⟨0, j, x, by omega, rfl, h⟩
    · rw [List.getElem?_append_right (by simp [awCells]; omega)] at h
      obtain ⟨i, f, a, h1, h2, h3⟩ := awRow_at t (j - 7) u (by simpa [awCells, awRow] using h)
      exact ⟨i + 1, f, a, by omega, by simpa using h2, h3⟩
theorem awRow_get : ∀ (l : List AW) (k : Nat) (x : AW), l[k]? = some x → ∀ (f : Nat) u, (awCells x)[f]? = some u → (awRow l)[k * 7 + f]? = some u
  | [], k, x, h, _, _, _ => by simp at h
  | y :: t, 0, x, h, f, u, hu => by
    simp at h
    subst h
    have hf : f < 7 := by have := (List.getElem?_eq_some_iff.1 hu).1; simpa [awCells] using this
    unfold awRow
    rw [List.flatMap_cons, Nat.zero_mul, Nat.zero_add, List.getElem?_append_left (by simpa [awCells] using hf)]
    exact hu
  | y :: t, k + 1, x, h, f, u, hu => by
    unfold awRow
    rw [List.flatMap_cons, List.getElem?_append_right (by simp [awCells]; omega)]
    have : (k + 1) * 7 + f - (awCells y).length = k * 7 + f := by simp [awCells]; omega
    rw [this]
    exact awRow_get t k x (by simpa using h) f u hu
theorem awRow_one (l : List AW) : ∀ u ∈ awRow l, u.oneCell' = true := by
  intro u hu
  obtain ⟨a, _, hu⟩ := List.mem_flatMap.1 hu
  simp [awCells] at hu
  rcases hu with rfl | rfl | rfl | rfl | rfl | rfl | rfl <;> rfl
theorem RW.own {w : World} {base : Nat} {T : TypeId} {v : Value} {l : List AW} (h : w.ownsRow base T 7 v l.length (awRow l)) : RW w v l := by
  have hown := h
  rcases h.2 with ⟨hv, h0⟩ | ⟨g, cap, cur, rfl, hg, hh, hcc, hml⟩
  · exact .inl ⟨hv, List.length_eq_zero_iff.1 h0⟩
  · refine .inr ⟨g, 0, cap, rfl, hcc, (Array.getElem?_eq_some_iff.1 hh).1, fun i a hi f u hu => ?_⟩
    have hf : f < 7 := by have := (List.getElem?_eq_some_iff.1 hu).1; simpa [awCells] using this
    have hil := (List.getElem?_eq_some_iff.1 hi).1
    rw [Nat.zero_add]
    exact (hown.cellAt (i * 7 + f) (by omega)).trans (awRow_get l i a hi f u hu)
/-- A word of lexis.Words, as it lies. -/
def awOf (q : List UInt8) (y : Wd × Nat) : AW := ⟨y.1.kind, ⟨y.1.text.toArray⟩, y.1.num, (place q y.2).byte, (place q y.2).rune, (place q y.2).line, (place q y.2).col⟩
theorem awRow_wd (q : List UInt8) (l : List (Wd × Nat)) : awRow (l.map (awOf q)) = wdRow q l := by
  unfold awRow wdRow
  rw [List.flatMap_map]
  rfl
theorem prW_wd (q : List UInt8) (y : Wd × Nat) : prW (awOf q y) = pr1 y.1 := rfl
theorem nums_wd {q : List UInt8} {l : List (Wd × Nat)} (h : words q = .ok l) : NumsOk (l.map (awOf q)) := by
  intro a ha
  obtain ⟨y, hy, rfl⟩ := List.mem_map.1 ha
  have := words_num h y hy
  simp only [awOf]
  omega
theorem cover_bulk (q : List UInt8) (Q : List UInt8) : ∀ (l : List (Wd × Nat)) p, p ≤ q.length → Cover q p l → bulkW (l.map (awOf Q)) + 24 * p ≤ 24 * q.length
  | [], p, hp, _ => by simp [bulkW]; omega
  | (x, s) :: t, p, hp, h => by
    obtain ⟨h1, h2, _, n, hw, hc⟩ := h
    have hw2 := hw.2.1
    have ih := cover_bulk q Q t (s + n) hw2 hc
    have hx : x.text.length ≤ n := by
      rcases hw.2.2 with ⟨_, h3, _⟩ | ⟨_, _, _, h3⟩ | ⟨_, h3, _⟩
      · omega
      · rw [h3]; exact Nat.zero_le _
      · omega
    have := hw.1
    have e : (awOf Q (x, s)).text.size = x.text.length := by unfold awOf; rw [Lib.size_eq]
    simp only [bulkW, List.map_cons, List.sum_cons] at ih ⊢
    rw [e]
    omega
theorem bulk_wd {q : List UInt8} {l : List (Wd × Nat)} (h : words q = .ok l) : bulkW (l.map (awOf q)) ≤ 24 * q.length := by
  have := cover_bulk q q l 0 (Nat.zero_le _) (words_cover q l h)
  omega

set_option maxRecDepth 100000 in
set_option maxHeartbeats 8000000 in
/-- LexisPrints. -/
theorem prints_any (vl vq : Value) (l : List AW) (q : List UInt8) (w : World) (hV : Vars w) (hP : Pow10 w) (hl : RW w vl l) (hk : NumsOk l) (hn : bulkW l ≤ 1000000000) (hq : RB w vq q) (hnq : q.length ≤ 10000000) :
    Calls Tryd.prog 5 #[vl, vq] w fun e w' => e = .returned (.bool true) ∧ Below w.heap.size w w' := by
  have hA := awake_any w hV
  have hll := bulk_len l
  have hl' := hl
  have HV := Lib.hid hV
  have HP := Lib.hid hP
  have Hl := Lib.hid hl
  have Hk := Lib.hid hk
  have Hq := Lib.hid hq
  clear hV hP hl hk hq
  have hp0 : ∀ W, Sem.run Tryd.prog (pure #[] : Sem (Array Value)) W = .ok #[] W := fun W => Sem.run_pure ..
  have hs0 : ∀ a W, Sem.run Tryd.prog (storeCells a []) W = .ok () W := fun a W => by simp [storeCells, Sem.run_pure]
  have hwc : (∃ x, words q = .error x) ∨ ∃ lp, words q = .ok lp := by
    cases words q with
    | error x => exact .inl ⟨x, rfl⟩
    | ok lp => exact .inr ⟨lp, rfl⟩
  have Hwc := Lib.hid hwc
  clear hwc
  obtain ⟨P, hPe⟩ : ∃ P : ByteArray, ⟨(Lib.join (l.map prW) [32]).toArray⟩ = P := ⟨_, rfl⟩
  have HPe := Lib.hid hPe
  clear hPe
  obtain ⟨i0, hi, hz0, hz1, hz2⟩ := info_parts infoWord
  rcases hl' with ⟨rfl, h0⟩ | ⟨k, off, c, rfl, hc, hkl, hcl⟩
  · have H0 := Lib.hid h0
    clear h0
    go_enter Tryd.func5, Tryd.ntmps5
    go_wp2_with fail
    refine hA.mono ?_
    rintro e w1 ⟨rfl, hb1⟩
    go_wp2_with fail
    have hb3 := hb1.alloc hb1.size (.cells #[] 37)
    have hR3 : RW (w1.alloc (.cells #[] 37)) (.slice (some ⟨w1.heap.size, 0, none⟩) 0 0) l := by
      rw [H0.out]
      exact .inr ⟨w1.heap.size, 0, 0, rfl, Nat.le_refl _, by simp, fun i a h => by simp at h⟩
    generalize w1.alloc (.cells #[] 37) = W3 at hb3 hR3 ⊢
    have hp1 := print_any _ l W3 (HP.out.below hb3) hR3 Hk.out hn
    rw [HPe.out] at hp1
    have hR3b := Lib.hid hR3
    have hsame : ∀ (i : Nat) a b, l[i]? = some a → l[i]? = some b → Same true a b := fun i a b h1 h2 => by
      rw [h1] at h2; cases h2; exact ⟨rfl, rfl, rfl, fun _ => ⟨rfl, rfl, rfl, rfl⟩⟩
    have Hsame := Lib.hid hsame
    clear hR3 hsame
    refine hp1.mono ?_
    rintro e w4 ⟨rfl, hb4⟩
    have hb04 := hb3.trans (hb4.mono hb3.size)
    go_wp2_with fail
    have hp2 := refprint_any _ l w4 (RW.below Hl.out hb04) Hk.out hn
    rw [HPe.out] at hp2
    refine hp2.mono ?_
    rintro e w5 ⟨rfl, hb5⟩
    have hb05 := hb04.trans (hb5.mono hb04.size)
    have hal := alike_any _ _ l l true w5 (RW.below (RW.below hR3b.out hb4) hb5) (RW.below Hl.out hb05) rfl (by omega) Hsame.out
    go_wp2_with fail
    refine hal.mono ?_
    rintro e w6 ⟨rfl, hb6⟩
    have hb06 := hb05.trans (hb6.mono hb05.size)
    clear hp1 hp2 hal hb4 hb5 hb6
    have hwd := words_any vq q w6 (HV.out.below hb06) (RB.below Hq.out hb06) (by omega)
    go_wp2_with fail
    refine hwd.mono ?_
    rintro e w7 h
    clear hwd
    rcases Hwc.out with ⟨x, hw⟩ | ⟨lp, hw⟩
    · obtain ⟨k7, rfl, _, _, hb7⟩ := h.err x hw
      clear h hw
      go_wp2_with fail
      go_ret
      exact ⟨rfl, hb06.trans (hb7.mono hb06.size)⟩
    · obtain ⟨v7, rfl, ⟨hown7, _⟩, hb7⟩ := h.ok lp hw
      have hb07 := hb06.trans (hb7.mono hb06.size)
      rw [← awRow_wd] at hown7
      have hR7 : RW w7 v7 (lp.map (awOf q)) := RW.own (by rw [List.length_map]; exact hown7)
      have hbk := bulk_wd hw
      have hp7 := print_any v7 _ w7 (HP.out.below hb07) hR7 (nums_wd hw) (by omega)
      have hpl := printed_len hw
      have eP : (lp.map (awOf q)).map prW = lp.map fun y => pr1 y.1 := by rw [List.map_map]; rfl
      rw [eP] at hp7
      obtain ⟨l2, hw2, hw3⟩ := words_print (lp.map (·.1)) (fun x hx => by obtain ⟨y, hy, rfl⟩ := List.mem_map.1 hx; exact words_self hw y hy)
      rw [List.map_map] at hw2
      obtain ⟨T, hT⟩ : ∃ T, Lib.join (lp.map fun y => pr1 y.1) [32] = T := ⟨_, rfl⟩
      have hw2' : words T = .ok l2 := by rw [← hT]; exact hw2
      rw [hT] at hp7 hpl
      obtain ⟨S, hS⟩ : ∃ S : ByteArray, ⟨T.toArray⟩ = S := ⟨_, rfl⟩
      have hSd : S.data.toList = T := by rw [← hS]
      rw [hS] at hp7
      have HR7 := Lib.hid hR7
      have Hw2 := Lib.hid hw2'
      have Hw3 := Lib.hid hw3
      have HSd := Lib.hid hSd
      clear h hw hown7 hR7 eP hw2 hw3 hT hw2' hS hSd
      go_wp2_with fail
      refine hp7.mono ?_
      rintro e w8 ⟨rfl, hb8⟩
      obtain ⟨C, w9, cB, hRB, hb9⟩ := bytes_of_str w8 S
      rw [HSd.out] at hRB
      have hb08 := hb07.trans (hb8.mono hb07.size)
      have hb09 := hb08.trans (hb9.mono hb08.size)
      have hwd := words_any _ T w9 (HV.out.below hb09) hRB (by omega)
      have hb79 := hb8.trans (hb9.mono hb8.size)
      clear hRB hp7 hb8 hb9
      go_wp2_with fail
      refine hwd.mono ?_
      rintro e w10 h
      clear hwd
      obtain ⟨v10, rfl, ⟨hown10, _⟩, hb10⟩ := h.ok l2 Hw2.out
      rw [← awRow_wd] at hown10
      have hR10 : RW w10 v10 (l2.map (awOf T)) := RW.own (by rw [List.length_map]; exact hown10)
      have hb010 := hb09.trans (hb10.mono hb09.size)
      have hll2 : l2.length = lp.length := by have := congrArg List.length Hw3.out; simpa using this
      have hcov : lp.length ≤ 1099511627776 := by
        have := bulk_len (lp.map (awOf q))
        rw [List.length_map] at this
        omega
      have hal := alike_any v7 v10 (lp.map (awOf q)) (l2.map (awOf T)) false w10 (RW.below (RW.below HR7.out hb79) hb10) hR10 (by rw [List.length_map, List.length_map, hll2]) (by rw [List.length_map]; exact hcov) (fun i a b h1 h2 => by
        have h3 := congrArg (·[i]?) Hw3.out
        simp only [List.getElem?_map] at h1 h2 h3
        cases hl1 : lp[i]? with
        | none => rw [hl1] at h1; cases h1
        | some y =>
          cases hl2 : l2[i]? with
          | none => rw [hl2] at h2; cases h2
          | some z =>
            rw [hl1] at h1 h3
            rw [hl2] at h2 h3
            cases h1
            cases h2
            simp only [Option.map_some, Option.some.injEq] at h3
            unfold awOf
            rw [h3]
            exact ⟨rfl, rfl, rfl, fun h => by cases h⟩)
      clear h hown10 hR10 hll2 hcov
      go_wp2_with fail
      refine hal.mono ?_
      rintro e w11 ⟨rfl, hb11⟩
      go_wp2_with fail
      go_ret
      exact ⟨rfl, hb010.trans (hb11.mono hb010.size)⟩
  · have Hcl := Lib.hid hcl
    clear hcl
    go_enter Tryd.func5, Tryd.ntmps5
    go_wp2_with fail
    refine hA.mono ?_
    rintro e w1 ⟨rfl, hb1⟩
    have hb2 := hb1.alloc hb1.size (.cells #[] 37)
    have hown : (w1.alloc (.cells #[] 37)).ownsRow w.heap.size 37 7 (.slice (some ⟨w1.heap.size, 0, none⟩) 0 0) 0 [] :=
      ⟨rfl, .inr ⟨w1.heap.size, 0, #[], rfl, hb1.size, heap_alloc_new w1 _, Nat.le_refl _, by decide, rfl, rfl⟩⟩
    have hnews : ∀ (j : Nat) u, (awRow l)[j]? = some u → (w1.alloc (.cells #[] 37)).cell? ((⟨k, off, none⟩ : Addr).add j) = some u := fun j u h => by
      obtain ⟨i, f, a, rfl, h2, h3⟩ := awRow_at l j u h
      have hadd : (⟨k, off, none⟩ : Addr).add (i * 7 + f) = ⟨k, off + i * 7 + f, none⟩ := by unfold Addr.add; split <;> simp_all; omega
      rw [hadd]
      exact cell_kept hb2 (Hcl.out i a h2 f u h3)
    have Hown := Lib.hid hown
    have Hnews := Lib.hid hnews
    have hlen := awRow_length l
    have hone := awRow_one l
    have Hlen := Lib.hid hlen
    have Hone := Lib.hid hone
    clear hown hnews hlen hone
    go_wp2_with (at_builtin; go_must (refine wpList_append_own _ rfl _ _ 25 rfl w.heap.size 37 i0 (.agg #[.int .i64 0, .string ⟨#[]⟩, .int .i64 0, .int .i64 0, .int .i64 0, .int .i64 0, .int .i64 0]) 7 64 Tryd.underlying25 hi hz0 hz1 hz2 rfl (by decide) _ _ _ rfl Hown.out ⟨k, off, none⟩ l.length c (awRow l) rfl Hlen.out Hnews.out Hone.out ?c3 ?c4 ?c5 ?_))
    case c3 => unfold maxLen; omega
    case c4 => omega
    case c5 => exact hb2.size
    · intro v3 W3 hown3 hgrow3 hnil3
      have hb3 : Below w.heap.size w W3 := hb2.grown hgrow3 hb2.size (fun k hk => by cases hk; exact hb1.size)
      have hR3 : RW W3 v3 l := by
        exact RW.own hown3
      clear hown3 hgrow3 hnil3
      go_wp2_with fail
      have hp1 := print_any _ l W3 (HP.out.below hb3) hR3 Hk.out hn
      rw [HPe.out] at hp1
      have hR3b := Lib.hid hR3
      have hsame : ∀ (i : Nat) a b, l[i]? = some a → l[i]? = some b → Same true a b := fun i a b h1 h2 => by
        rw [h1] at h2; cases h2; exact ⟨rfl, rfl, rfl, fun _ => ⟨rfl, rfl, rfl, rfl⟩⟩
      have Hsame := Lib.hid hsame
      clear hR3 hsame
      refine hp1.mono ?_
      rintro e w4 ⟨rfl, hb4⟩
      have hb04 := hb3.trans (hb4.mono hb3.size)
      go_wp2_with fail
      have hp2 := refprint_any _ l w4 (RW.below Hl.out hb04) Hk.out hn
      rw [HPe.out] at hp2
      refine hp2.mono ?_
      rintro e w5 ⟨rfl, hb5⟩
      have hb05 := hb04.trans (hb5.mono hb04.size)
      have hal := alike_any _ _ l l true w5 (RW.below (RW.below hR3b.out hb4) hb5) (RW.below Hl.out hb05) rfl (by omega) Hsame.out
      go_wp2_with fail
      refine hal.mono ?_
      rintro e w6 ⟨rfl, hb6⟩
      have hb06 := hb05.trans (hb6.mono hb05.size)
      clear hp1 hp2 hal hb4 hb5 hb6
      have hwd := words_any vq q w6 (HV.out.below hb06) (RB.below Hq.out hb06) (by omega)
      go_wp2_with fail
      refine hwd.mono ?_
      rintro e w7 h
      clear hwd
      rcases Hwc.out with ⟨x, hw⟩ | ⟨lp, hw⟩
      · obtain ⟨k7, rfl, _, _, hb7⟩ := h.err x hw
        clear h hw
        go_wp2_with fail
        go_ret
        exact ⟨rfl, hb06.trans (hb7.mono hb06.size)⟩
      · obtain ⟨v7, rfl, ⟨hown7, _⟩, hb7⟩ := h.ok lp hw
        have hb07 := hb06.trans (hb7.mono hb06.size)
        rw [← awRow_wd] at hown7
        have hR7 : RW w7 v7 (lp.map (awOf q)) := RW.own (by rw [List.length_map]; exact hown7)
        have hbk := bulk_wd hw
        have hp7 := print_any v7 _ w7 (HP.out.below hb07) hR7 (nums_wd hw) (by omega)
        have hpl := printed_len hw
        have eP : (lp.map (awOf q)).map prW = lp.map fun y => pr1 y.1 := by rw [List.map_map]; rfl
        rw [eP] at hp7
        obtain ⟨l2, hw2, hw3⟩ := words_print (lp.map (·.1)) (fun x hx => by obtain ⟨y, hy, rfl⟩ := List.mem_map.1 hx; exact words_self hw y hy)
        rw [List.map_map] at hw2
        obtain ⟨T, hT⟩ : ∃ T, Lib.join (lp.map fun y => pr1 y.1) [32] = T := ⟨_, rfl⟩
        have hw2' : words T = .ok l2 := by rw [← hT]; exact hw2
        rw [hT] at hp7 hpl
        obtain ⟨S, hS⟩ : ∃ S : ByteArray, ⟨T.toArray⟩ = S := ⟨_, rfl⟩
        have hSd : S.data.toList = T := by rw [← hS]
        rw [hS] at hp7
        have HR7 := Lib.hid hR7
        have Hw2 := Lib.hid hw2'
        have Hw3 := Lib.hid hw3
        have HSd := Lib.hid hSd
        clear h hw hown7 hR7 eP hw2 hw3 hT hw2' hS hSd
        go_wp2_with fail
        refine hp7.mono ?_
        rintro e w8 ⟨rfl, hb8⟩
        obtain ⟨C, w9, cB, hRB, hb9⟩ := bytes_of_str w8 S
        rw [HSd.out] at hRB
        have hb08 := hb07.trans (hb8.mono hb07.size)
        have hb09 := hb08.trans (hb9.mono hb08.size)
        have hwd := words_any _ T w9 (HV.out.below hb09) hRB (by omega)
        have hb79 := hb8.trans (hb9.mono hb8.size)
        clear hRB hp7 hb8 hb9
        go_wp2_with fail
        refine hwd.mono ?_
        rintro e w10 h
        clear hwd
        obtain ⟨v10, rfl, ⟨hown10, _⟩, hb10⟩ := h.ok l2 Hw2.out
        rw [← awRow_wd] at hown10
        have hR10 : RW w10 v10 (l2.map (awOf T)) := RW.own (by rw [List.length_map]; exact hown10)
        have hb010 := hb09.trans (hb10.mono hb09.size)
        have hll2 : l2.length = lp.length := by have := congrArg List.length Hw3.out; simpa using this
        have hcov : lp.length ≤ 1099511627776 := by
          have := bulk_len (lp.map (awOf q))
          rw [List.length_map] at this
          omega
        have hal := alike_any v7 v10 (lp.map (awOf q)) (l2.map (awOf T)) false w10 (RW.below (RW.below HR7.out hb79) hb10) hR10 (by rw [List.length_map, List.length_map, hll2]) (by rw [List.length_map]; exact hcov) (fun i a b h1 h2 => by
          have h3 := congrArg (·[i]?) Hw3.out
          simp only [List.getElem?_map] at h1 h2 h3
          cases hl1 : lp[i]? with
          | none => rw [hl1] at h1; cases h1
          | some y =>
            cases hl2 : l2[i]? with
            | none => rw [hl2] at h2; cases h2
            | some z =>
              rw [hl1] at h1 h3
              rw [hl2] at h2 h3
              cases h1
              cases h2
              simp only [Option.map_some, Option.some.injEq] at h3
              unfold awOf
              rw [h3]
              exact ⟨rfl, rfl, rfl, fun h => by cases h⟩)
        clear h hown10 hR10 hll2 hcov
        go_wp2_with fail
        refine hal.mono ?_
        rintro e w11 ⟨rfl, hb11⟩
        go_wp2_with fail
        go_ret
        exact ⟨rfl, hb010.trans (hb11.mono hb010.size)⟩
end Go.Proofs.YtjmejlncomaclaaDoor.Lx
