/- gimletref01.Chars: the characters, each where it begins, and its width. Condition: at most 1000000000 bytes. -/
import Derived.Test.YtjmejlncomaclaaDoorLxD5
import Derived.Test.YtjmejlncomaclaaDoorLxPrint2
import Derived.Deep.DeepMust
namespace Go.Proofs.YtjmejlncomaclaaDoor.Lx
open Go.RowKit

/-- A character's three cells. -/
def chCells (q : List UInt8) (x : Nat × Nat) : List Value := [.int .i64 x.1, .int .i64 x.2, .int .i64 (dec (q.drop x.1)).2]
def chRow (q : List UInt8) (l : List (Nat × Nat)) : List Value := l.flatMap (chCells q)
theorem chRow_next (q : List UInt8) (n : Nat) (h : n < (chars q).length) : chRow q ((chars q).take (n + 1)) = chRow q ((chars q).take n) ++ [.int .i64 (bnd q n), .int .i64 (dec (q.drop (bnd q n))).1, .int .i64 (dec (q.drop (bnd q n))).2] := by
  obtain ⟨_, h2⟩ := chars_get q n h
  unfold chRow
  rw [List.take_add_one, h2]
  simp [chCells]
theorem chRow_length (q : List UInt8) (l : List (Nat × Nat)) : (chRow q l).length = l.length * 3 := by
  induction l with
  | nil => rfl
  | cons x t ih => unfold chRow at *; rw [List.flatMap_cons, List.length_append, ih]; simp [chCells]; omega
theorem chRow_get (q : List UInt8) : ∀ (l : List (Nat × Nat)) (k : Nat) (x : Nat × Nat), l[k]? = some x → ∀ (f : Nat) u, (chCells q x)[f]? = some u → (chRow q l)[k * 3 + f]? = some u
  | [], k, x, h, _, _, _ => by simp at h
  | y :: t, 0, x, h, f, u, hu => by
    simp at h
    subst h
    have hf : f < 3 := by have := (List.getElem?_eq_some_iff.1 hu).1; simpa [chCells] using this
    unfold chRow
    rw [List.flatMap_cons, Nat.zero_mul, Nat.zero_add, List.getElem?_append_left (by simpa [chCells] using hf)]
    exact hu
  | y :: t, k + 1, x, h, f, u, hu => by
    unfold chRow
    rw [List.flatMap_cons, List.getElem?_append_right (by simp [chCells]; omega)]
    have : (k + 1) * 3 + f - (chCells q y).length = k * 3 + f := by simp [chCells]; omega
    rw [this]
    exact chRow_get q t k x (by simpa using h) f u hu
theorem infoCh : (Tryd.prog.info? 75).map (fun i => (i.zero, i.size, i.bytes)) = some (some (.agg #[.int .i64 0, .int .i64 0, .int .i64 0]), 3, 24) := by kernel_rfl
/-- A part of the bytes. -/
theorem RB.part {w : World} {b off cap : Nat} {q : List UInt8} (h2 : q.length ≤ cap) (h3 : b < w.heap.size) (h4 : Cells w b off q) (a n : Nat) (han : a + n ≤ q.length) :
    RB w (.slice (some ⟨b, off + a, none⟩) n (cap - a)) ((q.drop a).take n) := by
  have hl : ((q.drop a).take n).length = n := by rw [List.length_take, List.length_drop]; omega
  refine .inr ⟨b, off + a, cap - a, by rw [hl], by rw [hl]; omega, h3, fun j hj => ?_⟩
  rw [hl] at hj
  have := h4 (a + j) (by omega)
  rw [show off + a + j = off + (a + j) by omega, this]
  simp [List.getD_eq_getElem?_getD, List.getElem?_take_of_lt hj, List.getElem?_drop]

set_option maxRecDepth 100000 in
set_option maxHeartbeats 8000000 in
/-- gimletref01.Chars. -/
theorem chars_any (v : Value) (q : List UInt8) (w : World) (h : RB w v q) (hn : q.length ≤ 1000000000) :
    Calls Tryd.prog 27 #[v] w fun e w' => ∃ u, e = .returned u ∧ w'.ownsRow w.heap.size 75 3 u (chars q).length (chRow q (chars q)) ∧ Below w.heap.size w w' := by
  have hF := fun W (hb : Below w.heap.size w W) a ha => front_any v q a W (RB.below h hb) hn ha
  have hcl := charsAt_length q _ 0 (Nat.le_refl _)
  rw [← chars_eq] at hcl
  obtain ⟨i0, hi, hz0, hz1, hz2⟩ := info_parts infoCh
  have Hi := Lib.hid hi
  clear hi
  rcases h with ⟨rfl, rfl⟩ | ⟨b, off, cap, rfl, h2, h3, h4⟩
  · go_enter Tryd.func27, Tryd.ntmps27
    go_wp2_with fail
    refine wp_loop_rounds 1 ?_
    rw [rounds_succ]
    go_wp2_with fail
    go_ret
    exact ⟨_, rfl, World.ownsRow_nil _ _ _ _, Below.refl _ _⟩
  · have HF := Lib.hid hF
    have H4 := Lib.hid h4
    clear hF h4
    go_enter Tryd.func27, Tryd.ntmps27
    go_wp2_with fail
    go_loopw [3, 4] (fun u i wr => ∃ n : Nat, n ≤ (chars q).length ∧ i = .int .i64 (bnd q n) ∧ wr.ownsRow w.heap.size 75 3 u n (chRow q ((chars q).take n)) ∧ Below w.heap.size w wr) (fun _ i _ => q.length - (intOf i).toNat)
    case atStart => exact ⟨0, Nat.zero_le _, rfl, World.ownsRow_nil _ _ _ _, Below.refl _ _⟩
    case round =>
      obtain ⟨n, hnl, rfl, hown, hbr⟩ := hrel
      have Hown := Lib.hid hown
      clear hown
      by_cases hlt : n < (chars q).length
      · have hblt := (chars_get q n hlt).1
        have h1 := HF.out wr hbr (bnd q n) (by omega)
        have hs := bnd_succ q n
        have hle := bnd_step q n hblt
        have hmono := bnd_lt q n
        have hnext := chRow_next q n hlt
        have hP := fun W (hb : Below w.heap.size w W) m hm => RB.part (w := W) h2 (Nat.lt_of_lt_of_le h3 hb.size) (H4.out.below hb) (bnd q n) m hm
        by_cases ho : Okc (q.drop (bnd q n))
        · have hd := dec_ok ho
          have hof := okc_front ho
          have e1 : (front (q.drop (bnd q n))).1 = (dec (q.drop (bnd q n))).2 := by rw [ho.2]; omega
          obtain ⟨t1, t2⟩ := okc_take ho (dec (q.drop (bnd q n))).2 (Nat.le_refl _) (dec_le _ (drop_ne' hblt))
          have hV := fun W (hb : Below w.heap.size w W) => value_any _ _ W (hP W hb (dec (q.drop (bnd q n))).2 (by omega)) t1 (by rw [t2, List.length_take, Nat.min_eq_left (dec_le _ (drop_ne' hblt))])
          simp only [t2] at hV
          rw [e1, ← hd] at h1
          obtain ⟨A, hA⟩ : ∃ A, bnd q n = A := ⟨_, rfl⟩
          rw [hA] at h1 hs hmono hnext hblt ⊢
          simp only [hA] at hV
          obtain ⟨⟨r, d⟩, hrd⟩ : ∃ x, dec (q.drop A) = x := ⟨_, rfl⟩
          rw [hrd] at h1 hs hnext
          simp only [hrd] at hV
          simp only at h1 hs hnext
          rw [hs] at hle hmono
          have hd0 : decide ((0 : Int) < (d : Int)) = true := by simp; omega
          have ws : IntKind.i64.wrap ((A : Int) + (d : Int)) = (A : Int) + (d : Int) := IntWalk.i64_in _ (by omega)
          have HV := Lib.hid hV
          have Hnext := Lib.hid hnext
          have Hs := Lib.hid hs
          have hdp : 0 < d := by omega
          have hds : A + d - A = d := by omega
          clear hV hnext hs hP e1 hd hof t1 t2 ho hrd hA
          go_wp2_with fail
          refine h1.mono ?_
          rintro e w1 ⟨rfl, rfl⟩
          go_wp2_with fail
          refine (HV.out _ hbr).mono ?_
          rintro e w2 ⟨rfl, rfl⟩
          have hn5 : ∀ (j : Nat) u, [Value.int .i64 A, .int .i64 r, .int .i64 d][j]? = some u → (w2.alloc (.cells #[.int .i64 A, .int .i64 r, .int .i64 d] 75)).cell? ((⟨w2.heap.size, 0, none⟩ : Addr).add j) = some u := fun j u h => cells_new (w := w2) (l := [.int .i64 A, .int .i64 r, .int .i64 d]) (t := 75) j u h
          have Hn5 := Lib.hid hn5
          clear hn5
          go_wp2_with (at_builtin; go_must (refine wpList_append_own _ rfl _ _ 71 rfl w.heap.size 75 i0 (.agg #[.int .i64 0, .int .i64 0, .int .i64 0]) 3 24 Tryd.underlying71 Hi.out hz0 hz1 hz2 rfl (by decide) _ _ _ rfl (Hown.out.alloc _) ⟨w2.heap.size, 0, none⟩ 1 1 [.int .i64 A, .int .i64 r, .int .i64 d] rfl rfl Hn5.out ?c2 ?c3 ?c4 ?c5 ?_))
          case c2 => intro u hu; simp at hu; rcases hu with rfl | rfl | rfl <;> rfl
          case c3 => unfold maxLen; omega
          case c4 => omega
          case c5 => simp only [World.size_alloc]; have := hbr.size; omega
          · intro v' w7 hown7 hgrow7 hnil7
            have hb7 : Below w.heap.size w w7 := (hbr.alloc hbr.size _).grown hgrow7 (by simp only [World.size_alloc]; have := hbr.size; omega) (fun k hk => (Hown.out.lt k hk).1)
            have hown8 : w7.ownsRow w.heap.size 75 3 v' (n + 1) (chRow q ((chars q).take (n + 1))) := by
              rw [Hnext.out]
              exact hown7
            have Hown8 := Lib.hid hown8
            clear hown7 hgrow7 hnil7 hown8
            go_wp2_with fail
            go_round
            case rel => exact ⟨n + 1, by omega, by rw [Hs.out]; go_num, Hown8.out, hb7⟩
            case measure => simp [intOf]; omega
        · have hdb := dec_bad (drop_ne' hblt) ho
          have hst : (front (q.drop (bnd q n))).2 = 0 ∧ (front (q.drop (bnd q n))).1 = 0 ∨ ((front (q.drop (bnd q n))).1 < (front (q.drop (bnd q n))).2 ∧ 0 < (front (q.drop (bnd q n))).2) := by
            have := front_le (q.drop (bnd q n))
            unfold Okc at ho; omega
          rw [hdb] at hs hnext
          simp only at hs hnext
          obtain ⟨A, hA⟩ : ∃ A, bnd q n = A := ⟨_, rfl⟩
          rw [hA] at h1 hs hmono hnext hblt hst ⊢
          obtain ⟨⟨k, m⟩, hkm⟩ : ∃ x, front (q.drop A) = x := ⟨_, rfl⟩
          rw [hkm] at h1 hst
          simp only at h1 hst
          rw [hs] at hle hmono
          have Hnext := Lib.hid hnext
          have Hs := Lib.hid hs
          have hb : ∃ t : Bool, (decide ((0 : Int) < (m : Int)) = t) ∧ (t = true → ((k : Int) == (m : Int)) = false) := ⟨_, rfl, fun h => by simp at h ⊢; omega⟩
          clear hnext hs hP ho hkm hA hdb
          have hm : (decide ((0 : Int) < (m : Int)) = true ∧ 0 < m ∧ ((k : Int) == (m : Int)) = false) ∨ (decide ((0 : Int) < (m : Int)) = false ∧ m = 0 ∧ k = 0) := by
            rcases hst with ⟨h1, h2⟩ | ⟨h1, h2⟩
            · exact .inr ⟨by simp; omega, h1, h2⟩
            · exact .inl ⟨by simp; omega, h2, by simp; omega⟩
          clear hb hst
          rcases hm with ⟨hm1, hm2, hm3⟩ | ⟨hm1, rfl, rfl⟩
          all_goals
            go_wp2_with fail
            refine h1.mono ?_
            rintro e w2 ⟨rfl, rfl⟩
            have hn5 : ∀ (j : Nat) u, [Value.int .i64 A, .int .i64 65533, .int .i64 1][j]? = some u → (w2.alloc (.cells #[.int .i64 A, .int .i64 65533, .int .i64 1] 75)).cell? ((⟨w2.heap.size, 0, none⟩ : Addr).add j) = some u := fun j u h => cells_new (w := w2) (l := [.int .i64 A, .int .i64 65533, .int .i64 1]) (t := 75) j u h
            have Hn5 := Lib.hid hn5
            clear hn5
            go_wp2_with (at_builtin; go_must (refine wpList_append_own _ rfl _ _ 71 rfl w.heap.size 75 i0 (.agg #[.int .i64 0, .int .i64 0, .int .i64 0]) 3 24 Tryd.underlying71 Hi.out hz0 hz1 hz2 rfl (by decide) _ _ _ rfl (Hown.out.alloc _) ⟨w2.heap.size, 0, none⟩ 1 1 [.int .i64 A, .int .i64 65533, .int .i64 1] rfl rfl Hn5.out ?_ ?_ ?_ ?_ ?_))
            · intro u hu; simp at hu; rcases hu with rfl | rfl | rfl <;> rfl
            · unfold maxLen; omega
            · omega
            · simp only [World.size_alloc]; have := hbr.size; omega
            · intro v' w7 hown7 hgrow7 hnil7
              have hb7 : Below w.heap.size w w7 := (hbr.alloc hbr.size _).grown hgrow7 (by simp only [World.size_alloc]; have := hbr.size; omega) (fun k hk => (Hown.out.lt k hk).1)
              have hown8 : w7.ownsRow w.heap.size 75 3 v' (n + 1) (chRow q ((chars q).take (n + 1))) := by
                rw [Hnext.out]
                exact hown7
              have Hown8 := Lib.hid hown8
              clear hown7 hgrow7 hnil7 hown8
              go_wp2_with fail
              go_round
              case rel => exact ⟨n + 1, by omega, by rw [Hs.out]; go_num, Hown8.out, hb7⟩
              case measure => simp [intOf]; omega
      · obtain rfl : n = (chars q).length := by omega
        have he := chars_end q
        rw [List.take_length] at Hown
        rw [he]
        clear he
        go_wp2_with fail
        go_ret
        exact ⟨_, rfl, Hown.out, hbr⟩
end Go.Proofs.YtjmejlncomaclaaDoor.Lx
