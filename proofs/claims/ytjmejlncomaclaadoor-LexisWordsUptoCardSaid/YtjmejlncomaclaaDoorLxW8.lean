/- lexis.Words answers as the plain function says: the words with their places, or the fault. Condition: the tables; at most 1000000000 bytes. -/
import Derived.Test.YtjmejlncomaclaaDoorLxW7
import Derived.Deep.DeepMust
namespace Go.Proofs.YtjmejlncomaclaaDoor.Lx
open Go.RowKit

/-- A word's seven cells, its place told. -/
def wdCells (q : List UInt8) (x : Wd × Nat) : List Value :=
  [.int .i64 x.1.kind, .string ⟨x.1.text.toArray⟩, .int .i64 x.1.num, .int .i64 (place q x.2).byte, .int .i64 (place q x.2).rune, .int .i64 (place q x.2).line, .int .i64 (place q x.2).col]
def wdRow (q : List UInt8) (l : List (Wd × Nat)) : List Value := l.flatMap (wdCells q)
theorem wdRow_length (q : List UInt8) (l : List (Wd × Nat)) : (wdRow q l).length = l.length * 7 := by
  induction l with
  | nil => rfl
  | cons x t ih => unfold wdRow at *; rw [List.flatMap_cons, List.length_append, ih]; simp [wdCells]; omega
theorem wdRow_snoc (q : List UInt8) (l : List (Wd × Nat)) (x : Wd × Nat) : wdRow q (l ++ [x]) = wdRow q l ++ wdCells q x := by simp [wdRow]

theorem wdRow_get (q : List UInt8) : ∀ (l : List (Wd × Nat)) (k : Nat) (x : Wd × Nat), l[k]? = some x → ∀ f u, f < 7 → (wdCells q x)[f]? = some u → (wdRow q l)[k * 7 + f]? = some u
  | [], k, x, h, _, _, _, _ => by simp at h
  | y :: t, 0, x, h, f, u, hf, hu => by
    simp at h
    subst h
    unfold wdRow
    rw [List.flatMap_cons, Nat.zero_mul, Nat.zero_add, List.getElem?_append_left (by simpa [wdCells] using hf)]
    exact hu
  | y :: t, k + 1, x, h, f, u, hf, hu => by
    unfold wdRow
    rw [List.flatMap_cons, List.getElem?_append_right (by simp [wdCells]; omega)]
    have : (k + 1) * 7 + f - (wdCells q y).length = k * 7 + f := by simp [wdCells]; omega
    rw [this]
    exact wdRow_get q t k x (by simpa using h) f u hf hu
/-- What lexis.Words answers, as it lies. -/
def WordsAns (q : List UInt8) (w : World) (e : Ending) (w' : World) : Prop :=
  match words q with
  | .ok l => ∃ v, e = .returned (.tuple #[v, .nilIface]) ∧ w'.ownsRow w.heap.size 37 7 v l.length (wdRow q l) ∧ (l = [] → v = .slice none 0 0) ∧ Below w.heap.size w w'
  | .error (p, why) => ∃ k, e = .returned (.tuple #[.slice none 0 0, .iface 44 (.pointer (some ⟨k, 0, none⟩))]) ∧ w.heap.size ≤ k ∧
      Blk w' k #[.int .i64 (place q p).byte, .int .i64 (place q p).rune, .int .i64 (place q p).line, .int .i64 (place q p).col, .int .i64 why] 48 ∧ Below w.heap.size w w'

theorem infoWord : (Tryd.prog.info? 37).map (fun i => (i.zero, i.size, i.bytes)) = some (some (.agg #[.int .i64 0, .string ⟨#[]⟩, .int .i64 0, .int .i64 0, .int .i64 0, .int .i64 0, .int .i64 0]), 7, 64) := by kernel_rfl

set_option maxRecDepth 100000 in
set_option maxHeartbeats 2000000 in
/-- lexis.Words, where the bytes are no characters all through. -/
theorem words_bytes (v : Value) (q : List UInt8) (w : World) (hV : Vars w) (h : RB w v q) (hn : q.length ≤ 1000000000) (hm : mend q ≠ q) :
    Calls Tryd.prog 7 #[v] w (WordsAns q w) := by
  have hw : words q = .error (good q, 103) := by unfold words; rw [if_pos hm]
  rcases h with ⟨rfl, rfl⟩ | ⟨b, off, cap, rfl, h2, h3, h4⟩
  · exact absurd rfl hm
  · have hcv := run_convert_bytes_arg (P := Tryd.prog) w 22 5 Tryd.underlying22 Tryd.underlying5 b off q.length cap (q.map fun b => (b.toNat : Int)) (by simp)
      (fun i hi => by rw [h4 i hi]; simp [List.getD_eq_getElem?_getD, List.getElem?_eq_getElem hi]) 9 Tryd.underlying9
    have e0 : strOfNums (q.map fun b => (b.toNat : Int)) = ⟨q.toArray⟩ := by have := strOfNums_take q q.length; rwa [List.take_length] at this
    rw [e0] at hcv
    have hM := mend_any ⟨q.toArray⟩ w (by rw [Lib.size_eq]; exact hn)
    have hqe : (⟨q.toArray⟩ : ByteArray).data.toList = q := rfl
    rw [hqe] at hM
    obtain ⟨m, hmm⟩ : ∃ m, mend q = m := ⟨_, rfl⟩
    rw [hmm] at hM hm
    have hne : (m == q) = false := by simpa using hm
    have hne2 : (m != q) = true := by simpa using hm
    have hG := fun W hb => good_any q b off cap W (hV.below hb) h2 hn (h4.below hb)
    have hF := fun W hb => fault_any (.slice (some ⟨b, off, none⟩) q.length cap) q (good q) 103 W (RB.below (.inr ⟨b, off, cap, rfl, h2, h3, h4⟩) hb) hn (good_le q)
    have Hw := Lib.hid hw
    have HG := Lib.hid hG
    have HF := Lib.hid hF
    clear hw hmm hm hG hF h4 hqe e0
    go_enter Tryd.func7, Tryd.ntmps7
    go_wp2_with fail
    refine hM.mono ?_
    rintro e w1 ⟨rfl, hb1⟩
    go_wp2_with fail
    refine (HG.out _ hb1).mono ?_
    rintro e w2 ⟨rfl, hb2⟩
    have hb12 := hb1.trans (hb2.mono hb1.size)
    go_wp2_with fail
    refine (HF.out _ hb12).mono ?_
    rintro e w3 ⟨k, rfl, hk, hK, hb3⟩
    go_wp2
    go_ret2
    unfold WordsAns
    rw [Hw.out]
    exact ⟨k, rfl, Nat.le_trans hb12.size hk, hK, hb12.trans (hb3.mono hb12.size)⟩

theorem run_drop_le (c : Nat) (L : List UInt8) (p : Nat) (h : p ≤ L.length) : p + run c (L.drop p) ≤ L.length := by
  have := run_le c _ (L.drop p) (Nat.le_refl _)
  rw [List.length_drop] at this
  omega

set_option maxRecDepth 100000 in
set_option maxHeartbeats 4000000 in
/-- lexis.Words, of characters all through. -/
theorem words_chars (b off cap : Nat) (q : List UInt8) (w : World) (hV : Vars w) (h2 : q.length ≤ cap) (h3 : b < w.heap.size) (h4 : Cells w b off q) (hn : q.length ≤ 1000000000) (hm : mend q = q) :
    Calls Tryd.prog 7 #[.slice (some ⟨b, off, none⟩) q.length cap] w (WordsAns q w) := by
  have hw : words q = match wordsF (q.length + 1) q (run 1 q) with | .ok l => .ok l | .error p => .error (p, 104) := by unfold words; rw [if_neg (by simp [hm])]; cases wordsF (q.length + 1) q (run 1 q) <;> rfl
  have hcv := run_convert_bytes_arg (P := Tryd.prog) w 22 5 Tryd.underlying22 Tryd.underlying5 b off q.length cap (q.map fun b => (b.toNat : Int)) (by simp)
    (fun i hi => by rw [h4 i hi]; simp [List.getD_eq_getElem?_getD, List.getElem?_eq_getElem hi]) 9 Tryd.underlying9
  have e0 : strOfNums (q.map fun b => (b.toNat : Int)) = ⟨q.toArray⟩ := by have := strOfNums_take q q.length; rwa [List.take_length] at this
  rw [e0] at hcv
  have hM := mend_any ⟨q.toArray⟩ w (by rw [Lib.size_eq]; exact hn)
  have hqe : (⟨q.toArray⟩ : ByteArray).data.toList = q := rfl
  have hqs : (⟨q.toArray⟩ : ByteArray).size = q.length := by rw [Lib.size_eq]
  rw [hqe, hm] at hM
  obtain ⟨S, hS⟩ : ∃ S : ByteArray, ⟨q.toArray⟩ = S := ⟨_, rfl⟩
  rw [hS] at hcv hM hqe hqs
  have hr0 := fun W hb => run_any 1 S W (hV.below hb) (by omega) (by omega) (by omega)
  simp only [hqe, show ((1 : Int).toNat) = 1 from rfl] at hr0
  have hrl := run_le 1 _ q (Nat.le_refl _)
  have hRB : ∀ W, Below w.heap.size w W → RB W (.slice (some ⟨b, off, none⟩) q.length cap) q := fun W hb => RB.below (.inr ⟨b, off, cap, rfl, h2, h3, h4⟩) hb
  have HRB := Lib.hid hRB
  have hsz1 : S.size ≤ q.length := by omega
  have hsz2 : q.length ≤ S.size := by omega
  clear hqs
  obtain ⟨X, hX⟩ : ∃ X, wordsF (q.length + 1) q (run 1 q) = X := ⟨_, rfl⟩
  rw [hX] at hw
  have Hw := Lib.hid hw
  have HX := Lib.hid hX
  clear hX
  have Hr0 := Lib.hid hr0
  have Hqe := Lib.hid hqe
  clear hw hm hr0 hRB h4 e0 hS
  have HV := Lib.hid hV
  clear hV hqe
  obtain ⟨i0, hi, hz0, hz1, hz2⟩ := info_parts infoWord
  have hss : ((q == q) = true) := by simp
  go_enter Tryd.func7, Tryd.ntmps7
  go_wp2_with fail
  refine hM.mono ?_
  rintro e w1 ⟨rfl, hb1⟩
  go_wp2_with fail
  refine (Hr0.out _ hb1).mono ?_
  rintro e w2 ⟨rfl, hb2⟩
  have hb02 := hb1.trans (hb2.mono hb1.size)
  go_wp2_with fail
  go_loopw [5, 6] (fun v i wr => ∃ (p k : Nat) (dn : List (Wd × Nat)), p ≤ q.length ∧ q.length - p < k ∧ i = .int .i64 p ∧ X = (wordsF k q p).map (dn ++ ·) ∧ dn.length ≤ p ∧
      wr.ownsRow w.heap.size 37 7 v dn.length (wdRow q dn) ∧ (dn = [] → v = .slice none 0 0) ∧ Below w.heap.size w wr) (fun _ i _ => q.length - (intOf i).toNat)
  case atStart => exact ⟨run 1 q, q.length + 1, [], hrl, by omega, rfl, by rw [HX.out]; cases X <;> rfl, by simp, World.ownsRow_nil _ _ _ _, fun _ => rfl, hb02⟩
  case round =>
    obtain ⟨p, k, dn, hp, hk, rfl, he, hdl, hown, hnil, hb⟩ := hrel
    have He := Lib.hid he
    have Hown := Lib.hid hown
    have Hnil := Lib.hid hnil
    clear he hown hnil hb1 hb2 hb02 hM hcv
    by_cases hlt : p < q.length
    · have hne : q.drop p ≠ [] := by intro h1; have := congrArg List.length h1; simp at this; omega
      have hwl := word_le (q.drop p) hne
      have hwn := word_n_le (q.drop p) hne
      rw [List.length_drop] at hwl hwn
      have hxs : (S.extract p S.size).size = q.length - p := by rw [Lib.size_eq, extE, Hqe.out, List.length_drop]
      have hwd := fun W hb => word_any (S.extract p S.size) W (HV.out.below hb) (by omega) (by omega)
      simp only [extE, Hqe.out] at hwd
      obtain ⟨k, rfl⟩ : ∃ k', k = k' + 1 := ⟨k - 1, by omega⟩
      have hsucc := wordsF_succ k q p
      rw [if_pos hlt] at hsucc
      obtain ⟨⟨x, n, ok⟩, hx⟩ : ∃ x, word (q.drop p) = x := ⟨_, rfl⟩
      rw [hx] at hwl hwn hsucc
      simp only [hx, wordV, wdV] at hwd
      simp only at hwl hwn hsucc
      have Hwd := Lib.hid hwd
      have Hsucc := Lib.hid hsucc
      clear hwd hsucc hx hne hxs
      cases ok with
      | false =>
        go_wp2_with fail
        refine (Hwd.out _ hb).mono ?_
        rintro e w3 ⟨rfl, hb3⟩
        go_wp2_with fail
        have hb4 : Below w.heap.size w (w3.alloc (.cells #[.int .i64 x.kind, .string ⟨x.text.toArray⟩, .int .i64 x.num, .int .i64 0, .int .i64 0, .int .i64 0, .int .i64 0] 37)) := (hb.trans (hb3.mono hb.size)).alloc (Nat.le_trans hb.size hb3.size) _
        have hF := fault_any (.slice (some ⟨b, off, none⟩) q.length cap) q (p + n) 104 _ (HRB.out _ hb4) hn (by omega)
        rw [show (((p + n : Nat)) : Int) = (p : Int) + (n : Int) by omega] at hF
        refine hF.mono ?_
        rintro e w5 ⟨k2, rfl, hk2, hK2, hb5⟩
        go_wp2
        go_ret2
        unfold WordsAns
        have hXe : X = .error (p + n) := by rw [He.out, Hsucc.out]; rfl
        rw [Hw.out, hXe]
        exact ⟨k2, rfl, Nat.le_trans hb4.size hk2, hK2, hb4.trans (hb5.mono hb4.size)⟩
      | true =>
        go_wp2_with fail
        refine (Hwd.out _ hb).mono ?_
        rintro e w3 ⟨rfl, hb3⟩
        go_wp2_with fail
        have hb4 : Below w.heap.size w (w3.alloc (.cells #[.int .i64 x.kind, .string ⟨x.text.toArray⟩, .int .i64 x.num, .int .i64 0, .int .i64 0, .int .i64 0, .int .i64 0] 37)) := (hb.trans (hb3.mono hb.size)).alloc (Nat.le_trans hb.size hb3.size) _
        have hA := at_any (.slice (some ⟨b, off, none⟩) q.length cap) q p _ (HRB.out _ hb4) hn hp
        obtain ⟨pl, hpl⟩ : ∃ pl, place q p = pl := ⟨_, rfl⟩
        rw [hpl] at hA
        unfold plV at hA
        have Hpl := Lib.hid hpl
        clear hpl
        refine hA.mono ?_
        rintro e w5 ⟨rfl, hb5⟩
        have hk5 := (Blk.new w3 #[.int .i64 x.kind, .string ⟨x.text.toArray⟩, .int .i64 x.num, .int .i64 0, .int .i64 0, .int .i64 0, .int .i64 0] 37).below hb5
        obtain ⟨⟨c0, c1, c2, c3, c4, c5, c6⟩, ⟨f0, f1, f2, f3, f4, f5, f6⟩⟩ := cells7 hk5
        have Hk5 := Lib.hid hk5
        have Hb5 := Lib.hid hb5
        have Hb4 := Lib.hid hb4
        have Hb3 := Lib.hid hb3
        obtain ⟨W6, hW6⟩ : ∃ W', ((((w5.setCell ⟨w3.heap.size, 3, none⟩ (.int .i64 pl.byte)).setCell ⟨w3.heap.size, 4, none⟩ (.int .i64 pl.rune)).setCell ⟨w3.heap.size, 5, none⟩ (.int .i64 pl.line)).setCell ⟨w3.heap.size, 6, none⟩ (.int .i64 pl.col)) = W' := ⟨_, rfl⟩
        have hB6 : Below wr.heap.size wr W6 := by
          rw [← hW6]
          exact ((((((hb3.alloc hb3.size _).trans (hb5.mono (by have := hb3.size; simp; omega))).setCell (p := ⟨w3.heap.size, 3, none⟩) hb3.size _).setCell (p := ⟨w3.heap.size, 4, none⟩) hb3.size _).setCell (p := ⟨w3.heap.size, 5, none⟩) hb3.size _).setCell (p := ⟨w3.heap.size, 6, none⟩) hb3.size _)
        have hs6 : W6.heap.size = w5.heap.size := by rw [← hW6]; simp only [sizeSet]
        have hown6 := ownsRow_below Hown.out hB6
        have hn6 := fun j u h => cells_new (w := W6) (l := [.int .i64 x.kind, .string ⟨x.text.toArray⟩, .int .i64 x.num, .int .i64 pl.byte, .int .i64 pl.rune, .int .i64 pl.line, .int .i64 pl.col]) (t := 37) j u h
        have hb06 := hb.trans (hB6.mono hb.size)
        rw [hs6, ← hW6] at hn6
        rw [← hW6] at hown6
        have Hown6 := Lib.hid hown6
        have Hn6 := Lib.hid hn6
        have Hb06 := Lib.hid hb06
        have Hs6 := Lib.hid hs6
        have HW6 := Lib.hid hW6
        clear hk5 hA hb5 hb4 hb3 hW6 hB6 hs6 hown6 hn6 hb06
        go_wp2_with (at_builtin; go_must (refine wpList_append_own _ rfl _ _ 25 rfl w.heap.size 37 i0 (.agg #[.int .i64 0, .string ⟨#[]⟩, .int .i64 0, .int .i64 0, .int .i64 0, .int .i64 0, .int .i64 0]) 7 64 Tryd.underlying25 hi hz0 hz1 hz2 rfl (by decide) _ _ _ rfl (Hown6.out.alloc _) ⟨w5.heap.size, 0, none⟩ 1 1 [.int .i64 x.kind, .string ⟨x.text.toArray⟩, .int .i64 x.num, .int .i64 pl.byte, .int .i64 pl.rune, .int .i64 pl.line, .int .i64 pl.col] rfl rfl Hn6.out ?c2 ?c3 ?c4 ?c5 ?_))
        case c2 => intro u hu; simp at hu; rcases hu with rfl | rfl | rfl | rfl | rfl | rfl | rfl <;> rfl
        case c3 => unfold maxLen; omega
        case c4 => omega
        case c5 => have := Hb06.out.size; have := Hs6.out; simp; omega
        · intro v' w7 hown7 hgrow7 hnil7
          have hb7 : Below w.heap.size w w7 := by
            have h1 := Hb06.out
            rw [← HW6.out] at h1
            exact ((h1.alloc h1.size _).grown hgrow7 (by simp only [World.size_alloc]; have := h1.size; omega) (fun k hk => (Hown.out.lt k hk).1))
          have hown8 : w7.ownsRow w.heap.size 37 7 v' (dn ++ [(x, p)]).length (wdRow q (dn ++ [(x, p)])) := by
            rw [wdRow_snoc, List.length_append]
            unfold wdCells
            rw [Hpl.out]
            exact hown7
          have Hown8 := Lib.hid hown8
          have hxs2 : (S.extract (p + n) S.size).size ≤ 1000000000 := by rw [Lib.size_eq, extE, List.length_drop, ← Lib.size_eq]; omega
          have hr7 := run_any 1 (S.extract (p + n) S.size) w7 (HV.out.below hb7) (by omega) (by omega) hxs2
          rw [extE, Hqe.out, show ((1 : Int).toNat) = 1 from rfl] at hr7
          have hrl7 := run_drop_le 1 q (p + n) (by omega)
          obtain ⟨R, hR⟩ : ∃ R, run 1 (q.drop (p + n)) = R := ⟨_, rfl⟩
          rw [hR] at hr7 hrl7
          have HR := Lib.hid hR
          have Hb7 := Lib.hid hb7
          clear hown7 hgrow7 hnil7 hown8 hR hb7 hb c0 c1 c2 c3 c4 c5 c6 f0 f1 f2 f3 f4 f5 f6
          have hn1 : 1 ≤ n := (hwl trivial).1
          clear hwl
          go_wp2_with fail
          refine hr7.mono ?_
          rintro e w8 ⟨rfl, hb8⟩
          go_wp2
          go_roundw
          case rel => exact ⟨p + n + R, k, dn ++ [(x, p)], by omega, by omega, by go_num, by rw [He.out, Hsucc.out, HR.out]; cases wordsF k q (p + n + R) <;> simp [Except.map], by simp; omega, ownsRow_below Hown8.out hb8, fun h => by simp at h, Hb7.out.trans (hb8.mono Hb7.out.size)⟩
          case measure => simp [intOf]; omega
    · go_wp2
      go_ret2
      unfold WordsAns
      have hXe : X = .ok dn := by
        rw [He.out]
        cases k with
        | zero => omega
        | succ k => rw [wordsF_succ, if_neg hlt]; simp [Except.map]
      rw [Hw.out, hXe]
      exact ⟨_, rfl, Hown.out, Hnil.out, hb⟩

set_option maxRecDepth 100000 in
set_option maxHeartbeats 2000000 in
/-- lexis.Words, of no bytes. -/
theorem words_nil (w : World) (hV : Vars w) : Calls Tryd.prog 7 #[.slice none 0 0] w (WordsAns [] w) := by
  have hcv := run_convert_bytes_nil (P := Tryd.prog) w 22 5 Tryd.underlying22 Tryd.underlying5 0 0 9 Tryd.underlying9
  obtain ⟨S, hS⟩ : ∃ S : ByteArray, ByteArray.empty = S := ⟨_, rfl⟩
  have hqe : S.data.toList = [] := by rw [← hS]; rfl
  have hs0 : S.size ≤ 0 := by rw [← hS]; exact Nat.le_refl _
  rw [hS] at hcv
  have hM := mend_any S w (by omega)
  have hme : (⟨(mend S.data.toList).toArray⟩ : ByteArray) = S := by rw [hqe, ← hS]; rfl
  rw [hme] at hM
  have hr0 := fun W hb => run_any 1 S W (hV.below hb) (by omega) (by omega) (by omega)
  simp only [hqe, run_nil] at hr0
  have Hr0 := Lib.hid hr0
  clear hr0 hme hqe hS
  go_enter Tryd.func7, Tryd.ntmps7
  go_wp2_with fail
  refine hM.mono ?_
  rintro e w1 ⟨rfl, hb1⟩
  go_wp2_with fail
  refine (Hr0.out _ hb1).mono ?_
  rintro e w2 ⟨rfl, hb2⟩
  go_wp2_with fail
  refine wp_loop_rounds 1 ?_
  rw [rounds_succ]
  go_wp2
  go_ret2
  exact ⟨_, rfl, World.ownsRow_nil _ _ _ _, fun _ => rfl, hb1.trans (hb2.mono hb1.size)⟩

/-- lexis.Words. -/
theorem words_any (v : Value) (q : List UInt8) (w : World) (hV : Vars w) (h : RB w v q) (hn : q.length ≤ 1000000000) :
    Calls Tryd.prog 7 #[v] w (WordsAns q w) := by
  by_cases hm : mend q = q
  · rcases h with ⟨rfl, rfl⟩ | ⟨b, off, cap, rfl, h2, h3, h4⟩
    · exact words_nil w hV
    · exact words_chars b off cap q w hV h2 h3 h4 hn hm
  · exact words_bytes v q w hV h hn hm
end Go.Proofs.YtjmejlncomaclaaDoor.Lx
