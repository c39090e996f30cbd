/- lexis.Print writes the words with blanks between. Condition: the table of powers of ten; at most 1000000000 bytes in all. -/
import Derived.Test.YtjmejlncomaclaaDoorLxPr4
import Derived.Test.YtjmejlncomaclaaDoorShelf2
import Derived.Lib.AppendIntMem
import Derived.WalkSmall
import Derived.Deep.DeepMust
namespace Go.Proofs.YtjmejlncomaclaaDoor.Lx
open Go.RowKit

theorem infoStr : (Tryd.prog.info? 9).map (fun i => (i.zero, i.size, i.bytes)) = some (some (.string ⟨#[]⟩), 1, 16) := by kernel_rfl
theorem index34 (s : List UInt8) : decide (0 ≤ Lib.indexByte s 34) = decide ((34 : UInt8) ∈ s) := by
  have h : 0 ≤ Lib.indexByte s 34 ↔ (34 : UInt8) ∈ s := by
    induction s with
    | nil => simp [Lib.indexByte]
    | cons b t ih =>
      have hge : -1 ≤ Lib.indexByte t 34 := by
        clear ih
        induction t with
        | nil => simp [Lib.indexByte]
        | cons c t ih => unfold Lib.indexByte; (repeat' split) <;> simp_all <;> omega
      unfold Lib.indexByte
      by_cases hb : b = 34
      · subst hb; simp
      · rw [if_neg (by simpa using hb)]
        rw [List.mem_cons, ← ih]
        have : ¬ (34 : UInt8) = b := fun h => hb h.symm
        simp only [this, false_or]
        split
        · rename_i h1; simp only [beq_iff_eq] at h1; omega
        · rename_i h1; simp only [beq_iff_eq] at h1; omega
  exact decide_eq_decide.2 h
def Pow10 (w : World) : Prop := Lib.TabIs Tryd.prog w "internal/strconv.uint64pow10" .u64 Lib.pow10Tab
def strRow (l : List AW) : List Value := l.map fun a => .string ⟨(prW a).toArray⟩
theorem strRow_next (l : List AW) (j : Nat) (a : AW) (h : l[j]? = some a) : strRow (l.take (j + 1)) = strRow (l.take j) ++ [.string ⟨(prW a).toArray⟩] := by
  unfold strRow
  rw [List.take_add_one, h]; simp
theorem Pow10.below {w w' : World} (h : Pow10 w) (hb : Below w.heap.size w w') : Pow10 w' := by
  have hg : Tryd.prog.globalNamed "internal/strconv.uint64pow10" = some 7 := by kernel_rfl
  have hc := Lib.TabIs.cell h hg 0 (by decide)
  exact var?_below hb hg (World.block_lt_of_cell? w _ hc) h
/-- Where the list of texts lies. -/
theorem joinArg {w : World} {base : Nat} {v : Value} {n : Nat} {xs : List Value} (h : w.ownsRow base 9 1 v n xs) (_hn : xs.length = n) : (v = .slice none 0 0 ∧ n = 0) ∨ ∃ g c, v = .slice (some ⟨g, 0, none⟩) n c ∧ n ≤ c ∧ g < w.heap.size ∧ n ≤ 9223372036854775807 ∧ ∀ j u, xs[j]? = some u → j < n → w.cell? ⟨g, j, none⟩ = some u := by
  have hown := h
  rcases h.2 with ⟨hv, h0⟩ | ⟨g, cap, cur, rfl, hg, hh, hcc, hml⟩
  · exact .inl ⟨hv, h0⟩
  · exact .inr ⟨g, cap, rfl, hcc, (Array.getElem?_eq_some_iff.1 hh).1, Nat.le_trans hcc (Nat.le_trans hml.1 (by decide)), fun j u hu hj => (hown.cellAt j (by omega)).trans hu⟩

theorem itoa_any (n : Int) (h0 : -9223372036854775808 ≤ n) (h1 : n ≤ 9223372036854775807) (w : World) (h : Pow10 w) :
    Calls Tryd.prog 34 #[.int .i64 n] w fun e w' => e = .returned (.string ⟨(Lib.itoa n).toArray⟩) ∧ Below w.heap.size w w' :=
  (Tryd.strconv_Itoa n h0 h1 w h).mono fun _ _ ⟨h1, k, os, h2⟩ => ⟨h1, by rw [h2]; exact Lib.below_grow _ _ (Nat.le_refl _) k os⟩

set_option maxRecDepth 100000 in
set_option maxHeartbeats 8000000 in
/-- lexis.Print. -/
theorem print_any (v : Value) (l : List AW) (w : World) (hV : Pow10 w) (h : RW w v l) (hk : NumsOk l) (hn : bulkW l ≤ 1000000000) :
    Calls Tryd.prog 14 #[v] w fun e w' => e = .returned (.string ⟨(Lib.join (l.map prW) [32]).toArray⟩) ∧ Below w.heap.size w w' := by
  obtain ⟨o1, c1, rfl, hc1, hs1⟩ := h.shape
  have hll := bulk_len l
  have hbjl := bulk_join l hk
  have Hs1 := Lib.hid hs1
  have Hk := Lib.hid hk
  have HV := Lib.hid hV
  clear hs1 h hk hV
  obtain ⟨i0, hi, hz0, hz1, hz2⟩ := info_parts infoStr
  go_enter Tryd.func14, Tryd.ntmps14
  go_wp2_with fail
  go_loopw [3, 10] (fun v i wr => ∃ (j : Nat), j ≤ l.length ∧ i = .int .i64 j ∧ wr.ownsRow w.heap.size 9 1 v j (strRow (l.take j)) ∧ Below w.heap.size w wr) (fun _ i _ => l.length - (intOf i).toNat)
  case atStart => exact ⟨0, Nat.zero_le _, rfl, World.ownsRow_nil _ _ _ _, Below.refl _ _⟩
  case round =>
    obtain ⟨j, hj, rfl, hown, hbr⟩ := hrel
    have Hown := Lib.hid hown
    clear hown
    by_cases hlt : j < l.length
    · obtain ⟨k1, off1, rfl, hk1, hcl1⟩ := Hs1.out (by omega)
      obtain ⟨a, hA⟩ : ∃ a, l[j]? = some a := ⟨_, List.getElem?_eq_getElem hlt⟩
      have f1 := fun f u hu => cell_kept hbr (hcl1 j a hA f u hu)
      have hnum := Hk.out a (List.mem_of_getElem? hA)
      have hnext := strRow_next l j a hA
      have hbg := bulk_get l j a hA
      have hpl := prW_len a hnum
      unfold awCells at f1
      obtain ⟨kd, tx, nm, pb, pr, pl, pc⟩ := a
      simp only at f1 hnum hbg hpl
      have a0 : wr.cell? ⟨k1, off1 + j * 7, none⟩ = some (.int .i64 kd) := f1 0 _ rfl
      have a1 := f1 1 _ rfl
      have a2 := f1 2 _ rfl
      have a3 := f1 3 _ rfl
      have a4 := f1 4 _ rfl
      have a5 := f1 5 _ rfl
      have a6 := f1 6 _ rfl
      clear f1 hcl1 hA
      have Hnext := Lib.hid hnext
      clear hnext
      by_cases h2 : kd = 2
      · subst h2
        have hp : prW ⟨2, tx, nm, pb, pr, pl, pc⟩ = Lib.itoa nm := by unfold prW prA; rw [if_pos rfl]
        have hN := fun W hb => itoa_any nm hnum.1 hnum.2 W (HV.out.below hb)
        obtain ⟨N, hN2⟩ : ∃ N : ByteArray, ⟨(Lib.itoa nm).toArray⟩ = N := ⟨_, rfl⟩
        rw [hN2] at hN
        have HN2 := Lib.hid hN2
        have Hp := Lib.hid hp
        have hb3 := hbr.alloc hbr.size (.cells #[.int .i64 2, .string tx, .int .i64 nm, .int .i64 pb, .int .i64 pr, .int .i64 pl, .int .i64 pc] 37)
        have HN3 := hN _ hb3
        clear hN2 hp hN
        go_wp2_with fail
        refine HN3.mono ?_
        rintro e w5 ⟨rfl, hb5⟩
        have hB5 : Below wr.heap.size wr (w5) := ((Below.refl _ wr).alloc (Nat.le_refl _) _).trans (hb5.mono (by simp))
        have hown5 := ownsRow_below Hown.out hB5
        have hb05 := hbr.trans (hB5.mono hbr.size)
        have hn5 : ∀ (j : Nat) u, [Value.string N][j]? = some u → ((w5).alloc (.cells #[.string N] 9)).cell? ((⟨w5.heap.size, 0, none⟩ : Addr).add j) = some u := fun j u h => cells_new (w := w5) (l := [.string N]) (t := 9) j u h
        have Hown5 := Lib.hid hown5
        have Hb05 := Lib.hid hb05
        have Hn5 := Lib.hid hn5
        have HB5 := Lib.hid hB5
        clear hown5 hb05 hn5 hB5
        go_wp2_with (at_builtin; go_must (refine wpList_append_own _ rfl _ _ 24 rfl w.heap.size 9 i0 (.string ⟨#[]⟩) 1 16 Tryd.underlying24 hi hz0 hz1 hz2 rfl (by decide) _ _ _ rfl (Hown5.out.alloc _) ⟨w5.heap.size, 0, none⟩ 1 1 [.string N] rfl rfl Hn5.out ?c2 ?c3 ?c4 ?c5 ?_))
        case c2 => intro u hu; simp at hu; subst hu; rfl
        case c3 => unfold maxLen; omega
        case c4 => omega
        case c5 => first | (have := Hb05.out.size; simp only [World.size_alloc] at this ⊢; omega) | (have := Hb05.out.size; simp only [World.size_alloc]; omega)
        · intro v' w7 hown7 hgrow7 hnil7
          have hb7 : Below w.heap.size w w7 := by
            have h1 := Hb05.out
            exact ((h1.alloc h1.size _).grown hgrow7 (by simp only [World.size_alloc]; have := h1.size; (try simp at this); omega) (fun k hk => (Hown.out.lt k hk).1))
          have hown8 : w7.ownsRow w.heap.size 9 1 v' (j + 1) (strRow (l.take (j + 1))) := by
            rw [Hnext.out, Hp.out, HN2.out]
            exact hown7
          have Hown8 := Lib.hid hown8
          clear hown7 hgrow7 hnil7 hown8
          go_wp2
          go_round
          case rel => exact ⟨j + 1, by omega, by go_num, Hown8.out, hb7⟩
          case measure => simp [intOf]; omega
      · have hb2 : (kd == 2) = false := by simpa using h2
        by_cases h1 : kd = 1
        · subst h1
          have hp : prW ⟨1, tx, nm, pb, pr, pl, pc⟩ = quoteOf tx.data.toList :: (tx.data.toList ++ [quoteOf tx.data.toList]) := by unfold prW prA; rw [if_neg (show ¬ (1 : Int) = 2 by decide), if_pos rfl]
          have hC := fun W => Tryd.strings_Contains_one tx 34 W
          rw [index34] at hC
          have Hp := Lib.hid hp
          clear hp hpl
          have zz2 : ¬ 9223372036854775807 < 1 + tx.size := by omega
          have zz3 : ¬ 9223372036854775807 < 1 + tx.size + 1 := by omega
          by_cases hm : (34 : UInt8) ∈ tx.data.toList
          · have hq : quoteOf tx.data.toList = 39 := if_pos hm
            rw [decide_eq_true hm] at hC
            have hv : (⟨(prW ⟨1, tx, nm, pb, pr, pl, pc⟩).toArray⟩ : ByteArray) = ⟨#[39]⟩ ++ tx ++ ⟨#[39]⟩ := by rw [Hp.out, hq]; apply ByteArray.ext; simp
            have Hv := Lib.hid hv
            clear hv hq hm
            go_wp2_with fail
            refine (hC _).mono ?_
            rintro e w5 ⟨rfl, rfl⟩
            have hB5 : Below wr.heap.size wr (wr.alloc (.cells #[.int .i64 1, .string tx, .int .i64 nm, .int .i64 pb, .int .i64 pr, .int .i64 pl, .int .i64 pc] 37)) := (Below.refl _ wr).alloc (Nat.le_refl _) _
            have hown5 := ownsRow_below Hown.out hB5
            have hb05 := hbr.trans (hB5.mono hbr.size)
            have hn5 : ∀ (j : Nat) u, [Value.string (⟨#[39]⟩ ++ tx ++ ⟨#[39]⟩)][j]? = some u → ((wr.alloc (.cells #[.int .i64 1, .string tx, .int .i64 nm, .int .i64 pb, .int .i64 pr, .int .i64 pl, .int .i64 pc] 37)).alloc (.cells #[.string (⟨#[39]⟩ ++ tx ++ ⟨#[39]⟩)] 9)).cell? ((⟨wr.heap.size + 1, 0, none⟩ : Addr).add j) = some u := fun j u h => by have := cells_new (w := wr.alloc (.cells #[.int .i64 1, .string tx, .int .i64 nm, .int .i64 pb, .int .i64 pr, .int .i64 pl, .int .i64 pc] 37)) (l := [.string (⟨#[39]⟩ ++ tx ++ ⟨#[39]⟩)]) (t := 9) j u h; rwa [World.size_alloc] at this
            have Hown5 := Lib.hid hown5
            have Hb05 := Lib.hid hb05
            have Hn5 := Lib.hid hn5
            have HB5 := Lib.hid hB5
            clear hown5 hb05 hn5 hB5
            go_wp2_with (at_builtin; go_must (refine wpList_append_own _ rfl _ _ 24 rfl w.heap.size 9 i0 (.string ⟨#[]⟩) 1 16 Tryd.underlying24 hi hz0 hz1 hz2 rfl (by decide) _ _ _ rfl (Hown5.out.alloc _) ⟨wr.heap.size + 1, 0, none⟩ 1 1 [.string (⟨#[39]⟩ ++ tx ++ ⟨#[39]⟩)] rfl rfl Hn5.out ?c2 ?c3 ?c4 ?c5 ?_))
            case c2 => intro u hu; simp at hu; subst hu; rfl
            case c3 => unfold maxLen; omega
            case c4 => omega
            case c5 => first | (have := Hb05.out.size; simp only [World.size_alloc] at this ⊢; omega) | (have := Hb05.out.size; simp only [World.size_alloc]; omega)
            · intro v' w7 hown7 hgrow7 hnil7
              have hb7 : Below w.heap.size w w7 := by
                have h1 := Hb05.out
                exact ((h1.alloc h1.size _).grown hgrow7 (by simp only [World.size_alloc]; have := h1.size; (try simp at this); omega) (fun k hk => (Hown.out.lt k hk).1))
              have hown8 : w7.ownsRow w.heap.size 9 1 v' (j + 1) (strRow (l.take (j + 1))) := by
                rw [Hnext.out, Hv.out]
                exact hown7
              have Hown8 := Lib.hid hown8
              clear hown7 hgrow7 hnil7 hown8
              go_wp2
              go_round
              case rel => exact ⟨j + 1, by omega, by go_num, Hown8.out, hb7⟩
              case measure => simp [intOf]; omega
          · have hq : quoteOf tx.data.toList = 34 := if_neg hm
            rw [decide_eq_false hm] at hC
            have hv : (⟨(prW ⟨1, tx, nm, pb, pr, pl, pc⟩).toArray⟩ : ByteArray) = ⟨#[34]⟩ ++ tx ++ ⟨#[34]⟩ := by rw [Hp.out, hq]; apply ByteArray.ext; simp
            have Hv := Lib.hid hv
            clear hv hq hm
            go_wp2_with fail
            refine (hC _).mono ?_
            rintro e w5 ⟨rfl, rfl⟩
            have hB5 : Below wr.heap.size wr (wr.alloc (.cells #[.int .i64 1, .string tx, .int .i64 nm, .int .i64 pb, .int .i64 pr, .int .i64 pl, .int .i64 pc] 37)) := (Below.refl _ wr).alloc (Nat.le_refl _) _
            have hown5 := ownsRow_below Hown.out hB5
            have hb05 := hbr.trans (hB5.mono hbr.size)
            have hn5 : ∀ (j : Nat) u, [Value.string (⟨#[34]⟩ ++ tx ++ ⟨#[34]⟩)][j]? = some u → ((wr.alloc (.cells #[.int .i64 1, .string tx, .int .i64 nm, .int .i64 pb, .int .i64 pr, .int .i64 pl, .int .i64 pc] 37)).alloc (.cells #[.string (⟨#[34]⟩ ++ tx ++ ⟨#[34]⟩)] 9)).cell? ((⟨wr.heap.size + 1, 0, none⟩ : Addr).add j) = some u := fun j u h => by have := cells_new (w := wr.alloc (.cells #[.int .i64 1, .string tx, .int .i64 nm, .int .i64 pb, .int .i64 pr, .int .i64 pl, .int .i64 pc] 37)) (l := [.string (⟨#[34]⟩ ++ tx ++ ⟨#[34]⟩)]) (t := 9) j u h; rwa [World.size_alloc] at this
            have Hown5 := Lib.hid hown5
            have Hb05 := Lib.hid hb05
            have Hn5 := Lib.hid hn5
            have HB5 := Lib.hid hB5
            clear hown5 hb05 hn5 hB5
            go_wp2_with (at_builtin; go_must (refine wpList_append_own _ rfl _ _ 24 rfl w.heap.size 9 i0 (.string ⟨#[]⟩) 1 16 Tryd.underlying24 hi hz0 hz1 hz2 rfl (by decide) _ _ _ rfl (Hown5.out.alloc _) ⟨wr.heap.size + 1, 0, none⟩ 1 1 [.string (⟨#[34]⟩ ++ tx ++ ⟨#[34]⟩)] rfl rfl Hn5.out ?c2 ?c3 ?c4 ?c5 ?_))
            case c2 => intro u hu; simp at hu; subst hu; rfl
            case c3 => unfold maxLen; omega
            case c4 => omega
            case c5 => first | (have := Hb05.out.size; simp only [World.size_alloc] at this ⊢; omega) | (have := Hb05.out.size; simp only [World.size_alloc]; omega)
            · intro v' w7 hown7 hgrow7 hnil7
              have hb7 : Below w.heap.size w w7 := by
                have h1 := Hb05.out
                exact ((h1.alloc h1.size _).grown hgrow7 (by simp only [World.size_alloc]; have := h1.size; (try simp at this); omega) (fun k hk => (Hown.out.lt k hk).1))
              have hown8 : w7.ownsRow w.heap.size 9 1 v' (j + 1) (strRow (l.take (j + 1))) := by
                rw [Hnext.out, Hv.out]
                exact hown7
              have Hown8 := Lib.hid hown8
              clear hown7 hgrow7 hnil7 hown8
              go_wp2
              go_round
              case rel => exact ⟨j + 1, by omega, by go_num, Hown8.out, hb7⟩
              case measure => simp [intOf]; omega
        · have hb1 : (kd == 1) = false := by simpa using h1
          have hp : prW ⟨kd, tx, nm, pb, pr, pl, pc⟩ = tx.data.toList := by unfold prW prA; rw [if_neg h2, if_neg h1]
          have hv : (⟨(prW ⟨kd, tx, nm, pb, pr, pl, pc⟩).toArray⟩ : ByteArray) = tx := by rw [hp, Lib.mk_data]
          have Hv := Lib.hid hv
          clear hv hp hpl
          have hB5 : Below wr.heap.size wr (wr.alloc (.cells #[.int .i64 kd, .string tx, .int .i64 nm, .int .i64 pb, .int .i64 pr, .int .i64 pl, .int .i64 pc] 37)) := (Below.refl _ wr).alloc (Nat.le_refl _) _
          have hown5 := ownsRow_below Hown.out hB5
          have hb05 := hbr.trans (hB5.mono hbr.size)
          have hn5 : ∀ (j : Nat) u, [Value.string tx][j]? = some u → ((wr.alloc (.cells #[.int .i64 kd, .string tx, .int .i64 nm, .int .i64 pb, .int .i64 pr, .int .i64 pl, .int .i64 pc] 37)).alloc (.cells #[.string tx] 9)).cell? ((⟨wr.heap.size + 1, 0, none⟩ : Addr).add j) = some u := fun j u h => by have := cells_new (w := wr.alloc (.cells #[.int .i64 kd, .string tx, .int .i64 nm, .int .i64 pb, .int .i64 pr, .int .i64 pl, .int .i64 pc] 37)) (l := [.string tx]) (t := 9) j u h; rwa [World.size_alloc] at this
          have Hown5 := Lib.hid hown5
          have Hb05 := Lib.hid hb05
          have Hn5 := Lib.hid hn5
          have HB5 := Lib.hid hB5
          clear hown5 hb05 hn5 hB5
          go_wp2_with (at_builtin; go_must (refine wpList_append_own _ rfl _ _ 24 rfl w.heap.size 9 i0 (.string ⟨#[]⟩) 1 16 Tryd.underlying24 hi hz0 hz1 hz2 rfl (by decide) _ _ _ rfl (Hown5.out.alloc _) ⟨wr.heap.size + 1, 0, none⟩ 1 1 [.string tx] rfl rfl Hn5.out ?c2 ?c3 ?c4 ?c5 ?_))
          case c2 => intro u hu; simp at hu; subst hu; rfl
          case c3 => unfold maxLen; omega
          case c4 => omega
          case c5 => first | (have := Hb05.out.size; simp only [World.size_alloc] at this ⊢; omega) | (have := Hb05.out.size; simp only [World.size_alloc]; omega)
          · intro v' w7 hown7 hgrow7 hnil7
            have hb7 : Below w.heap.size w w7 := by
              have h1 := Hb05.out
              exact ((h1.alloc h1.size _).grown hgrow7 (by simp only [World.size_alloc]; have := h1.size; (try simp at this); omega) (fun k hk => (Hown.out.lt k hk).1))
            have hown8 : w7.ownsRow w.heap.size 9 1 v' (j + 1) (strRow (l.take (j + 1))) := by
              rw [Hnext.out, Hv.out]
              exact hown7
            have Hown8 := Lib.hid hown8
            clear hown7 hgrow7 hnil7 hown8
            go_wp2
            go_round
            case rel => exact ⟨j + 1, by omega, by go_num, Hown8.out, hb7⟩
            case measure => simp [intOf]; omega
    · obtain rfl : j = l.length := by omega
      rw [List.take_length] at Hown
      have hlen : (strRow l).length = l.length := by simp [strRow]
      have hmap : ((l.map fun a => (⟨(prW a).toArray⟩ : ByteArray)).map (·.data.toList)) = l.map prW := by simp
      rcases joinArg Hown.out hlen with ⟨rfl, h0⟩ | ⟨g, c, rfl, hgc, hg, hg2, hgs⟩
      · have hl0 : l = [] := by cases l with
          | nil => rfl
          | cons a t => simp at h0
        subst hl0
        have hJ := Tryd.strings_Join_none none 0 ⟨#[32]⟩ wr
        go_wp2_with fail
        refine hJ.mono ?_
        rintro e w5 ⟨rfl, rfl⟩
        go_wp2
        go_ret
        exact ⟨rfl, hbr⟩
      · have hJ := Tryd.strings_Join g 0 c (l.map fun a => ⟨(prW a).toArray⟩) ⟨#[32]⟩ wr (fun j x hx => by
          have h1 : (strRow l)[j]? = some (.string x) := by
            unfold strRow
            rw [List.getElem?_map] at hx ⊢
            cases hlj : l[j]? with
            | none => rw [hlj] at hx; cases hx
            | some a => rw [hlj] at hx; cases hx; rfl
          have h2 := (List.getElem?_eq_some_iff.1 h1).1
          rw [hlen] at h2
          rw [Nat.zero_add]
          exact hgs j _ h1 h2) hg (by rw [List.length_map]; omega) (by rw [List.length_map]; exact hgc) (by rw [hmap]; simp; omega)
        rw [hmap, List.length_map] at hJ
        clear hgs hmap hlen
        go_wp2_with fail
        refine hJ.mono ?_
        rintro e w5 ⟨rfl, hb5⟩
        go_wp2
        go_ret
        exact ⟨rfl, hbr.trans (hb5.mono hbr.size)⟩
end Go.Proofs.YtjmejlncomaclaaDoor.Lx
