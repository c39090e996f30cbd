/- The walks of chars.of, chars.Is, lexis.run, lexis.number and lexis.runeAt: each answers as the plain function says and leaves old memory as it was. Condition: the tables that the program's initialisers lay are as they were laid. -/
import Derived.Test.YtjmejlncomaclaaDoorLxPlain
import Derived.Test.YtjmejlncomaclaaDoorProg
import Derived.WalkKit
import Derived.Deep.QuietTactic
import Derived.BigQuiet
import Derived.WalkLawsBesides
import Derived.WalkSmall
import Derived.Lib.Hide
import Derived.Outline
import Derived.Lib.OthersKept
import Derived.Lib.LaidTab
import Derived.Lib.Space
import Derived.Shelf.Unicode.DecodeSlow
namespace Go.Proofs.YtjmejlncomaclaaDoor.Lx
open Go.RowKit

/-- What the program's tables hold: the classes of characters, the tables of unicode/utf8 and of strings. -/
structure Vars (w : World) : Prop where
  cls : ∀ c, c < 6 → ∃ R o, R < w.heap.size ∧ w.cell? ⟨3, c, none⟩ = some (.slice (some ⟨R, o, none⟩) (cls c).length (cls c).length) ∧
    ∀ i p, (Lx.cls c)[i]? = some p → w.cell? ⟨R, o + i * 2, none⟩ = some (.int .i32 p.1) ∧ w.cell? ⟨R, o + i * 2 + 1, none⟩ = some (.int .i32 p.2)
  u8 : Lib.Utf8Tabs 1 2 w
  asc : Lib.TabIs Tryd.prog w "strings.asciiSpace" .u8 Lib.asciiSpaceTab

theorem cell_kept {w w' : World} (hb : Below w.heap.size w w') {a : Addr} {v : Value} (h : w.cell? a = some v) : w'.cell? a = some v :=
  (hb.cell (World.block_lt_of_cell? w a h)).trans h
theorem asciiSpace_named : Tryd.prog.globalNamed "strings.asciiSpace" = some 4 := by kernel_rfl

theorem Vars.below {w w' : World} (h : Vars w) (hb : Below w.heap.size w w') : Vars w' := by
  refine ⟨fun c hc => ?_, ⟨fun c hc => cell_kept hb (h.u8.1 c hc), fun i hi => ⟨cell_kept hb (h.u8.2 i hi).1, cell_kept hb (h.u8.2 i hi).2⟩⟩, ?_⟩
  · obtain ⟨R, o, hR, h1, h2⟩ := h.cls c hc
    exact ⟨R, o, Nat.lt_of_lt_of_le hR hb.size, cell_kept hb h1, fun i p hp => ⟨cell_kept hb (h2 i p hp).1, cell_kept hb (h2 i p hp).2⟩⟩
  · have h1 := h.asc
    have h0 := h1.cell asciiSpace_named 0 (by rw [Lib.asciiSpaceTab_length]; omega)
    have := World.block_lt_of_cell? w _ h0
    unfold Lib.TabIs at h1 ⊢
    exact var?_below hb asciiSpace_named this h1

theorem next_at {P : Program} (w : World) (k : Nat) (s : ByteArray) (pos : Nat) (ty : TypeId) (hk : w.heap[k]? = some (.stringIter s pos)) (h : pos < s.size) :
    (Instr.next (.pointer (some ⟨k, 0, none⟩)) true ty).run P w =
      .ok (.tuple #[.bool true, .int .i64 pos, .int .i32 (dec (s.data.toList.drop pos)).1]) (w.iterAt k s (pos + (dec (s.data.toList.drop pos)).2)) := by
  rw [← decode_dec]; exact Lib.run_next_any_at w k s pos ty hk h
theorem drop_ne {s : ByteArray} {pos : Nat} (h : pos < s.size) : s.data.toList.drop pos ≠ [] := by
  rw [Lib.size_eq] at h
  intro h1; have := congrArg List.length h1; simp at this h; omega

theorem of_any (c : Int) (w : World) (v : Value) (h0 : 0 ≤ c) (h6 : c < 6) (hc : w.cell? ⟨3, c.toNat, none⟩ = some v) :
    Calls Tryd.prog 62 #[.int .i64 c] w fun e w' => e = .returned v ∧ w = w' := by
  go_enter Tryd.func62, Tryd.ntmps62
  go_wp2
  go_ret
  exact ⟨rfl, rfl⟩

theorem is_on (c r : Int) (w : World) (l : List (Int × Int)) (R o : Nat) (h0 : 0 ≤ c) (h6 : c < 6) (hR : R < w.heap.size) (hl : l.length < 100)
    (hc : w.cell? ⟨3, c.toNat, none⟩ = some (.slice (some ⟨R, o, none⟩) l.length l.length))
    (hlo : ∀ i p, l[i]? = some p → w.cell? ⟨R, o + i * 2, none⟩ = some (.int .i32 p.1) ∧ w.cell? ⟨R, o + i * 2 + 1, none⟩ = some (.int .i32 p.2)) :
    Calls Tryd.prog 42 #[.int .i64 c, .int .i32 r] w fun e w' => e = .returned (.bool (isL r l)) ∧ Below w.heap.size w w' := by
  have Hlo := Lib.hid hlo
  clear hlo
  go_enter Tryd.func42, Tryd.ntmps42
  go_wp2_with (go_at_call 62; refine (of_any _ _ _ h0 h6 hc).mono ?_; rintro e w' ⟨rfl, rfl⟩)
  go_loopw [10] (fun i wr => ∃ k : Nat, k ≤ l.length ∧ i = .int .i64 k ∧ isL r l = isL r (l.drop k) ∧ Below w.heap.size w wr) (fun i _ => l.length - (intOf i).toNat)
  case atStart => exact ⟨0, Nat.zero_le _, rfl, rfl, Below.refl _ _⟩
  case round =>
    obtain ⟨k, hk, rfl, he, hb⟩ := hrel
    have He := Lib.hid he
    clear he hc
    by_cases hlt : k < l.length
    · obtain ⟨p, hp⟩ : ∃ p, l[k]? = some p := ⟨_, List.getElem?_eq_getElem hlt⟩
      have h1 := (hb.cell (p := ⟨R, o + k * 2, none⟩) hR).trans (Hlo.out k p hp).1
      have h2 := (hb.cell (p := ⟨R, o + k * 2 + 1, none⟩) hR).trans (Hlo.out k p hp).2
      have hd : isL r (l.drop k) = if r ≤ p.2 then decide (r ≥ p.1) else isL r (l.drop (k + 1)) := by
        rw [List.drop_eq_getElem_cons hlt]
        have : l[k] = p := by rw [List.getElem?_eq_getElem hlt] at hp; exact Option.some.inj hp
        rw [this]; rfl
      have Hd := Lib.hid hd
      clear hd hp
      go_wp2
      · have hle : r ≤ p.2 := by assumption
        go_ret
        rw [He.out, Hd.out, if_pos hle]
        exact ⟨rfl, hb.alloc (by have := hb.size; omega) _⟩
      · have hle : p.2 < r := by assumption
        go_roundw
        case rel => exact ⟨k + 1, by omega, by go_num, by rw [He.out, Hd.out, if_neg (by omega)], hb.alloc (by have := hb.size; omega) _⟩
        case measure => simp [intOf]; omega
    · go_wp2
      go_ret
      rw [He.out, List.drop_of_length_le (by omega)]
      exact ⟨rfl, hb⟩

theorem cls_short (c : Nat) : (cls c).length < 100 := by
  match c with
  | 0 => exact (by decide)
  | 1 => exact (by decide)
  | 2 => exact (by decide)
  | 3 => exact (by decide)
  | 4 => exact (by decide)
  | 5 => exact (by decide)
  | _ + 6 => exact Nat.zero_lt_succ 99
/-- chars.Is. -/
theorem is_any (c r : Int) (w : World) (hV : Vars w) (h0 : 0 ≤ c) (h6 : c < 6) (hr : 0 ≤ r) :
    Calls Tryd.prog 42 #[.int .i64 c, .int .i32 r] w fun e w' => e = .returned (.bool (isC c.toNat r.toNat)) ∧ Below w.heap.size w w' := by
  obtain ⟨R, o, hR, h1, h2⟩ := hV.cls c.toNat (by omega)
  have := is_on c r w (cls c.toNat) R o h0 h6 hR (cls_short _) h1 h2
  unfold isC
  rw [show ((r.toNat : Nat) : Int) = r by omega]
  exact this

/-- lexis.run. -/
theorem run_any (c : Int) (s : ByteArray) (w : World) (hV : Vars w) (h0 : 0 ≤ c) (h6 : c < 6) (_hs : s.size ≤ 1000000000) :
    Calls Tryd.prog 19 #[.string s, .int .i64 c] w fun e w' => e = .returned (.int .i64 (run c.toNat s.data.toList)) ∧ Below w.heap.size w w' := by
  go_enter Tryd.func19, Tryd.ntmps19
  go_wp2
  go_loopw [5] (fun _ wr => ∃ pos : Nat, pos ≤ s.size ∧ wr.heap[w.heap.size]? = some (.stringIter s pos) ∧ Below w.heap.size w wr ∧ run c.toNat s.data.toList = pos + run c.toNat (s.data.toList.drop pos))
    (fun _ wr => s.size - wr.iterPos w.heap.size)
  case atStart => exact ⟨0, Nat.zero_le _, World.iter_heap _ _ _, (Below.refl _ _).alloc (Nat.le_refl _) _, by simp⟩
  case round =>
    obtain ⟨pos, hpos, hit, hb, he⟩ := hrel
    have He := Lib.hid he
    clear he
    by_cases hp : pos < s.size
    · have hne := drop_ne hp
      have hle := dec_le _ hne
      have h1 := dec_pos (s.data.toList.drop pos)
      have hbd := dec_bd (s.data.toList.drop pos)
      have hc := run_cons c.toNat _ hne
      rw [List.drop_drop] at hc
      have hl : (s.data.toList.drop pos).length = s.size - pos := by rw [Lib.size_eq]; simp
      rw [hl] at hle
      have hnx := fun ty => next_at (P := Tryd.prog) wr w.heap.size s pos ty hit hp
      obtain ⟨D, hD⟩ : ∃ D, dec (s.data.toList.drop pos) = D := ⟨_, rfl⟩
      rw [hD] at hle h1 hbd hc hnx
      have Hc := Lib.hid hc
      have hI := Lib.iterAt_heap wr w.heap.size s pos (pos + D.2) hit
      have hB := Lib.below_iterAt hb (Nat.le_refl _) s (pos + D.2)
      have hV2 := hV.below hB
      have hsz : w.heap.size < (wr.iterAt w.heap.size s (pos + D.2)).heap.size := (Array.getElem?_eq_some_iff.1 hI).1
      have hit0 := Lib.hid hit
      clear hc hl hD hne hit hb
      have hIs := is_any c D.1 _ hV2 h0 h6 (by omega)
      obtain ⟨b, hbb⟩ : ∃ b, isC c.toNat D.1 = b := ⟨_, rfl⟩
      rw [show (D.1 : Int).toNat = D.1 by omega, hbb] at hIs
      have Hb := Lib.hid hbb
      clear hbb
      cases b with
      | false =>
        go_wp2_with (go_at_call 42; refine hIs.mono ?_; rintro e w' ⟨rfl, hb2⟩)
        go_ret
        refine ⟨?_, hB.trans (hb2.mono (by omega))⟩
        rw [He.out, Hc.out, Hb.out]; rfl
      | true =>
        go_wp2_with (go_at_call 42; refine hIs.mono ?_; rintro e w' ⟨rfl, hb2⟩)
        go_roundw
        case rel => exact ⟨pos + D.2, by omega, (hb2.block _ hsz).trans hI, hB.trans (hb2.mono (by omega)), by rw [He.out, Hc.out, Hb.out, if_pos rfl]; omega⟩
        case measure =>
          have e1 : wr.iterPos w.heap.size = pos := by simp [World.iterPos, hit0.out]
          have e2 : w'.iterPos w.heap.size = pos + D.2 := by simp [World.iterPos, (hb2.block _ hsz).trans hI]
          rw [e1, e2]; omega
    · have hnx := fun ty => Lib.run_next_end_at (P := Tryd.prog) wr w.heap.size s pos ty hit hp
      go_wp2
      go_ret
      refine ⟨?_, hb⟩
      rw [He.out, List.drop_of_length_le (by rw [← Lib.size_eq]; omega)]
      simp [run_nil]
      omega

theorem drop_cons_get (s : ByteArray) (pos : Nat) (h : pos < s.data.toList.length) : s.data.toList.drop pos = s.data.toList[pos] :: s.data.toList.drop (pos + 1) := List.drop_eq_getElem_cons h

/-- lexis.number, of digits. -/
theorem number_any (s : ByteArray) (w : World) (_hs : s.size ≤ 1000000000) (hd : ∀ b ∈ s.data.toList, 48 ≤ b.toNat ∧ b.toNat ≤ 57) :
    Calls Tryd.prog 43 #[.string s] w fun e w' => e = .returned (.tuple #[.int .i64 (number s.data.toList), .bool (decide ((number s.data.toList : Int) ≤ 1000000))]) ∧ Below w.heap.size w w' := by
  go_enter Tryd.func43, Tryd.ntmps43
  go_wp2
  go_loopw [4] (fun n wr => ∃ pos : Nat, pos ≤ s.size ∧ wr.heap[w.heap.size]? = some (.stringIter s pos) ∧ Below w.heap.size w wr ∧ n = .int .i64 (number (s.data.toList.take pos)))
    (fun _ wr => s.size - wr.iterPos w.heap.size)
  case atStart => exact ⟨0, Nat.zero_le _, World.iter_heap _ _ _, (Below.refl _ _).alloc (Nat.le_refl _) _, rfl⟩
  case round =>
    obtain ⟨pos, hpos, hit, hb, rfl⟩ := hrel
    by_cases hp : pos < s.size
    · have hne := drop_ne hp
      have hp' : pos < s.data.toList.length := by rw [← Lib.size_eq]; exact hp
      have hdg := hd _ (List.getElem_mem hp')
      have hnx := fun ty => next_at (P := Tryd.prog) wr w.heap.size s pos ty hit hp
      have hsn := number_snoc s.data.toList pos hp'
      have hn1 := number_le (s.data.toList.take pos)
      rw [drop_cons_get s pos hp', dec_ascii _ _ (by omega)] at hnx
      simp only at hnx
      obtain ⟨B, hB⟩ : ∃ B, s.data.toList[pos].toNat = B := ⟨_, rfl⟩
      rw [hB] at hnx hsn hdg
      have Hsn := Lib.hid hsn
      have hI := Lib.iterAt_heap wr w.heap.size s pos (pos + 1) hit
      have hB2 := Lib.below_iterAt hb (Nat.le_refl _) s (pos + 1)
      have hit0 := Lib.hid hit
      obtain ⟨N, hN⟩ : ∃ N, number (s.data.toList.take pos) = N := ⟨_, rfl⟩
      rw [hN] at hn1 ⊢
      have HN := Lib.hid hN
      clear hsn hne hit hb hB hN hd
      go_wp2
      go_roundw
      case rel => exact ⟨pos + 1, by omega, hI, hB2, by rw [Hsn.out, HN.out]; go_num⟩
      case measure =>
        have e1 : wr.iterPos w.heap.size = pos := by simp [World.iterPos, hit0.out]
        have e2 : (wr.iterAt w.heap.size s (pos + 1)).iterPos w.heap.size = pos + 1 := by simp [World.iterPos, hI]
        rw [e1, e2]; omega
    · have hnx := fun ty => Lib.run_next_end_at (P := Tryd.prog) wr w.heap.size s pos ty hit hp
      have ht : s.data.toList.take pos = s.data.toList := List.take_of_length_le (by rw [← Lib.size_eq]; omega)
      rw [ht]
      obtain ⟨N, hN⟩ : ∃ N, number s.data.toList = N := ⟨_, rfl⟩
      rw [hN]
      have HN := Lib.hid hN
      clear hN ht
      go_wp2
      go_ret2
      exact ⟨by rw [HN.out]; rfl, hb⟩

/-- lexis.runeAt: the index, or -1. -/
def runeAtI (r : Nat) (l : List UInt8) : Int := match runeAt r l with | some n => n | none => -1
theorem runeAt_any (s : ByteArray) (r : Int) (w : World) (hr : 0 ≤ r) (_hs : s.size ≤ 1000000000) :
    Calls Tryd.prog 44 #[.string s, .int .i32 r] w fun e w' => e = .returned (.int .i64 (runeAtI r.toNat s.data.toList)) ∧ Below w.heap.size w w' := by
  go_enter Tryd.func44, Tryd.ntmps44
  go_wp2
  go_loopw [5] (fun _ wr => ∃ pos : Nat, pos ≤ s.size ∧ wr.heap[w.heap.size]? = some (.stringIter s pos) ∧ Below w.heap.size w wr ∧ runeAt r.toNat s.data.toList = (runeAt r.toNat (s.data.toList.drop pos)).map (· + pos))
    (fun _ wr => s.size - wr.iterPos w.heap.size)
  case atStart => exact ⟨0, Nat.zero_le _, World.iter_heap _ _ _, (Below.refl _ _).alloc (Nat.le_refl _) _, by simp⟩
  case round =>
    obtain ⟨pos, hpos, hit, hb, he⟩ := hrel
    have He := Lib.hid he
    clear he
    by_cases hp : pos < s.size
    · have hne := drop_ne hp
      have hle := dec_le _ hne
      have h1 := dec_pos (s.data.toList.drop pos)
      have hc := runeAt_cons r.toNat _ hne
      rw [List.drop_drop] at hc
      have hl : (s.data.toList.drop pos).length = s.size - pos := by rw [Lib.size_eq]; simp
      rw [hl] at hle
      have hnx := fun ty => next_at (P := Tryd.prog) wr w.heap.size s pos ty hit hp
      obtain ⟨D, hD⟩ : ∃ D, dec (s.data.toList.drop pos) = D := ⟨_, rfl⟩
      rw [hD] at hle h1 hc hnx
      have Hc := Lib.hid hc
      have hI := Lib.iterAt_heap wr w.heap.size s pos (pos + D.2) hit
      have hB := Lib.below_iterAt hb (Nat.le_refl _) s (pos + D.2)
      have hit0 := Lib.hid hit
      clear hc hl hD hne hit hb
      by_cases hd : D.1 = r.toNat
      · have hb0 : ((D.1 : Int) == r) = true := by simp; omega
        have Hd := Lib.hid hd
        clear hd
        go_wp2
        go_ret
        refine ⟨?_, hB⟩
        unfold runeAtI
        rw [He.out, Hc.out, if_pos Hd.out]
        simp
      · have hb0 : ((D.1 : Int) == r) = false := by simp; omega
        have Hd := Lib.hid hd
        clear hd
        go_wp2
        go_roundw
        case rel => exact ⟨pos + D.2, by omega, hI, hB, by rw [He.out, Hc.out, if_neg Hd.out, Option.map_map]; congr 1; funext x; simp; omega⟩
        case measure =>
          have e1 : wr.iterPos w.heap.size = pos := by simp [World.iterPos, hit0.out]
          have e2 : (wr.iterAt w.heap.size s (pos + D.2)).iterPos w.heap.size = pos + D.2 := by simp [World.iterPos, hI]
          rw [e1, e2]; omega
    · have hnx := fun ty => Lib.run_next_end_at (P := Tryd.prog) wr w.heap.size s pos ty hit hp
      go_wp2
      go_ret
      refine ⟨?_, hb⟩
      unfold runeAtI
      rw [He.out, List.drop_of_length_le (by rw [← Lib.size_eq]; omega)]
      rfl
end Go.Proofs.YtjmejlncomaclaaDoor.Lx
