/- gimletlaw10.LexisPieces is true where the second text alone has a fault. Condition: the tables; at most 10000000 bytes each. -/
import Derived.Test.YtjmejlncomaclaaDoorLxPc1
namespace Go.Proofs.YtjmejlncomaclaaDoor.Lx
open Go.RowKit

theorem WordsAns.ok {q : List UInt8} {w w' : World} {e : Ending} (h : WordsAns q w e w') (l : List (Wd × Nat)) (hx : words q = .ok l) : ∃ v, e = .returned (.tuple #[v, .nilIface]) ∧
    (w'.ownsRow w.heap.size 37 7 v l.length (wdRow q l) ∧ (l = [] → v = .slice none 0 0)) ∧ Below w.heap.size w w' := by
  unfold WordsAns at h
  rw [hx] at h
  obtain ⟨v, rfl, h1, h2, hb⟩ := h
  exact ⟨v, rfl, ⟨h1, h2⟩, hb⟩
set_option maxRecDepth 100000 in
set_option maxHeartbeats 4000000 in
/-- LexisPieces, where the second text alone has a fault. -/
theorem pieces_okerr (vp vq : Value) (p q : List UInt8) (lp : List (Wd × Nat)) (e0 : Nat × Nat) (n : Int) (w : World) (hV : Vars w) (hp : RB w vp p) (hq : RB w vq q) (hnp : p.length ≤ 10000000) (hnq : q.length ≤ 10000000) (hw : words p = .ok lp) (hw2 : words q = .error e0) :
    Calls Tryd.prog 3 #[vp, vq, .int .i64 n] w fun e w' => e = .returned (.bool true) ∧ Below w.heap.size w w' := by
  have hA := awake_any w hV
  have n1 : -5 < n.tmod 5 := Int.lt_tmod_of_pos n (by decide)
  have n2 : n.tmod 5 < 5 := Int.tmod_lt_of_pos n (by decide)
  obtain ⟨m, hm, hm5⟩ : ∃ m : Nat, (n.tmod 5 + 5).tmod 5 = (m : Int) ∧ m < 5 := by
    rw [Int.tmod_eq_emod_of_nonneg (by omega)]
    exact ⟨((n.tmod 5 + 5) % 5).toNat, by omega, by omega⟩
  have hm0 : IntKind.i64.wrap (n.tmod 5 + 5) = n.tmod 5 + 5 := IntWalk.i64_in _ (by omega)
  obtain ⟨G, hG⟩ : ∃ G, gaps[m]? = some G := ⟨_, List.getElem?_eq_getElem (by simpa [gaps] using hm5)⟩
  have hgv := gap_val m G hG
  obtain ⟨SG, hSG⟩ : ∃ S, (⟨G.toArray⟩ : ByteArray) = S := ⟨_, rfl⟩
  have hgl : SG.data.toList = G := by rw [← hSG]
  rw [hSG] at hgv
  clear hSG
  have HGl := Lib.hid hgl
  clear hgl
  have HV := Lib.hid hV
  have hWp := fun W (hb : Below w.heap.size w W) => words_any vp p W (hV.below hb) (RB.below hp hb) (by omega)
  have hWq := fun W (hb : Below w.heap.size w W) => words_any vq q W (hV.below hb) (RB.below hq hb) (by omega)
  have hCp := fun W (hb : Below w.heap.size w W) => str_of_RB (RB.below hp hb)
  have hCq := fun W (hb : Below w.heap.size w W) => str_of_RB (RB.below hq hb)
  have HWp := Lib.hid hWp
  have HWq := Lib.hid hWq
  have HCp := Lib.hid hCp
  have HCq := Lib.hid hCq
  have Hw := Lib.hid hw
  have Hw2 := Lib.hid hw2
  have HG := Lib.hid hG
  have Hp := Lib.hid hp
  clear hWp hWq hCp hCq hw hw2 hG hV hp hq
  go_enter Tryd.func3, Tryd.ntmps3
  go_wp2_with fail
  refine hA.mono ?_
  rintro e w1 ⟨rfl, hb1⟩
  go_wp2_with fail
  refine (HWp.out _ (hb1.alloc hb1.size _)).mono ?_
  rintro e w2 h
  obtain ⟨v, rfl, _, hb2⟩ := h.ok lp Hw.out
  clear h
  have hb02 := (hb1.alloc hb1.size _).trans (hb2.mono (Below.size (hb1.alloc hb1.size _)))
  go_wp2_with fail
  refine (HWq.out _ hb02).mono ?_
  rintro e w3 h
  obtain ⟨k, rfl, _, _, hb3⟩ := h.err e0 Hw2.out
  have hb03 := hb02.trans (hb3.mono hb02.size)
  have cP := HCp.out _ hb03
  have cQ := HCq.out _ hb03
  clear h
  obtain ⟨SP, hSP⟩ : ∃ S, (⟨p.toArray⟩ : ByteArray) = S := ⟨_, rfl⟩
  obtain ⟨SQ, hSQ⟩ : ∃ S, (⟨q.toArray⟩ : ByteArray) = S := ⟨_, rfl⟩
  rw [hSP] at cP
  rw [hSQ] at cQ
  have hQ : (SP ++ SG ++ SQ).data.toList = p ++ (G ++ q) := by
    rw [← hSP, ← hSQ]
    simp [HGl.out]
  have z1 : SP.size ≤ 10000000 := by rw [← hSP, Lib.size_eq]; exact hnp
  have z2 : SQ.size ≤ 10000000 := by rw [← hSQ, Lib.size_eq]; exact hnq
  have z3 : SG.size ≤ 3 := by rw [Lib.size_eq, HGl.out]; exact (gap_ok m G HG.out).2.2
  have z4 : (p ++ (G ++ q)).length ≤ 1000000000 := by
    have := (gap_ok m G HG.out).2.2
    simp only [List.length_append]; omega
  clear hSP hSQ
  obtain ⟨C, w4, cB, hRB, hb4⟩ := bytes_of_str w3 (SP ++ SG ++ SQ)
  have hb04 := hb03.trans (hb4.mono hb03.size)
  rw [hQ] at hRB
  have HQ := Lib.hid hQ
  simp only [ByteArray.size_append] at hRB
  have HRB := Lib.hid hRB
  have hW4 := words_any _ _ w4 (HV.out.below hb04) hRB z4
  clear hQ hRB hb3 hb4 z4
  go_wp2_with fail
  refine hW4.mono ?_
  rintro e w5 h
  obtain ⟨vc, vd, rfl, hb5⟩ := h.any
  have hb05 := hb04.trans (hb5.mono hb04.size)
  clear h
  go_wp2_with fail
  go_ret
  exact ⟨rfl, hb05⟩
end Go.Proofs.YtjmejlncomaclaaDoor.Lx
