/- gimletlaw10.LexisPieces is true. Condition: the tables; at most 1000000000 bytes. -/
import Derived.Test.YtjmejlncomaclaaDoorLxLaw1
import Derived.Test.YtjmejlncomaclaaDoorLxIs
import Derived.Test.YtjmejlncomaclaaDoorLxJoin
import Derived.Deep.LoopGhost
import Derived.BigGuard
import Derived.Deep.QuietTactic
import Derived.BigQuiet
import Derived.IntWalk
import Derived.Lib.ConvBytes
namespace Go.Proofs.YtjmejlncomaclaaDoor.Lx
open Go.RowKit

def gaps : List (List UInt8) := [[32], [9], [10], [13, 10, 32], [32, 32, 13]]
theorem gap_val (m : Nat) (G : List UInt8) (h : gaps[m]? = some G) : ∀ h, ([Value.string ⟨#[32]⟩, Value.string ⟨#[9]⟩, Value.string ⟨#[10]⟩, Value.string ⟨#[13, 10, 32]⟩, Value.string ⟨#[32, 32, 13]⟩] : List Value)[m]'h = Value.string ⟨G.toArray⟩ := by
  intro h'
  rcases m with _ | _ | _ | _ | _ | m
  · cases h; rfl
  · cases h; rfl
  · cases h; rfl
  · cases h; rfl
  · cases h; rfl
  · simp [gaps] at h
theorem gap_ok (m : Nat) (G : List UInt8) (h : gaps[m]? = some G) : (∀ b ∈ G, blankB b) ∧ G ≠ [] ∧ G.length ≤ 3 := by
  have : G ∈ gaps := List.mem_of_getElem? h
  revert G
  unfold blankB
  intro G h hm
  simp only [gaps, List.mem_cons, List.not_mem_nil, or_false] at hm
  rcases hm with rfl | rfl | rfl | rfl | rfl <;> simp <;> decide
/-- []byte(s). -/
theorem bytes_of_str (w : World) (S : ByteArray) : ∃ C W', (convert 9 22 (.string S)).run Tryd.prog w = .ok (.slice (some ⟨w.heap.size, 0, none⟩) S.size C) W' ∧ RB W' (.slice (some ⟨w.heap.size, 0, none⟩) S.size C) S.data.toList ∧ Below w.heap.size w W' := by
  have hsz := Lib.size_eq S
  refine ⟨_, _, Lib.run_convert_string_bytes w 9 22 5 S Tryd.underlying9 Tryd.underlying22 Tryd.underlying5, .inr ⟨w.heap.size, 0, grownCap w S.size 0 5, by rw [hsz], ?_, ?_, fun j hj => ?_⟩, ?_⟩
  · rw [← hsz]; exact grownCap_ge w S.size 0 5
  · exact (Array.getElem?_eq_some_iff.1 (Lib.bytesWorld_at_new w 5 S)).1
  · rw [Nat.zero_add]; exact Lib.bytesWorld_cell w 5 S j (by rw [hsz]; exact hj)
  · refine ⟨rfl, rfl, rfl, by rw [Lib.bytesWorld_size]; omega, fun k hk => Lib.bytesWorld_at_old w 5 S k hk⟩
theorem WordsAns.any {q : List UInt8} {w w' : World} {e : Ending} (h : WordsAns q w e w') : ∃ a b, e = .returned (.tuple #[a, b]) ∧ Below w.heap.size w w' := by
  unfold WordsAns at h
  split at h
  · obtain ⟨v, rfl, _, _, hb⟩ := h; exact ⟨_, _, rfl, hb⟩
  · obtain ⟨k, rfl, _, _, hb⟩ := h; exact ⟨_, _, rfl, hb⟩
theorem words_why (p : List UInt8) (e : Nat × Nat) (h : words p = .error e) : e.2 = 103 ∨ e.2 = 104 := by
  unfold words at h
  split at h
  · cases h; exact .inl rfl
  · split at h
    · cases h
    · cases h; exact .inr rfl
theorem WordsAns.err {q : List UInt8} {w w' : World} {e : Ending} (h : WordsAns q w e w') (x : Nat × Nat) (hx : words q = .error x) : ∃ k, e = .returned (.tuple #[.slice none 0 0, .iface 44 (.pointer (some ⟨k, 0, none⟩))]) ∧ k < w'.heap.size ∧
    w'.cell? ⟨k, 4, none⟩ = some (.int .i64 x.2) ∧ Below w.heap.size w w' := by
  unfold WordsAns at h
  rw [hx] at h
  obtain ⟨k, rfl, _, hK, hb⟩ := h
  exact ⟨k, rfl, hK.lt, hK.cell 4 _ rfl, hb⟩
set_option maxRecDepth 100000 in
set_option maxHeartbeats 4000000 in
/-- LexisPieces, where the first text has a fault. -/
theorem pieces_err (vp vq : Value) (p q : List UInt8) (e0 : Nat × Nat) (n : Int) (w : World) (hV : Vars w) (hp : RB w vp p) (hq : RB w vq q) (hnp : p.length ≤ 10000000) (hnq : q.length ≤ 10000000) (hw : words p = .error e0) :
    Calls Tryd.prog 3 #[vp, vq, .int .i64 n] w fun e w' => e = .returned (.bool true) ∧ Below w.heap.size w w' := by
  have hA := awake_any w hV
  have n1 : -5 < n.tmod 5 := Int.lt_tmod_of_pos n (by decide)
  have n2 : n.tmod 5 < 5 := Int.tmod_lt_of_pos n (by decide)
  obtain ⟨m, hm, hm5⟩ : ∃ m : Nat, (n.tmod 5 + 5).tmod 5 = (m : Int) ∧ m < 5 := by
    rw [Int.tmod_eq_emod_of_nonneg (by omega)]
    exact ⟨((n.tmod 5 + 5) % 5).toNat, by omega, by omega⟩
  have hm0 : IntKind.i64.wrap (n.tmod 5 + 5) = n.tmod 5 + 5 := IntWalk.i64_in _ (by omega)
  obtain ⟨G, hG⟩ : ∃ G, gaps[m]? = some G := ⟨_, List.getElem?_eq_getElem (by simpa [gaps] using hm5)⟩
  have hgv := gap_val m G hG
  obtain ⟨SG, hSG⟩ : ∃ S, (⟨G.toArray⟩ : ByteArray) = S := ⟨_, rfl⟩
  have hgl : SG.data.toList = G := by rw [← hSG]
  rw [hSG] at hgv
  clear hSG
  have HGl := Lib.hid hgl
  clear hgl
  have HV := Lib.hid hV
  have hWp := fun W (hb : Below w.heap.size w W) => words_any vp p W (hV.below hb) (RB.below hp hb) (by omega)
  have hWq := fun W (hb : Below w.heap.size w W) => words_any vq q W (hV.below hb) (RB.below hq hb) (by omega)
  have hCp := fun W (hb : Below w.heap.size w W) => str_of_RB (RB.below hp hb)
  have hCq := fun W (hb : Below w.heap.size w W) => str_of_RB (RB.below hq hb)
  have HWp := Lib.hid hWp
  have HWq := Lib.hid hWq
  have HCp := Lib.hid hCp
  have HCq := Lib.hid hCq
  have Hw := Lib.hid hw
  have HG := Lib.hid hG
  have Hp := Lib.hid hp
  clear hWp hWq hCp hCq hw hG hV hp hq
  go_enter Tryd.func3, Tryd.ntmps3
  go_wp2_with fail
  refine hA.mono ?_
  rintro e w1 ⟨rfl, hb1⟩
  go_wp2_with fail
  refine (HWp.out _ (hb1.alloc hb1.size _)).mono ?_
  rintro e w2 h
  obtain ⟨k, rfl, hk, hK, hb2⟩ := h.err e0 Hw.out
  clear h
  have hb02 := (hb1.alloc hb1.size _).trans (hb2.mono (Below.size (hb1.alloc hb1.size _)))
  go_wp2_with fail
  refine (HWq.out _ hb02).mono ?_
  rintro e w3 h
  obtain ⟨va, vb, rfl, hb3⟩ := h.any
  have hb03 := hb02.trans (hb3.mono hb02.size)
  have hK3 := cell_kept hb3 hK
  have cP := HCp.out _ hb03
  have cQ := HCq.out _ hb03
  clear h
  obtain ⟨SP, hSP⟩ : ∃ S, (⟨p.toArray⟩ : ByteArray) = S := ⟨_, rfl⟩
  obtain ⟨SQ, hSQ⟩ : ∃ S, (⟨q.toArray⟩ : ByteArray) = S := ⟨_, rfl⟩
  rw [hSP] at cP
  rw [hSQ] at cQ
  have hQ : (SP ++ SG ++ SQ).data.toList = p ++ (G ++ q) := by
    rw [← hSP, ← hSQ]
    simp [HGl.out]
  have z1 : SP.size ≤ 10000000 := by rw [← hSP, Lib.size_eq]; exact hnp
  have z2 : SQ.size ≤ 10000000 := by rw [← hSQ, Lib.size_eq]; exact hnq
  have z3 : SG.size ≤ 3 := by rw [Lib.size_eq, HGl.out]; exact (gap_ok m G HG.out).2.2
  have z4 : (p ++ (G ++ q)).length ≤ 1000000000 := by
    have := (gap_ok m G HG.out).2.2
    simp only [List.length_append]; omega
  clear hSP hSQ
  obtain ⟨C, w4, cB, hRB, hb4⟩ := bytes_of_str w3 (SP ++ SG ++ SQ)
  have hb04 := hb03.trans (hb4.mono hb03.size)
  rw [hQ] at hRB
  have HQ := Lib.hid hQ
  simp only [ByteArray.size_append] at hRB
  have HRB := Lib.hid hRB
  have hW4 := words_any _ _ w4 (HV.out.below hb04) hRB z4
  have hK4 := cell_kept (hb4.mono (Nat.le_refl _)) hK3
  have HK4 := Lib.hid hK4
  clear hQ hRB hb3 hb4 hK hK3 hK4 z4
  go_wp2_with fail
  refine hW4.mono ?_
  rintro e w5 h
  obtain ⟨vc, vd, he5, hb5⟩ := h.any
  have hb05 := hb04.trans (hb5.mono hb04.size)
  have hK5 := cell_kept hb5 HK4.out
  have gok := gap_ok m G HG.out
  by_cases hA103 : e0.2 = 103
  · rw [hA103] at hK5
    obtain ⟨x, hx⟩ := words_join_err p G q gok.1 gok.2.1 e0 Hw.out (fun h => by rw [h] at hA103; cases hA103)
    obtain ⟨k2, rfl, _, _, _⟩ := h.err x hx
    have hI := is_word_not k w5 hK5
    clear h he5 hx gok hK5 hA103
    go_wp2_with fail
    refine hI.mono ?_
    rintro e w6 ⟨rfl, rfl⟩
    go_wp2_with fail
    go_ret
    exact ⟨rfl, hb05⟩
  · have hA104 : e0.2 = 104 := by rcases words_why p e0 Hw.out with h1 | h1; exact absurd h1 hA103; exact h1
    rw [hA104] at hK5
    have hI := is_word k w5 hK5
    have hO := open_any vp p w5 (RB.below Hp.out hb05) (by omega)
    cases hq : hasQ p with
    | true =>
      subst he5
      rw [hq] at hO
      clear h gok hK5 hA103 hA104 hq
      go_wp2_with fail
      refine hI.mono ?_
      rintro e w6 ⟨rfl, rfl⟩
      go_wp2_with fail
      refine hO.mono ?_
      rintro e w7 ⟨rfl, rfl⟩
      go_wp2_with fail
      go_ret
      exact ⟨rfl, hb05⟩
    | false =>
      obtain ⟨x, hx⟩ := words_join_err p G q gok.1 gok.2.1 e0 Hw.out (fun _ => hasQ_false p hq)
      obtain ⟨k2, rfl, _, _, _⟩ := h.err x hx
      rw [hq] at hO
      clear h he5 hx gok hK5 hA103 hA104 hq
      go_wp2_with fail
      refine hI.mono ?_
      rintro e w6 ⟨rfl, rfl⟩
      go_wp2_with fail
      refine hO.mono ?_
      rintro e w7 ⟨rfl, rfl⟩
      go_wp2_with fail
      go_ret
      exact ⟨rfl, hb05⟩
end Go.Proofs.YtjmejlncomaclaaDoor.Lx
