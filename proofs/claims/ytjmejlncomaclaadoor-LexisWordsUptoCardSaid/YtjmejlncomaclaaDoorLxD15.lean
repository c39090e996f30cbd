/- gimletref01.Decoder's Take: a byte more of a character. Conditions: what was taken begins a character, and does so with that byte too. -/
import Derived.Test.YtjmejlncomaclaaDoorLxD7
namespace Go.Proofs.YtjmejlncomaclaaDoor.Lx
open Go.RowKit

theorem infoU8 : (Tryd.prog.info? 5).map (fun i => (i.zero, i.size, i.bytes)) = some (some (.int .u8 0), 1, 1) := by kernel_rfl
def u8s (l : List UInt8) : List Value := l.map fun b => .int .u8 b.toNat
theorem u8s_one (l : List UInt8) : ∀ u ∈ u8s l, u.oneCell' = true := by
  intro u hu
  obtain ⟨b, _, rfl⟩ := List.mem_map.1 hu
  rfl
theorem RB.own {w : World} {base : Nat} {T : TypeId} {v : Value} {l : List UInt8} {n : Nat} (h : w.ownsRow base T 1 v n (u8s l)) (hn : n = l.length) : RB w v l ∧ (∀ g o c m, v = .slice (some ⟨g, o, none⟩) m c → base ≤ g) := by
  subst hn
  have hown := h
  rcases h.2 with ⟨hv, h0⟩ | ⟨g, cap, cur, rfl, hg, hh, hcc, hml⟩
  · exact ⟨.inl ⟨hv, List.length_eq_zero_iff.1 h0⟩, fun g o c m h => by rw [hv] at h; cases h⟩
  · refine ⟨.inr ⟨g, 0, cap, rfl, hcc, (Array.getElem?_eq_some_iff.1 hh).1, fun j hj => ?_⟩, fun g' o c m h => by cases h; exact hg⟩
    rw [Nat.zero_add]
    refine (hown.cellAt j (by omega)).trans ?_
    simp [u8s, List.getD_eq_getElem?_getD, List.getElem?_eq_getElem hj]
theorem RB.but {w w' : World} {k : Nat} {v : Value} {l : List UInt8} (h : RB w v l) (hb : But k w w') (hsz : w.heap.size ≤ w'.heap.size) (hk : ∀ g o c m, v = .slice (some ⟨g, o, none⟩) m c → g ≠ k) : RB w' v l := by
  rcases h with h | ⟨b, off, cap, h1, h2, h3, h4⟩
  · exact .inl h
  · exact .inr ⟨b, off, cap, h1, h2, Nat.lt_of_lt_of_le h3 hsz, fun j hj => hb.cell (h4 j hj) (hk b off cap _ h1)⟩

/-- What is taken behind a byte more. -/
def takenOf (t : List UInt8) (x : UInt8) (n : Nat) : List UInt8 := if t.length + 1 = n then [] else t ++ [x]
set_option maxRecDepth 100000 in
set_option maxHeartbeats 8000000 in
/-- (*gimletref01.Decoder).Take. -/
theorem take_any (D : Nat) (tv : Value) (t : List UInt8) (x : UInt8) (w : World) (hD : Blk w D #[tv, .bool false] 67) (ht : RB w tv t) (htl : t.length ≤ 4) (n : Nat) (hf : front (t ++ [x]) = (t.length + 1, n)) (hn : t.length + 1 ≤ n) :
    Calls Tryd.prog 25 #[.pointer (some ⟨D, 0, none⟩), .int .u8 x.toNat] w fun e w' => ∃ u tv', e = .returned u ∧ Blk w' D #[tv', .bool false] 67 ∧ RB w' tv' (takenOf t x n) ∧ Below D w w' := by
  have hDl := hD.lt
  have d0 := hD.cell 0 _ rfl
  have d1 := hD.cell 1 _ rfl
  have hp0 : ∀ W, Sem.run Tryd.prog (pure #[] : Sem (Array Value)) W = .ok #[] W := fun W => Sem.run_pure ..
  have hs0 : ∀ a W, Sem.run Tryd.prog (storeCells a []) W = .ok () W := fun a W => by simp [storeCells, Sem.run_pure]
  obtain ⟨i0, hi, hz0, hz1, hz2⟩ := info_parts infoU8
  have Hi := Lib.hid hi
  have HD := Lib.hid hD
  have Hf := Lib.hid hf
  clear hi hD hf
  have hb1 : Below w.heap.size w (w.alloc (.cells #[] 5)) := (Below.refl _ w).alloc (Nat.le_refl _) _
  have hown1 : (w.alloc (.cells #[] 5)).ownsRow w.heap.size 5 1 (.slice (some ⟨w.heap.size, 0, none⟩) 0 0) 0 [] :=
    ⟨rfl, .inr ⟨w.heap.size, 0, #[], rfl, Nat.le_refl _, heap_alloc_new w _, Nat.le_refl _, by decide, rfl, rfl⟩⟩
  rcases ht with ⟨rfl, rfl⟩ | ⟨b, off, cap, rfl, hc2, hc3, hc4⟩
  · have hcap := grownCap_ge w 1 0 5
    unfold grownCap at hcap
    clear hown1
    have hf' := Hf.out
    simp only [List.nil_append, List.length_nil, Nat.zero_add] at hf' hn
    have Hf := Lib.hid hf'
    clear hf'
    go_enter Tryd.func25, Tryd.ntmps25
    go_wp2_with fail
    have hb3 : Below w.heap.size w ((((w.alloc (.cells #[] 5)).alloc (.cells #[.int .u8 x.toNat] 5)).alloc (.cells (#[.int .u8 x.toNat] ++ Builtin.zeroCells #[.int .u8 0] ((Question.appendCap 1 0 5).cut (w.tape w.drawn (Question.appendCap 1 0 5)) - 1)) 5)).drew) := (((hb1.alloc hb1.size _).alloc (by simp; omega) _)).drew
    have hcx : ((((w.alloc (.cells #[] 5)).alloc (.cells #[.int .u8 x.toNat] 5)).alloc (.cells (#[.int .u8 x.toNat] ++ Builtin.zeroCells #[.int .u8 0] ((Question.appendCap 1 0 5).cut (w.tape w.drawn (Question.appendCap 1 0 5)) - 1)) 5)).drew).cell? ⟨w.heap.size + 1 + 1, 0, none⟩ = some (.int .u8 x.toNat) := by
      have := (Blk.new ((w.alloc (.cells #[] 5)).alloc (.cells #[.int .u8 x.toNat] 5)) (#[.int .u8 x.toNat] ++ Builtin.zeroCells #[.int .u8 0] ((Question.appendCap 1 0 5).cut (w.tape w.drawn (Question.appendCap 1 0 5)) - 1)) 5).drew.cell 0 (.int .u8 x.toNat) (by rw [Array.getElem?_append_left (by simp)]; rfl)
      rw [World.size_alloc, World.size_alloc] at this
      exact this
    generalize ((Question.appendCap 1 0 5).cut (w.tape w.drawn (Question.appendCap 1 0 5))) = CP at hcap hb3 hcx ⊢
    generalize (((w.alloc (.cells #[] 5)).alloc (.cells #[.int .u8 x.toNat] 5)).alloc (.cells (#[.int .u8 x.toNat] ++ Builtin.zeroCells #[.int .u8 0] (CP - 1)) 5)).drew = W3 at hb3 hcx ⊢
    have hR3 : RB W3 (.slice (some ⟨w.heap.size + 1 + 1, 0, none⟩) 1 CP) [x] := .inr ⟨_, 0, CP, rfl, hcap, World.block_lt_of_cell? W3 _ hcx, fun j hj => by
      obtain rfl : j = 0 := by simpa using hj
      exact hcx⟩
    have hg3 : ∀ g o c m, Value.slice (some ⟨w.heap.size + 1 + 1, 0, none⟩) 1 CP = .slice (some ⟨g, o, none⟩) m c → g ≠ D := fun g o c m h => by cases h; omega
    have hD3 := HD.out.below hb3
    obtain ⟨TX, hTX⟩ : ∃ TX, [x] = TX := ⟨_, rfl⟩
    have hTXl : TX.length = 1 := by rw [← hTX]; rfl
    rw [hTX] at hR3
    have hf' := Hf.out
    rw [hTX] at hf'
    have Hf := Lib.hid hf'
    have HTX := Lib.hid hTX
    have hL5 : 1 ≤ 5 := by omega
    clear hf' hcx hTX
    have hF := front_any (.slice (some ⟨w.heap.size + 1 + 1, 0, none⟩) 1 CP) TX 0 W3 hR3 (by rw [hTXl]; omega) (by omega)
    rw [List.drop_zero, Hf.out] at hF
    have hn0 : ((n : Int) == 0) = false := by simp; omega
    have d0 := hD3.cell 0 _ rfl
    have df := hD3.free
    have hBut : ∀ v, But D W3 (W3.setCell ⟨D, 0, none⟩ v) := fun v i _ hk => heap_setCell_other W3 ⟨D, 0, none⟩ i v hk
    have hszS : ∀ v, W3.heap.size ≤ (W3.setCell ⟨D, 0, none⟩ v).heap.size := fun v => by rw [sizeSet]; exact Nat.le_refl _
    have hRS : ∀ v, RB (W3.setCell ⟨D, 0, none⟩ v) (.slice (some ⟨w.heap.size + 1 + 1, 0, none⟩) 1 CP) TX := fun v => RB.but hR3 (hBut v) (hszS v) hg3
    have hDS : ∀ v, Blk (W3.setCell ⟨D, 0, none⟩ v) D #[v, .bool false] 67 := fun v => hD3.set 0 v
    have hbS : ∀ v, Below D w (W3.setCell ⟨D, 0, none⟩ v) := fun v => (hb3.mono (Nat.le_of_lt hDl)).setCell (p := ⟨D, 0, none⟩) (Nat.le_refl _) v
    have HRS := Lib.hid hRS
    have HDS := Lib.hid hDS
    have HbS := Lib.hid hbS
    clear hRS hDS hbS hBut hszS hR3 hg3 hD3
    by_cases hnn : 1 = n
    · subst hnn
      have hO : Okc TX := by
        unfold Okc
        rw [Hf.out]
        exact ⟨by simp only; omega, rfl⟩
      have hdl : (dec TX).2 = TX.length := by rw [dec_ok hO, Hf.out, hTXl]
      have hV := value_any _ TX _ (HRS.out (.slice none 0 0)) hO hdl
      have heq : ((1 : Int) == (1 : Int)) = true := by simp
      have HO := Lib.hid hO
      have Hdl := Lib.hid hdl
      clear hO hdl
      refine hF.mono ?_
      rintro e w4 ⟨rfl, rfl⟩
      go_wp2_with fail
      refine hV.mono ?_
      rintro e w5 ⟨rfl, rfl⟩
      go_wp2_with fail
      go_ret2
      refine ⟨_, _, rfl, HDS.out _, ?_, HbS.out _⟩
      unfold takenOf
      rw [show ([] : List UInt8).length + 1 = 1 from rfl, List.nil_append, HTX.out]
      rw [if_pos rfl]
      exact .inl ⟨rfl, rfl⟩
    · have heq : ((1 : Int) == (n : Int)) = false := by simp; omega
      refine hF.mono ?_
      rintro e w4 ⟨rfl, rfl⟩
      go_wp2_with fail
      go_ret2
      refine ⟨_, _, rfl, HDS.out _, ?_, HbS.out _⟩
      unfold takenOf
      rw [show ([] : List UInt8).length + 1 = 1 from rfl, List.nil_append, HTX.out]
      rw [if_neg hnn]
      exact HRS.out _
  · have hnews : ∀ (j : Nat) u, (u8s t)[j]? = some u → (w.alloc (.cells #[] 5)).cell? ((⟨b, off, none⟩ : Addr).add j) = some u := fun j u h => by
      have hj : j < t.length := by have := (List.getElem?_eq_some_iff.1 h).1; simpa [u8s] using this
      have hadd : (⟨b, off, none⟩ : Addr).add j = ⟨b, off + j, none⟩ := by unfold Addr.add; split <;> simp_all
      rw [hadd, cell_kept hb1 (hc4 j hj), ← h]
      simp [u8s, List.getD_eq_getElem?_getD, List.getElem?_eq_getElem hj]
    have Hown1 := Lib.hid hown1
    have Hnews := Lib.hid hnews
    have hlen : (u8s t).length = t.length * 1 := by simp [u8s]
    have hone := u8s_one t
    have Hlen := Lib.hid hlen
    have Hone := Lib.hid hone
    clear hown1 hnews hlen hone hc4
    go_enter Tryd.func25, Tryd.ntmps25
    go_wp2_with (at_builtin; refine wpList_append_own (o := ⟨some 18, _, _, _, _, _⟩) _ rfl _ _ 22 rfl w.heap.size 5 i0 (.int .u8 0) 1 1 Tryd.underlying22 Hi.out hz0 hz1 hz2 rfl (by decide) _ _ _ rfl Hown1.out ⟨b, off, none⟩ t.length cap (u8s t) rfl Hlen.out Hnews.out Hone.out ?c3 ?c4 ?c5 ?_)
    case c3 => unfold maxLen; omega
    case c4 => omega
    case c5 => exact hb1.size
    · intro v2 w2 hown2 hgrow2 hnil2
      have hb2 : Below w.heap.size w w2 := hb1.grown hgrow2 hb1.size (fun k hk => by cases hk; exact Nat.le_refl _)
      have hn2 : ∀ (j : Nat) u, [Value.int .u8 x.toNat][j]? = some u → (w2.alloc (.cells #[.int .u8 x.toNat] 5)).cell? ((⟨w2.heap.size, 0, none⟩ : Addr).add j) = some u := fun j u h => cells_new (w := w2) (l := [.int .u8 x.toNat]) (t := 5) j u h
      have Hn2 := Lib.hid hn2
      have Hown2 := Lib.hid hown2
      clear hn2 hown2 hgrow2 hnil2
      go_wp2_with (at_builtin; refine wpList_append_own (o := ⟨some 21, _, _, _, _, _⟩) _ rfl _ _ 22 rfl w.heap.size 5 i0 (.int .u8 0) 1 1 Tryd.underlying22 Hi.out hz0 hz1 hz2 rfl (by decide) _ _ _ rfl (Hown2.out.alloc _) ⟨w2.heap.size, 0, none⟩ 1 1 [.int .u8 x.toNat] rfl rfl Hn2.out ?d1 ?d3 ?d4 ?d5 ?_)
      case d1 => intro u hu; simp at hu; subst hu; rfl
      case d3 => unfold maxLen; omega
      case d4 => omega
      case d5 => simp only [World.size_alloc]; have := hb2.size; omega
      · intro v3 W3 hown3 hgrow3 hnil3
        have hb3 : Below w.heap.size w W3 := (hb2.alloc hb2.size _).grown hgrow3 (by simp only [World.size_alloc]; have := hb2.size; omega) (fun k hk => (Hown2.out.lt k hk).1)
        have hown4 : W3.ownsRow w.heap.size 5 1 v3 (t.length + 1) (u8s (t ++ [x])) := by
          simpa [u8s] using hown3
        obtain ⟨hR3, hg3'⟩ := RB.own hown4 (by simp)
        have hg3 : ∀ g o c m, v3 = .slice (some ⟨g, o, none⟩) m c → g ≠ D := fun g o c m h => by have := hg3' g o c m h; omega
        have hD3 := HD.out.below hb3
        obtain ⟨TX, hTX⟩ : ∃ TX, t ++ [x] = TX := ⟨_, rfl⟩
        have hTXl : TX.length = t.length + 1 := by rw [← hTX]; simp
        obtain ⟨L1, hL1⟩ : ∃ L1, t.length + 1 = L1 := ⟨_, rfl⟩
        have hf' := Hf.out
        rw [hTX, hL1] at hf'
        have Hf := Lib.hid hf'
        rw [hTX] at hR3
        rw [hL1] at hTXl
        have hL5 : L1 ≤ 5 := by omega
        have hL0 : 1 ≤ L1 := by omega
        rw [hL1] at hn
        have HTX := Lib.hid hTX
        have HL1 := Lib.hid hL1
        clear hown3 hown4 hgrow3 hnil3 hg3' hf' hTX hL1
        go_wp2_with fail
        have hF := front_any v3 TX 0 W3 hR3 (by rw [hTXl]; omega) (by omega)
        rw [List.drop_zero, Hf.out] at hF
        have hkb : decide ((L1 : Int) < (L1 : Int)) = false := by simp
        have hn0 : ((n : Int) == 0) = false := by simp; omega
        obtain ⟨o3, c3, rfl⟩ : ∃ o c, v3 = .slice o L1 c := by
          rcases hR3 with ⟨rfl, h⟩ | ⟨b, off, cap, rfl, _⟩
          · rw [h] at hTXl; simp at hTXl; omega
          · rw [hTXl]; exact ⟨_, _, rfl⟩
        have d0 := hD3.cell 0 _ rfl
        have df := hD3.free
        have hBut : ∀ v, But D W3 (W3.setCell ⟨D, 0, none⟩ v) := fun v i _ hk => heap_setCell_other W3 ⟨D, 0, none⟩ i v hk
        have hszS : ∀ v, W3.heap.size ≤ (W3.setCell ⟨D, 0, none⟩ v).heap.size := fun v => by rw [sizeSet]; exact Nat.le_refl _
        have hRS : ∀ v, RB (W3.setCell ⟨D, 0, none⟩ v) (.slice o3 L1 c3) TX := fun v => RB.but hR3 (hBut v) (hszS v) hg3
        have hDS : ∀ v, Blk (W3.setCell ⟨D, 0, none⟩ v) D #[v, .bool false] 67 := fun v => hD3.set 0 v
        have hbS : ∀ v, Below D w (W3.setCell ⟨D, 0, none⟩ v) := fun v => (hb3.mono (Nat.le_of_lt hDl)).setCell (p := ⟨D, 0, none⟩) (Nat.le_refl _) v
        have HRS := Lib.hid hRS
        have HDS := Lib.hid hDS
        have HbS := Lib.hid hbS
        clear hRS hDS hbS hBut hszS hR3 hg3 hD3
        by_cases hnn : L1 = n
        · subst hnn
          have hO : Okc TX := by
            unfold Okc
            rw [Hf.out]
            exact ⟨by simp only; omega, rfl⟩
          have hdl : (dec TX).2 = TX.length := by rw [dec_ok hO, Hf.out, hTXl]
          have hV := value_any _ TX _ (HRS.out (.slice none 0 0)) hO hdl
          have heq : ((L1 : Int) == (L1 : Int)) = true := by simp
          have HO := Lib.hid hO
          have Hdl := Lib.hid hdl
          clear hO hdl
          refine hF.mono ?_
          rintro e w4 ⟨rfl, rfl⟩
          go_wp2_with fail
          refine hV.mono ?_
          rintro e w5 ⟨rfl, rfl⟩
          go_wp2_with fail
          go_ret2
          refine ⟨_, _, rfl, HDS.out _, ?_, HbS.out _⟩
          unfold takenOf
          rw [HL1.out, HTX.out]
          rw [if_pos rfl]
          exact .inl ⟨rfl, rfl⟩
        · have heq : ((L1 : Int) == (n : Int)) = false := by simp; omega
          refine hF.mono ?_
          rintro e w4 ⟨rfl, rfl⟩
          go_wp2_with fail
          go_ret2
          refine ⟨_, _, rfl, HDS.out _, ?_, HbS.out _⟩
          unfold takenOf
          rw [HL1.out, HTX.out]
          rw [if_neg hnn]
          exact HRS.out _
end Go.Proofs.YtjmejlncomaclaaDoor.Lx
