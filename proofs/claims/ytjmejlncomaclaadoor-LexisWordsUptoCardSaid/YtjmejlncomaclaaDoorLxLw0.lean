/- What LexisWords calls: gimletref10.Words of any bytes; alike, that only draws; errors.Is of a fault and its reason, or ErrQuery. -/
import Derived.Test.YtjmejlncomaclaaDoorLxD17
import Derived.Test.YtjmejlncomaclaaDoorLxPr6
import Derived.Test.YtjmejlncomaclaaDoorLxAs
namespace Go.Proofs.YtjmejlncomaclaaDoor.Lx
open Go.RowKit Go.Extern.Stop Go.Stop Go.Extern

/-- gimletref10.Words. -/
theorem refwords_any (v : Value) (q : List UInt8) (w : World) (h : RB w v q) (hn : q.length ≤ 1000000000) :
    Calls Tryd.prog 11 #[v] w (RefWordsAns q w) := by
  rcases h with ⟨rfl, rfl⟩ | ⟨b, off, cap, rfl, h2, h3, h4⟩
  · exact refwords_nil w
  · exact refwords_some b off cap q w h2 h3 h4 hn

theorem eqE3 (w : World) : (binOp .eql 27 (.iface 31 (.int .i64 103)) (.iface 31 (.int .i64 103))).run Tryd.prog w = .ok (.bool true) w := by kernel_rfl
theorem eqE30 (w : World) : (binOp .eql 27 (.iface 31 (.int .i64 103)) (.iface 31 (.int .i64 100))).run Tryd.prog w = .ok (.bool false) w := by kernel_rfl
theorem eqE40 (w : World) : (binOp .eql 27 (.iface 31 (.int .i64 104)) (.iface 31 (.int .i64 100))).run Tryd.prog w = .ok (.bool false) w := by kernel_rfl
set_option maxRecDepth 100000 in
set_option maxHeartbeats 2000000 in
theorem is_same3 (k : Nat) (w : World) (h : w.cell? ⟨k, 4, none⟩ = some (.int .i64 103)) :
    Calls Tryd.prog 8 #[.iface 44 (.pointer (some ⟨k, 0, none⟩)), .iface 31 (.int .i64 103)] w fun e w' => e = .returned (.bool true) ∧ w' = w := by
  have h8 := @run_callFunc_extern Tryd.prog 21 _ Extern.ReflectliteType.typeOf Tryd.func21 (by kernel_rfl) (by kernel_rfl) (by kernel_rfl) (by kernel_rfl)
  have h32 := @run_callFunc_extern Tryd.prog 124 _ cmpFn Tryd.func124 (by kernel_rfl) (by kernel_rfl) (by kernel_rfl) (by kernel_rfl)
  have tT := isTypeOf
  have cT := isComparable
  have mR := isMethodComparable
  have nF := noIsF
  have uF := hasUnwrapF
  have mU := methodUnwrap
  have eS := eqE3
  have hty := run_eql_iface_types (P := Tryd.prog) 44 31 (.pointer (some ⟨k, 0, none⟩)) (.int .i64 103) Tryd.underlying27 (by decide) w
  go_enter Tryd.func8, Tryd.ntmps8
  go_wp2
  refine wp_loop_rounds 2 ?_
  rw [rounds_succ]
  go_wp2
  rw [rounds_succ]
  go_wp2
  go_ret
  exact ⟨rfl, rfl⟩
set_option maxRecDepth 100000 in
set_option maxHeartbeats 2000000 in
theorem is_query3 (k : Nat) (w : World) (h : w.cell? ⟨k, 4, none⟩ = some (.int .i64 103)) :
    Calls Tryd.prog 8 #[.iface 44 (.pointer (some ⟨k, 0, none⟩)), .iface 31 (.int .i64 100)] w fun e w' => e = .returned (.bool true) ∧ w' = w := by
  have h8 := @run_callFunc_extern Tryd.prog 21 _ Extern.ReflectliteType.typeOf Tryd.func21 (by kernel_rfl) (by kernel_rfl) (by kernel_rfl) (by kernel_rfl)
  have h32 := @run_callFunc_extern Tryd.prog 124 _ cmpFn Tryd.func124 (by kernel_rfl) (by kernel_rfl) (by kernel_rfl) (by kernel_rfl)
  have tT := isTypeOf
  have cT := isComparable
  have mR := isMethodComparable
  have nF := noIsF
  have uF := hasUnwrapF
  have mU := methodUnwrap
  have iE := hasIsE
  have mI := methodIs
  have eS := eqE30
  have tE := toErrno
  have hty := run_eql_iface_types (P := Tryd.prog) 44 31 (.pointer (some ⟨k, 0, none⟩)) (.int .i64 100) Tryd.underlying27 (by decide) w
  go_enter Tryd.func8, Tryd.ntmps8
  go_wp2
  refine wp_loop_rounds 2 ?_
  rw [rounds_succ]
  go_wp2
  rw [rounds_succ]
  go_wp2
  go_ret
  exact ⟨rfl, rfl⟩
set_option maxRecDepth 100000 in
set_option maxHeartbeats 2000000 in
theorem is_query4 (k : Nat) (w : World) (h : w.cell? ⟨k, 4, none⟩ = some (.int .i64 104)) :
    Calls Tryd.prog 8 #[.iface 44 (.pointer (some ⟨k, 0, none⟩)), .iface 31 (.int .i64 100)] w fun e w' => e = .returned (.bool true) ∧ w' = w := by
  have h8 := @run_callFunc_extern Tryd.prog 21 _ Extern.ReflectliteType.typeOf Tryd.func21 (by kernel_rfl) (by kernel_rfl) (by kernel_rfl) (by kernel_rfl)
  have h32 := @run_callFunc_extern Tryd.prog 124 _ cmpFn Tryd.func124 (by kernel_rfl) (by kernel_rfl) (by kernel_rfl) (by kernel_rfl)
  have tT := isTypeOf
  have cT := isComparable
  have mR := isMethodComparable
  have nF := noIsF
  have uF := hasUnwrapF
  have mU := methodUnwrap
  have iE := hasIsE
  have mI := methodIs
  have eS := eqE40
  have tE := toErrno
  have hty := run_eql_iface_types (P := Tryd.prog) 44 31 (.pointer (some ⟨k, 0, none⟩)) (.int .i64 100) Tryd.underlying27 (by decide) w
  go_enter Tryd.func8, Tryd.ntmps8
  go_wp2
  refine wp_loop_rounds 2 ?_
  rw [rounds_succ]
  go_wp2
  rw [rounds_succ]
  go_wp2
  go_ret
  exact ⟨rfl, rfl⟩
set_option maxRecDepth 100000 in
set_option maxHeartbeats 4000000 in
/-- alike, of lists that agree: it only draws. -/
theorem alike_same (va vb : Value) (la lb : List AW) (pl : Bool) (w : World) (ha : RW w va la) (hb : RW w vb lb) (hl : lb.length = la.length) (hn : la.length ≤ 1099511627776)
    (hs : ∀ (i : Nat) a b, la[i]? = some a → lb[i]? = some b → Same pl a b) :
    Calls Tryd.prog 12 #[va, vb, .bool pl] w fun e w' => e = .returned (.bool true) ∧ ∃ m, w' = w.drewN m := by
  obtain ⟨o1, c1, rfl, hc1, hs1⟩ := ha.shape
  obtain ⟨o2, c2, rfl, hc2, hs2⟩ := hb.shape
  rw [hl] at hs2 hc2 ⊢
  have Hs1 := Lib.hid hs1
  have Hs2 := Lib.hid hs2
  have Hs := Lib.hid hs
  have Hl := Lib.hid hl
  have EP := eq_place 9998
  clear hs1 hs2 hs ha hb hl
  go_enter Tryd.func12, Tryd.ntmps12
  go_wp2_with fail
  go_loopw [7] (fun i wr => ∃ j : Nat, j ≤ la.length ∧ i = .int .i64 j ∧ ∃ m, wr = w.drewN m) (fun i _ => la.length - (intOf i).toNat)
  case atStart => exact ⟨0, Nat.zero_le _, rfl, 0, rfl⟩
  case round =>
    obtain ⟨j, hj, rfl, m, hm⟩ := hrel
    have hbr : Below w.heap.size w wr := by rw [hm]; exact below_drewN (Below.refl _ _) m
    have Hm := Lib.hid hm
    clear hm
    by_cases hlt : j < la.length
    · obtain ⟨k1, off1, rfl, hk1, hcl1⟩ := Hs1.out (by omega)
      obtain ⟨k2, off2, rfl, hk2, hcl2⟩ := Hs2.out (by omega)
      obtain ⟨a, hA⟩ : ∃ a, la[j]? = some a := ⟨_, List.getElem?_eq_getElem hlt⟩
      obtain ⟨b, hB⟩ : ∃ b, lb[j]? = some b := ⟨_, List.getElem?_eq_getElem (by rw [Hl.out]; exact hlt)⟩
      have hsame := Hs.out j a b hA hB
      have f1 := fun f u hu => cell_kept hbr (hcl1 j a hA f u hu)
      have f2 := fun f u hu => cell_kept hbr (hcl2 j b hB f u hu)
      obtain ⟨e1, e2, e3, e4⟩ := hsame
      unfold awCells at f1 f2
      rw [e1, e2, e3] at f2
      have a0 : wr.cell? ⟨k1, off1 + j * 7, none⟩ = some (.int .i64 a.kind) := f1 0 _ rfl
      have a1 := f1 1 _ rfl
      have a2 := f1 2 _ rfl
      have b0 : wr.cell? ⟨k2, off2 + j * 7, none⟩ = some (.int .i64 a.kind) := f2 0 _ rfl
      have b1 := f2 1 _ rfl
      have b2 := f2 2 _ rfl
      cases pl with
      | false =>
        clear f1 f2 e1 e2 e3 e4 hA hB hcl1 hcl2
        go_wp2_with fail
        go_quiet (fail)
        go_wp2_with fail
        go_round
        case rel => exact ⟨j + 1, by omega, by go_num, m + nq, by rw [Hm.out, World.drewN_drewN]⟩
        case measure => simp [intOf]; omega
      | true =>
        obtain ⟨g1, g2, g3, g4⟩ := e4 rfl
        rw [g1, g2, g3, g4] at f2
        have a3 := f1 3 _ rfl
        have a4 := f1 4 _ rfl
        have a5 := f1 5 _ rfl
        have a6 := f1 6 _ rfl
        have b3 := f2 3 _ rfl
        have b4 := f2 4 _ rfl
        have b5 := f2 5 _ rfl
        have b6 := f2 6 _ rfl
        clear f1 f2 e1 e2 e3 e4 g1 g2 g3 g4 hA hB hcl1 hcl2
        go_wp2_with fail
        go_quiet (fail)
        go_wp2_with fail
        go_round
        case rel => exact ⟨j + 1, by omega, by go_num, m + nq, by rw [Hm.out, World.drewN_drewN]⟩
        case measure => simp [intOf]; omega
    · obtain rfl : j = la.length := by omega
      go_wp2_with fail
      go_ret
      exact ⟨rfl, m, Hm.out⟩

theorem is_why (x : Int) (hx : x = 103 ∨ x = 104) (k : Nat) (w : World) (h : w.cell? ⟨k, 4, none⟩ = some (.int .i64 x)) :
    Calls Tryd.prog 8 #[.iface 44 (.pointer (some ⟨k, 0, none⟩)), .iface 31 (.int .i64 x)] w fun e w' => e = .returned (.bool true) ∧ w' = w := by
  rcases hx with rfl | rfl
  · exact is_same3 k w h
  · exact is_word k w h
theorem is_query (x : Int) (hx : x = 103 ∨ x = 104) (k : Nat) (w : World) (h : w.cell? ⟨k, 4, none⟩ = some (.int .i64 x)) :
    Calls Tryd.prog 8 #[.iface 44 (.pointer (some ⟨k, 0, none⟩)), .iface 31 (.int .i64 100)] w fun e w' => e = .returned (.bool true) ∧ w' = w := by
  rcases hx with rfl | rfl
  · exact is_query3 k w h
  · exact is_query4 k w h
end Go.Proofs.YtjmejlncomaclaaDoor.Lx
