/- errors.Is of a fault of lexis and the error of a word: true where the fault's reason is that one. Condition: the fault lies where the pointer points. -/
import Derived.Test.YtjmejlncomaclaaDoorLxW8
import Derived.LaidEql
import Derived.Stop.Asserts
import Derived.RowKitTokens
namespace Go.Proofs.YtjmejlncomaclaaDoor.Lx
open Go.RowKit Go.Extern.Stop Go.Stop Go.Extern

theorem isTypeOf (v : Value) (w : World) : (Extern.ReflectliteType.typeOf #[.iface 31 v]).run Tryd.prog w = .ok (.iface 99 (.agg #[.pointer (some ⟨11, 31, none⟩)])) w := by kernel_rfl
noncomputable def cmpFn : Array Value → Sem Value := Extern.ReflectliteType.method fun t => do Extern.Rtype.noPackHeld "Comparable" t; pure (.bool (← typeInfo t).comparable)
theorem isComparable (w : World) : (cmpFn #[.agg #[.pointer (some ⟨11, 31, none⟩)]]).run Tryd.prog w = .ok (.bool true) w := by kernel_rfl
theorem isMethodComparable (n : Nat) (v : Value) (w : World) : (Go.method (n + 1) 99 v "Comparable").run Tryd.prog w = .ok (124, v) w := by kernel_rfl
theorem noIsF (v : Value) (xT : TypeId) (w : World) : (Instr.typeAssert (.iface 44 v) xT 101 true).run Tryd.prog w = .ok (.tuple #[.nilIface, .bool false]) w := run_typeAssert_lacksB Tryd.underlying101 (by kernel_rfl) (by kernel_rfl) v xT w
theorem hasUnwrapF (v : Value) (xT : TypeId) (w : World) : (Instr.typeAssert (.iface 44 v) xT 104 true).run Tryd.prog w = .ok (.tuple #[.iface 44 v, .bool true]) w := run_typeAssert_hasB Tryd.underlying104 (by kernel_rfl) v xT w
theorem hasIsE (v : Value) (xT : TypeId) (w : World) : (Instr.typeAssert (.iface 31 v) xT 101 true).run Tryd.prog w = .ok (.tuple #[.iface 31 v, .bool true]) w := run_typeAssert_hasB Tryd.underlying101 (by kernel_rfl) v xT w
theorem noUnwrapE (v : Value) (xT : TypeId) (w : World) : (Instr.typeAssert (.iface 31 v) xT 104 true).run Tryd.prog w = .ok (.tuple #[.nilIface, .bool false]) w := run_typeAssert_lacksB Tryd.underlying104 (by kernel_rfl) (by kernel_rfl) v xT w
theorem noUnwrapsE (v : Value) (xT : TypeId) (w : World) : (Instr.typeAssert (.iface 31 v) xT 106 true).run Tryd.prog w = .ok (.tuple #[.nilIface, .bool false]) w := run_typeAssert_lacksB Tryd.underlying106 (by kernel_rfl) (by kernel_rfl) v xT w
theorem toErrno (n : Int) (w : World) : (Instr.typeAssert (.iface 31 (.int .i64 n)) 27 31 true).run Tryd.prog w = .ok (.tuple #[.int .i64 n, .bool true]) w := by kernel_rfl
theorem methodUnwrap (n : Nat) (v : Value) (w : World) : (Go.method (n + 1) 44 v "Unwrap").run Tryd.prog w = .ok (118, v) w := by kernel_rfl
theorem methodIs (n : Nat) (v : Value) (w : World) : (Go.method (n + 1) 31 v "Is").run Tryd.prog w = .ok (116, v) w := by kernel_rfl
theorem eqE_same (w : World) : (binOp .eql 27 (.iface 31 (.int .i64 104)) (.iface 31 (.int .i64 104))).run Tryd.prog w = .ok (.bool true) w := by kernel_rfl
theorem eqE_other (w : World) : (binOp .eql 27 (.iface 31 (.int .i64 103)) (.iface 31 (.int .i64 104))).run Tryd.prog w = .ok (.bool false) w := by kernel_rfl

set_option maxRecDepth 100000 in
set_option maxHeartbeats 2000000 in
theorem is_word (k : Nat) (w : World) (h : w.cell? ⟨k, 4, none⟩ = some (.int .i64 104)) :
    Calls Tryd.prog 8 #[.iface 44 (.pointer (some ⟨k, 0, none⟩)), .iface 31 (.int .i64 104)] w fun e w' => e = .returned (.bool true) ∧ w' = w := by
  have h8 := @run_callFunc_extern Tryd.prog 21 _ Extern.ReflectliteType.typeOf Tryd.func21 (by kernel_rfl) (by kernel_rfl) (by kernel_rfl) (by kernel_rfl)
  have h32 := @run_callFunc_extern Tryd.prog 124 _ cmpFn Tryd.func124 (by kernel_rfl) (by kernel_rfl) (by kernel_rfl) (by kernel_rfl)
  have tT := isTypeOf
  have cT := isComparable
  have mR := isMethodComparable
  have nF := noIsF
  have uF := hasUnwrapF
  have mU := methodUnwrap
  have eS := eqE_same
  have hty := run_eql_iface_types (P := Tryd.prog) 44 31 (.pointer (some ⟨k, 0, none⟩)) (.int .i64 104) Tryd.underlying27 (by decide) w
  go_enter Tryd.func8, Tryd.ntmps8
  go_wp2
  refine wp_loop_rounds 2 ?_
  rw [rounds_succ]
  go_wp2
  rw [rounds_succ]
  go_wp2
  go_ret
  exact ⟨rfl, rfl⟩

set_option maxRecDepth 100000 in
set_option maxHeartbeats 2000000 in
theorem is_word_not (k : Nat) (w : World) (h : w.cell? ⟨k, 4, none⟩ = some (.int .i64 103)) :
    Calls Tryd.prog 8 #[.iface 44 (.pointer (some ⟨k, 0, none⟩)), .iface 31 (.int .i64 104)] w fun e w' => e = .returned (.bool false) ∧ w' = w := by
  have h8 := @run_callFunc_extern Tryd.prog 21 _ Extern.ReflectliteType.typeOf Tryd.func21 (by kernel_rfl) (by kernel_rfl) (by kernel_rfl) (by kernel_rfl)
  have h32 := @run_callFunc_extern Tryd.prog 124 _ cmpFn Tryd.func124 (by kernel_rfl) (by kernel_rfl) (by kernel_rfl) (by kernel_rfl)
  have tT := isTypeOf
  have cT := isComparable
  have mR := isMethodComparable
  have nF := noIsF
  have uF := hasUnwrapF
  have mU := methodUnwrap
  have iE := hasIsE
  have mI := methodIs
  have nU := noUnwrapE
  have nUs := noUnwrapsE
  have eS := eqE_other
  have tE := toErrno
  have hty := run_eql_iface_types (P := Tryd.prog) 44 31 (.pointer (some ⟨k, 0, none⟩)) (.int .i64 104) Tryd.underlying27 (by decide) w
  go_enter Tryd.func8, Tryd.ntmps8
  go_wp2
  refine wp_loop_rounds 2 ?_
  rw [rounds_succ]
  go_wp2
  rw [rounds_succ]
  go_wp2
  go_ret
  exact ⟨rfl, rfl⟩

set_option maxRecDepth 100000 in
/-- string(b), b a slice of bytes. -/
theorem str_of_RB {w : World} {v : Value} {l : List UInt8} (h : RB w v l) : (convert 22 9 v).run Tryd.prog w = .ok (.string ⟨l.toArray⟩) w := by
  rcases h with ⟨rfl, rfl⟩ | ⟨b, off, cap, rfl, h2, h3, h4⟩
  · exact run_convert_bytes_string w 22 9 5 none 0 0 Tryd.underlying22 Tryd.underlying5 Tryd.underlying9
  · have := run_convert_bytes_arg (P := Tryd.prog) w 22 5 Tryd.underlying22 Tryd.underlying5 b off l.length cap (l.map fun b => (b.toNat : Int)) (by simp)
      (fun i hi => by rw [h4 i hi]; simp [List.getD_eq_getElem?_getD, List.getElem?_eq_getElem hi]) 9 Tryd.underlying9
    have e0 : strOfNums (l.map fun b => (b.toNat : Int)) = ⟨l.toArray⟩ := by have := strOfNums_take l l.length; rwa [List.take_length] at this
    rwa [e0] at this

/-- Does a quote stand in it? -/
def hasQ : List UInt8 → Bool
  | [] => false
  | b :: t => if b.toNat = 34 ∨ b.toNat = 39 then true else hasQ t
theorem hasQ_false (p : List UInt8) (h : hasQ p = false) : ∀ b ∈ p, b.toNat ≠ 34 ∧ b.toNat ≠ 39 := by
  induction p with
  | nil => intro b hb; cases hb
  | cons a t ih =>
    unfold hasQ at h
    split at h
    · cases h
    · rename_i hn
      intro b hb
      rcases List.mem_cons.1 hb with rfl | hb
      · exact ⟨fun e => hn (.inl e), fun e => hn (.inr e)⟩
      · exact ih h b hb
theorem hasQ_drop (p : List UInt8) (j : Nat) (hj : j < p.length) : hasQ (p.drop j) = if (p.getD j 0).toNat = 34 ∨ (p.getD j 0).toNat = 39 then true else hasQ (p.drop (j + 1)) := by
  rw [List.drop_eq_getElem_cons hj]
  simp [hasQ, List.getD_eq_getElem?_getD, List.getElem?_eq_getElem hj]

set_option maxRecDepth 100000 in
set_option maxHeartbeats 2000000 in
theorem open_some (b off cap : Nat) (q : List UInt8) (w : World) (h4 : Cells w b off q) (hn : q.length ≤ 1000000000) :
    Calls Tryd.prog 9 #[.slice (some ⟨b, off, none⟩) q.length cap] w fun e w' => e = .returned (.bool (hasQ q)) ∧ w' = w := by
  have H4 := Lib.hid h4
  obtain ⟨R, hR⟩ : ∃ R, hasQ q = R := ⟨_, rfl⟩
  rw [hR]
  have HR := Lib.hid hR
  clear h4 hR
  go_enter Tryd.func9, Tryd.ntmps9
  go_wp2_with fail
  go_loop [3] (fun a => ∃ j : Nat, j ≤ q.length ∧ a = .int .i64 j ∧ Hid (hasQ (q.drop j) = R)) (fun a => q.length - (intOf a).toNat)
  case atStart => exact ⟨0, Nat.zero_le _, rfl, HR.out⟩
  case round =>
    obtain ⟨j, hj, rfl, he⟩ := hrel
    by_cases hlt : j < q.length
    · have hs := hasQ_drop q j hlt
      have hc := H4.out j hlt
      generalize (q.getD j 0).toNat = B at hs hc
      rw [he.out] at hs
      by_cases hq1 : B = 34
      · subst hq1
        obtain rfl : R = true := by simpa using hs
        have hc' : w.cell? ⟨b, off + j, none⟩ = some (.int .u8 34) := hc
        clear hc hs he HR
        go_wp2
        go_ret
        exact ⟨rfl, rfl⟩
      · have t1 : (((B : Int)) == 34) = false := by simp; omega
        by_cases hq2 : B = 39
        · subst hq2
          obtain rfl : R = true := by simpa using hs
          have hc' : w.cell? ⟨b, off + j, none⟩ = some (.int .u8 39) := hc
          clear hc hs he HR t1
          go_wp2
          go_ret
          exact ⟨rfl, rfl⟩
        · have t2 : (((B : Int)) == 39) = false := by simp; omega
          rw [if_neg (by omega)] at hs
          have Hs := Lib.hid hs
          clear hs he HR
          go_wp2
          go_round
          case rel => exact ⟨j + 1, by omega, by go_num, Hs.out.symm⟩
          case measure => simp [intOf]; omega
    · obtain rfl : j = q.length := by omega
      have h0 := he.out
      rw [List.drop_length] at h0
      obtain rfl : R = false := h0.symm
      clear he HR h0
      go_wp2
      go_ret
      exact ⟨rfl, rfl⟩
set_option maxRecDepth 100000 in
theorem open_none (w : World) : Calls Tryd.prog 9 #[.slice none 0 0] w fun e w' => e = .returned (.bool (hasQ [])) ∧ w' = w := by
  go_enter Tryd.func9, Tryd.ntmps9
  go_wp2_with fail
  refine wp_loop_rounds 1 ?_
  rw [rounds_succ]
  go_wp2
  go_ret
  exact ⟨rfl, rfl⟩
theorem open_any (v : Value) (q : List UInt8) (w : World) (h : RB w v q) (hn : q.length ≤ 1000000000) :
    Calls Tryd.prog 9 #[v] w fun e w' => e = .returned (.bool (hasQ q)) ∧ w' = w := by
  rcases h with ⟨rfl, rfl⟩ | ⟨b, off, cap, rfl, h2, h3, h4⟩
  · exact open_none w
  · exact open_some b off cap q w h4 hn
end Go.Proofs.YtjmejlncomaclaaDoor.Lx
