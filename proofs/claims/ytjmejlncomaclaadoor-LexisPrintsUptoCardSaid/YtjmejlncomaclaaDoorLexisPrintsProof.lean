/- gimletlaw10.LexisPrints is true and the words and the text read as they did, for every input of bulk at most 1048576; the row's listed variables hold what their initialisers lay (tied by the card). -/
import Derived.Test.YtjmejlncomaclaaDoorCards
import Derived.Test.YtjmejlncomaclaaDoorTie
import Derived.Test.YtjmejlncomaclaaDoorLxPr7
import Derived.Test.YtjmejlncomaclaaDoorLxRead
import Derived.Test.YtjmejlncomaclaaDoorLxArg
import Derived.Deep.DeepWitnessRowRef
import Derived.Lay
namespace Go.Proofs.YtjmejlncomaclaaDoor.lexisPrints
open Go.ChangeShapes Go.WideShapes Go.ChangeAt Go.RowKit Go.Lib

theorem own : ownKnob Tryd.prog.godebug = none := by kernel_rfl

theorem upto_one {H : Type} (d : DataW H) : 1 ≤ Rows.uptoBulk d := by
  cases d with
  | lit l => cases l <;> simp [Rows.uptoBulk]
  | _ => simp [Rows.uptoBulk]
theorem upto_len {H : Type} (l : List (DataW H)) : l.length ≤ Rows.uptoBulkAll l := by
  induction l with
  | nil => simp [Rows.uptoBulkAll]
  | cons x r ih =>
    have := upto_one x
    simp only [Rows.uptoBulkAll, List.length_cons]
    omega

/-- WHAT THE ROW's LIST GIVES. -/
theorem vars {W : World} (h : laidMetH Tryd.prog Rows.lexisPrintsUptoRow.laid W) : Lx.Vars W ∧ Lx.Pow10 W := by
  have h' : laidMet Tryd.prog Rows.lexisPrintsUptoRow.laid W := h
  refine ⟨Lx.vars_of_reads ?_ ?_ ?_ ?_, Lx.pow10_of_reads ?_⟩
  · have e : (Rows.laid_unicode_utf8_first) = firstData := by kernel_rfl
    rw [← e]
    exact laidMet.reads h' (.tail _ (.tail _ (.tail _ (.tail _ (.tail _ (.tail _ (.tail _ (.head _))))))))
  · have e : (Rows.laid_unicode_utf8_acceptRanges : DataW Unit) = acceptData := by kernel_rfl
    rw [← e]
    exact laidMet.reads h' (.tail _ (.tail _ (.tail _ (.head _))))
  · have e : (Rows.laid_gimlet_chars_ranges : DataW Unit) = Lx.rangesData := by kernel_rfl
    rw [← e]
    exact laidMet.reads h' (.tail _ (.tail _ (.tail _ (.tail _ (.head _)))))
  · have e : (Rows.laid_strings_asciiSpace : DataW Unit) = tabData .u8 asciiSpaceTab := by kernel_rfl
    rw [← e]
    exact laidMet.reads h' (.tail _ (.tail _ (.tail _ (.tail _ (.tail _ (.tail _ (.head _)))))))
  · have e : (Rows.laid_internal_strconv_uint64pow10 : DataW Unit) = tabData .u64 pow10Tab := by kernel_rfl
    rw [← e]
    exact laidMet.reads h' (.tail _ (.tail _ (.head _)))
theorem bulk_es {H : Type} : ∀ (l : List Lx.AW) (es : List (DataW H)), es.length = l.length → (∀ (i : Nat) a e, l[i]? = some a → es[i]? = some e → ∃ d0 d2 d3, e = .agg [d0, .lit (.string a.text.data.toList), d2, d3]) → Lx.bulkW l ≤ 22 * Rows.uptoBulkAll es
  | [], _, _, _ => by simp [Lx.bulkW]
  | a :: t, [], h, _ => by simp at h
  | a :: t, e :: r, h, hh => by
    obtain ⟨d0, d2, d3, he⟩ := hh 0 a e rfl rfl
    have ih := bulk_es t r (by simpa using h) fun i a' e' h1 h2 => hh (i + 1) a' e' (by simpa using h1) (by simpa using h2)
    have hs := Lib.size_eq a.text
    subst he
    simp only [Lx.bulkW, List.map_cons, List.sum_cons, Rows.uptoBulkAll, Rows.uptoBulk] at ih ⊢
    omega

set_option maxRecDepth 100000 in
/-- WHAT THE WALK GIVES, FOR EVERY ARGUMENT WITHIN THE BOUND. -/
theorem contract (H : Type) (enc : TypeId × Value → H) (W : World) (base : Nat) (args : Array Value) (ds gs : List (DataW H)) (before : List MemPlace)
    (hval : ∀ (j : Nat) t v, Tryd.f5.params[j]? = some t → args[j]? = some v → Value.okWide Tryd.prog W .any base t v)
    (hW : DataW.Whole enc Tryd.prog Tryd.f5.params.toList Rows.lexisPrintsSpec.vars false W args.toList ds gs before) (hk : Rows.uptoSmall H (ds ++ gs) = true) (hL : laidMetH Tryd.prog Rows.lexisPrintsUptoRow.laid W) :
    Calls Tryd.prog 5 args W fun e W' => ∃ v, e = .returned v ∧ Rows.lexisPrintsSpec.post enc Tryd.prog Tryd.f5 false true false false W args v W' := by
  have hW' := hW
  obtain ⟨p, q, hA0, hV, rfl, hfz, hnd⟩ := hW
  have hA : DataW.TrodAll enc Tryd.prog W 0 (fun _ => true) true Tryd.f5.params.toList args.toList ds p := hA0
  rw [Tryd.params5] at hA hval
  obtain ⟨v0, v1, d0, d1, p0, p1, rfl, rfl, rfl, h0, h1⟩ := trodAll_two hA
  obtain ⟨rfl, rfl⟩ := trodVars_none hV
  clear hA0
  simp only [List.append_nil] at hW'
  have hlt0 : ∀ x ∈ p0, x.block < W.heap.size := fun x hx => by simpa using hW'.lt x (by simp [hx])
  have hlt1 : ∀ x ∈ p1, x.block < W.heap.size := fun x hx => by simpa using hW'.lt x (by simp [hx])
  obtain ⟨l, hL0, hnum, hdl⟩ := Lx.open_words (hval 0 25 v0 rfl rfl) h0
  obtain ⟨q, hQ, hdq⟩ := Lx.open_bytes (hval 1 22 v1 rfl rfl) h1
  have hb : Rows.uptoBulkAll ([d0, d1] ++ []) ≤ 1048576 := of_decide_eq_true hk
  simp only [List.append_nil, Rows.uptoBulkAll] at hb
  have hnl : Lx.bulkW l ≤ 1000000000 := by
    rcases hdl with ⟨rfl, _⟩ | ⟨es, sp, rfl, he, hes⟩
    · exact Nat.zero_le _
    · simp only [Rows.uptoBulk] at hb
      have := bulk_es l es he hes
      omega
  have hnq : q.length ≤ 10000000 := by
    rcases hdq with ⟨rfl, _⟩ | ⟨es, sp, rfl, he⟩
    · exact Nat.zero_le _
    · simp only [Rows.uptoBulk] at hb
      have := upto_len es
      omega
  refine (Lx.prints_any v0 v1 l q W (vars hL).1 (vars hL).2 hL0 hnum hnl hQ hnq).mono fun e W' ⟨he, hb⟩ => ?_
  subst he
  refine ⟨_, rfl, _, _, _, [], _, [], hW', ?_, trodAll_mk2 (Below.trod Lx.laidOut (by kernel_rfl) (of_decide_eq_true (by kernel_rfl)) h0 hb hlt0) (Below.trod Lx.laidOut (by kernel_rfl) (of_decide_eq_true (by kernel_rfl)) h1 hb hlt1), rfl, hb.frame _, fun h => by cases h⟩
  exact trodAll_mk1 (shut_bool Tryd.underlying4 _)

/-- A WORLD FOR THE WITNESS. -/
noncomputable def laidWorld (os : Os) : World := World.laidAll Tryd.prog os Rows.lexisPrintsUptoRow.laid
theorem laid_met (os : Os) : laidMet Tryd.prog Rows.lexisPrintsUptoRow.laid ((laidWorld os).forCall (fun _ _ => 0) ⟨#[], #[.slice none 0 0, .slice none 0 0], []⟩).memory :=
  laidMet_laidAll _ (by kernel_rfl) (by kernel_rfl)
theorem reads (os : Os) {H : Type} (enc : TypeId × Value → H) : ∃ places, DataW.whole enc Tryd.prog ((laidWorld os).forCall (fun _ _ => 0) ⟨#[], #[.slice none 0 0, .slice none 0 0], []⟩).memory Tryd.f5.params.toList Rows.lexisPrintsSpec.vars false #[Value.slice none 0 0, Value.slice none 0 0].toList 8 = some ([.nil, .nil], [], places) :=
  ⟨[], by kernel_rfl⟩

set_option maxRecDepth 100000 in
theorem liftedUpto (os : Os) (started : os.Started) (H : Type) (enc : TypeId × Value → H) (F : Stop.Interp) :
    ReturnsInHanded {} Tryd.checked os 5 .any ((Rows.OpenSpec.upto Rows.lexisPrintsSpec).preRow enc Tryd.prog Tryd.f5 Rows.lexisPrintsUptoRow.domain false Rows.lexisPrintsUptoRow.laid) (((Rows.OpenSpec.upto Rows.lexisPrintsSpec).at F).post enc Tryd.prog Tryd.f5 false true false false) := by
  obtain ⟨places, hx⟩ := reads os enc
  refine returnsInHanded_of_row (C := Tryd.checked) (s := Rows.OpenSpec.upto Rows.lexisPrintsSpec) own started (by kernel_rfl) Tryd.func5
    (witness_row_atRef (enc := enc) (C := Tryd.checked) false (laidWorld os) #[.slice none 0 0, .slice none 0 0] (World.laidAll_os _ _ _) (by kernel_rfl) (by kernel_rfl) (by kernel_rfl)
      (OpenSpec.preRow_of_cond 8 hx (by kernel_rfl) (fun k hk => by cases hk; kernel_rfl) (by kernel_rfl) (laid_met os))) ?_
  intro W base args ds gs before hval hW _ hcond _ hL _ _
  exact contract H enc W base args ds gs before hval hW (hcond _ rfl) hL

theorem saidUpto : Rows.LexisPrintsUptoSaid :=
  OpenClaim.holds_of_cond 5 Tryd.f5 rfl rfl rfl rfl rfl rfl rfl ⟨rfl, rfl, rfl, rfl, rfl⟩ rfl rfl rfl rfl rfl (by kernel_rfl) Tryd.func5 (by kernel_rfl)
    (of_decide_eq_true (by kernel_rfl)) (by unfold Func.isWrapper; first | (rw [if_pos (by decide +kernel)]; kernel_rfl) | (rw [if_neg (by decide +kernel)]; exact ⟨rfl, rfl⟩))
    (fun os started H enc _ F => by rw [OpenClaim.pre_eq_preRow]; exact liftedUpto os started H enc F)

/-- No parameter wants a stand-in; the program's own looks are off. -/
theorem plain (f : FuncId) (fn : Func) (hf : Tryd.pinned.checked.prog.funcNamed "gimlet/gimletlaw10.LexisPrints" = some f) (hfn : Tryd.pinned.checked.prog.funcs[f]? = some fn) :
    true = Tryd.pinned.checked.prog.looks [] ∧ ∀ (j : Nat) t, fn.params[j]? = some t → Tryd.pinned.checked.prog.wantsStandIn t = false := by
  obtain rfl : f = 5 := Option.some.inj ((show Tryd.prog.funcNamed "gimlet/gimletlaw10.LexisPrints" = some 5 by kernel_rfl).symm.trans hf) |>.symm
  obtain rfl : fn = Tryd.f5 := (Option.some.inj (Tryd.func5.symm.trans hfn)).symm
  refine ⟨by kernel_rfl, fun j t ht => ?_⟩
  rw [Tryd.params5] at ht
  have h : t = 25 ∨ t = 22 := by simpa using Array.mem_of_getElem? ht
  rcases h with rfl | rfl
  · exact (show Tryd.prog.wantsStandIn 25 = false by kernel_rfl)
  · exact (show Tryd.prog.wantsStandIn 22 = false by kernel_rfl)

/-- ████ THE CARD ████ -/
theorem cardUpto : Rows.LexisPrintsUptoCardSaid :=
  Claim7.holds_tied_plain_at .later [] _ _ _ _ saidUpto (fun _ h => by cases h) (by kernel_rfl) (fun _ h => by cases h) lexisPrintsUpto_row_tie rfl ⟨rfl, rfl⟩ (by kernel_rfl) rfl plain (by kernel_rfl)
#print axioms cardUpto
end Go.Proofs.YtjmejlncomaclaaDoor.lexisPrints
