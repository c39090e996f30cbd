/- []rune and back: the mended text. Condition: at most 1000000000 bytes. -/
import Derived.Laws.IdiomStrings
import Derived.Test.YtjmejlncomaclaaDoorLxIter2
namespace Go.Proofs.YtjmejlncomaclaaDoor.Lx
open Go.RowKit

theorem run_convert_runes_string {P : Program} (w : World) (src dst e : TypeId) (a : Option Addr) (l c : Nat)
    (hs : P.underlying src = some (.slice e)) (he : P.underlying e = some (.int .i32)) (hd : P.underlying dst = some .string) :
    (convert src dst (.slice a l c)).run P w = (Conv.runesToString (.slice a l c)).run P w := by
  simp [convert, run_underlying hs, run_underlying hd, run_underlying he]
theorem run_forIn_runes {P : Program} {w : World} (f : Value → ByteArray → Sem (ForInStep ByteArray))
    (hf : ∀ (n : Int) (r : ByteArray), (f (.int .i32 n) r).run P w = .ok (.yield (r ++ Utf8.encode n)) w) :
    ∀ (ns : List Int) (s : ByteArray), (forIn (ns.map (Value.int .i32)) s f).run P w = .ok (ns.foldl (fun r n => r ++ Utf8.encode n) s) w := by
  intro ns
  induction ns with
  | nil => intro s; simp [Sem.run_pure]
  | cons n ns ih =>
    intro s
    simp only [List.map_cons, List.forIn_cons, Sem.run_bind, hf, Result.andThen, List.foldl_cons]
    exact ih _
theorem run_runesToString {P : Program} (w : World) (a : Addr) (len cap : Nat) (ns : List Int)
    (h : (loadCells a len).run P w = .ok (ns.map (Value.int .i32)).toArray w) :
    (Conv.runesToString (.slice (some a) len cap)).run P w = .ok (.string (ns.foldl (fun r n => r ++ Utf8.encode n) ByteArray.empty)) w := by
  unfold Conv.runesToString
  simp only [Sem.run_bind, h, Result.andThen, List.forIn_toArray]
  rw [run_forIn_runes _ (by intro n r; simp [Sem.run_pure])]
  simp [Sem.run_pure]
theorem foldl_encode : ∀ (ns : List Int) (s : ByteArray), (ns.foldl (fun r n => r ++ Utf8.encode n) s).data.toList = s.data.toList ++ ns.flatMap fun n => (Utf8.encode n).data.toList
  | [], s => by simp
  | n :: ns, s => by
    rw [List.foldl_cons, foldl_encode ns, List.flatMap_cons]
    simp

theorem runesFrom_chars (s : ByteArray) : ∀ (k i : Nat) (acc : Array Value), s.size - i ≤ k → i ≤ s.size →
    Conv.runesFrom s k i acc = acc ++ ((charsAt i (s.data.toList.drop i)).map fun x => Value.int .i32 x.2).toArray := by
  intro k
  induction k with
  | zero =>
    intro i acc h hi
    have : s.data.toList.drop i = [] := List.drop_of_length_le (by rw [← Lib.size_eq]; omega)
    rw [this, charsAt_nil]
    simp [Conv.runesFrom]
  | succ k ih =>
    intro i acc h hi
    unfold Conv.runesFrom
    by_cases hp : i < s.size
    · rw [if_pos hp]
      have hne := drop_ne hp
      have hle := dec_le _ hne
      have h1 := dec_pos (s.data.toList.drop i)
      have hl : (s.data.toList.drop i).length = s.size - i := by rw [Lib.size_eq]; simp
      rw [hl] at hle
      simp only [decode_dec]
      rw [ih _ _ (by omega) (by omega), charsAt_cons i _ hne, List.drop_drop]
      simp
    · rw [if_neg hp]
      have : s.data.toList.drop i = [] := List.drop_of_length_le (by rw [← Lib.size_eq]; omega)
      rw [this, charsAt_nil]
      simp
theorem runesFrom_all (s : ByteArray) : Conv.runesFrom s s.size 0 #[] = ((chars s.data.toList).map fun x => Value.int .i32 x.2).toArray := by
  rw [runesFrom_chars s _ 0 _ (by omega) (Nat.zero_le _)]
  simp [chars_eq]

set_option maxRecDepth 100000 in
theorem mend_any (s : ByteArray) (w : World) (hs : s.size ≤ 1000000000) :
    Calls Tryd.prog 16 #[.string s] w fun e w' => e = .returned (.string ⟨(mend s.data.toList).toArray⟩) ∧ Below w.heap.size w w' := by
  have hr := runesFrom_all s
  obtain ⟨xs, hxs⟩ : ∃ xs : List Int, xs = (chars s.data.toList).map fun x => (x.2 : Int) := ⟨_, rfl⟩
  have hr2 : Conv.runesFrom s s.size 0 #[] = (xs.map (Value.int .i32)).toArray := by rw [hr, hxs]; simp
  have hlen : xs.length ≤ 1000000000 := by
    have := charsAt_length s.data.toList _ 0 (Nat.le_refl _)
    rw [hxs, List.length_map, chars_eq]
    rw [← Lib.size_eq] at this
    omega
  have hm : (mend s.data.toList) = xs.flatMap fun n => (Utf8.encode n).data.toList := by
    unfold mend; rw [hxs]; simp [List.flatMap_map]
  have h1 := run_runes_of_string (P := Tryd.prog) w 9 91 21 s Tryd.underlying9 Tryd.underlying91 Tryd.underlying21 (by rw [hr2]; simp; omega)
  rw [hr2] at h1
  simp only [List.size_toArray, List.length_map] at h1
  obtain ⟨C, hC⟩ : ∃ C, grownCap w xs.length 0 21 = C := ⟨_, rfl⟩
  rw [hC] at h1
  obtain ⟨ob, hob⟩ : ∃ ob, (.cells ((xs.map (Value.int .i32)).toArray ++ Array.replicate (C - xs.length) (.int .i32 0)) 21 : Obj) = ob := ⟨_, rfl⟩
  rw [hob] at h1
  have h2 : (convert 91 9 (.slice (some ⟨w.heap.size, 0, none⟩) xs.length C)).run Tryd.prog (w.drew.alloc ob) = .ok (.string ⟨(mend s.data.toList).toArray⟩) (w.drew.alloc ob) := by
    rw [run_convert_runes_string _ _ _ _ _ _ _ Tryd.underlying91 Tryd.underlying21 Tryd.underlying9]
    have hl : (loadCells ⟨w.heap.size, 0, none⟩ xs.length).run Tryd.prog (w.drew.alloc ob) = .ok (xs.map (Value.int .i32)).toArray (w.drew.alloc ob) := by
      have := run_loadCells_list (P := Tryd.prog) (w.drew.alloc ob) ⟨w.heap.size, 0, none⟩ (xs.map (Value.int .i32)) (fun j v hj => by
        have hplain : (⟨w.heap.size, 0, none⟩ : Addr).add j = ⟨w.heap.size, j, none⟩ := by unfold Addr.add; split <;> simp_all
        rw [hplain, ← hob]
        have := Blk.new w.drew ((xs.map (Value.int .i32)).toArray ++ Array.replicate (C - xs.length) (.int .i32 0)) 21
        refine this.cell j v ?_
        have hjl : j < xs.length := by
          rcases Nat.lt_or_ge j xs.length with h | h
          · exact h
          · simp [List.getElem?_eq_none (show (xs.map (Value.int .i32)).length ≤ j by simpa using h)] at hj
        rw [Array.getElem?_append_left (by simpa using hjl)]
        simpa using hj)
      simpa using this
    have e : xs.foldl (fun r n => r ++ Utf8.encode n) ByteArray.empty = ⟨(mend s.data.toList).toArray⟩ := by
      have := foldl_encode xs ByteArray.empty
      rw [← Lib.mk_data (xs.foldl (fun r n => r ++ Utf8.encode n) ByteArray.empty), this, hm]
      rfl
    rw [run_runesToString _ _ _ _ _ hl, e]
  have h3 : (convert 91 9 (.slice (some ⟨w.heap.size, 0, none⟩) xs.length C)).run Tryd.prog (w.alloc ob).drew = .ok (.string ⟨(mend s.data.toList).toArray⟩) (w.alloc ob).drew := h2
  clear hr hr2 hxs hm hlen hC hob h2
  go_enter Tryd.func16, Tryd.ntmps16
  go_wp2
  go_ret
  exact ⟨rfl, ((Below.refl _ _).alloc (Nat.le_refl _) _).drew⟩
end Go.Proofs.YtjmejlncomaclaaDoor.Lx
