/- Plain law: the document's characters (its tables of first and second bytes) are those of the decoder. No conditions. -/
import Derived.Test.YtjmejlncomaclaaDoorLxJoin
namespace Go.Proofs.YtjmejlncomaclaaDoor.Lx

/-- How many bytes a character has that begins so. -/
def szOf (x : Nat) : Nat := if x < 128 then 1 else if 194 ≤ x ∧ x ≤ 223 then 2 else if 224 ≤ x ∧ x ≤ 239 then 3 else if 240 ≤ x ∧ x ≤ 244 then 4 else 0
def goesLo (x : Nat) : Nat := if x = 224 then 160 else if x = 240 then 144 else 128
def goesHi (x : Nat) : Nat := if x = 237 then 159 else if x = 244 then 143 else 191
/-- How many bytes are of a character, or begin one. -/
def frontN (m n b0 b1 b2 b3 : Nat) : Nat :=
  if n ≤ 1 ∨ m ≤ 1 ∨ ¬ (goesLo b0 ≤ b1 ∧ b1 ≤ goesHi b0) then 1 else if n ≤ 2 ∨ m ≤ 2 ∨ ¬ (128 ≤ b2 ∧ b2 ≤ 191) then 2 else if n ≤ 3 ∨ m ≤ 3 ∨ ¬ (128 ≤ b3 ∧ b3 ≤ 191) then 3 else 4
def valN (n b0 b1 b2 b3 : Nat) : Nat :=
  if n = 1 then b0 else if n = 2 then (b0 - 192) * 64 + (b1 - 128) else if n = 3 then ((b0 - 224) * 64 + (b1 - 128)) * 64 + (b2 - 128) else (((b0 - 240) * 64 + (b1 - 128)) * 64 + (b2 - 128)) * 64 + (b3 - 128)
theorem decodeN_front (m b0 b1 b2 b3 : Nat) (_hm : 1 ≤ m) (h0 : b0 < 256) (h1 : b1 < 256) (h2 : b2 < 256) (h3 : b3 < 256) :
    Lib.decodeN m b0 b1 b2 b3 = if szOf b0 ≠ 0 ∧ frontN m (szOf b0) b0 b1 b2 b3 = szOf b0 then (valN (szOf b0) b0 b1 b2 b3, szOf b0) else (65533, 1) := by
  unfold szOf
  by_cases c1 : b0 < 128
  · simp only [c1, ↓reduceIte]
    unfold Lib.decodeN frontN valN
    simp [c1]
  · by_cases c2 : 194 ≤ b0 ∧ b0 ≤ 223
    · simp only [c1, c2, and_self, ↓reduceIte]
      have e1 : goesLo b0 = 128 := by unfold goesLo; rw [if_neg (by omega), if_neg (by omega)]
      have e2 : goesHi b0 = 191 := by unfold goesHi; rw [if_neg (by omega), if_neg (by omega)]
      unfold Lib.decodeN frontN valN
      rw [if_neg c1, e1, e2]
      by_cases d1 : 1 < m ∧ b1 / 64 = 2
      · rw [if_pos ⟨by omega, d1⟩, if_pos (by omega), if_pos ?_]
        · simp; omega
        · refine ⟨by omega, ?_⟩
          rw [if_neg (by omega)]
          simp
      · rw [if_neg (by omega), if_neg (by omega), if_neg (by omega), if_neg ?_]
        rw [if_pos (by omega)]
        omega
    · by_cases c3 : 224 ≤ b0 ∧ b0 ≤ 239
      · simp only [c1, c2, c3, and_self, ↓reduceIte]
        unfold Lib.decodeN frontN valN
        rw [if_neg c1, if_neg (by omega)]
        by_cases d1 : (1 < m ∧ b1 / 64 = 2) ∧ (2 < m ∧ b2 / 64 = 2)
        · rw [if_pos ⟨by omega, d1⟩]
          by_cases d2 : goesLo b0 ≤ b1 ∧ b1 ≤ goesHi b0
          · have hh : b0 % 16 * 4096 + b1 % 64 * 64 + b2 % 64 ≥ 2048 ∧ (b0 % 16 * 4096 + b1 % 64 * 64 + b2 % 64 < 55296 ∨ 57344 ≤ b0 % 16 * 4096 + b1 % 64 * 64 + b2 % 64 ∧ b0 % 16 * 4096 + b1 % 64 * 64 + b2 % 64 ≤ 1114111) := by
              unfold goesLo goesHi at d2; (repeat' split at d2) <;> omega
            rw [if_pos hh, if_pos ?_]
            · simp; omega
            · refine ⟨by omega, ?_⟩
              rw [if_neg (by omega), if_neg (by omega)]
              simp
          · have hh : ¬ (b0 % 16 * 4096 + b1 % 64 * 64 + b2 % 64 ≥ 2048 ∧ (b0 % 16 * 4096 + b1 % 64 * 64 + b2 % 64 < 55296 ∨ 57344 ≤ b0 % 16 * 4096 + b1 % 64 * 64 + b2 % 64 ∧ b0 % 16 * 4096 + b1 % 64 * 64 + b2 % 64 ≤ 1114111)) := by
              unfold goesLo goesHi at d2; (repeat' split at d2) <;> omega
            rw [if_neg hh, if_neg ?_]
            rw [if_pos (by omega)]
            omega
        · rw [if_neg (by omega), if_neg (by omega), if_neg ?_]
          intro ⟨_, h⟩
          split at h
          · omega
          · rename_i hx
            split at h
            · omega
            · rename_i hy
              unfold goesLo goesHi at hx
              (repeat' split at hx) <;> omega
      · by_cases c4 : 240 ≤ b0 ∧ b0 ≤ 244
        · simp only [c1, c2, c3, c4, and_self, ↓reduceIte]
          unfold Lib.decodeN frontN valN
          rw [if_neg c1, if_neg (by omega), if_neg (by omega)]
          by_cases d1 : (1 < m ∧ b1 / 64 = 2) ∧ (2 < m ∧ b2 / 64 = 2) ∧ (3 < m ∧ b3 / 64 = 2)
          · rw [if_pos ⟨by omega, d1⟩]
            by_cases d2 : goesLo b0 ≤ b1 ∧ b1 ≤ goesHi b0
            · have hh : b0 % 8 * 262144 + b1 % 64 * 4096 + b2 % 64 * 64 + b3 % 64 ≥ 65536 ∧ (b0 % 8 * 262144 + b1 % 64 * 4096 + b2 % 64 * 64 + b3 % 64 < 55296 ∨ (57344 ≤ b0 % 8 * 262144 + b1 % 64 * 4096 + b2 % 64 * 64 + b3 % 64 ∧ b0 % 8 * 262144 + b1 % 64 * 4096 + b2 % 64 * 64 + b3 % 64 ≤ 1114111)) := by
                unfold goesLo goesHi at d2; (repeat' split at d2) <;> omega
              rw [if_pos hh, if_pos ?_]
              · simp; omega
              · refine ⟨by omega, ?_⟩
                rw [if_neg (by omega), if_neg (by omega), if_neg (by omega)]
            · have hh : ¬ (b0 % 8 * 262144 + b1 % 64 * 4096 + b2 % 64 * 64 + b3 % 64 ≥ 65536 ∧ (b0 % 8 * 262144 + b1 % 64 * 4096 + b2 % 64 * 64 + b3 % 64 < 55296 ∨ (57344 ≤ b0 % 8 * 262144 + b1 % 64 * 4096 + b2 % 64 * 64 + b3 % 64 ∧ b0 % 8 * 262144 + b1 % 64 * 4096 + b2 % 64 * 64 + b3 % 64 ≤ 1114111))) := by
                unfold goesLo goesHi at d2; (repeat' split at d2) <;> omega
              rw [if_neg hh, if_neg ?_]
              rw [if_pos (by omega)]
              omega
          · rw [if_neg (by omega), if_neg ?_]
            intro ⟨_, h⟩
            split at h
            · omega
            · rename_i hx
              split at h
              · omega
              · split at h
                · omega
                · unfold goesLo goesHi at hx
                  (repeat' split at hx) <;> omega
        · simp only [c1, c2, c3, c4, ↓reduceIte]
          unfold Lib.decodeN
          rw [if_neg c1, if_neg (show ¬ (0 ≠ 0 ∧ _) from fun h => h.1 rfl)]
          by_cases d1 : b0 = 192 ∨ b0 = 193
          · by_cases d2 : 1 < m ∧ b1 / 64 = 2
            · rw [if_pos ⟨by omega, d2⟩, if_neg (by omega)]
            · rw [if_neg (by omega), if_neg (by omega), if_neg (by omega)]
          · rw [if_neg (by omega), if_neg (by omega)]
            by_cases d3 : b0 / 8 = 30 ∧ (1 < m ∧ b1 / 64 = 2) ∧ (2 < m ∧ b2 / 64 = 2) ∧ (3 < m ∧ b3 / 64 = 2)
            · rw [if_pos d3, if_neg (by omega)]
            · rw [if_neg d3]
end Go.Proofs.YtjmejlncomaclaaDoor.Lx
