/- Steps; the plain law on lines. -/
import Derived.Test.YtnjhpjiahjjjkaaGreatDoorTlB
set_option linter.unusedSimpArgs false
set_option linter.unusedVariables false
namespace Go.Proofs.YtnjhpjiahjjjkaaGreatDoor
open Go Go.Acx
set_option maxRecDepth 100000

def endsB (l : List UInt8) : Bool := decide ([(10 : UInt8)].length ≤ l.length) && (l.drop (l.length - [(10 : UInt8)].length) == [10])
def stepsN (l : List UInt8) : Nat := if l = [] then 0 else if endsB l then l.count 10 else l.count 10 + 1

theorem cutL_count (l : List UInt8) : ∀ i, i ≤ l.length → (cutL l i).1.length = (l.take i).count 10
  | 0, _ => by simp [cutL]
  | i + 1, h => by
    have ih := cutL_count l i (by omega)
    have hi : i < l.length := by omega
    rw [List.take_succ_eq_append_getElem hi, List.count_append, cutL]
    have hg : l.getD i 0 = l[i] := by simp [hi]
    rw [hg]
    split
    · rename_i h1; simp [ih, h1]
    · rename_i h1; simp [ih, h1]

theorem cutL_end (l : List UInt8) : ∀ i, i ≤ l.length → ((cutL l i).2 = i ↔ i = 0 ∨ (0 < i ∧ l.getD (i - 1) 0 = 10))
  | 0, _ => by simp [cutL]
  | i + 1, h => by
    rw [cutL]
    have := cutL_le l i
    split
    · rename_i h1; simp; simpa using h1
    · rename_i h1
      constructor
      · intro e; omega
      · rintro (e | ⟨_, e⟩)
        · cases e
        · exact absurd (by simpa using e) h1

theorem ends_iff (l : List UInt8) (h : l ≠ []) : endsB l = true ↔ l.getD (l.length - 1) 0 = 10 := by
  have hl : 0 < l.length := List.length_pos_iff.2 h
  have hd : l.drop (l.length - 1) = [l[l.length - 1]] := by
    rw [List.drop_eq_getElem_cons (by omega), show l.length - 1 + 1 = l.length from by omega, List.drop_length]
  have h1 : 1 ≤ l.length := hl
  have hg : l.getD (l.length - 1) 0 = l[l.length - 1] := by
    rw [List.getD_eq_getElem?_getD, List.getElem?_eq_getElem (by omega)]; rfl
  rw [hg]
  simp [endsB, hd, h1]

theorem lines_steps (l : List UInt8) : (linesR l).length = stepsN l := by
  unfold linesR stepsN
  by_cases h : l = []
  · subst h; simp [cutL]
  · have hl : 0 < l.length := List.length_pos_iff.2 h
    have hc := cutL_count l l.length (Nat.le_refl _)
    rw [List.take_length] at hc
    have he := cutL_end l l.length (Nat.le_refl _)
    have hle := cutL_le l l.length
    have hi := ends_iff l h
    rw [if_neg h]
    by_cases h1 : endsB l = true
    · have h2 := he.2 (.inr ⟨hl, hi.1 h1⟩)
      rw [if_neg (by omega), if_pos h1, hc]
    · have h2 : (cutL l l.length).2 ≠ l.length := fun e => by
        rcases he.1 e with h3 | h3
        · omega
        · exact h1 (hi.2 h3.2)
      rw [if_pos (by omega), if_neg h1]
      simp [hc]

theorem steps_pc (l : List UInt8) (hl : l.length ≤ 1000) : PC Tryz.prog 9 [.str l] (.int .i64 (stepsN l : Nat)) := by
  have hc := List.count_le_length (a := (10 : UInt8)) (l := l)
  refine PC.enter (m := 16) (rs := [.tmp 2]) tokT Tryz.func9 (by kernel_rfl) (by kernel_rfl) rfl (by kernel_rfl) (by simp) (by kernel_rfl) rfl rfl ?_
  simp (disch := first | omega | (simp only [go_sem]; omega)) only [go_sem, ↓reduceIte, Nat.reduceEqDiff, Nat.reduceAdd, Nat.reduceMul, Nat.zero_add, Nat.add_zero, reduceCtorEq, Int.reduceNeg]
  refine (count_pc l 10).go ?_
  simp (disch := first | omega | (simp only [go_sem]; omega)) only [go_sem, ↓reduceIte, Nat.reduceEqDiff, Nat.reduceAdd, Nat.reduceMul, Nat.zero_add, Nat.add_zero, reduceCtorEq, Int.reduceNeg]
  by_cases h : l = []
  · subst h
    simp only [BEq.rfl, Bool.not_true]
    simp (disch := first | omega | (simp only [go_sem]; omega)) only [go_sem, ↓reduceIte, Nat.reduceEqDiff, Nat.reduceAdd, Nat.reduceMul, Nat.zero_add, Nat.add_zero, reduceCtorEq, Int.reduceNeg]
    simp [stepsN]
  · have h1 : (l == []) = false := by simpa using h
    simp only [h1, Bool.not_false]
    simp (disch := first | omega | (simp only [go_sem]; omega)) only [go_sem, ↓reduceIte, Nat.reduceEqDiff, Nat.reduceAdd, Nat.reduceMul, Nat.zero_add, Nat.add_zero, reduceCtorEq, Int.reduceNeg]
    refine (hasSuffix_pc l [10] hl (by simp)).go ?_
    have e : (decide ([(10 : UInt8)].length ≤ l.length) && (l.drop (l.length - [(10 : UInt8)].length) == [10])) = endsB l := rfl
    rw [e]
    cases h2 : endsB l
    · simp (disch := first | omega | (simp only [go_sem]; omega)) only [go_sem, ↓reduceIte, Nat.reduceEqDiff, Nat.reduceAdd, Nat.reduceMul, Nat.zero_add, Nat.add_zero, reduceCtorEq, Int.reduceNeg]
      simp [stepsN, h, h2]
    · simp (disch := first | omega | (simp only [go_sem]; omega)) only [go_sem, ↓reduceIte, Nat.reduceEqDiff, Nat.reduceAdd, Nat.reduceMul, Nat.zero_add, Nat.add_zero, reduceCtorEq, Int.reduceNeg]
      simp [stepsN, h, h2]

end Go.Proofs.YtnjhpjiahjjjkaaGreatDoor
