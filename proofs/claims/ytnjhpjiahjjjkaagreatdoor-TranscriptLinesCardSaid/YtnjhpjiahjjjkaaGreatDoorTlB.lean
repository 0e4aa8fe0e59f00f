/- The lines of a text by the reference; how many there are. -/
import Derived.Test.YtnjhpjiahjjjkaaGreatDoorTlA
import Derived.Test.YtnjhpjiahjjjkaaGreatDoorAcxS5
set_option linter.unusedSimpArgs false
set_option linter.unusedVariables false
namespace Go.Proofs.YtnjhpjiahjjjkaaGreatDoor
open Go Go.Acx
set_option maxRecDepth 100000

/-- The lines that end within the first i bytes, and where the next one begins. -/
def cutL (l : List UInt8) : Nat → List (List UInt8) × Nat
  | 0 => ([], 0)
  | i + 1 => if l.getD i 0 = 10 then ((cutL l i).1 ++ [((l.drop (cutL l i).2).take (i - (cutL l i).2))], i + 1) else cutL l i
def linesR (l : List UInt8) : List (List UInt8) := if (cutL l l.length).2 < l.length then (cutL l l.length).1 ++ [l.drop (cutL l l.length).2] else (cutL l l.length).1

theorem cutL_le (l : List UInt8) : ∀ i, (cutL l i).2 ≤ i
  | 0 => Nat.le_refl _
  | i + 1 => by
    unfold cutL
    split
    · exact Nat.le_refl _
    · exact Nat.le_succ_of_le (cutL_le l i)
theorem cutL_len (l : List UInt8) : ∀ i, (cutL l i).1.length ≤ i
  | 0 => Nat.le_refl _
  | i + 1 => by
    unfold cutL
    split
    · simp; exact cutL_len l i
    · exact Nat.le_succ_of_le (cutL_len l i)

/-- What 'out' is: nil, or a row of its own. -/
def outV (L : List (List UInt8)) (id : Nat) : AV := if L = [] then .nils else .sl id 0 L.length none
def outH (L : List (List UInt8)) (id : Nat) : Hp := if L = [] then Hp.none else Hp.none.set id (.cells (L.map .str) (some (1, 9)))
theorem outV_nil {id : Nat} : outV [] id = .nils := rfl
theorem outV_one {L : List (List UInt8)} {id : Nat} (h : L ≠ []) : outV L id = .sl id 0 L.length none := by simp [outV, h]
theorem outH_nil {id : Nat} : outH [] id = Hp.none := rfl
theorem outH_one {L : List (List UInt8)} {id : Nat} (h : L ≠ []) : outH L id = Hp.none.set id (.cells (L.map .str) (some (1, 9))) := by simp [outH, h]
theorem Sub.refl (h : Hp) : Sub h h := fun _ _ e => e
theorem Sub.none (h : Hp) : Sub Hp.none h := fun _ _ e => by cases e
theorem Sub.one {h : Hp} {i : Nat} {o : AObj} (e : h i = some o) : Sub (Hp.none.set i o) h := fun j q hj => by
  simp only [Hp.set] at hj
  split at hj
  · rename_i hji; cases hj; rw [hji]; exact e
  · cases hj

theorem getD10 (l : List UInt8) (i : Nat) : (((l.getD i 0).toNat : Nat) : Int) = 10 ↔ l.getD i 0 = 10 := by
  constructor
  · intro h
    have h2 : (l.getD i 0).toNat = 10 := by exact_mod_cast h
    exact UInt8.toNat_inj.1 h2
  · intro h; rw [h]; rfl

theorem lines_pc (l : List UInt8) (hl : l.length ≤ 1000) : PC Tryz.prog 10 [.str l] (.imm ((linesR l).map .str) (linesR l).length) := by
  refine FC.enter (m := 36) (rs := [.tmp 2]) tokT Tryz.func10 (by kernel_rfl) (by kernel_rfl) rfl (by kernel_rfl) (by simp) (by kernel_rfl) (by first | rfl | simp only [go_sem]) (by first | rfl | simp only [go_sem]) ?_
  simp (disch := first | omega | (simp only [go_sem]; omega)) only [go_sem, ↓reduceIte, Nat.reduceEqDiff, Nat.reduceAdd, Nat.reduceMul, Nat.zero_add, Nat.add_zero, reduceCtorEq, Int.reduceNeg]
  refine wLoop.inv tokT (α := Nat × Nat × Nat) (fun a => a.1 ≤ l.length ∧ ((cutL l a.1).1 ≠ [] → a.2.1 < a.2.2))
    (fun a => [(0, .str l), (3, outV (cutL l a.1).1 a.2.1), (4, .int .i64 (cutL l a.1).2), (5, .int .i64 a.1)]) (fun a => outH (cutL l a.1).1 a.2.1) (fun a => a.2.2) (fun a => l.length - a.1) (0, 0, 0) (by kernel_rfl) ?_ ?_ ?_ ?_ ?_
  · simp [cutL]
  · simp only [cutL, outV_nil]
    simp (disch := first | omega | (simp only [go_sem]; omega)) only [go_sem, ↓reduceIte, Nat.reduceEqDiff, Nat.reduceAdd, Nat.reduceMul, Nat.zero_add, Nat.add_zero, reduceCtorEq, Int.reduceNeg]
    simp
  · simp only [cutL, outH_nil]
    exact Sub.none _
  · simp (disch := first | omega | (simp only [go_sem]; omega)) only [go_sem, ↓reduceIte, Nat.reduceEqDiff, Nat.reduceAdd, Nat.reduceMul, Nat.zero_add, Nat.add_zero, reduceCtorEq, Int.reduceNeg]
  · rintro ⟨i, id, N⟩ ⟨h1, h2⟩
    simp only at h1 h2
    have hle := cutL_le l i
    have hln := cutL_len l i
    simp (disch := first | omega | (simp only [go_sem]; omega)) only [go_sem, ↓reduceIte, Nat.reduceEqDiff, Nat.reduceAdd, Nat.reduceMul, Nat.zero_add, Nat.add_zero, reduceCtorEq, Int.reduceNeg]
    refine Br.dec (fun h3 => ?_) (fun h3 => ?_)
    · simp (disch := first | omega | (simp only [go_sem]; omega)) only [go_sem, ↓reduceIte, Nat.reduceEqDiff, Nat.reduceAdd, Nat.reduceMul, Nat.zero_add, Nat.add_zero, reduceCtorEq, Int.reduceNeg]
      refine Br.dec (fun h4 => ?_) (fun h4 => ?_)
      · rw [getD10] at h4
        have e1 : cutL l (i + 1) = ((cutL l i).1 ++ [((l.drop (cutL l i).2).take (i - (cutL l i).2))], i + 1) := by rw [cutL, if_pos h4]
        by_cases hL : (cutL l i).1 = []
        · simp only [hL, outV_nil, outH_nil]
          simp (disch := first | omega | (simp only [go_sem]; omega)) only [go_sem, ↓reduceIte, Nat.reduceEqDiff, Nat.reduceAdd, Nat.reduceMul, Nat.zero_add, Nat.add_zero, reduceCtorEq, Int.reduceNeg]
          refine ⟨(i + 1, N + 1, N + 1 + 1), ?_⟩
          simp only [e1, hL, List.nil_append, outV_one (List.cons_ne_nil _ _), outH_one (List.cons_ne_nil _ _)]
          simp (disch := first | omega | (simp only [go_sem]; omega)) only [go_sem, ↓reduceIte, Nat.reduceEqDiff, Nat.reduceAdd, Nat.reduceMul, Nat.zero_add, Nat.add_zero, reduceCtorEq, Int.reduceNeg]
          exact ⟨Sub.one (by simp [Hp.set]), ⟨by omega, fun _ => by omega⟩, by omega⟩
        · have h5 := h2 hL
          simp only [outV_one hL, outH_one hL]
          simp (disch := first | omega | (simp only [go_sem]; omega)) only [go_sem, ↓reduceIte, Nat.reduceEqDiff, Nat.reduceAdd, Nat.reduceMul, Nat.zero_add, Nat.add_zero, reduceCtorEq, Int.reduceNeg]
          refine ⟨(i + 1, N + 1, N + 1 + 1), ?_⟩
          have h6 : (cutL l i).1 ++ [((l.drop (cutL l i).2).take (i - (cutL l i).2))] ≠ [] := by simp
          simp only [e1, outV_one h6, outH_one h6]
          simp (disch := first | omega | (simp only [go_sem]; omega)) only [go_sem, ↓reduceIte, Nat.reduceEqDiff, Nat.reduceAdd, Nat.reduceMul, Nat.zero_add, Nat.add_zero, reduceCtorEq, Int.reduceNeg]
          exact ⟨Sub.one (by simp [Hp.set]), ⟨by omega, fun _ => by omega⟩, by omega⟩
      · rw [getD10] at h4
        have e1 : cutL l (i + 1) = cutL l i := by rw [cutL, if_neg h4]
        simp (disch := first | omega | (simp only [go_sem]; omega)) only [go_sem, ↓reduceIte, Nat.reduceEqDiff, Nat.reduceAdd, Nat.reduceMul, Nat.zero_add, Nat.add_zero, reduceCtorEq, Int.reduceNeg]
        refine ⟨(i + 1, id, N), ?_⟩
        simp only [e1]
        simp (disch := first | omega | (simp only [go_sem]; omega)) only [go_sem, ↓reduceIte, Nat.reduceEqDiff, Nat.reduceAdd, Nat.reduceMul, Nat.zero_add, Nat.add_zero, reduceCtorEq, Int.reduceNeg]
        exact ⟨Sub.refl _, ⟨by omega, h2⟩, by omega⟩
    · have h4 : i = l.length := by omega
      subst h4
      have e1 : linesR l = if (cutL l l.length).2 < l.length then (cutL l l.length).1 ++ [l.drop (cutL l l.length).2] else (cutL l l.length).1 := rfl
      simp (disch := first | omega | (simp only [go_sem]; omega)) only [go_sem, ↓reduceIte, Nat.reduceEqDiff, Nat.reduceAdd, Nat.reduceMul, Nat.zero_add, Nat.add_zero, reduceCtorEq, Int.reduceNeg]
      refine Br.dec (fun h5 => ?_) (fun h5 => ?_)
      · rw [if_pos (by omega)] at e1
        by_cases hL : (cutL l l.length).1 = []
        · simp only [e1, hL, outV_nil, outH_nil]
          simp (disch := first | omega | (simp only [go_sem]; omega)) only [go_sem, ↓reduceIte, Nat.reduceEqDiff, Nat.reduceAdd, Nat.reduceMul, Nat.zero_add, Nat.add_zero, reduceCtorEq, Int.reduceNeg]
          simp [List.take_of_length_le]
        · have h6 := h2 hL
          simp only [e1, outV_one hL, outH_one hL]
          simp (disch := first | omega | (simp only [go_sem]; omega)) only [go_sem, ↓reduceIte, Nat.reduceEqDiff, Nat.reduceAdd, Nat.reduceMul, Nat.zero_add, Nat.add_zero, reduceCtorEq, Int.reduceNeg]
          simp [List.take_of_length_le]
      · rw [if_neg (by omega)] at e1
        by_cases hL : (cutL l l.length).1 = []
        · simp only [e1, hL, outV_nil, outH_nil]
          simp (disch := first | omega | (simp only [go_sem]; omega)) only [go_sem, ↓reduceIte, Nat.reduceEqDiff, Nat.reduceAdd, Nat.reduceMul, Nat.zero_add, Nat.add_zero, reduceCtorEq, Int.reduceNeg]
          simp
        · have h6 := h2 hL
          simp only [e1, outV_one hL, outH_one hL]
          simp (disch := first | omega | (simp only [go_sem]; omega)) only [go_sem, ↓reduceIte, Nat.reduceEqDiff, Nat.reduceAdd, Nat.reduceMul, Nat.zero_add, Nat.add_zero, reduceCtorEq, Int.reduceNeg]
          simp [List.take_of_length_le]

end Go.Proofs.YtnjhpjiahjjjkaaGreatDoor
