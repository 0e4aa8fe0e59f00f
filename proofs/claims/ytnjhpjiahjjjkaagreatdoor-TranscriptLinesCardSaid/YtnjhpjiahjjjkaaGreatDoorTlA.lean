/- The lines of answers, and how many lines a script has. -/
import Derived.Test.YtnjhpjiahjjjkaaGreatDoorTlBase
set_option linter.unusedSimpArgs false
set_option linter.unusedVariables false
namespace Go.Proofs.YtnjhpjiahjjjkaaGreatDoor
open Go Go.Acx
set_option maxRecDepth 100000

theorem tmod_neg (v n : Int) (hn : 0 < n) (h : v.tmod n < 0) : v.tmod n + n = v % n := by
  have h1 := Int.emod_nonneg v (by omega : n ≠ 0)
  rw [Int.tmod_eq_emod] at h ⊢
  split at h <;> split <;> omega
theorem tmod_pos (v n : Int) (hn : 0 < n) (h : ¬ v.tmod n < 0) : v.tmod n = v % n := by
  have h1 := Int.emod_nonneg v (by omega : n ≠ 0)
  have h2 := Int.emod_lt_of_pos v hn
  rw [Int.tmod_eq_emod] at h ⊢
  split at h <;> split <;> omega
theorem mod_pc (v n : Int) (hn : 0 < n) (hb : n ≤ 100) : PC Tryz.prog 5 [.int .i64 v, .int .i64 n] (.int .i64 (v % n)) := by
  refine PC.enter (m := 15) (rs := [.tmp 4]) tokT Tryz.func5 (by kernel_rfl) (by kernel_rfl) rfl (by kernel_rfl) (by simp) (by kernel_rfl) rfl rfl ?_
  simp (disch := first | omega | (simp only [go_sem]; omega)) only [go_sem, ↓reduceIte, Nat.reduceEqDiff, Nat.reduceAdd, Nat.reduceMul, Nat.zero_add, Nat.add_zero, reduceCtorEq, Int.reduceNeg]
  refine Br.dec (fun h1 => ?_) (fun h1 => ?_)
  · have h3 := tmod_neg v n hn h1
    have h4 := Int.emod_nonneg v (by omega : n ≠ 0)
    have h5 := Int.emod_lt_of_pos v hn
    simp (disch := first | omega | (simp only [go_sem]; omega)) only [go_sem, ↓reduceIte, Nat.reduceEqDiff, Nat.reduceAdd, Nat.reduceMul, Nat.zero_add, Nat.add_zero, reduceCtorEq, Int.reduceNeg]
    rw [h3]
  · simp (disch := first | omega | (simp only [go_sem]; omega)) only [go_sem, ↓reduceIte, Nat.reduceEqDiff, Nat.reduceAdd, Nat.reduceMul, Nat.zero_add, Nat.add_zero, reduceCtorEq, Int.reduceNeg]
    rw [tmod_pos v n hn h1]

/-- The line of an answer, its number written by d. -/
def lineS (e : Int) (t d : List UInt8) : List UInt8 := if e = 0 then t ++ [10] else [101, 114, 114, 111, 114, 32] ++ d ++ [10]

theorem line_pc (e : Int) (t d : List UInt8) (ht : t.length ≤ 1000) (hd : d.length ≤ 1000) (hp : e ≠ 0 → PC Tryz.prog 13 [.int .i64 e] (.str d)) : PC Tryz.prog 7 [.agg [.int .i64 e, .str t]] (.str (lineS e t d)) := by
  refine PC.enter (m := 14) (rs := [.tmp 2]) tokT Tryz.func7 (by kernel_rfl) (by kernel_rfl) rfl (by kernel_rfl) (by simp) (by kernel_rfl) rfl rfl ?_
  simp (disch := first | omega | (simp only [go_sem]; omega)) only [go_sem, ↓reduceIte, Nat.reduceEqDiff, Nat.reduceAdd, Nat.reduceMul, Nat.zero_add, Nat.add_zero, reduceCtorEq, Int.reduceNeg]
  refine Br.dec (fun h1 => ?_) (fun h1 => ?_)
  · simp (disch := first | omega | (simp only [go_sem]; omega)) only [go_sem, ↓reduceIte, Nat.reduceEqDiff, Nat.reduceAdd, Nat.reduceMul, Nat.zero_add, Nat.add_zero, reduceCtorEq, Int.reduceNeg]
    simp [lineS, h1]
  · simp (disch := first | omega | (simp only [go_sem]; omega)) only [go_sem, ↓reduceIte, Nat.reduceEqDiff, Nat.reduceAdd, Nat.reduceMul, Nat.zero_add, Nat.add_zero, reduceCtorEq, Int.reduceNeg]
    refine (hp h1).go ?_
    simp (disch := first | omega | (simp only [go_sem]; omega)) only [go_sem, ↓reduceIte, Nat.reduceEqDiff, Nat.reduceAdd, Nat.reduceMul, Nat.zero_add, Nat.add_zero, reduceCtorEq, Int.reduceNeg, List.length_append]
    simp [lineS, h1]

theorem answer_pc (e : Int) (t d : List UInt8) (ht : t.length ≤ 1000) (hd : d.length ≤ 1000) (hp : e ≠ 0 → PC Tryz.prog 14 [.int .i64 e] (.str d)) : PC Tryz.prog 8 [.agg [.int .i64 e, .str t]] (.str (lineS e t d)) := by
  refine PC.enter (m := 14) (rs := [.tmp 2]) tokT Tryz.func8 (by kernel_rfl) (by kernel_rfl) rfl (by kernel_rfl) (by simp) (by kernel_rfl) rfl rfl ?_
  simp (disch := first | omega | (simp only [go_sem]; omega)) only [go_sem, ↓reduceIte, Nat.reduceEqDiff, Nat.reduceAdd, Nat.reduceMul, Nat.zero_add, Nat.add_zero, reduceCtorEq, Int.reduceNeg]
  refine Br.dec (fun h1 => ?_) (fun h1 => ?_)
  · simp (disch := first | omega | (simp only [go_sem]; omega)) only [go_sem, ↓reduceIte, Nat.reduceEqDiff, Nat.reduceAdd, Nat.reduceMul, Nat.zero_add, Nat.add_zero, reduceCtorEq, Int.reduceNeg]
    simp [lineS, h1]
  · simp (disch := first | omega | (simp only [go_sem]; omega)) only [go_sem, ↓reduceIte, Nat.reduceEqDiff, Nat.reduceAdd, Nat.reduceMul, Nat.zero_add, Nat.add_zero, reduceCtorEq, Int.reduceNeg]
    refine (hp h1).go ?_
    simp (disch := first | omega | (simp only [go_sem]; omega)) only [go_sem, ↓reduceIte, Nat.reduceEqDiff, Nat.reduceAdd, Nat.reduceMul, Nat.zero_add, Nat.add_zero, reduceCtorEq, Int.reduceNeg, List.length_append]
    simp [lineS, h1]

theorem count_pc (l : List UInt8) (c : UInt8) : PC Tryz.prog 15 [.str l, .str [c]] (.int .i64 (l.count c : Nat)) := by
  have hc : ∀ h n, ACalls Tryz.prog 28 [.str l, .int .u8 (c.toNat : Nat)] h n fun r' h' n' => r' = .int .i64 (l.count c : Nat) ∧ h' = h ∧ n' = n := by
    intro h n
    have := countString_ok Tryz.func28 (by kernel_rfl) (by kernel_rfl) (by kernel_rfl) (by kernel_rfl) l (c.toNat : Nat) h n
    simpa using this
  refine PC.enter (m := 34) (rs := [.tmp 4]) tokT Tryz.func15 (by kernel_rfl) (by kernel_rfl) rfl (by kernel_rfl) (by simp) (by kernel_rfl) rfl rfl ?_
  simp (disch := first | omega | (simp only [go_sem]; omega)) only [go_sem, ↓reduceIte, Nat.reduceEqDiff, Nat.reduceAdd, Nat.reduceMul, Nat.zero_add, Nat.add_zero, reduceCtorEq, Int.reduceNeg]
  refine PC.go (v := .int .i64 (l.count c : Nat)) hc ?_
  simp (disch := first | omega | (simp only [go_sem]; omega)) only [go_sem, ↓reduceIte, Nat.reduceEqDiff, Nat.reduceAdd, Nat.reduceMul, Nat.zero_add, Nat.add_zero, reduceCtorEq, Int.reduceNeg]

theorem suffix_pc (l s : List UInt8) (h1 : l.length ≤ 1000) (h2 : s.length ≤ 1000) : PC Tryz.prog 30 [.str l, .str s] (.bool (decide (s.length ≤ l.length) && (l.drop (l.length - s.length) == s))) := by
  refine PC.enter (m := 21) (rs := [.tmp 4]) tokT Tryz.func30 (by kernel_rfl) (by kernel_rfl) rfl (by kernel_rfl) (by simp) (by kernel_rfl) rfl rfl ?_
  simp (disch := first | omega | (simp only [go_sem]; omega)) only [go_sem, ↓reduceIte, Nat.reduceEqDiff, Nat.reduceAdd, Nat.reduceMul, Nat.zero_add, Nat.add_zero, reduceCtorEq, Int.reduceNeg]
  refine Br.dec (fun h3 => ?_) (fun h3 => ?_)
  · simp (disch := first | omega | (simp only [go_sem]; omega)) only [go_sem, ↓reduceIte, Nat.reduceEqDiff, Nat.reduceAdd, Nat.reduceMul, Nat.zero_add, Nat.add_zero, reduceCtorEq, Int.reduceNeg]
    have e1 : ((l.length : Int) - (s.length : Int)).toNat = l.length - s.length := by omega
    rw [e1]
    have : s.length ≤ l.length := by omega
    simp [this, List.take_of_length_le]
  · simp (disch := first | omega | (simp only [go_sem]; omega)) only [go_sem, ↓reduceIte, Nat.reduceEqDiff, Nat.reduceAdd, Nat.reduceMul, Nat.zero_add, Nat.add_zero, reduceCtorEq, Int.reduceNeg]
    have : ¬ s.length ≤ l.length := by omega
    simp [this]

theorem hasSuffix_pc (l s : List UInt8) (h1 : l.length ≤ 1000) (h2 : s.length ≤ 1000) : PC Tryz.prog 16 [.str l, .str s] (.bool (decide (s.length ≤ l.length) && (l.drop (l.length - s.length) == s))) := by
  refine PC.enter (m := 8) (rs := [.tmp 4]) tokT Tryz.func16 (by kernel_rfl) (by kernel_rfl) rfl (by kernel_rfl) (by simp) (by kernel_rfl) rfl rfl ?_
  simp (disch := first | omega | (simp only [go_sem]; omega)) only [go_sem, ↓reduceIte, Nat.reduceEqDiff, Nat.reduceAdd, Nat.reduceMul, Nat.zero_add, Nat.add_zero, reduceCtorEq, Int.reduceNeg]
  refine (suffix_pc l s h1 h2).go ?_
  simp (disch := first | omega | (simp only [go_sem]; omega)) only [go_sem, ↓reduceIte, Nat.reduceEqDiff, Nat.reduceAdd, Nat.reduceMul, Nat.zero_add, Nat.add_zero, reduceCtorEq, Int.reduceNeg]

end Go.Proofs.YtnjhpjiahjjjkaaGreatDoor
