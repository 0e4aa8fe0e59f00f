/- The law. -/
import Derived.Test.YtnjhpjiahjjjkaaGreatDoorTlC
import Derived.Test.YtnjhpjiahjjjkaaGreatDoorTlD
import Derived.Test.YtnjhpjiahjjjkaaGreatDoorTlPlay2
set_option linter.unusedSimpArgs false
set_option linter.unusedVariables false
namespace Go.Proofs.YtnjhpjiahjjjkaaGreatDoor
open Go Go.Acx
set_option maxRecDepth 100000

theorem awake_pc : PC Tryz.prog 4 [] (.bool true) := by
  refine PC.enter (m := 27) (rs := [.tmp 0]) tokT Tryz.func4 (by kernel_rfl) (by kernel_rfl) rfl (by kernel_rfl) (by simp) (by kernel_rfl) rfl rfl ?_
  simp (disch := first | omega | (simp only [go_sem]; omega)) only [go_sem, ↓reduceIte, Nat.reduceEqDiff, Nat.reduceAdd, Nat.reduceMul, Nat.zero_add, Nat.add_zero, reduceCtorEq, Int.reduceNeg]
  refine PC.go (play_list) ?_
  simp (disch := first | omega | (simp only [go_sem]; omega)) only [go_sem, ↓reduceIte, Nat.reduceEqDiff, Nat.reduceAdd, Nat.reduceMul, Nat.zero_add, Nat.add_zero, reduceCtorEq, Int.reduceNeg]
  refine PC.go (play_foo) ?_
  simp (disch := first | omega | (simp only [go_sem]; omega)) only [go_sem, ↓reduceIte, Nat.reduceEqDiff, Nat.reduceAdd, Nat.reduceMul, Nat.zero_add, Nat.add_zero, reduceCtorEq, Int.reduceNeg, BEq.rfl]

theorem law_pc (t r : List UInt8) (b g : Int) : PC Tryz.prog 3 [.str t, .int .i64 b, .str r, .int .i64 g] (.bool true) := by
  refine PC.enter (m := 84) (rs := [.tmp 8]) tokT Tryz.func3 (by kernel_rfl) (by kernel_rfl) rfl (by kernel_rfl) (by simp) (by kernel_rfl) rfl rfl ?_
  simp (disch := first | omega | (simp only [go_sem]; omega)) only [go_sem, ↓reduceIte, Nat.reduceEqDiff, Nat.reduceAdd, Nat.reduceMul, Nat.zero_add, Nat.add_zero, reduceCtorEq, Int.reduceNeg]
  refine awake_pc.go ?_
  simp (disch := first | omega | (simp only [go_sem]; omega)) only [go_sem, ↓reduceIte, Nat.reduceEqDiff, Nat.reduceAdd, Nat.reduceMul, Nat.zero_add, Nat.add_zero, reduceCtorEq, Int.reduceNeg]
  refine Br.dec (fun h1 => ?_) (fun h1 => ?_)
  · simp (disch := first | omega | (simp only [go_sem]; omega)) only [go_sem, ↓reduceIte, Nat.reduceEqDiff, Nat.reduceAdd, Nat.reduceMul, Nat.zero_add, Nat.add_zero, reduceCtorEq, Int.reduceNeg]
  · simp (disch := first | omega | (simp only [go_sem]; omega)) only [go_sem, ↓reduceIte, Nat.reduceEqDiff, Nat.reduceAdd, Nat.reduceMul, Nat.zero_add, Nat.add_zero, reduceCtorEq, Int.reduceNeg]
    refine Br.dec (fun h2 => ?_) (fun h2 => ?_)
    · simp (disch := first | omega | (simp only [go_sem]; omega)) only [go_sem, ↓reduceIte, Nat.reduceEqDiff, Nat.reduceAdd, Nat.reduceMul, Nat.zero_add, Nat.add_zero, reduceCtorEq, Int.reduceNeg]
    · simp (disch := first | omega | (simp only [go_sem]; omega)) only [go_sem, ↓reduceIte, Nat.reduceEqDiff, Nat.reduceAdd, Nat.reduceMul, Nat.zero_add, Nat.add_zero, reduceCtorEq, Int.reduceNeg]
      refine (mod_pc b 30 (by omega) (by omega)).go ?_
      obtain ⟨e, he⟩ : ∃ e : Nat, b % 30 = (e : Nat) := ⟨(b % 30).toNat, by have := Int.emod_nonneg b (by omega : (30 : Int) ≠ 0); omega⟩
      obtain ⟨q, hq⟩ : ∃ q : Nat, g % 3 = (q : Nat) := ⟨(g % 3).toNat, by have := Int.emod_nonneg g (by omega : (3 : Int) ≠ 0); omega⟩
      have he2 : e < 30 := by have := Int.emod_lt_of_pos b (by omega : (0 : Int) < 30); omega
      have hq2 : q < 3 := by have := Int.emod_lt_of_pos g (by omega : (0 : Int) < 3); omega
      rw [he]
      simp (disch := first | omega | (simp only [go_sem]; omega)) only [go_sem, ↓reduceIte, Nat.reduceEqDiff, Nat.reduceAdd, Nat.reduceMul, Nat.zero_add, Nat.add_zero, reduceCtorEq, Int.reduceNeg]
      refine (mod_pc g 3 (by omega) (by omega)).go ?_
      rw [hq]
      have hM : ((65535 : Int) + (q : Int)).toNat = 65535 + q := by omega
      simp (disch := first | omega | (simp only [go_sem]; omega)) only [go_sem, ↓reduceIte, Nat.reduceEqDiff, Nat.reduceAdd, Nat.reduceMul, Nat.zero_add, Nat.add_zero, reduceCtorEq, Int.reduceNeg]
      refine wLoop.inv tokT (α := Nat) (fun i => i ≤ 65535 + q)
        (fun i => [(0, .str t), (2, .str r), (9, .ptr 0 0), (10, .sl 1 0 (65535 + q) (some (65535 + q))), (33, .int .i64 ((65535 + q : Nat) : Int)), (34, .int .i64 i)])
        (fun i => (Hp.none.set 0 (.cells [.int .i64 e, .str t] (some (2, 26)))).set 1 (.cells (filled (.int .u8 32) (.int .u8 0) i (65535 + q)) none)) (fun _ => 2) (fun i => 65535 + q - i) 0 (by kernel_rfl) (Nat.zero_le _) ?_ ?_ ?_ ?_
      · simp (disch := first | omega | (simp only [go_sem]; omega)) only [go_sem, ↓reduceIte, Nat.reduceEqDiff, Nat.reduceAdd, Nat.reduceMul, Nat.zero_add, Nat.add_zero, reduceCtorEq, Int.reduceNeg, hM]
        rfl
      · rw [filled_zero]
        simp (disch := first | omega | (simp only [go_sem]; omega)) only [go_sem, ↓reduceIte, Nat.reduceEqDiff, Nat.reduceAdd, Nat.reduceMul, Nat.zero_add, Nat.add_zero, reduceCtorEq, Int.reduceNeg, hM]
        exact Sub.refl _
      · simp (disch := first | omega | (simp only [go_sem]; omega)) only [go_sem, ↓reduceIte, Nat.reduceEqDiff, Nat.reduceAdd, Nat.reduceMul, Nat.zero_add, Nat.add_zero, reduceCtorEq, Int.reduceNeg]
      · intro i hi
        simp (disch := first | omega | (simp only [go_sem]; omega)) only [go_sem, ↓reduceIte, Nat.reduceEqDiff, Nat.reduceAdd, Nat.reduceMul, Nat.zero_add, Nat.add_zero, reduceCtorEq, Int.reduceNeg]
        refine Br.dec (fun h3 => ?_) (fun h3 => ?_)
        · have hf := filled_length (.int .u8 32) (.int .u8 0) hi
          simp (disch := first | omega | (simp only [go_sem]; omega)) only [go_sem, ↓reduceIte, Nat.reduceEqDiff, Nat.reduceAdd, Nat.reduceMul, Nat.zero_add, Nat.add_zero, reduceCtorEq, Int.reduceNeg, hf]
          refine ⟨i + 1, by omega, ?_, by omega, by omega⟩
          rw [filled_set _ _ (by omega)]
          exact Sub.refl _
        · have h4 : i = 65535 + q := by omega
          subst h4
          rw [filled_all]
          have e1 : ∀ n c, readN (List.replicate n c) n = some (List.replicate n c) := fun n c => by simp [readN]
          have e2 : bytesOf (List.replicate (65535 + q) (.int .u8 32)) = some (List.replicate (65535 + q) (UInt8.ofNat 32)) := bytesOf_replicate 32 _
          have hd : (dig e).length ≤ 1000 := by unfold dig; split <;> simp
          have hz1 : (e : Int) ≠ 0 → PC Tryz.prog 13 [.int .i64 e] (.str (dig e)) := fun h => itoa_pc e (by omega) (by omega)
          have hz2 : (e : Int) ≠ 0 → PC Tryz.prog 14 [.int .i64 e] (.str (dig e)) := fun h => number_pc e (by omega) (by omega)
          have hl := line_pc e t (dig e) (by omega) hd hz1
          have ha := answer_pc e t (dig e) (by omega) hd hz2
          simp (disch := first | omega | (simp only [go_sem]; omega)) only [go_sem, ↓reduceIte, Nat.reduceEqDiff, Nat.reduceAdd, Nat.reduceMul, Nat.zero_add, Nat.add_zero, reduceCtorEq, Int.reduceNeg, e1, e2]
          by_cases hq3 : q = 2
          · subst hq3
            refine PC.go (v := .tup [.str [], .int .i64 7]) (fun h n => (play_b2 h n).ofTxt) ?_
            simp (disch := first | omega | (simp only [go_sem]; omega)) only [go_sem, ↓reduceIte, Nat.reduceEqDiff, Nat.reduceAdd, Nat.reduceMul, Nat.zero_add, Nat.add_zero, reduceCtorEq, Int.reduceNeg]
            refine wDrw.by tokT mixedOk [(0, none), (2, none), (1, some [2]), (3, some [0]), (4, none), (5, none), (6, none), (7, none), (8, none), (9, none), (10, none), (11, none), (12, none), (13, none)] (by kernel_rfl) ?_
            simp (disch := first | omega | (simp only [go_sem]; omega)) only [go_sem, ↓reduceIte, Nat.reduceEqDiff, Nat.reduceAdd, Nat.reduceMul, Nat.zero_add, Nat.add_zero, reduceCtorEq, Int.reduceNeg]
            refine hl.go ?_
            simp (disch := first | omega | (simp only [go_sem]; omega)) only [go_sem, ↓reduceIte, Nat.reduceEqDiff, Nat.reduceAdd, Nat.reduceMul, Nat.zero_add, Nat.add_zero, reduceCtorEq, Int.reduceNeg]
            refine ha.go ?_
            simp (disch := first | omega | (simp only [go_sem]; omega)) only [go_sem, ↓reduceIte, Nat.reduceEqDiff, Nat.reduceAdd, Nat.reduceMul, Nat.zero_add, Nat.add_zero, reduceCtorEq, Int.reduceNeg]
          · refine PC.go (v := .tup [.str [101, 114, 114, 111, 114, 32, 55, 10], .int .i64 0]) (fun h n => ?_) ?_
            · have : q = 0 ∨ q = 1 := by omega
              rcases this with rfl | rfl
              · exact (play_b0 h n).ofTxt
              · exact (play_b1 h n).ofTxt
            · simp (disch := first | omega | (simp only [go_sem]; omega)) only [go_sem, ↓reduceIte, Nat.reduceEqDiff, Nat.reduceAdd, Nat.reduceMul, Nat.zero_add, Nat.add_zero, reduceCtorEq, Int.reduceNeg]
              refine wDrw.by tokT mixedOk [(0, none), (2, none), (1, some [2]), (3, some [0]), (4, none), (5, none), (6, none), (8, none), (7, some [0, 2]), (9, some [0, 2]), (10, none), (11, none), (12, none), (13, none), (14, none), (15, none), (16, none), (17, none), (18, none), (19, none), (20, none), (21, none)] (by kernel_rfl) ?_
              simp (disch := first | omega | (simp only [go_sem]; omega)) only [go_sem, ↓reduceIte, Nat.reduceEqDiff, Nat.reduceAdd, Nat.reduceMul, Nat.zero_add, Nat.add_zero, reduceCtorEq, Int.reduceNeg]
              refine hl.go ?_
              simp (disch := first | omega | (simp only [go_sem]; omega)) only [go_sem, ↓reduceIte, Nat.reduceEqDiff, Nat.reduceAdd, Nat.reduceMul, Nat.zero_add, Nat.add_zero, reduceCtorEq, Int.reduceNeg]
              refine ha.go ?_
              simp (disch := first | omega | (simp only [go_sem]; omega)) only [go_sem, ↓reduceIte, Nat.reduceEqDiff, Nat.reduceAdd, Nat.reduceMul, Nat.zero_add, Nat.add_zero, reduceCtorEq, Int.reduceNeg]
              refine (steps_pc r (by omega)).go ?_
              simp (disch := first | omega | (simp only [go_sem]; omega)) only [go_sem, ↓reduceIte, Nat.reduceEqDiff, Nat.reduceAdd, Nat.reduceMul, Nat.zero_add, Nat.add_zero, reduceCtorEq, Int.reduceNeg]
              refine (lines_pc r (by omega)).go ?_
              rw [lines_steps]
              simp (disch := first | omega | (simp only [go_sem]; omega)) only [go_sem, ↓reduceIte, Nat.reduceEqDiff, Nat.reduceAdd, Nat.reduceMul, Nat.zero_add, Nat.add_zero, reduceCtorEq, Int.reduceNeg]
end Go.Proofs.YtnjhpjiahjjjkaaGreatDoor
