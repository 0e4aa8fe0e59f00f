/- For every input the law TranscriptLines returns true and leaves its arguments as they were; the variables of the library that its road names are tied to the program's text. Condition: those variables start as the text lays them. -/
import Derived.Test.YtnjhpjiahjjjkaaGreatDoorTlF
import Derived.Test.YtnjhpjiahjjjkaaGreatDoorTieOwn
import Derived.Test.YtnjhpjiahjjjkaaGreatDoorCards
set_option linter.unusedSimpArgs false
set_option linter.unusedVariables false
namespace Go.Proofs.YtnjhpjiahjjjkaaGreatDoor
open Go
theorem pin_first : Tryz.pinned.checked.prog.pinnedFits "unicode/utf8.first" = true := by kernel_rfl
theorem ownSafe : Tryz.pinned.checked.prog.headLifts.contains "ownunsafe" = false := by kernel_rfl
theorem fitsAll : Tryz.pinned.checked.prog.listedFits [("unicode/utf8.first", Rows.laid_unicode_utf8_first), ("unicode/utf8.acceptRanges", Rows.laid_unicode_utf8_acceptRanges), ("strconv.ErrSyntax", Rows.laid_strconv_ErrSyntax), ("strconv.ErrRange", Rows.laid_strconv_ErrRange), ("internal/strconv.uint64pow10", Rows.laid_internal_strconv_uint64pow10), ("math/bits.deBruijn32tab", Rows.laid_math_bits_deBruijn32tab), ("math/bits.deBruijn64tab", Rows.laid_math_bits_deBruijn64tab)] = true := by
  unfold Program.listedFits
  rw [ownSafe]
  kernel_rfl
theorem row_tie : Rows.transcriptLinesRow.laidByTextAt .later Tryz.pinned [.pinned, .data, .sentinel, .sentinel, .data, .data, .data] true :=
  OpenClaim.laidByTextAt_pinned rfl rfl own_tie rfl rfl rfl rfl (fun y hy _e => by
    simp only [Rows.transcriptLinesRow, List.zip_cons_cons, List.zip_nil_right, List.mem_cons, List.mem_nil_iff, or_false] at hy
    rcases hy with rfl | rfl | rfl | rfl | rfl | rfl | rfl
    · exact ⟨pin_first, by kernel_rfl⟩
    · cases _e
    · cases _e
    · cases _e
    · cases _e
    · cases _e
    · cases _e) fitsAll
theorem fn3 : Tryz.prog.funcNamed "exactreal/exactreallaw38.TranscriptLines" = some 3 := by kernel_rfl
theorem noStand : ([9, 3, 9, 3].all fun u => !Tryz.prog.wantsStandIn u) = true := by kernel_rfl
theorem looks_all : true = Tryz.prog.looks [] :=
  (List.any_eq_true.2 ⟨340, List.mem_range.2 (of_decide_eq_true (by as_aux_lemma => kernel_rfl)), by as_aux_lemma => kernel_rfl⟩).symm
theorem goes0 : ((Tryz.prog.funcs.toList.take 200).any Func.goes) = false := by kernel_rfl
theorem goes1 : (((Tryz.prog.funcs.toList.drop 200).take 200).any Func.goes) = false := by kernel_rfl
theorem goes2 : ((Tryz.prog.funcs.toList.drop 400).any Func.goes) = false := by kernel_rfl
theorem goes_none : Tryz.prog.funcs.toList.any Func.goes = false := by
  have h1 : Tryz.prog.funcs.toList.drop 200 = ((Tryz.prog.funcs.toList.drop 200).take 200) ++ Tryz.prog.funcs.toList.drop 400 := by
    have := List.take_append_drop 200 (Tryz.prog.funcs.toList.drop 200)
    rw [List.drop_drop] at this
    exact this.symm
  have h0 := List.take_append_drop 200 Tryz.prog.funcs.toList
  rw [← h0, h1, List.any_append, List.any_append, goes0, goes1, goes2]
  rfl
theorem goes_at (P : Program) (h : P.funcs.toList.any Func.goes = false) (f : FuncId) : P.goes f = false := by
  have h2 : P.funcs.any Func.goes = false := by rw [← Array.any_toList]; exact h
  have h3 : ∀ g : FuncId, (P.funcs[g]?).any Func.goes = false := by
    intro g
    cases hg : P.funcs[g]? with
    | none => rfl
    | some fn =>
      have hm : fn ∈ P.funcs.toList := by
        have := Array.mem_of_getElem? hg
        simpa using this
      have := List.any_eq_false.1 h fn hm
      simpa using this
  unfold Program.goes
  rw [h2, Bool.and_false, Bool.or_false]
  exact List.any_eq_false.2 fun g _ => by rw [h3 g]; simp
theorem goesBy_none (P : Program) (c : OpenClaim) (hs : c.start = .entering) (h : P.funcs.toList.any Func.goes = false) : c.goesBy P = false := by
  unfold OpenClaim.goesBy Program.goesAt Program.goesFrom
  rw [hs]
  cases P.funcNamed c.func with
  | none => rfl
  | some g => simp [goes_at P h g]
theorem goes_by : false = Rows.transcriptLinesRow.goesBy Tryz.prog := (goesBy_none Tryz.prog Rows.transcriptLinesRow rfl goes_none).symm
theorem wfText : Rows.transcriptLinesRow.wfByText (OpenSpec.ofChange Rows.transcriptLinesSpec) = true := by kernel_rfl
theorem mainIs_ : Tryz.pinned.checked.prog.mainIs = some (true, "35a5af7925ca30238a87bdf6436f3ccaa8f3d93a310e8c7d4b25e83484acfe50".toList) := by kernel_rfl
theorem card_holds : Rows.TranscriptLinesCardSaid :=
  Claim7.holds_tied_plain_at .later [] [.pinned, .data, .sentinel, .sentinel, .data, .data, .data] true (true, "35a5af7925ca30238a87bdf6436f3ccaa8f3d93a310e8c7d4b25e83484acfe50") true
    law_holds (fun _ h => by cases h) wfText (fun _ h => by cases h) row_tie rfl ⟨rfl, rfl⟩ mainIs_ rfl
    (fun f fn hf hfn => by
      obtain rfl : f = 3 := Option.some.inj (fn3.symm.trans hf) |>.symm
      obtain rfl : fn = Tryz.f3 := (Option.some.inj (Tryz.func3.symm.trans hfn)).symm
      exact ⟨looks_all, fun j t ht => by
        rw [Tryz.params3] at ht
        have hm : t ∈ [9, 3, 9, 3] := by simpa using Array.mem_of_getElem? ht
        exact (show Tryz.prog.wantsStandIn t = false by simpa using List.all_eq_true.1 noStand t hm)⟩)
    goes_by
end Go.Proofs.YtnjhpjiahjjjkaaGreatDoor
