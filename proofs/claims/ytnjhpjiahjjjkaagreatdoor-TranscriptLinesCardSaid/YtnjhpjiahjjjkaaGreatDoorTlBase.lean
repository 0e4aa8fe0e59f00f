/- The seat's types, as the walker asks for them. -/
import Derived.Test.YtnjhpjiahjjjkaaGreatDoorProg
import Derived.Test.YtnjhpjiahjjjkaaGreatDoorAcxS3
import Derived.KernelRfl
set_option linter.unusedSimpArgs false
set_option linter.unusedVariables false
namespace Go.Proofs.YtnjhpjiahjjjkaaGreatDoor
open Go Go.Acx
noncomputable def TT : Tys := tyRow Tryz.prog
theorem tokT : TOK Tryz.prog TT := tyRow_ok _
@[go_sem] theorem buT26 : buT TT 26 = some (some [(0, 1), (1, 1)], 0, [.int .i64 0, .str []]) := by kernel_rfl
@[go_sem] theorem cvT27_9 : cvT TT 27 9 = some .bytes := by kernel_rfl
@[go_sem] theorem eT27 : eT TT 27 = some (1, 1, [.int .u8 0], 5) := by kernel_rfl
@[go_sem] theorem eT32 : eT TT 32 = some (1, 16, [.str []], 9) := by kernel_rfl
@[go_sem] theorem faT26_0 : faT TT 26 0 = some 0 := by kernel_rfl
@[go_sem] theorem faT26_1 : faT TT 26 1 = some 1 := by kernel_rfl
@[go_sem] theorem inT9 : inT TT 9 = some none := by kernel_rfl
@[go_sem] theorem ixT27 : ixT TT 27 = some (none, 1) := by kernel_rfl
@[go_sem] theorem ldT23 : ldT TT 23 = some none := by kernel_rfl
@[go_sem] theorem ldT26 : ldT TT 26 = some (some 2) := by kernel_rfl
@[go_sem] theorem ldT9 : ldT TT 9 = some none := by kernel_rfl
@[go_sem] theorem lnT27 : lnT TT 27 = some .sl := by kernel_rfl
@[go_sem] theorem lnT32 : lnT TT 32 = some .sl := by kernel_rfl
@[go_sem] theorem lnT9 : lnT TT 9 = some .str := by kernel_rfl
@[go_sem] theorem slT9 : slT TT 9 = some .str := by kernel_rfl
@[go_sem] theorem szT26 : szT TT 26 = some 2 := by kernel_rfl
@[go_sem] theorem szT5 : szT TT 5 = some 1 := by kernel_rfl
@[go_sem] theorem zT26 : zT TT 26 = some ([.int .i64 0, .str []], 2) := by kernel_rfl
end Go.Proofs.YtnjhpjiahjjjkaaGreatDoor
