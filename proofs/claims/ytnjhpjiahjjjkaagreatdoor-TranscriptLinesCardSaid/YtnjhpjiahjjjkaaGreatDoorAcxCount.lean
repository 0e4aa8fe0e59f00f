/- Acx, part 25: counting a byte in a string. -/
import Derived.Test.YtnjhpjiahjjjkaaGreatDoorAcxFill
import Derived.Lib.Bytealg
namespace Go.Acx

variable {P : Program}

/-- bytealg.CountString at any string. -/
theorem countString_ok {g : FuncId} {fn : Func} (hf : P.funcs[g]? = some fn) (hname : (fn.name == "runtime.NumGoroutine") = false) (hb : fn.body.isNone = true)
    (hn : Extern.findNext fn = none) (he : Extern.find fn = some Extern.BytealgCount.count) (l : List UInt8) (c : Int) (h : Hp) (n : Nat) :
    ACalls P g [.str l, .int .u8 c] h n fun r' h' n' => r' = .int .i64 (l.count c.toNat.toUInt8 : Nat) ∧ h' = h ∧ n' = n := by
  refine AExt.of_pure hf hname hb hn he (fun κ h w vs hr hv => ?_) h n
  cases hv with
  | cons _ x _ _ hx hxs =>
  cases hxs with
  | cons _ y _ _ hy hxs =>
  cases hxs
  cases hx
  cases hy
  rename_i s hs
  subst hs
  exact ⟨_, Lib.run_countString s c w, .int _ _⟩

end Go.Acx
