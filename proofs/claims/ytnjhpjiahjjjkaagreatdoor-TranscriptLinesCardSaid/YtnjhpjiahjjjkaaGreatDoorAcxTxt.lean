/- Acx, part 23: a string of one byte over and over, written out or not. -/
import Derived.Test.YtnjhpjiahjjjkaaGreatDoorAcxExt
namespace Go.Acx

variable {P : Program} {κ : Kap}

theorem VR.asTxt {c n : Nat} {x : Value} (h : VR κ (.str (List.replicate n (UInt8.ofNat c))) x) : VR κ (.txt c n) x := by
  cases h with
  | str s t ht => exact .txt c n t ht

theorem ACalls.ofTxt {g : FuncId} {c n k : Nat} {h : Hp} {Q : AV → Hp → Nat → Prop} (hc : ACalls P g [.txt c n] h k Q) : ACalls P g [.str (List.replicate n (UInt8.ofNat c))] h k Q := by
  have key : ∀ κ vs, VRs κ [.str (List.replicate n (UInt8.ofNat c))] vs → VRs κ [.txt c n] vs := by
    intro κ vs hv
    cases hv with
    | cons _ x _ _ hx hs => cases hs; exact .cons _ _ _ _ hx.asTxt .nil
  rcases hc with ⟨hb, hc⟩ | hc
  · exact .inl ⟨hb, fun κ w vs h1 h2 h3 => hc κ w vs h1 h2 (key _ _ h3)⟩
  · exact .inr fun κ w vs h1 h2 h3 => hc κ w vs h1 h2 (key _ _ h3)

theorem bytesOf_replicate (c : Nat) : ∀ n, bytesOf (List.replicate n (.int .u8 (c : Int))) = some (List.replicate n (UInt8.ofNat c))
  | 0 => rfl
  | n + 1 => by
    simp only [List.replicate_succ, bytesOf, bytesOf_replicate c n, Option.map_some]
    rfl

end Go.Acx
