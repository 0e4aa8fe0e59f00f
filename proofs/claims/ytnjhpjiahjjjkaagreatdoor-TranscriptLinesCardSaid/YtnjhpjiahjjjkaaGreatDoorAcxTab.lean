/- Acx, part 26: tables of functions. -/
import Derived.Test.YtnjhpjiahjjjkaaGreatDoorAcxCount
namespace Go.Acx

variable {P : Program}

def look {α : Type} : List (Nat × α) → Nat → Option α
  | [], _ => none
  | (k, v) :: l, g => match Nat.beq k g with
    | true => some v
    | false => look l g

def AllOk (P : Program) : List (Nat × Func) → Prop
  | [] => True
  | p :: l => (P.funcs[p.1]? = some p.2 ∧ (p.2.name == "runtime.NumGoroutine") = false) ∧ AllOk P l

theorem look_ok : ∀ {l : List (Nat × Func)}, AllOk P l → ∀ g f, look l g = some f → P.funcs[g]? = some f ∧ (f.name == "runtime.NumGoroutine") = false
  | [], _, g, f, h => by cases h
  | (k, v) :: l, ok, g, f, h => by
    simp only [look] at h
    split at h
    · rename_i hb
      cases h
      have := Nat.eq_of_beq_eq_true hb
      subst this
      exact ok.1
    · exact look_ok ok.2 g f h

end Go.Acx
