/- Acx, part 34: from a contract of plain values to a call of the model. -/
import Derived.Test.YtnjhpjiahjjjkaaGreatDoorAcxS5
import GoSem.ClaimChange
namespace Go.Acx

variable {P : Program}

/-- A context with nothing in it. -/
def Kap.empty : Kap := { ρ := fun _ => 0, I := fun _ => none, n := 0, sz := fun _ => 0, es := fun _ => 0 }

theorem kept_of_step {κ κ' : Kap} {h : Hp} {W w' : World} (st : Step κ Hp.none W κ' h w') : W.keptBut w' (fun _ => False) := by
  refine ⟨st.os.1, st.os.2, fun i hi => ?_⟩
  rw [st.keep i hi (fun ⟨_, _, e, _⟩ => by cases e)]
  cases W.heap[i]? with
  | none => rfl
  | some o => cases o with
    | cells c t fr => exact ⟨rfl, rfl, rfl, fun _ _ => rfl⟩
    | map es clock => exact .inr ⟨rfl, rfl⟩
    | _ => rfl

theorem PC.calls {g : FuncId} {args : List AV} {v : AV} (hb : bodied P g) (hc : PC P g args v) {vs : List Value} (hvs : VRs Kap.empty args vs) {x : Value} (hx : ∀ κ y, VR κ v y → y = x) (W : World) :
    Calls P g vs.toArray W fun e w' => e = .returned x ∧ W.keptBut w' (fun _ => False) := by
  have hh : HR Kap.empty Hp.none W := ⟨(fun _ _ h => by cases h), (fun _ _ h => by cases h), (fun _ _ _ _ h => by cases h), (fun _ _ h => by cases h), (fun _ _ h => by cases h)⟩
  rcases hc Hp.none 0 with ⟨_, hc⟩ | hc
  · refine Calls.mono (hc Kap.empty W vs rfl hh hvs) fun e w' ⟨κ', r, h', y, ⟨hr, _, _⟩, he, hv, _, st⟩ => ?_
    subst hr
    exact ⟨by rw [he, hx _ _ hv], kept_of_step st⟩
  · obtain ⟨κ', r, h', y, w', _, hrun, _⟩ := hc Kap.empty W vs rfl hh hvs
    rw [hb.enter] at hrun
    cases hrun

end Go.Acx
