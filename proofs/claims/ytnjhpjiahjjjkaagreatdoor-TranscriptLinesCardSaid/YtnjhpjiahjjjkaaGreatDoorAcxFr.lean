/- Acx, part 2: frames, operands, what types say. -/
import Derived.Test.YtnjhpjiahjjjkaaGreatDoorAcxVal
import Derived.WalkKit
namespace Go.Acx

abbrev Fr := Nat → Option AV
def Fr.set (f : Fr) (d : Nat) (v : AV) : Fr := fun t => if t = d then some v else f t
def Fr.clear (f : Fr) (d : Nat) : Fr := fun t => if t = d then none else f t

structure FR (κ : Kap) (m : Nat) (f : Fr) (a : Act) : Prop where
  size : a.tmps.size = m
  has : ∀ t v, f t = some v → ∃ x, a.tmps[t]? = some x ∧ VR κ v x
  defers : a.defers = []

theorem FR.ext {κ κ' : Kap} {m : Nat} {f : Fr} {a : Act} (e : Ext κ κ') (r : FR κ m f a) : FR κ' m f a :=
  ⟨r.size, fun t v h => let ⟨x, hx, hv⟩ := r.has t v h; ⟨x, hx, hv.ext e⟩, r.defers⟩

theorem FR.put {κ : Kap} {m : Nat} {f : Fr} {a : Act} (r : FR κ m f a) {d : Nat} (hd : d < m) {v : AV} {x : Value} (h : VR κ v x) :
    FR κ m (f.set d v) (a.put (some d) x) where
  size := by simp [Act.put, r.size]
  has := fun t u ht => by
    by_cases htd : t = d
    · subst htd
      simp only [Fr.set, if_true, Option.some.injEq] at ht
      subst ht
      exact ⟨x, by simp [Act.put, r.size, hd], h⟩
    · simp only [Fr.set, htd, if_false] at ht
      obtain ⟨y, hy, hv⟩ := r.has t u ht
      exact ⟨y, by simp only [Act.put]; rw [Array.getElem?_setIfInBounds_ne (Ne.symm htd)]; exact hy, hv⟩
  defers := by simp [Act.put, r.defers]

theorem FR.lose {κ : Kap} {m : Nat} {f : Fr} {a : Act} (r : FR κ m f a) (d : Nat) (x : Value) : FR κ m (f.clear d) (a.put (some d) x) where
  size := by simp [Act.put, r.size]
  has := fun t u ht => by
    by_cases htd : t = d
    · simp [Fr.clear, htd] at ht
    · simp only [Fr.clear, htd, if_false] at ht
      obtain ⟨y, hy, hv⟩ := r.has t u ht
      exact ⟨y, by simp only [Act.put]; rw [Array.getElem?_setIfInBounds_ne (Ne.symm htd)]; exact hy, hv⟩
  defers := by simp [Act.put, r.defers]

def scalarA : Value → Option AV
  | .bool b => some (.bool b)
  | .int k n => some (.int k n)
  | .string s => some (.str s.data.toList)
  | .pointer none => some .nilp
  | .slice none 0 0 => some .nils
  | .map none => some .nilm
  | .nilFunc => some .nilf
  | .nilIface => some .nili
  | _ => none

def scalarsA : List Value → Option (List AV)
  | [] => some []
  | x :: xs => match scalarA x, scalarsA xs with
    | some v, some vs => some (v :: vs)
    | _, _ => none

def constA : Value → Option AV
  | .agg cs => (scalarsA cs.toList).map .agg
  | .tuple cs => (scalarsA cs.toList).map .tup
  | v => scalarA v

theorem scalarA_ok {κ : Kap} {x : Value} {v : AV} (h : scalarA x = some v) : VR κ v x := by
  unfold scalarA at h
  split at h <;> cases h
  · exact .bool _
  · exact .int _ _
  · exact .str _ _ rfl
  · exact .nilp
  · exact .nils
  · exact .nilm
  · exact .nilf
  · exact .nili

theorem scalarsA_ok {κ : Kap} : ∀ {xs : List Value} {vs : List AV}, scalarsA xs = some vs → VRs κ vs xs
  | [], vs, h => by cases h; exact .nil
  | x :: xs, vs, h => by
    simp only [scalarsA] at h
    split at h
    · rename_i v vs' hv hvs
      cases h
      exact .cons _ _ _ _ (scalarA_ok hv) (scalarsA_ok hvs)
    · cases h

theorem constA_ok {κ : Kap} {x : Value} {v : AV} (h : constA x = some v) : VR κ v x := by
  cases x with
  | agg cs =>
    simp only [constA, Option.map_eq_some_iff] at h
    obtain ⟨l, hl, rfl⟩ := h
    exact .agg _ _ (scalarsA_ok hl)
  | tuple cs =>
    simp only [constA, Option.map_eq_some_iff] at h
    obtain ⟨l, hl, rfl⟩ := h
    exact .tup _ _ (scalarsA_ok hl)
  | _ => exact scalarA_ok h

def evalA (f : Fr) : Operand → Option AV
  | .tmp t => f t
  | .const v => constA v
  | .func g => some (.fn (.func g) [] [])
  | .global _ => none

theorem evalA_ok {κ : Kap} {m : Nat} {f : Fr} {a : Act} (r : FR κ m f a) {x : Operand} {v : AV} (h : evalA f x = some v) : VR κ v (a.eval x) := by
  cases x with
  | tmp t =>
    obtain ⟨y, hy, hv⟩ := r.has t v h
    simp only [Act.eval, Array.getD_eq_getD_getElem?, hy, Option.getD_some]
    exact hv
  | const c => exact constA_ok h
  | func g => cases h; exact .fn _ _ _ _ _ .nil .nil
  | global g => cases h

def evalsA (f : Fr) : List Operand → Option (List AV)
  | [] => some []
  | x :: xs => match evalA f x, evalsA f xs with
    | some v, some vs => some (v :: vs)
    | _, _ => none

theorem evalsA_ok {κ : Kap} {m : Nat} {f : Fr} {a : Act} (r : FR κ m f a) : ∀ {xs : List Operand} {vs : List AV}, evalsA f xs = some vs → VRs κ vs (xs.map a.eval)
  | [], vs, h => by cases h; exact .nil
  | x :: xs, vs, h => by
    simp only [evalsA] at h
    split at h
    · rename_i v vs' hv hvs
      cases h
      exact .cons _ _ _ _ (evalA_ok r hv) (evalsA_ok r hvs)
    · cases h

def cellsA : AV → List AV
  | .agg cs => cs
  | v => [v]

def isCell : AV → Bool
  | .agg _ | .tup _ => false
  | _ => true

theorem cellsA_of {v : AV} (h : isCell v = true) : cellsA v = [v] := by cases v <;> first | rfl | simp [isCell] at h

/-- What the calculus asks of a type. -/
structure TyI where
  desc : TypeDesc
  size : Nat
  bytes : Nat
  zero : List AV
  flat : Bool

abbrev Tys := TypeId → Option TyI

def aggD : TypeDesc → Bool
  | .struct _ | .array _ _ => true
  | _ => false

structure TOK (P : Program) (T : Tys) : Prop where
  und : ∀ t i, T t = some i → P.underlying t = some i.desc
  info : ∀ t i, T t = some i → ∃ x z, P.info? t = some x ∧ x.size = i.size ∧ x.bytes = i.bytes ∧ x.zero = some z ∧ constA z = some (if aggD i.desc then .agg i.zero else i.zero.headD .nilp) ∧
    (aggD i.desc = false → ∃ v, i.zero = [v] ∧ isCell v = true) ∧ i.zero.length = i.size
  flat : ∀ t i, T t = some i → i.flat = true → P.stoodInHeld t = false ∧ P.eqGuardType P.depth t = false

/-- How the type table is checked: row by row, by computing. -/
def tyRow (P : Program) (t : TypeId) : Option TyI :=
  match P.underlying t, P.info? t with
  | some d, some x => match x.zero with
    | some z => match constA z with
      | some (.agg l) => if aggD d && l.length == x.size then some ⟨d, x.size, x.bytes, l, !P.stoodInHeld t && !P.eqGuardType P.depth t⟩ else none
      | some (.tup _) => none
      | some v => if !aggD d && x.size == 1 && isCell v then some ⟨d, x.size, x.bytes, [v], false⟩ else none
      | none => none
    | none => none
  | _, _ => none

theorem tyRow_ok (P : Program) : TOK P (tyRow P) where
  und := fun t i h => by
    unfold tyRow at h
    split at h <;> try (cases h; done)
    rename_i d x hd hx
    split at h <;> try (cases h; done)
    split at h <;> try (cases h; done)
    all_goals (split at h <;> cases h; exact hd)
  info := fun t i h => by
    unfold tyRow at h
    split at h <;> try (cases h; done)
    rename_i d x hd hx
    split at h <;> try (cases h; done)
    rename_i z hz
    split at h <;> try (cases h; done)
    · rename_i l hl
      split at h <;> cases h
      rename_i hc
      simp only [Bool.and_eq_true, beq_iff_eq] at hc
      exact ⟨x, z, hx, rfl, rfl, hz, by simp [hl, hc.1], fun hn => by simp [hc.1] at hn, hc.2⟩
    · rename_i v hna hnt hv
      split at h <;> cases h
      rename_i hc
      simp only [Bool.and_eq_true, Bool.not_eq_true', beq_iff_eq] at hc
      exact ⟨x, z, hx, rfl, rfl, hz, by simp [hv, hc.1.1], fun _ => ⟨v, rfl, hc.2⟩, by simp [hc.1.2]⟩
  flat := fun t i h hf => by
    unfold tyRow at h
    split at h <;> try (cases h; done)
    rename_i d x hd hx
    split at h <;> try (cases h; done)
    rename_i z hz
    split at h <;> try (cases h; done)
    · split at h <;> cases h
      simpa using hf
    · split at h <;> cases h
      cases hf

end Go.Acx
