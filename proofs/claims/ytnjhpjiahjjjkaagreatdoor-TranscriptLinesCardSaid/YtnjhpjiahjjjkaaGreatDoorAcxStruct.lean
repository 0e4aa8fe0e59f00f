/- Acx, part 9b: equality of structs. -/
import Derived.Test.YtnjhpjiahjjjkaaGreatDoorAcxMap
import Derived.Laws.StructEq
namespace Go.Acx

variable {P : Program} {T : Tys} {κ : Kap}

def eqFieldsA (T : Tys) (xs ys : List AV) : List Field → Option Bool
  | [] => some true
  | f :: fs => if f.name ≠ "_" then (match partA T f.type xs f.offset, partA T f.type ys f.offset with
    | some a, some b => (match eqA T 1 f.type a b with
      | some true => eqFieldsA T xs ys fs
      | some false => some false
      | none => none)
    | _, _ => none) else none

def eqStructA (T : Tys) (op : BinOp) (t : TypeId) (xs ys : List AV) : Option AV :=
  match T t with
  | some i => if i.flat then (match i.desc with
    | .struct fs => (match eqFieldsA T xs ys fs.toList with
      | some r => (match op with
        | .eql => some (.bool r)
        | .neq => some (.bool !r)
        | _ => none)
      | none => none)
    | _ => none) else none
  | none => none

theorem eqFieldsA_ok (tok : TOK P T) {xs ys : List AV} {X Y : Array Value} (hx : VRs κ xs X.toList) (hy : VRs κ ys Y.toList) (d : Nat) (w : World) :
    ∀ {fs : List Field} {r : Bool}, eqFieldsA T xs ys fs = some r → (Op.eqFields (d + 1) X Y fs).run P w = .ok r w
  | [], r, e => by cases e; rfl
  | f :: fs, r, e => by
    simp only [eqFieldsA] at e
    split at e <;> try (cases e; done)
    rename_i hn
    split at e <;> try (cases e; done)
    rename_i a b ha hb
    obtain ⟨x, hxr, hxv⟩ := partA_ok (P := P) tok hx ha w
    obtain ⟨y, hyr, hyv⟩ := partA_ok (P := P) tok hy hb w
    simp only [Op.eqFields, hn, ne_eq, not_false_eq_true, if_true, Sem.run_bind, hxr, Result.andThen_ok, hyr]
    split at e
    · rename_i he
      rw [eqA_ok' (P := P) tok hxv hyv he w d]
      simp only [Result.andThen_ok, Bool.not_true, Bool.false_eq_true, if_false]
      exact eqFieldsA_ok tok hx hy d w e
    · rename_i he
      cases e
      rw [eqA_ok' (P := P) tok hxv hyv he w d]
      simp only [Result.andThen_ok, Bool.not_false, if_true, Sem.run_pure]
    · cases e

theorem eqStructA_ok (tok : TOK P T) {op : BinOp} {t : TypeId} {xs ys : List AV} {X Y : Array Value} (hx : VRs κ xs X.toList) (hy : VRs κ ys Y.toList) {v : AV}
    (e : eqStructA T op t xs ys = some v) (xo yo : Operand) (w : World) :
    (eqGuard op t xo yo (.agg X) (.agg Y)).run P w = .ok () w ∧ ∃ z, (binOp op t (.agg X) (.agg Y)).run P w = .ok z w ∧ VR κ v z := by
  unfold eqStructA at e
  split at e <;> try (cases e; done)
  rename_i i hi
  split at e <;> try (cases e; done)
  rename_i hfl
  obtain ⟨hst, hgu⟩ := tok.flat t i hi hfl
  split at e <;> try (cases e; done)
  rename_i fs hdesc
  split at e <;> try (cases e; done)
  rename_i r hr
  refine ⟨run_eqGuard_agg w op t xo yo X Y hgu, ?_⟩
  have hu := tok.und t i hi
  rw [hdesc] at hu
  have hfo : P.fieldsOf t = fs := by simp only [Program.fieldsOf, hu]
  have hs : (Op.equalIn 10000 t (.agg X) (.agg Y)).run P w = .ok r w := by
    rw [run_equalIn_struct w 9999 t X Y (by rw [hfo]; exact hu) hst, hfo]
    exact eqFieldsA_ok tok hx hy 9998 w hr
  split at e <;> cases e
  · exact ⟨_, by rw [run_eql_struct, hs]; rfl, .bool _⟩
  · exact ⟨_, by rw [run_neq_struct, hs]; rfl, .bool _⟩

end Go.Acx
