/- Acx, part 7: one operation that calls nothing. -/
import Derived.Test.YtnjhpjiahjjjkaaGreatDoorAcxPure3
namespace Go.Acx

variable {P : Program} {κ : Kap} {h : Hp} {w : World} {T : Tys} {m : Nat} {f : Fr} {a : Act}

def nilOk : AV → Bool
  | .ptr _ _ | .iptr _ | .iface _ _ => true
  | .fn (.func _) _ _ => true
  | .fn (.via _ _ _ _) _ _ => true
  | .fn (.methodOf _ _) _ _ => true
  | _ => false

theorem nilOk_ok {v : AV} {x : Value} (hv : VR κ v x) (e : nilOk v = true) (o : Oper) (xo : Operand) (ho : o.op = .nilCheck xo) (ρ : Operand → Value) (hx : ρ xo = x) (w : World) :
    (execOp ρ o).run P w = .ok (.value x) w := by
  unfold execOp
  rw [ho]
  simp only [hx]
  unfold nilOk at e
  split at e <;> try (cases e; done)
  all_goals (cases hv; rfl)

def placesA (T : Tys) : List Field → Option (List (Nat × Nat))
  | [] => some []
  | f :: fs => match T f.type, placesA T fs with
    | some j, some l => some ((f.offset, j.size) :: l)
    | _, _ => none

theorem placesA_ok (tok : TOK P T) : ∀ {fs : List Field} {l : List (Nat × Nat)}, placesA T fs = some l → fs.mapM (fun f => (P.info? f.type).map fun i => (f.offset, i.size)) = some l
  | [], _, e => by cases e; rfl
  | f :: fs, _, e => by
    simp only [placesA] at e
    split at e <;> cases e
    rename_i j l hj hl
    obtain ⟨inf, z, hinf, hs, _⟩ := tok.info _ _ hj
    simp [List.mapM_cons, hinf, placesA_ok tok hl, hs]

def buildA (T : Tys) (t : TypeId) (ps : List (Nat × AV)) : Option AV :=
  match T t with
  | some i => match i.desc with
    | .struct fs => match placesA T fs.toList with
      | some l => (fillA (fun k => l[k]?) i.zero ps).map .agg
      | none => none
    | .array _ el => match T el with
      | some j => (fillA (fun k => some (k * j.size, j.size)) i.zero ps).map .agg
      | none => none
    | _ => none
  | none => none

def pairsA (f : Fr) : List (Nat × Operand) → Option (List (Nat × AV))
  | [] => some []
  | (i, x) :: l => match evalA f x, pairsA f l with
    | some v, some vs => some ((i, v) :: vs)
    | _, _ => none

theorem pairsA_ok (r : FR κ m f a) : ∀ {l : List (Nat × Operand)} {ps : List (Nat × AV)}, pairsA f l = some ps →
    ps.map (·.1) = (l.map fun (i, x) => (i, a.eval x)).map (·.1) ∧ VRs κ (ps.map (·.2)) ((l.map fun (i, x) => (i, a.eval x)).map (·.2))
  | [], _, e => by cases e; exact ⟨rfl, .nil⟩
  | (i, x) :: l, ps, e => by
    simp only [pairsA] at e
    split at e <;> cases e
    rename_i v vs hv hvs
    obtain ⟨h1, h2⟩ := pairsA_ok r hvs
    exact ⟨by simp [h1], .cons _ _ _ _ (evalA_ok r hv) h2⟩

theorem run_zeroCells (tok : TOK P T) {t : TypeId} {i : TyI} (ht : T t = some i) (w : World) : ∃ z, (zeroValue t).run P w = .ok z w ∧ VRs κ i.zero z.cells.toList ∧
    VR κ (if aggD i.desc then .agg i.zero else i.zero.headD .nilp) z := by
  obtain ⟨inf, z, hinf, hs, hb, hz, hc, h1, h2⟩ := tok.info _ _ ht
  refine ⟨z, by simp [zeroValue, run_info hinf, hz], ?_, constA_ok hc⟩
  have := (constA_ok (κ := κ) hc).cells
  cases hd : aggD i.desc
  · rw [hd] at this
    obtain ⟨v, hv, hcell⟩ := h1 hd
    rw [hv] at this ⊢
    simp only [Bool.false_eq_true, if_false, List.headD_cons, cellsA_of hcell] at this
    exact this
  · rw [hd] at this; simpa [cellsA] using this

theorem buildA_ok (tok : TOK P T) {t : TypeId} {ps : List (Nat × AV)} {qs : Array (Nat × Value)} (h1 : ps.map (·.1) = qs.toList.map (·.1)) (h2 : VRs κ (ps.map (·.2)) (qs.toList.map (·.2)))
    {u : AV} (e : buildA T t ps = some u) (w : World) : ∃ y, (Instr.build t qs).run P w = .ok y w ∧ VR κ u y := by
  unfold buildA at e
  split at e <;> try (cases e; done)
  rename_i i hi
  have ui := tok.und _ _ hi
  obtain ⟨inf, z, hinf, hs, hb, hz, hc, _⟩ := tok.info _ _ hi
  obtain ⟨z', hz', hzc, _⟩ := run_zeroCells (κ := κ) tok hi w
  have : z' = z := by
    have h3 : (zeroValue t).run P w = .ok z w := by simp [zeroValue, run_info hinf, hz]
    rw [h3] at hz'; cases hz'; rfl
  subst this
  split at e <;> try (cases e; done)
  · rename_i fs hd
    split at e <;> try (cases e; done)
    rename_i l hl
    rw [Option.map_eq_some_iff] at e
    obtain ⟨cs, hcs, rfl⟩ := e
    obtain ⟨O, hO, ho⟩ := fillA_ok h1 h2 hzc hcs
    refine ⟨.agg O, run_build w t qs O ?_, .agg _ _ ho⟩
    simp only [Program.built, hinf, ui, hd, hz, placesA_ok tok hl]
    simpa using hO
  · rename_i n el hd
    split at e <;> try (cases e; done)
    rename_i j hj
    rw [Option.map_eq_some_iff] at e
    obtain ⟨cs, hcs, rfl⟩ := e
    obtain ⟨O, hO, ho⟩ := fillA_ok h1 h2 hzc hcs
    obtain ⟨inf2, z2, hinf2, hs2, _⟩ := tok.info _ _ hj
    refine ⟨.agg O, run_build w t qs O ?_, .agg _ _ ho⟩
    simp only [Program.built, hinf, ui, hd, hz, hinf2, hs2]
    exact hO

end Go.Acx
