/- Acx, part 10: maps. -/
import Derived.Test.YtnjhpjiahjjjkaaGreatDoorAcxApp
namespace Go.Acx

variable {P : Program} {κ : Kap} {h : Hp} {w : World} {T : Tys}

def plainD : TypeDesc → Bool
  | .bool | .int _ | .string => true
  | _ => false

/-- May a value be a key: a number, a string, a bool, or a struct of such. -/
def keyA (T : Tys) (t : TypeId) (v : AV) : Bool :=
  match T t with
  | some i => match i.desc, v with
    | .bool, _ | .int _, _ | .string, _ => true
    | .struct fs, .agg cs => fs.toList.all fun f => match T f.type with
      | some j => plainD j.desc && (cs[f.offset]?).isSome
      | none => false
    | _, _ => false
  | none => false

theorem run_checkKey_plain {t : TypeId} {d : TypeDesc} (hu : P.underlying t = some d) (hp : plainD d = true) (b : Bool) (n : Nat) (x : Value) (w : World) :
    (Instr.checkKey b (n + 1) t x).run P w = .ok () w := by
  cases d <;> simp [plainD] at hp <;> simp [Instr.checkKey, run_underlying hu]

theorem keyA_ok (tok : TOK P T) {t : TypeId} {v : AV} {x : Value} (hv : VR κ v x) (e : keyA T t v = true) (b : Bool) (w : World) (n : Nat) : (Instr.checkKey b (n + 2) t x).run P w = .ok () w := by
  unfold keyA at e
  split at e <;> try (cases e; done)
  rename_i i hi
  have ui := tok.und _ _ hi
  split at e <;> try (cases e; done)
  · rename_i hd; exact run_checkKey_plain ui (by rw [hd]; rfl) b (n + 1) x w
  · rename_i hd; exact run_checkKey_plain ui (by rw [hd]; rfl) b (n + 1) x w
  · rename_i hd; exact run_checkKey_plain ui (by rw [hd]; rfl) b (n + 1) x w
  · rename_i fs cs hd
    cases hv
    rename_i C hC
    rw [Instr.checkKey]
    simp only [Sem.run_bind, run_underlying ui, hd, Result.andThen_ok]
    have key : ∀ (l : List Field), (l.all fun f => match T f.type with | some j => plainD j.desc && (cs[f.offset]?).isSome | none => false) = true →
        (forIn l PUnit.unit fun f (_ : PUnit) => (do
          if f.name ≠ "_" then do
            let a ← part f.type C f.offset
            Instr.checkKey b (n + 1) f.type a
            pure (ForInStep.yield PUnit.unit)
          else pure (ForInStep.yield PUnit.unit) : Sem (ForInStep PUnit))).run P w = .ok PUnit.unit w := by
      intro l
      induction l with
      | nil => intro _; simp
      | cons f l ih =>
        intro hl
        simp only [List.all_cons, Bool.and_eq_true] at hl
        obtain ⟨hf, hl⟩ := hl
        split at hf <;> try (cases hf; done)
        rename_i j hj
        simp only [Bool.and_eq_true] at hf
        obtain ⟨u, hu⟩ := Option.isSome_iff_exists.1 hf.2
        have hag : aggD j.desc = false := by
          have := hf.1
          cases hjd : j.desc <;> rw [hjd] at this <;> simp [plainD] at this <;> rfl
        obtain ⟨y, hy, _⟩ := partA_ok (P := P) tok hC (t := f.type) (off := f.offset) (u := u) (by unfold partA; simp only [hj, hag, Bool.false_eq_true, if_false]; exact hu) w
        have hck := run_checkKey_plain (tok.und _ _ hj) hf.1 b n y w
        simp only [List.forIn_cons, Sem.run_bind]
        by_cases hn : f.name = "_"
        · simp only [hn, ne_eq, not_true_eq_false, if_false, Sem.run_pure, Result.andThen_ok]
          exact ih hl
        · simp only [ne_eq, hn, not_false_eq_true, if_true, Sem.run_bind, hy, hck, Sem.run_pure, Result.andThen_ok]
          exact ih hl
    rw [← Array.forIn_toList]
    rw [key fs.toList e]
    rfl


/-- Whether two keys are one; of structs only where nothing has to be asked. -/
def sameA (d : TypeDesc) (a b : AV) : Option Bool :=
  match d, a, b with
  | .int _, .int k a, .int k' b => if k = k' then some (a == b) else none
  | .string, .str a, .str b => some (a == b)
  | .bool, .bool a, .bool b => some (a == b)
  | _, _, _ => none

theorem sameA_ok {d : TypeDesc} {a b : AV} {x y : Value} (ha : VR κ a x) (hb : VR κ b y) {r : Bool} (e : sameA d a b = some r) : Instr.sameNow d x y = some r := by
  unfold sameA at e
  split at e <;> try (cases e; done)
  · cases ha; cases hb; simpa [Instr.sameNow] using e
  · cases ha; cases hb
    rename_i s hs t ht
    cases e
    simp only [Instr.sameNow]
    rw [beq_toListBytes, toList_data, toList_data, hs, ht]
  · cases ha; cases hb; simpa [Instr.sameNow] using e

def findA (d : TypeDesc) (k : AV) : List (AV × AV) → Nat → Option (Option (Nat × AV))
  | [], _ => some none
  | (a, v) :: es, i => match sameA d k a with
    | some true => some (some (i, v))
    | some false => findA d k es (i + 1)
    | none => none

theorem findA_ok {d : TypeDesc} {k : AV} {x : Value} (hk : VR κ k x) : ∀ {es : List (AV × AV)} {E : List MapEntry} {i : Nat} {r : Option (Nat × AV)}, VRs κ (es.map (·.1)) (E.map (·.key)) →
    VRs κ (es.map (·.2)) (E.map (·.val)) → findA d k es i = some r →
    (r = none ∧ Instr.findNow d x E i = some none) ∨ (∃ j v y, r = some (j, v) ∧ Instr.findNow d x E i = some (some (j, y)) ∧ VR κ v y ∧ i ≤ j ∧ j < i + es.length)
  | [], [], i, r, _, _, e => by cases e; exact .inl ⟨rfl, rfl⟩
  | [], _ :: _, i, r, h1, _, _ => by cases h1
  | _ :: _, [], i, r, h1, _, _ => by cases h1
  | (a, v) :: es, E0 :: E, i, r, h1, h2, e => by
    cases h1 with
    | cons _ _ _ _ ha has =>
    cases h2 with
    | cons _ _ _ _ hv hvs =>
      simp only [findA] at e
      split at e <;> try (cases e; done)
      · rename_i hs
        cases e
        exact .inr ⟨i, v, E0.val, rfl, by simp only [Instr.findNow, sameA_ok hk ha hs], hv, Nat.le_refl _, by simp⟩
      · rename_i hs
        simp only [Instr.findNow, sameA_ok hk ha hs]
        rcases findA_ok hk has hvs e with ⟨h3, h4⟩ | ⟨j, u, y, h3, h4, h5, h6, h7⟩
        · exact .inl ⟨h3, h4⟩
        · exact .inr ⟨j, u, y, h3, h4, h5, by omega, by simp only [List.length_cons]; omega⟩

theorem OR.mapOf {i : Nat} {es : List (AV × AV)} {O : Obj} (ho : OR κ i (.map es) O) : ∃ E clock, O = .map E clock ∧ VRs κ (es.map (·.1)) (E.toList.map (·.key)) ∧ VRs κ (es.map (·.2)) (E.toList.map (·.val)) ∧
    (E.toList.map (·.born)).Pairwise (· < ·) ∧ ∀ e ∈ E.toList, e.born < clock := by
  cases ho with
  | map _ E clock hk hv hb hc => exact ⟨E, clock, rfl, hk, hv, hb, hc⟩

theorem run_getMap {b : Nat} {E : Array MapEntry} {clock : Nat} (hb : w.heap[b]? = some (.map E clock)) : (getObj b).run P w = .ok (.map E clock) w := by
  simp [getObj, Sem.run, hb]

theorem run_findKey {t : TypeId} {d : TypeDesc} (hu : P.underlying t = some d) {x : Value} {E : List MapEntry} {r : Option (Nat × Value)} (e : Instr.findNow d x E 0 = some r) :
    (Instr.findKey t x E).run P w = .ok r w := by
  simp only [Instr.findKey, Sem.run_bind, run_underlying hu, Result.andThen_ok, e, Sem.run_pure]

/-- m[k], with or without ok. -/
def lookupA (T : Tys) (h : Hp) (t : TypeId) (x k : AV) (ok : Bool) : Option AV :=
  match T t with
  | some i => match i.desc with
    | .map kt et => match T kt, T et with
      | some ki, some ei =>
        if keyA T kt k then
          match (match x with
            | .nilm => some []
            | .map b => match h b with
              | some (.map es) => some es
              | _ => none
            | _ => none) with
          | some es => match findA ki.desc k es 0 with
            | some r =>
              let v := match r with
                | some (_, v) => v
                | none => if aggD ei.desc then .agg ei.zero else ei.zero.headD .nilp
              some (if ok then .tup [v, .bool r.isSome] else v)
            | none => none
          | none => none
        else none
      | _, _ => none
    | _ => none
  | none => none

theorem lookupA_ok (tok : TOK P T) (hr : HR κ h w) {t : TypeId} {x k u : AV} {y z : Value} (hx : VR κ x y) (hk : VR κ k z) {ok : Bool} (e : lookupA T h t x k ok = some u) :
    ∃ r, (Instr.lookup t y z ok).run P w = .ok r w ∧ VR κ u r := by
  unfold lookupA at e
  split at e <;> try (cases e; done)
  rename_i i hi
  have ui := tok.und _ _ hi
  split at e <;> try (cases e; done)
  rename_i kt et hd
  split at e <;> try (cases e; done)
  rename_i ki ei hki hei
  have uk := tok.und _ _ hki
  split at e <;> try (cases e; done)
  rename_i hkey
  split at e <;> try (cases e; done)
  rename_i es hes
  split at e <;> try (cases e; done)
  rename_i r hr'
  cases e
  obtain ⟨zv, hz, _, hzv⟩ := run_zeroCells (κ := κ) tok hei w
  have get : ∃ E : Array MapEntry, ((y = .map none ∧ E = #[]) ∨ ∃ b clock, y = .map (some b) ∧ w.heap[b]? = some (.map E clock)) ∧
      VRs κ (es.map (·.1)) (E.toList.map (·.key)) ∧ VRs κ (es.map (·.2)) (E.toList.map (·.val)) := by
    split at hes <;> try (cases hes; done)
    · cases hes; cases hx; exact ⟨#[], .inl ⟨rfl, rfl⟩, .nil, .nil⟩
    · split at hes <;> cases hes
      rename_i hb
      cases hx
      obtain ⟨O, hO, ho⟩ := hr.own _ _ hb
      obtain ⟨E, clock, rfl, h1, h2, _, _⟩ := ho.mapOf
      exact ⟨E, .inr ⟨_, clock, rfl, hO⟩, h1, h2⟩
  obtain ⟨E, hE, h1, h2⟩ := get
  have hck : ∀ bb, (Instr.checkKey bb 10000 kt z).run P w = .ok () w := fun bb => keyA_ok tok hk hkey bb w 9998
  have hu : P.underlying t = some (.map kt et) := by rw [ui, hd]
  rcases findA_ok hk h1 h2 hr' with ⟨rfl, h3⟩ | ⟨j, v, yv, rfl, h3, h4, _⟩
  · refine ⟨if ok then .tuple #[zv, .bool false] else zv, ?_, ?_⟩
    · rcases hE with ⟨rfl, rfl⟩ | ⟨b, clock, rfl, hb⟩
      · simp only [Instr.lookup, Sem.run_bind, run_underlying hu, Result.andThen_ok, hck, run_findKey uk h3, hz, Sem.run_pure]
      · simp only [Instr.lookup, Sem.run_bind, run_underlying hu, Result.andThen_ok, run_getMap hb, hck, run_findKey uk h3, hz, Sem.run_pure]
    · cases ok
      · exact hzv
      · exact .tup _ _ (.cons _ _ _ _ hzv (.cons _ _ _ _ (.bool _) .nil))
  · refine ⟨if ok then .tuple #[yv, .bool true] else yv, ?_, ?_⟩
    · rcases hE with ⟨rfl, rfl⟩ | ⟨b, clock, rfl, hb⟩
      · simp only [Instr.lookup, Sem.run_bind, run_underlying hu, Result.andThen_ok, hck, run_findKey uk h3, Sem.run_pure]
      · simp only [Instr.lookup, Sem.run_bind, run_underlying hu, Result.andThen_ok, run_getMap hb, hck, run_findKey uk h3, Sem.run_pure]
    · cases ok
      · exact h4
      · exact .tup _ _ (.cons _ _ _ _ h4 (.cons _ _ _ _ (.bool _) .nil))

def sameBitsA : AV → AV → Bool
  | .bool a, .bool b => a == b
  | .int j a, .int k b => j == k && a == b
  | .str a, .str b => a == b
  | _, _ => false

theorem sameBitsA_ok {a b : AV} {x y : Value} (ha : VR κ a x) (hb : VR κ b y) (e : sameBitsA a b = true) (n : Nat) : Instr.sameBits (n + 1) x y = true := by
  unfold sameBitsA at e
  split at e <;> try (cases e; done)
  · cases ha; cases hb; simpa [Instr.sameBits] using e
  · cases ha; cases hb; simpa [Instr.sameBits] using e
  · cases ha; cases hb
    rename_i s hs t ht
    simp only [Instr.sameBits]
    rw [beq_toListBytes, toList_data, toList_data, hs, ht]
    exact e

/-- m[k] = v -/
def updateA (T : Tys) (h : Hp) (t : TypeId) (x k v : AV) : Option Hp :=
  match T t with
  | some i => match i.desc with
    | .map kt _ => match T kt with
      | some ki =>
        if keyA T kt k then
          match x with
          | .map b => match h b with
            | some (.map es) => match findA ki.desc k es 0 with
              | some none => some (h.set b (.map (es ++ [(k, v)])))
              | some (some (j, _)) => match es[j]? with
                | some (k', _) => if sameBitsA k' k then some (h.set b (.map (es.set j (k, v)))) else none
                | none => none
              | none => none
            | _ => none
          | _ => none
        else none
      | none => none
    | _ => none
  | none => none

theorem HR.exchange_obj (hr : HR κ h w) {i : Nat} {o p : AObj} (hi : h i = some o) {O O' : Obj} (hO : w.heap[κ.ρ i]? = some O) (hc : ∀ C e fr, O ≠ .cells C e fr) (ho : OR κ i p O') :
    (setObj (κ.ρ i) O').run P w = .ok () (World.setObj w (κ.ρ i) O') ∧ HR κ (h.set i p) (World.setObj w (κ.ρ i) O') ∧ Step κ h w κ (h.set i p) (World.setObj w (κ.ρ i) O') := by
  refine ⟨?_, hr.exchange hi ho, Step.exchange hr hi O'⟩
  simp only [Go.setObj, Sem.run, hO]
  cases O with
  | cells C e fr => exact absurd rfl (hc C e fr)
  | _ => rfl

theorem updateA_ok (tok : TOK P T) (hr : HR κ h w) {t : TypeId} {x k v : AV} {y z u : Value} (hx : VR κ x y) (hk : VR κ k z) (hv : VR κ v u) {h' : Hp} (e : updateA T h t x k v = some h') :
    ∃ w', (Instr.mapUpdate t y z u).run P w = .ok () w' ∧ HR κ h' w' ∧ Step κ h w κ h' w' := by
  unfold updateA at e
  split at e <;> try (cases e; done)
  rename_i i hi
  have ui := tok.und _ _ hi
  split at e <;> try (cases e; done)
  rename_i kt et hd
  split at e <;> try (cases e; done)
  rename_i ki hki
  have uk := tok.und _ _ hki
  split at e <;> try (cases e; done)
  rename_i hkey
  split at e <;> try (cases e; done)
  rename_i b
  split at e <;> try (cases e; done)
  rename_i es hb
  cases hx
  obtain ⟨O, hO, ho⟩ := hr.own _ _ hb
  obtain ⟨E, clock, rfl, h1, h2, h3, h4⟩ := ho.mapOf
  have hck : (Instr.checkKey false 10000 kt z).run P w = .ok () w := keyA_ok tok hk hkey false w 9998
  have hu : P.underlying t = some (.map kt et) := by rw [ui, hd]
  split at e <;> try (cases e; done)
  · rename_i hf
    cases e
    rcases findA_ok hk h1 h2 hf with ⟨_, h5⟩ | ⟨j, v', y', h5, _⟩
    · obtain ⟨h6, h7, h8⟩ := hr.exchange_obj (P := P) hb hO (fun _ _ _ h0 => by cases h0) (p := .map (es ++ [(k, v)])) (O' := .map (E.push { key := z, val := u, born := clock }) (clock + 1)) (by
        refine .map _ _ _ ?_ ?_ ?_ ?_
        · simpa using h1.append (.cons _ _ _ _ hk .nil)
        · simpa using h2.append (.cons _ _ _ _ hv .nil)
        · rw [Array.toList_push, List.map_append, List.pairwise_append]
          refine ⟨h3, by simp, ?_⟩
          intro a ha b' hb'
          simp only [List.map_cons, List.map_nil, List.mem_singleton] at hb'
          subst hb'
          obtain ⟨e0, he0, rfl⟩ := List.mem_map.1 ha
          exact h4 e0 he0
        · intro e0 he0
          rw [Array.toList_push, List.mem_append] at he0
          rcases he0 with he0 | he0
          · exact Nat.lt_succ_of_lt (h4 e0 he0)
          · simp only [List.mem_singleton] at he0; subst he0; exact Nat.lt_succ_self _)
      refine ⟨_, ?_, h7, h8⟩
      simp only [Instr.mapUpdate, Sem.run_bind, run_underlying hu, Result.andThen_ok, run_getMap hO, hck, run_findKey uk h5]
      exact h6
    · cases h5
  · rename_i j v0 hf
    split at e <;> try (cases e; done)
    rename_i k' v1 hj
    split at e <;> cases e
    rename_i hbits
    rcases findA_ok hk h1 h2 hf with ⟨h5, _⟩ | ⟨j', v', y', h5, h6, h7, h8, h9⟩
    · cases h5
    · cases h5
      have hjl : j < es.length := by omega
      obtain ⟨y1, hy1, hvy1⟩ := h1.get (i := j) (a := k') (by simp [hj])
      have hE : ∃ e0, E[j]? = some e0 ∧ e0.key = y1 := by
        rw [List.getElem?_map, Option.map_eq_some_iff] at hy1
        obtain ⟨e0, he0, rfl⟩ := hy1
        exact ⟨e0, by simpa using he0, rfl⟩
      obtain ⟨e0, he0, rfl⟩ := hE
      have hsb := sameBitsA_ok hvy1 hk hbits 9999
      have hmod : (E.modify j fun e => { e with key := z, val := u }).toList = E.toList.set j { e0 with key := z, val := u } := by
        apply List.ext_getElem?
        intro q
        rw [Array.getElem?_toList, Array.getElem?_modify, List.getElem?_set]
        by_cases hq : j = q
        · subst hq
          obtain ⟨hjs, hje⟩ := Array.getElem?_eq_some_iff.1 he0
          simp [he0, hjs, hje]
        · simp [hq]
      obtain ⟨hh6, hh7, hh8⟩ := hr.exchange_obj (P := P) hb hO (fun _ _ _ h0 => by cases h0) (p := .map (es.set j (k, v))) (O' := .map (E.modify j fun e => { e with key := z, val := u }) clock) (by
        have he0' : E.toList[j]? = some e0 := by simpa using he0
        have hborn : (E.toList.set j { e0 with key := z, val := u }).map (·.born) = E.toList.map (·.born) := by
          rw [List.map_set]
          apply List.ext_getElem?
          intro q
          rw [List.getElem?_set]
          split
          · rename_i hq
            subst hq
            split
            · simp [he0']
            · rename_i hlt; simp at hlt; simp [hlt]
          · rfl
        refine .map _ _ _ ?_ ?_ ?_ ?_
        · rw [hmod, List.map_set, List.map_set]; exact h1.set j hk
        · rw [hmod, List.map_set, List.map_set]; exact h2.set j hv
        · rw [hmod, hborn]; exact h3
        · intro e1 he1
          rw [hmod] at he1
          rcases List.mem_or_eq_of_mem_set he1 with he1 | rfl
          · exact h4 e1 he1
          · exact h4 e0 (List.mem_of_getElem? he0'))
      refine ⟨_, ?_, hh7, hh8⟩
      have hks : (Instr.keyThatStays e0.key z).run P w = .ok z w := by
        simp only [Instr.keyThatStays, hsb, if_true, Sem.run_pure]
      simp only [Instr.mapUpdate, Sem.run_bind, run_underlying hu, Result.andThen_ok, run_getMap hO, hck, run_findKey uk h6, he0, Option.map_some, Option.getD_some, hks]
      exact hh6

end Go.Acx
