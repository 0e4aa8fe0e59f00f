/- Acx, part 14: functions by their bodies; values that hold no own rows; sealing. -/
import Derived.Test.YtnjhpjiahjjjkaaGreatDoorAcxOps
namespace Go.Acx

variable {P : Program} {T : Tys} {m : Nat} {κ : Kap} {h : Hp} {w : World}

def resVarA (T : Tys) (s : St) : ResultVar → Option AV
  | .tmp t => s.f t
  | .cell a t => match T t, s.f a with
    | some i, some p => loadA s.h i p
    | _, _ => none

def resVarsA (T : Tys) (s : St) : List ResultVar → Option (List AV)
  | [] => some []
  | x :: xs => match resVarA T s x, resVarsA T s xs with
    | some v, some vs => some (v :: vs)
    | _, _ => none

def packA : List AV → AV
  | [v] => v
  | vs => .tup vs

def resSem (tmps : Array Value) : ResultVar → Sem Value
  | .tmp t => pure (tmps.getD t undef)
  | .cell b t => do loadVar t (← asAddr (tmps.getD b undef))

theorem resVarsA_ok (tok : TOK P T) {s : St} {a : Act} (r : Rel κ m s a w) : ∀ {rs : List ResultVar} {vs : List AV}, resVarsA T s rs = some vs →
    ∃ xs : List Value, (rs.mapM (resSem a.tmps)).run P w = .ok xs w ∧ VRs κ vs xs
  | [], vs, e => by cases e; exact ⟨[], by simp, .nil⟩
  | x :: rs, vs, e => by
    simp only [resVarsA] at e
    split at e <;> cases e
    rename_i v vs hv hvs
    obtain ⟨xs, hxs, hr⟩ := resVarsA_ok tok r hvs
    have one : ∃ y, (resSem a.tmps x).run P w = .ok y w ∧ VR κ v y := by
      cases x with
      | tmp t =>
        obtain ⟨y, hy, hv'⟩ := r.2.2.has _ _ hv
        refine ⟨y, ?_, hv'⟩
        simp [resSem, Array.getD_eq_getD_getElem?, hy]
      | cell b t =>
        simp only [resVarA] at hv
        split at hv <;> try (cases hv; done)
        rename_i i p hi hp
        obtain ⟨y, hy, hp'⟩ := r.2.2.has _ _ hp
        obtain ⟨z, hz, hz'⟩ := loadA_ok tok r.2.1 hi hp' hv
        refine ⟨z, ?_, hz'⟩
        have hgd : a.tmps.getD b undef = y := by simp [Array.getD_eq_getD_getElem?, hy]
        rw [resSem, hgd]
        unfold loadA at hv
        split at hv
        · rename_i rest hrest
          obtain ⟨bb, o, C, el, fr, rfl, _, _⟩ := restA_ok r.2.1 hp' hrest
          simpa [Instr.loadAt, Instr.sureAddr, asAddr] using hz
        · cases hv
    obtain ⟨y, hy, hvy⟩ := one
    refine ⟨y :: xs, ?_, .cons _ _ _ _ hvy hr⟩
    simp only [List.mapM_cons, Sem.run_bind, hy, Result.andThen_ok, hxs, Sem.run_pure]

theorem results_ok (tok : TOK P T) {s : St} {a : Act} (r : Rel κ m s a w) {fn : Func} {vs : List AV} (e : resVarsA T s fn.results.toList = some vs) :
    ∃ x, (results fn a.tmps).run P w = .ok x w ∧ VR κ (packA vs) x := by
  obtain ⟨xs, hxs, hr⟩ := resVarsA_ok tok r e
  have hm : (results fn a.tmps).run P w = .ok (if h : xs.toArray.size = 1 then xs.toArray[0] else .tuple xs.toArray) w := by
    have hres : results fn a.tmps = (do
        let vs ← fn.results.mapM (resSem a.tmps)
        pure (if h : vs.size = 1 then vs[0] else .tuple vs)) := rfl
    rw [hres, Array.mapM_eq_mapM_toList]
    simp only [Sem.run_bind, map_eq_pure_bind, hxs, Result.andThen_ok, Sem.run_pure]
  refine ⟨_, hm, ?_⟩
  cases hr with
  | nil => exact .tup _ _ .nil
  | cons v x vs xs hv hs =>
    cases hs with
    | nil => simpa [packA] using hv
    | cons v2 x2 vs xs hv2 hs =>
      have : ¬ (x :: x2 :: xs).toArray.size = 1 := by simp
      rw [dif_neg this]
      exact .tup _ _ (.cons _ _ _ _ hv (.cons _ _ _ _ hv2 hs))

def retA (T : Tys) (rs : List ResultVar) (Q : AV → Hp → Nat → Prop) : Exit → St → Prop
  | .normal, s | .ret, s => ∃ vs h', resVarsA T s rs = some vs ∧ Sub h' s.h ∧ Q (packA vs) h' s.n
  | _, _ => False

def enterF (args : List AV) : Fr := fun t => args[t]?

theorem ACall.of_body (tok : TOK P T) {g : FuncId} {fn : Func} {c : Code} (hf : P.funcs[g]? = some fn) (hb : fn.body = some c) {args : List AV} {n : Nat} {Q : AV → Hp → Nat → Prop}
    (hl : args.length ≤ fn.ntmps) (hw : AWP P fn.ntmps c (retA T fn.results.toList Q) ⟨enterF args, h, n⟩) : ACall P g args h n Q := by
  intro κ w vs hn hh hvs
  have hvl := hvs.length
  refine calls_of_wp hf hb (wp_mono (hw κ _ w ⟨hn, hh, ⟨by simp; omega, ?_, rfl⟩⟩) ?_)
  · intro t v ht
    obtain ⟨x, hx, hv⟩ := hvs.get ht
    refine ⟨x, ?_, hv⟩
    have hlt : t < vs.length := by
      rcases Nat.lt_or_ge t vs.length with h | h
      · exact h
      · rw [List.getElem?_eq_none h] at hx; cases hx
    rw [Array.getElem?_append_left (by simpa using hlt)]
    simpa using hx
  · intro e a' w' t
    obtain ⟨κ', s', q, r', st⟩ := t
    cases e <;> simp only [retA] at q
    case normal =>
      obtain ⟨us, h', hus, hsub, hq⟩ := q
      obtain ⟨x, hx, hv⟩ := results_ok tok r' hus
      exact ⟨r'.2.2.defers, x, hx, κ', _, h', x, by rw [r'.1]; exact hq, rfl, hv, r'.2.1.sub hsub, st.sub hsub⟩
    case ret =>
      obtain ⟨us, h', hus, hsub, hq⟩ := q
      obtain ⟨x, hx, hv⟩ := results_ok tok r' hus
      exact ⟨r'.2.2.defers, x, hx, κ', _, h', x, by rw [r'.1]; exact hq, rfl, hv, r'.2.1.sub hsub, st.sub hsub⟩

theorem ACall.mono {g : FuncId} {args : List AV} {n : Nat} {Q Q' : AV → Hp → Nat → Prop} (hq : ∀ r h' n', Q r h' n' → Q' r h' n') (hc : ACall P g args h n Q) : ACall P g args h n Q' :=
  fun κ w vs h1 h2 h3 => Calls.mono (hc κ w vs h1 h2 h3) fun _ _ ⟨κ', r, h', x, q, he⟩ => ⟨κ', r, h', x, hq _ _ _ q, he⟩

mutual
def pureV : AV → Bool
  | .ptr _ _ | .sl _ _ _ _ | .map _ => false
  | .imm cs _ | .iptr cs | .agg cs | .tup cs => pureVs cs
  | .fn _ a b => pureVs a && pureVs b
  | .iface _ v => pureV v
  | _ => true
def pureVs : List AV → Bool
  | [] => true
  | v :: vs => pureV v && pureVs vs
end

mutual
theorem VR.pure {κ κ' : Kap} (hI : ∀ b o, κ.I b = some o → κ'.I b = some o) : ∀ {v : AV} {x : Value}, VR κ v x → pureV v = true → VR κ' v x
  | _, _, .bool b, _ => .bool b
  | _, _, .int k n, _ => .int k n
  | _, _, .str s t h, _ => .str s t h
  | _, _, .ptr i off h, e => by simp [pureV] at e
  | _, _, .nilp, _ => .nilp
  | _, _, .sl i off len cap c h hl hc hz, e => by simp [pureV] at e
  | _, _, .nils, _ => .nils
  | _, _, .immNil a c, _ => .immNil a c
  | _, _, .imm cells len b off C el fr c hi hs hl, e => .imm cells len b off C el fr c (hI _ _ hi) (VRs.pure hI hs (by simpa [pureV] using e)) hl
  | _, _, .iptr cells b off C el fr hi hs, e => .iptr cells b off C el fr (hI _ _ hi) (VRs.pure hI hs (by simpa [pureV] using e))
  | _, _, .map i h, e => by simp [pureV] at e
  | _, _, .nilm, _ => .nilm
  | _, _, .fn f a b F C hf hc, e => by
    simp only [pureV, Bool.and_eq_true] at e
    exact .fn f a b F C (VRs.pure hI hf e.1) (VRs.pure hI hc e.2)
  | _, _, .nilf, _ => .nilf
  | _, _, .iface t v x h, e => .iface t v x (VR.pure hI h (by simpa [pureV] using e))
  | _, _, .nili, _ => .nili
  | _, _, .agg cells C h, e => .agg cells C (VRs.pure hI h (by simpa [pureV] using e))
  | _, _, .tup cells C h, e => .tup cells C (VRs.pure hI h (by simpa [pureV] using e))
  | _, _, .txt c n t h, _ => .txt c n t h
theorem VRs.pure {κ κ' : Kap} (hI : ∀ b o, κ.I b = some o → κ'.I b = some o) : ∀ {v : List AV} {x : List Value}, VRs κ v x → pureVs v = true → VRs κ' v x
  | _, _, .nil, _ => .nil
  | _, _, .cons v x vs xs h hs, e => by
    simp only [pureVs, Bool.and_eq_true] at e
    exact .cons v x vs xs (VR.pure hI h e.1) (VRs.pure hI hs e.2)
end

/-- A call of plain values that gives a plain value does so in every heap, and leaves the heap as it was. -/
theorem ACall.lift {g : FuncId} {args : List AV} {Q : AV → Prop} (ha : pureVs args = true) (hc : ACall P g args Hp.none 0 fun r _ _ => pureV r = true ∧ Q r) (h : Hp) (n : Nat) :
    ACall P g args h n fun r h' n' => Q r ∧ h' = h ∧ n' = n := by
  intro κ w vs hn hh hvs
  have h0 : HR { κ with n := 0 } Hp.none w :=
    ⟨(fun i o h => by cases h), (fun i o h => by cases h), (fun i j o p h => by cases h), hh.imm, (fun i o h => by cases h)⟩
  have none_owns : ∀ b, ¬ Owns { κ with n := 0 } Hp.none b := fun b ⟨i, o, h, _⟩ => by cases h
  refine Calls.mono (hc { κ with n := 0 } w vs rfl h0 (VRs.pure (κ := κ) (κ' := { κ with n := 0 }) (fun _ _ h => h) hvs ha)) fun e w' he => ?_
  obtain ⟨κ1, r, h1, x, ⟨hp, hq⟩, rfl, hvr, hh1, st⟩ := he
  have hex : Ext κ { κ with I := κ1.I } := ⟨Nat.le_refl _, fun _ _ => rfl, fun b o hb => st.ext.I b o hb, fun _ _ => rfl, fun _ _ => rfl⟩
  have himm : ∀ b o, κ1.I b = some o → κ.I b = some o ∨ w.heap.size ≤ b := fun b o hb => by
    rcases st.imm b o hb with h | h | h
    · exact .inl h
    · exact absurd h (none_owns b)
    · exact .inr h
  refine ⟨{ κ with I := κ1.I }, r, h, x, ⟨hq, rfl, hn⟩, rfl, VR.pure (κ := κ1) (κ' := { κ with I := κ1.I }) (fun _ _ h => h) hvr hp, ⟨hh.dom, fun i o hi => ?_, hh.inj, hh1.imm, fun i o hi => ?_⟩, ⟨hex, st.size, fun b hb _ => st.keep b hb (none_owns b), fun b hb => .inl hb, fun b o hb => ?_, st.os⟩⟩
  · obtain ⟨O, hO, ho⟩ := hh.own i o hi
    exact ⟨O, by rw [st.keep _ (hh.lt hi) (none_owns _)]; exact hO, ho.ext hex (hh.dom _ _ hi)⟩
  · show κ1.I (κ.ρ i) = none
    cases hI : κ1.I (κ.ρ i) with
    | none => rfl
    | some o' =>
      rcases himm _ _ hI with h2 | h2
      · rw [hh.sep i o hi] at h2; cases h2
      · have := hh.lt hi; omega
  · rcases himm b o hb with h2 | h2
    · exact .inl h2
    · exact .inr (.inr h2)

end Go.Acx
