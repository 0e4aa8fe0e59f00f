/- Acx, part 16: rows of operations whose order is open: what only looks comes first. -/
import Derived.Test.YtnjhpjiahjjjkaaGreatDoorAcxDrawn
namespace Go.Acx

variable {P : Program} {T : Tys} {m : Nat} {ops : Array Oper} {Q : St → Prop}

/-- No two operations without an edge between them touch each other's temporaries. -/
def ApartAll (ops : Array Oper) : Prop := ∀ i j oi oj, ops[i]? = some oi → ops[j]? = some oj → i ≠ j → dep oj i = false → dep oi j = false → oi.apart ops oj = true

theorem dep_false {o : Oper} {i : Nat} (h : ∀ e ∈ o.after, Region.binds .any e = true → e.on ≠ i) : dep o i = false := by
  unfold dep
  rw [Array.any_eq_false]
  intro k hk
  have := h o.after[k] (Array.getElem_mem hk)
  cases hb : Region.binds .any o.after[k]
  · simp [hb]
  · simp [hb, this hb]

theorem ready_dep {listed : Array Bool} {i j : Nat} {o : Oper} (ho : ops[j]? = some o) (hj : j ∈ Region.ready .any ops listed) (hi : listed.getD i true = false) : dep o i = false := by
  obtain ⟨_, o', ho', hall⟩ := mem_ready.1 hj
  rw [ho] at ho'; cases ho'
  refine dep_false fun e he hb heq => ?_
  have h1 := hall e he hb
  rw [heq] at h1
  rcases Nat.lt_or_ge i listed.size with h' | h'
  · simp [Array.getD, h'] at h1 hi
    rw [h1] at hi; cases hi
  · simp [Array.getD, Nat.not_lt.2 h'] at hi

theorem like_eff {ox oj : Oper} {eff : Fr → Fr} {f0 : Fr} {h : Hp} (y : Yield T m ops ox eff f0 h) (ha : ∀ d, ox.dst = some d → d ∉ oj.looksAt ops) (f : Fr) : Like ops oj (eff f) f :=
  fun t ht => eff_get y f t fun e => ha t e ht

/-- An operation that touches nothing of x's may be done ahead of x. -/
theorem aOp_swap {ox oj : Oper} {eff : Fr → Fr} {s : St} (y : Yield T m ops ox eff s.f s.h) (hap : ox.apart ops oj = true) {K : St → Prop} (h : aOp P T m ops oj K ⟨eff s.f, s.h, s.n⟩) :
    aOp P T m ops oj (fun s' => K ⟨eff s'.f, s'.h, s'.n⟩ ∧ Like ops ox s.f s'.f ∧ (lightOp oj.op = true → s'.h = s.h)) s := by
  obtain ⟨h1, h2, h3⟩ := Oper.apart_spec hap
  have lk := like_eff y h1 s.f
  have keep : ∀ v, Like ops ox s.f (putA s.f oj.dst v) := fun v t ht => by
    cases hd : oj.dst with
    | none => rfl
    | some d =>
      have : t ≠ d := fun e => h3 d hd (e ▸ ht)
      simp [putA, Fr.set, this]
  have keepL : Like ops ox s.f (loseA s.f oj.dst) := fun t ht => by
    cases hd : oj.dst with
    | none => rfl
    | some d =>
      have : t ≠ d := fun e => h3 d hd (e ▸ ht)
      simp [loseA, Fr.clear, this]
  unfold aOp at *
  simp only [lk.want, lk.opD s.h s.n, lk.callee] at h
  split at h
  · refine ⟨h.1, ?_⟩
    replace h := h.2
    split at h
    · rename_i v h' n' ho
      refine ⟨by rw [eff_put y _ _ h2]; exact h, keep _, fun hl => ?_⟩
      unfold opD at ho
      split at ho
      · cases ho; rfl
      · rw [light_opS hl] at ho; simp only [light_opN hl] at ho; cases ho
    · rename_i h' n' ho
      refine ⟨by rw [eff_lose y _ h2]; exact h, keepL, fun hl => ?_⟩
      unfold opD at ho
      split at ho
      · cases ho
      · rw [light_opS hl] at ho; simp only [light_opN hl] at ho; cases ho
    · split at h
      · rename_i g args hc
        refine h.mono fun rv h' n' hq => ⟨by rw [eff_put y _ _ h2]; exact hq, keep _, fun hl => ?_⟩
        rw [light_callee hl] at hc; cases hc
      · exact h
  · exact ⟨h.1, by rw [eff_put y _ _ h2]; exact h.2, keep _, fun _ => rfl⟩
  · exact h

theorem first {x : Nat} {ox : Oper} (hx : ops[x]? = some ox) (hap : ApartAll ops) {eff : Fr → Fr} :
    ∀ (fuel : Nat) (L : List (Nat × (Hp → Prop))) (listed : Array Bool) (s : St) (f0 : Fr), x ∈ Region.ready .any ops listed → Yield T m ops ox eff s.f s.h → Like ops ox f0 s.f → lightOp ox.op = true →
      aAnyC P T m ops Q ((x, Yield T m ops ox eff f0) :: L) fuel (listed.setIfInBounds x true) ⟨eff s.f, s.h, s.n⟩ → aAnyC P T m ops Q L (fuel + 1) listed s := by
  intro fuel
  induction fuel with
  | zero =>
    intro L listed s f0 hr y lk hl H
    refine ⟨(fun h => by rw [h] at hr; cases hr), fun j hj o ho => ?_⟩
    by_cases hjx : j = x
    · subst hjx
      rw [hx] at ho; cases ho
      exact y.aOp ⟨(fun h => by rw [hl] at h; cases h), H⟩
    · have := ready_mono hj hjx
      rw [H.1] at this
      cases this
  | succ fuel ih =>
    intro L listed s f0 hr y lk hl H
    refine ⟨(fun h => by rw [h] at hr; cases hr), fun j hj o ho => ?_⟩
    by_cases hjx : j = x
    · subst hjx
      rw [hx] at ho; cases ho
      exact y.aOp ⟨(fun h => by rw [hl] at h; cases h), aAnyC_less (fun p hp => List.mem_cons_of_mem _ hp) _ _ _ H⟩
    · have hxun := (mem_ready.1 hr).1
      have hjun := (mem_ready.1 hj).1
      have d1 : dep o x = false := ready_dep ho hj hxun
      have d2 : dep ox j = false := ready_dep hx hr hjun
      have hapart := hap x j ox o hx ho (Ne.symm hjx) d1 d2
      have h1 := H.2 j (ready_mono hj hjx) o ho
      refine aOp_mono (fun s' hs => ?_) (aOp_swap y hapart h1)
      obtain ⟨⟨hchk, hnext⟩, hlike, hheap⟩ := hs
      refine ⟨fun hlt p hp hd => hchk hlt p (List.mem_cons_of_mem _ hp) hd, ?_⟩
      have y' : Yield T m ops ox eff s'.f s'.h := by
        cases hlj : lightOp o.op
        · have := hchk hlj _ (List.mem_cons_self) d1
          exact (this : Yield T m ops ox eff f0 s'.h).like fun t ht => (lk t ht).trans (hlike t ht)
        · rw [hheap hlj]; exact y.like hlike
      rw [Array.setIfInBounds_comm _ _ (Ne.symm hjx)] at hnext
      exact ih L (listed.setIfInBounds j true) s' f0 (ready_mono hr (Ne.symm hjx)) y' (fun t ht => (lk t ht).trans (hlike t ht)) hl hnext

/-- What only looks comes first; of the rest every order. -/
def aLF (P : Program) (T : Tys) (m : Nat) (ops : Array Oper) (Q : St → Prop) : Nat → List (Nat × (Hp → Prop)) → Array Bool → St → Prop
  | 0, _, listed, s => Region.ready .any ops listed = [] ∧ Q s
  | fuel + 1, L, listed, s =>
    (∃ x ∈ Region.ready .any ops listed, ∃ ox eff, ops[x]? = some ox ∧ lightOp ox.op = true ∧ Yield T m ops ox eff s.f s.h ∧
      aLF P T m ops Q fuel ((x, Yield T m ops ox eff s.f) :: L) (listed.setIfInBounds x true) ⟨eff s.f, s.h, s.n⟩) ∨
    ((Region.ready .any ops listed = [] → Q s) ∧ ∀ i ∈ Region.ready .any ops listed, ∀ o, ops[i]? = some o →
      aOp P T m ops o (fun s' => (∀ p ∈ L, dep o p.1 = false → p.2 s'.h) ∧ aLF P T m ops Q fuel L (listed.setIfInBounds i true) s') s)

theorem aLF_C (hap : ApartAll ops) : ∀ (fuel : Nat) (L : List (Nat × (Hp → Prop))) (listed : Array Bool) (s : St), aLF P T m ops Q fuel L listed s → aAnyC P T m ops Q L fuel listed s := by
  intro fuel
  induction fuel with
  | zero => intro L listed s h; exact h
  | succ fuel ih =>
    intro L listed s h
    rcases h with ⟨x, hr, ox, eff, hx, hl, y, h⟩ | h
    · exact first hx hap fuel L listed s s.f hr y (fun _ _ => rfl) hl (ih _ _ _ h)
    · exact ⟨h.1, fun i hi o ho => aOp_mono (fun s' hs => ⟨fun _ => hs.1, ih _ _ _ hs.2⟩) (h.2 i hi o ho)⟩

theorem AWP.drawn (tok : TOK P T) (hm : P.follows .mixedOrders = true) (hap : ApartAll ops) {QA : Exit → St → Prop} {id : Nat} {s : St}
    (h : aLF P T m ops (QA .normal) ops.size [] (Array.replicate ops.size false) s) : AWP P m (.region id ops true) QA s :=
  AWP.drawn_any tok hm (aAnyC_any _ _ _ (aLF_C hap _ _ _ _ h))

end Go.Acx
