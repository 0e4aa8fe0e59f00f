/- Acx, part 12: code, calls, contracts. -/
import Derived.Test.YtnjhpjiahjjjkaaGreatDoorAcxDo
import Derived.LoopN
namespace Go.Acx

structure St where
  f : Fr
  h : Hp
  n : Nat

def Rel (κ : Kap) (m : Nat) (s : St) (a : Act) (w : World) : Prop := κ.n = s.n ∧ HR κ s.h w ∧ FR κ m s.f a

/-- What is known behind a piece of a run that began at (κ, h, w). -/
def Then (κ : Kap) (h : Hp) (w : World) (m : Nat) (Q : St → Prop) (a' : Act) (w' : World) : Prop :=
  ∃ κ' s', Q s' ∧ Rel κ' m s' a' w' ∧ Step κ h w κ' s'.h w'

/-- A piece of code, said of abstract states. -/
def AWP (P : Program) (m : Nat) (c : Code) (Q : Exit → St → Prop) (s : St) : Prop :=
  ∀ κ a w, Rel κ m s a w → c.wp P (fun e a' w' => Then κ s.h w m (Q e) a' w') a w

/-- A call, said of abstract values. -/
def ACall (P : Program) (g : FuncId) (args : List AV) (h : Hp) (n : Nat) (Q : AV → Hp → Nat → Prop) : Prop :=
  ∀ κ w vs, κ.n = n → HR κ h w → VRs κ args vs → Calls P g vs.toArray w fun e w' =>
    ∃ κ' r h' x, Q r h' κ'.n ∧ e = .returned x ∧ VR κ' r x ∧ HR κ' h' w' ∧ Step κ h w κ' h' w'

theorem Then.mono {κ : Kap} {h : Hp} {w : World} {m : Nat} {Q Q' : St → Prop} {a' : Act} {w' : World} (hq : ∀ s, Q s → Q' s) : Then κ h w m Q a' w' → Then κ h w m Q' a' w' :=
  fun ⟨κ', s', q, r, st⟩ => ⟨κ', s', hq _ q, r, st⟩

theorem Then.after {κ κ1 : Kap} {h h1 : Hp} {w w1 : World} {m : Nat} {Q : St → Prop} {a' : Act} {w' : World} (st : Step κ h w κ1 h1 w1) :
    Then κ1 h1 w1 m Q a' w' → Then κ h w m Q a' w' :=
  fun ⟨κ', s', q, r, st'⟩ => ⟨κ', s', q, r, st.trans st'⟩

theorem Then.here {κ : Kap} {m : Nat} {s : St} {a : Act} {w : World} {Q : St → Prop} (r : Rel κ m s a w) (q : Q s) : Then κ s.h w m Q a w :=
  ⟨κ, s, q, r, Step.refl _ _ _⟩

variable {P : Program} {m : Nat} {Q : Exit → St → Prop} {s : St} {T : Tys}

theorem AWP.mono {c : Code} {Q' : Exit → St → Prop} (hq : ∀ e s, Q e s → Q' e s) (h : AWP P m c Q s) : AWP P m c Q' s :=
  fun κ a w r => wp_mono (h κ a w r) fun e _ _ t => t.mono (hq e)

theorem AWP.skip (h : Q .normal s) : AWP P m .skip Q s := fun _ _ _ r => wp_skip (Then.here r h)
theorem AWP.label {l : Nat} (h : Q .normal s) : AWP P m (.label l) Q s := fun _ _ _ r => wp_label (Then.here r h)
theorem AWP.exit {id : Nat} (h : Q (.exit id) s) : AWP P m (.exit id) Q s := fun _ _ _ r => wp_exit (Then.here r h)
theorem AWP.goto {id : Nat} (h : Q (.goto id) s) : AWP P m (.goto id) Q s := fun _ _ _ r => wp_goto (Then.here r h)
theorem AWP.ret (h : Q .ret s) : AWP P m .ret Q s := fun _ _ _ r => wp_ret (Then.here r h)

def thenA (next : St → Prop) (Q : Exit → St → Prop) : Exit → St → Prop
  | .normal, s => next s
  | e, s => Q e s

theorem AWP.seq {x y : Code} (h : AWP P m x (thenA (AWP P m y Q) Q) s) : AWP P m (.seq x y) Q s := fun κ a w r => by
  refine wp_seq (wp_mono (h κ a w r) fun e a1 w1 t => ?_)
  cases e with
  | normal =>
    obtain ⟨κ1, s1, q, r1, st⟩ := t
    exact wp_mono (q κ1 a1 w1 r1) fun e a2 w2 t2 => t2.after st
  | _ => exact t

theorem AWP.cond {c : Operand} {x y : Code} {t : Bool} (hc : evalA s.f c = some (.bool t)) (h : AWP P m (if t then x else y) Q s) : AWP P m (.cond c x y) Q s := fun κ a w r => by
  have hv := evalA_ok r.2.2 hc
  cases hcv : a.eval c <;> rw [hcv] at hv <;> cases hv
  exact wp_cond hcv (h κ a w r)

def inBlockA (id : Nat) (Q : Exit → St → Prop) : Exit → St → Prop
  | .exit id', s => if id' = id then Q .normal s else Q (.exit id') s
  | e, s => Q e s

theorem AWP.block {id : Nat} {c : Code} (h : AWP P m c (inBlockA id Q) s) : AWP P m (.block id c) Q s := fun κ a w r => by
  refine wp_block (wp_mono (h κ a w r) fun e a1 w1 t => ?_)
  cases e with
  | exit id' =>
    by_cases hid : id' = id
    · subst hid
      simp only [Exit.inBlock, if_true]
      exact t.mono fun s q => by simpa [inBlockA] using q
    · simp only [Exit.inBlock, hid, if_false]
      exact t.mono fun s q => by simpa [inBlockA, hid] using q
  | _ => exact t

/-- A loop by an invariant and a measure of abstract states. -/
theorem AWP.loop {c : Code} (I : St → Prop) (μ : St → Nat) (h0 : I s) (round : ∀ s, I s → AWP P m c (thenA (fun s' => I s' ∧ μ s' < μ s) Q) s) : AWP P m (.loop c) Q s := fun κ a w r => by
  intro b k cs
  have key : ∀ n s, μ s = n → I s → ∀ κ a w, Rel κ m s a w →
      ∃ e a' w', Then κ s.h w m (Q e) a' w' ∧ Arrives P (lone (b.at a (.code c :: .inLoop c :: k)) cs w) b k cs e a' w' := by
    intro n
    induction n using Nat.strongRecOn with
    | _ n ih =>
      intro s hn hI κ a w r
      obtain ⟨e, a₁, w₁, hq, harr⟩ := round s hI κ a w r b (.inLoop c :: k) cs
      cases e with
      | normal =>
        obtain ⟨κ1, s1, ⟨hI1, hlt⟩, r1, st⟩ := hq
        obtain ⟨e₂, a₂, w₂, hq₂, harr₂⟩ := ih (μ s1) (hn ▸ hlt) s1 rfl hI1 κ1 a₁ w₁ r1
        exact ⟨e₂, a₂, w₂, hq₂.after st, .of_steps (Steps.trans harr (.one step_inLoop)) harr₂⟩
      | exit id => exact ⟨_, a₁, w₁, hq, .pass (x := .inLoop c) rfl (fun _ _ => .inl (by simp)) harr⟩
      | goto l => exact ⟨_, a₁, w₁, hq, .pass (x := .inLoop c) rfl (fun _ _ => .inl (by simp)) harr⟩
      | ret => exact ⟨_, a₁, w₁, hq, .pass (x := .inLoop c) rfl (fun _ _ => .inl (by simp)) harr⟩
      | panic ch => exact ⟨_, a₁, w₁, hq, .pass (x := .inLoop c) rfl (fun _ _ => .inl (by simp)) harr⟩
      | outgrown => exact ⟨_, a₁, w₁, hq, .pass (x := .inLoop c) rfl (fun _ _ => .inl (by simp)) harr⟩
  obtain ⟨e, a', w', hq, harr⟩ := key _ s rfl h0 κ a w r
  exact ⟨e, a', w', hq, .of_steps (.one step_loop) harr⟩

/-- A loop that ends within n rounds. -/
def roundsA (P : Program) (m : Nat) (c : Code) (Q : Exit → St → Prop) : Nat → St → Prop
  | 0, _ => False
  | n + 1, s => AWP P m c (thenA (roundsA P m c Q n) Q) s

theorem AWP.rounds {c : Code} (n : Nat) (h : roundsA P m c Q n s) : AWP P m (.loop c) Q s := fun κ a w r => by
  refine wp_loop_rounds n ?_
  have key : ∀ n s, roundsA P m c Q n s → ∀ κ a w, Rel κ m s a w → ∀ κ0 h0 w0, Step κ0 h0 w0 κ s.h w → Code.rounds P c (fun e a' w' => Then κ0 h0 w0 m (Q e) a' w') n a w := by
    intro n
    induction n with
    | zero => intro s h; exact h.elim
    | succ n ih =>
      intro s h κ a w r κ0 h0 w0 st0
      rw [rounds_succ]
      refine wp_mono (h κ a w r) fun e a1 w1 t => ?_
      cases e with
      | normal =>
        obtain ⟨κ1, s1, q, r1, st⟩ := t
        exact ih s1 q κ1 a1 w1 r1 κ0 h0 w0 (st0.trans st)
      | _ => exact t.after st0
  exact key n s h κ a w r κ s.h w (Step.refl _ _ _)

end Go.Acx
