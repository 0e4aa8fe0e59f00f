/- Acx, part 28: the walker: rows whose order is open (by a schedule that is checked), code, loops, bodies. -/
import Derived.Test.YtnjhpjiahjjjkaaGreatDoorAcxW
namespace Go.Acx

variable {P : Program} {T : Tys} {m : Nat}

/-- What an operation saw. -/
structure Ob where
  i : Nat
  op : Op
  f : Fr
  v : AV

/-- Operations whose value hangs on memory. -/
def rdH : Op → Bool
  | .move _ | .assign _ | .pick .. | .nilCheck _ | .binOp .. | .unOp .. | .makeInterface .. | .makeFunc .. | .slice .. | .fieldAddr .. | .field .. | .indexAddr .. | .index .. | .extract .. | .build .. => false
  | _ => true

theorem rdH_ok {op : Op} (e : rdH op = false) (f : Fr) (h h' : Hp) : opP T f h op = opP T f h' op := by
  cases op <;> first
    | rfl
    | (simp [rdH] at e; done)
    | skip
  rename_i mx
  cases mx <;> rfl

def nthO : List Oper → Nat → Option Oper
  | [], _ => none
  | o :: _, 0 => some o
  | _ :: l, j + 1 => nthO l j

theorem nthO_eq : ∀ (l : List Oper) (j : Nat), nthO l j = l[j]?
  | [], j => by simp [nthO]
  | o :: l, 0 => by simp [nthO]
  | o :: l, j + 1 => by simp [nthO, nthO_eq l j]

def consOb (b : Bool) (o : Ob) (L : List Ob) : List Ob := if b then o :: L else L

def wLt (T : Tys) (l0 : List Oper) (i : Nat) (o : Oper) (k : List Ob → KS) (L : List Ob) (f : Fr) (h : Hp) (n : Nat) : Prop :=
  match o with
  | ⟨d, op, _, _, _, none⟩ => wP T op f h fun v => k (consOb (rdH op) ⟨i, op, f, v⟩ L) (putA f d v) h n
  | ⟨d, op, _, _, _, some (j, want)⟩ => kV (gsl l0 j) fun t => wGd (f t) want d (fun f h n => wP T op f h fun v => k (consOb (rdH op) ⟨i, op, f, v⟩ L) (putA f d v) h n)
      (fun f h n => k L (putA f d (.tup [])) h n) t f h n

def oblL (T : Tys) (ob : List Nat) (h' : Hp) (A : Prop) : List Ob → Prop
  | [] => A
  | e :: L => if ob.contains e.i then wP T e.op e.f h' (fun v => v = e.v) ∧ oblL T ob h' A L else oblL T ob h' A L

theorem oblL_iff {ob : List Nat} {h' : Hp} {A : Prop} : ∀ {L : List Ob}, oblL T ob h' A L → A ∧ ∀ e ∈ L, ob.contains e.i = true → opP T e.f h' e.op = some e.v
  | [], q => ⟨q, by simp⟩
  | e :: L, q => by
    unfold oblL at q
    by_cases hc : ob.contains e.i = true
    · rw [if_pos hc] at q
      obtain ⟨h1, h2⟩ := oblL_iff q.2
      obtain ⟨v, hv, rfl⟩ := kV_iff.1 (wP_ok q.1)
      refine ⟨h1, fun e' he' => ?_⟩
      cases he' with
      | head => exact fun _ => hv
      | tail _ h => exact h2 e' h
    · rw [if_neg hc] at q
      obtain ⟨h1, h2⟩ := oblL_iff q
      refine ⟨h1, fun e' he' => ?_⟩
      cases he' with
      | head => exact fun h => absurd h hc
      | tail _ h => exact h2 e' h

abbrev Sched := List (Nat × Option (List Nat))

def wSch (P : Program) (T : Tys) (l0 : List Oper) (K : KS) : Sched → List Ob → KS
  | [], _ => K
  | (i, none) :: is, L => fun f h n => kV (nthO l0 i) fun o => wLt T l0 i o (wSch P T l0 K is) L f h n
  | (i, some ob) :: is, L => fun f h n => kV (nthO l0 i) fun o => wOp P T l0 o (fun f' h' n' => oblL T ob h' (wSch P T l0 K is L f' h' n') L) f h n

/-- A schedule fits: what only looks comes when it is free; of the rest just one is free. R: what has looked at memory so far. -/
def schOk (m : Nat) (ops : Array Oper) : Sched → Array Bool → List Nat → Bool
  | [], listed, _ => (Region.ready .any ops listed).isEmpty
  | (i, none) :: is, listed, R => match ops[i]? with
    | some o => lightOp o.op && dstOk m o.dst && (Region.ready .any ops listed).contains i && schOk m ops is (listed.setIfInBounds i true) (if rdH o.op then i :: R else R)
    | none => false
  | (i, some ob) :: is, listed, R => match ops[i]? with
    | some o => dstOk m o.dst && (Region.ready .any ops listed == [i]) && (R.all fun j => dep o j || ob.contains j) && schOk m ops is (listed.setIfInBounds i true) R
    | none => false

theorem pr_mk {K : KS} {f : Fr} {h : Hp} {n : Nat} : pr K ⟨f, h, n⟩ = K f h n := rfl

theorem aOp_split {ops : Array Oper} {o : Oper} {A : St → Prop} {K : St → Prop} {s : St} (h : aOp P T m ops o (fun s' => A s' ∧ K s') s) : aOp P T m ops o (fun s' => A s' ∧ K s') s := h

theorem wSch_ok {ops : Array Oper} {K : KS} : ∀ (sc : Sched) (listed : Array Bool) (R : List Nat) (L : List Ob) (LL : List (Nat × (Hp → Prop))) (fuel : Nat) (f : Fr) (h : Hp) (n : Nat),
    schOk m ops sc listed R = true → sc.length ≤ fuel → (∀ e ∈ L, e.i ∈ R) → (∀ p ∈ LL, ∀ h', (∀ e ∈ L, e.i = p.1 → opP T e.f h' e.op = some e.v) → p.2 h') →
    wSch P T ops.toList K sc L f h n → aLF P T m ops (pr K) fuel LL listed ⟨f, h, n⟩
  | [], listed, R, L, LL, fuel, f, h, n, hs, hf, hR, hL, e => by
    have hr : Region.ready .any ops listed = [] := by simpa [schOk] using hs
    cases fuel with
    | zero => exact ⟨hr, e⟩
    | succ k => exact .inr ⟨fun _ => e, fun i hi => by rw [hr] at hi; cases hi⟩
  | (i, none) :: is, listed, R, L, LL, fuel, f, h, n, hs, hf, hR, hL, e => by
    obtain ⟨fuel, rfl⟩ : ∃ k, fuel = k + 1 := ⟨fuel - 1, by simp at hf; omega⟩
    simp only [schOk] at hs
    split at hs <;> try (cases hs; done)
    rename_i o ho
    simp only [Bool.and_eq_true, List.contains_iff_mem] at hs
    obtain ⟨⟨⟨hl, hd⟩, hr⟩, hs⟩ := hs
    simp only [wSch, kV_iff] at e
    obtain ⟨o', ho', e⟩ := e
    rw [nthO_eq] at ho'
    have : o' = o := by
      have h2 : ops[i]? = some o' := by simpa using ho'
      rw [ho] at h2; injection h2 with h2; exact h2.symm
    subst this
    have hf' : is.length ≤ fuel := by simpa using hf
    -- two ways: it is done, or passed over
    have run : ∀ (hw : wantA ops f o' = some true) (v : AV) (hv : opP T f h o'.op = some v) (hk : wSch P T ops.toList K is (consOb (rdH o'.op) ⟨i, o'.op, f, v⟩ L) (putA f o'.dst v) h n),
        aLF P T m ops (pr K) (fuel + 1) LL listed ⟨f, h, n⟩ := by
      intro hw v hv hk
      refine .inl ⟨i, hr, o', fun f => putA f o'.dst v, ho, hl, ⟨.inl ⟨hw, hd, v, hv, rfl⟩⟩, ?_⟩
      refine wSch_ok is _ _ _ _ fuel _ _ _ hs hf' ?_ ?_ hk
      · intro e he
        unfold consOb at he
        by_cases hq : rdH o'.op = true
        · rw [if_pos hq] at he ⊢
          cases he with
          | head => exact List.mem_cons_self
          | tail _ h => exact List.mem_cons_of_mem _ (hR e h)
        · rw [if_neg hq] at he ⊢
          exact hR e he
      · intro p hp h' hall
        cases hp with
        | head =>
          refine ⟨.inl ⟨hw, hd, v, ?_, rfl⟩⟩
          by_cases hq : rdH o'.op = true
          · exact hall ⟨i, o'.op, f, v⟩ (by unfold consOb; rw [if_pos hq]; exact List.mem_cons_self) rfl
          · rw [← hv]; exact rdH_ok (by simpa using hq) f h' h
        | tail _ hp =>
          refine hL p hp h' fun e he hi => hall e ?_ hi
          unfold consOb
          split
          · exact List.mem_cons_of_mem _ he
          · exact he
    have skip : ∀ (hw : wantA ops f o' = some false) (hk : wSch P T ops.toList K is L (putA f o'.dst (.tup [])) h n), aLF P T m ops (pr K) (fuel + 1) LL listed ⟨f, h, n⟩ := by
      intro hw hk
      refine .inl ⟨i, hr, o', fun f => putA f o'.dst (.tup []), ho, hl, ⟨.inr ⟨hw, hd, rfl⟩⟩, ?_⟩
      refine wSch_ok is _ _ _ _ fuel _ _ _ hs hf' ?_ ?_ hk
      · intro e he
        split
        · exact List.mem_cons_of_mem _ (hR e he)
        · exact hR e he
      · intro p hp h' hall
        cases hp with
        | head => exact ⟨.inr ⟨hw, hd, rfl⟩⟩
        | tail _ hp => exact hL p hp h' hall
    obtain ⟨d, op, ty, pos, aft, gd⟩ := o'
    cases gd with
    | none =>
      obtain ⟨v, hv, hk⟩ := kV_iff.1 (wP_ok e)
      exact run rfl v hv hk
    | some p =>
      obtain ⟨j, want⟩ := p
      simp only [wLt, kV_iff] at e
      obtain ⟨t, ht, e⟩ := e
      rw [gsl_eq] at ht
      have ht2 : (ops[j]?).bind (·.dst) = some t := by simpa using ht
      unfold wGd at e
      split at e
      · rename_i b hb
        have hw : wantA ops f ⟨d, op, ty, pos, aft, some (j, want)⟩ = some (b == want) := by simp only [wantA, ht2, hb]
        by_cases hbw : b = want
        · subst hbw
          rw [beq_self_eq_true] at hw
          have key : wP T op f h fun v => wSch P T ops.toList K is (consOb (rdH op) ⟨i, op, f, v⟩ L) (putA f d v) h n := by
            cases b
            · have := e.2 rfl; rw [Fr.set_self hb] at this; exact this
            · have := e.1 rfl; rw [Fr.set_self hb] at this; exact this
          obtain ⟨v, hv, hk⟩ := kV_iff.1 (wP_ok key)
          exact run hw v hv hk
        · have hf2 : (b == want) = false := by simpa using hbw
          rw [hf2] at hw
          have key : wSch P T ops.toList K is L (putA f d (.tup [])) h n := by
            cases b
            · have := e.2 rfl; rw [Fr.set_self hb] at this; cases want
              · exact absurd rfl hbw
              · exact this
            · have := e.1 rfl; rw [Fr.set_self hb] at this; cases want
              · exact this
              · exact absurd rfl hbw
          exact skip hw key
      · rename_i b hb
        exact skip (by simp only [wantA, ht2, hb]) e
      · exact e.elim
  | (i, some ob) :: is, listed, R, L, LL, fuel, f, h, n, hs, hf, hR, hL, e => by
    obtain ⟨fuel, rfl⟩ : ∃ k, fuel = k + 1 := ⟨fuel - 1, by simp at hf; omega⟩
    simp only [schOk] at hs
    split at hs <;> try (cases hs; done)
    rename_i o ho
    simp only [Bool.and_eq_true, beq_iff_eq, List.all_eq_true, Bool.or_eq_true] at hs
    obtain ⟨⟨⟨hd, hr⟩, hob⟩, hs⟩ := hs
    simp only [wSch, kV_iff] at e
    obtain ⟨o', ho', e⟩ := e
    rw [nthO_eq] at ho'
    have : o' = o := by
      have h2 : ops[i]? = some o' := by simpa using ho'
      rw [ho] at h2; injection h2 with h2; exact h2.symm
    subst this
    refine .inr ⟨fun h0 => (by rw [hr] at h0; cases h0), fun i' hi' oo hoo => ?_⟩
    rw [hr] at hi'
    simp only [List.mem_singleton] at hi'
    subst hi'
    rw [ho] at hoo
    cases hoo
    refine aOp_mono (fun s' q => ?_) (wOp_ok hd e)
    obtain ⟨h1, h2⟩ := oblL_iff q
    refine ⟨fun p hp hdep => hL p hp s'.h fun e he hi => h2 e he ?_, wSch_ok is _ _ _ _ fuel s'.f s'.h s'.n hs (by simpa using hf) hR hL h1⟩
    rcases hob e.i (hR e he) with h3 | h3
    · rw [hi, hdep] at h3; cases h3
    · exact h3

def prq (Q : Xq) : Exit → St → Prop := fun e s => Q e s.f s.h s.n

def schAll (m : Nat) (ops : Array Oper) (sc : Sched) : Bool := apartC ops && schOk m ops sc (Array.replicate ops.size false) [] && Nat.ble sc.length ops.size

/-- A row whose order is open, not walked yet. -/
def wDrw (P : Program) (m : Nat) (id : Nat) (ops : Array Oper) (Q : Xq) (f : Fr) (h : Hp) (n : Nat) (_ : Tie ops := .mk) (_ : Tie Q := .mk) (_ : Tie f := .mk) (_ : Tie h := .mk) : Prop := AWP P m (.region id ops true) (prq Q) ⟨f, h, n⟩

theorem wDrw.by (tok : TOK P T) (hm : P.follows .mixedOrders = true) {id : Nat} {ops : Array Oper} {Q : Xq} {f : Fr} {h : Hp} {n : Nat} (sc : Sched) (hs : schAll m ops sc = true)
    (e : wSch P T ops.toList (Q .normal) sc [] f h n) : wDrw P m id ops Q f h n := by
  simp only [schAll, Bool.and_eq_true] at hs
  exact AWP.drawn tok hm (apartC_ok hs.1.1) (wSch_ok sc _ _ [] [] ops.size f h n hs.1.2 (by simpa using hs.2) (by simp) (by simp) e)

/-- A loop, not walked yet. -/
def wLoop (P : Program) (m : Nat) (c : Code) (Q : Xq) (f : Fr) (h : Hp) (n : Nat) (_ : Tie c := .mk) (_ : Tie Q := .mk) (_ : Tie f := .mk) (_ : Tie h := .mk) : Prop := AWP P m (.loop c) (prq Q) ⟨f, h, n⟩

def qSeq (K : KS) (Q : Xq) : Xq
  | .normal => K
  | e => Q e
def qBlk (id : Nat) (Q : Xq) : Xq
  | .exit i => if i = id then Q .normal else Q (.exit i)
  | e => Q e

def kB (o : Option AV) (A B : Prop) (_ : Tie A := .mk) (_ : Tie B := .mk) : Prop := match o with
  | some (.bool t) => Br t A B
  | _ => False

def wc (P : Program) (T : Tys) (m : Nat) : Code → Xq → KS
  | .skip, Q => Q .normal
  | .label _, Q => Q .normal
  | .exit id, Q => Q (.exit id)
  | .goto id, Q => Q (.goto id)
  | .ret, Q => Q .ret
  | .seq x y, Q => wc P T m x (qSeq (wc P T m y Q) Q)
  | .cond c x y, Q => fun f h n => kB (evalA f c) (wc P T m x Q f h n) (wc P T m y Q f h n)
  | .block id c, Q => wc P T m c (qBlk id Q)
  | .loop c, Q => wLoop P m c Q
  | .region _ ops false, Q => wOps P T ops.toList ops.toList (Q .normal)
  | .region id ops true, Q => wDrw P m id ops Q
  | _, _ => fun _ _ _ => False

/-- All slots of code lie in the frame. -/
def cOk (m : Nat) : Code → Bool
  | .seq x y => cOk m x && cOk m y
  | .cond _ x y => cOk m x && cOk m y
  | .block _ c => cOk m c
  | .loop c => cOk m c
  | .region _ ops _ => ops.toList.all fun o => dstOk m o.dst
  | _ => true

theorem wc_ok (tok : TOK P T) : ∀ {c : Code} {Q : Xq} {f : Fr} {h : Hp} {n : Nat}, cOk m c = true → wc P T m c Q f h n → AWP P m c (prq Q) ⟨f, h, n⟩
  | .skip, Q, f, h, n, _, e => .skip e
  | .label _, Q, f, h, n, _, e => .label e
  | .exit _, Q, f, h, n, _, e => .exit e
  | .goto _, Q, f, h, n, _, e => .goto e
  | .ret, Q, f, h, n, _, e => .ret e
  | .seq x y, Q, f, h, n, hc, e => by
    simp only [cOk, Bool.and_eq_true] at hc
    refine .seq (AWP.mono (fun ex s q => ?_) (wc_ok tok hc.1 e))
    cases ex <;> first
      | exact wc_ok tok hc.2 q
      | exact q
  | .cond c x y, Q, f, h, n, hc, e => by
    simp only [cOk, Bool.and_eq_true] at hc
    simp only [wc, kB] at e
    split at e
    · rename_i t ht
      refine .cond (t := t) ht ?_
      cases t
      · exact wc_ok tok hc.2 (e.2 rfl)
      · exact wc_ok tok hc.1 (e.1 rfl)
    · exact e.elim
  | .block id c, Q, f, h, n, hc, e => by
    refine .block (AWP.mono (fun ex s q => ?_) (wc_ok tok (c := c) hc e))
    cases ex <;> first
      | exact q
      | skip
    rename_i i
    simp only [prq, qBlk] at q
    simp only [inBlockA, prq]
    split
    · rename_i hi; rw [if_pos hi] at q; exact q
    · rename_i hi; rw [if_neg hi] at q; exact q
  | .loop c, Q, f, h, n, _, e => e
  | .region _ ops false, Q, f, h, n, hc, e => .region tok (wOps_ok hc e)
  | .region id ops true, Q, f, h, n, _, e => e
  | .rangeFunc .., Q, f, h, n, _, e => e.elim
  | .scope _, Q, f, h, n, _, e => e.elim
  | .refuse _, Q, f, h, n, _, e => e.elim

/-- A frame by its slots. -/
def frl : List (Nat × AV) → Fr
  | [] => fun _ => none
  | (t, v) :: l => (frl l).set t v

def AllF (f : Fr) : List (Nat × AV) → Prop
  | [] => True
  | (t, v) :: l => f t = some v ∧ AllF f l

theorem frl_le {f : Fr} : ∀ {l : List (Nat × AV)}, AllF f l → ∀ t v, frl l t = some v → f t = some v
  | [], _, t, v, e => by cases e
  | (t', v') :: l, ha, t, v, e => by
    simp only [frl, Fr.set] at e
    split at e
    · rename_i ht; cases e; subst ht; exact ha.1
    · exact frl_le ha.2 t v e

theorem Rel.less {κ : Kap} {f f' : Fr} {h h' : Hp} {n : Nat} {a : Act} {w : World} (hf : ∀ t v, f' t = some v → f t = some v) (hh : Sub h' h) (r : Rel κ m ⟨f, h, n⟩ a w) : Rel κ m ⟨f', h', n⟩ a w :=
  ⟨r.1, r.2.1.sub hh, r.2.2.size, fun t v ht => r.2.2.has t v (hf t v ht), r.2.2.defers⟩

theorem AWP.less {c : Code} {Q : Exit → St → Prop} {f f' : Fr} {h h' : Hp} {n : Nat} (hf : ∀ t v, f' t = some v → f t = some v) (hh : Sub h' h) (hw : AWP P m c Q ⟨f', h', n⟩) : AWP P m c Q ⟨f, h, n⟩ :=
  fun κ a w r => wp_mono (hw κ a w (r.less hf hh)) fun _ _ _ t => t.after (Step.sub (Step.refl _ _ _) hh)

/-- A loop by an invariant that bears its measure. -/
theorem AWP.loopR {c : Code} {Q : Exit → St → Prop} {s : St} (I : Nat → St → Prop) (k0 : Nat) (h0 : I k0 s) (round : ∀ k s, I k s → AWP P m c (thenA (fun s' => ∃ k', k' < k ∧ I k' s') Q) s) :
    AWP P m (.loop c) Q s := fun κ a w r => by
  intro b k cs
  have key : ∀ n s, I n s → ∀ κ a w, Rel κ m s a w →
      ∃ e a' w', Then κ s.h w m (Q e) a' w' ∧ Arrives P (lone (b.at a (.code c :: .inLoop c :: k)) cs w) b k cs e a' w' := by
    intro n
    induction n using Nat.strongRecOn with
    | _ n ih =>
      intro s hI κ a w r
      obtain ⟨e, a₁, w₁, hq, harr⟩ := round n s hI κ a w r b (.inLoop c :: k) cs
      cases e with
      | normal =>
        obtain ⟨κ1, s1, ⟨k', hlt, hI1⟩, r1, st⟩ := hq
        obtain ⟨e₂, a₂, w₂, hq₂, harr₂⟩ := ih k' hlt s1 hI1 κ1 a₁ w₁ r1
        exact ⟨e₂, a₂, w₂, hq₂.after st, .of_steps (Steps.trans harr (.one step_inLoop)) harr₂⟩
      | exit id => exact ⟨_, a₁, w₁, hq, .pass (x := .inLoop c) rfl (fun _ _ => .inl (by simp)) harr⟩
      | goto l => exact ⟨_, a₁, w₁, hq, .pass (x := .inLoop c) rfl (fun _ _ => .inl (by simp)) harr⟩
      | ret => exact ⟨_, a₁, w₁, hq, .pass (x := .inLoop c) rfl (fun _ _ => .inl (by simp)) harr⟩
      | panic ch => exact ⟨_, a₁, w₁, hq, .pass (x := .inLoop c) rfl (fun _ _ => .inl (by simp)) harr⟩
      | outgrown => exact ⟨_, a₁, w₁, hq, .pass (x := .inLoop c) rfl (fun _ _ => .inl (by simp)) harr⟩
  obtain ⟨e, a', w', hq, harr⟩ := key _ s h0 κ a w r
  exact ⟨e, a', w', hq, .of_steps (.one step_loop) harr⟩

/-- A loop by states that are read off plain data. -/
theorem wLoop.inv {α : Type} (tok : TOK P T) {c : Code} {Q : Xq} {f : Fr} {h : Hp} {n : Nat} (I : α → Prop) (F : α → List (Nat × AV)) (H : α → Hp) (N : α → Nat) (μ : α → Nat) (a0 : α) (hc : cOk m c = true) (hI : I a0)
    (h0 : AllF f (F a0)) (h1 : Sub (H a0) h) (h2 : n = N a0)
    (round : ∀ a, I a → wc P T m c (qSeq (fun f' h' n' => ∃ a', AllF f' (F a') ∧ Sub (H a') h' ∧ n' = N a' ∧ I a' ∧ μ a' < μ a) Q) (frl (F a)) (H a) (N a)) :
    wLoop P m c Q f h n := by
  refine AWP.loopR (fun k s => ∃ a, μ a = k ∧ I a ∧ AllF s.f (F a) ∧ Sub (H a) s.h ∧ s.n = N a) (μ a0) ⟨a0, rfl, hI, h0, h1, h2⟩ ?_
  rintro k ⟨sf, sh, sn⟩ ⟨a, rfl, ha, q1, q2, q3⟩
  simp only at q1 q2 q3
  subst q3
  refine AWP.less (frl_le q1) q2 (AWP.mono (fun ex s q => ?_) (wc_ok tok hc (round a ha)))
  cases ex with
  | normal =>
    obtain ⟨a', q1, q2, q3, q4, q5⟩ := q
    exact ⟨μ a', q5, a', rfl, q4, q1, q2, q3⟩
  | _ => exact q

end Go.Acx
