/- Acx, part 13: rows of operations whose order is the text's. -/
import Derived.Test.YtnjhpjiahjjjkaaGreatDoorAcxCode
namespace Go.Acx

variable {P : Program} {T : Tys} {m : Nat} {s : St} {κ : Kap} {a : Act} {w : World} {ops : Array Oper}

def putA (f : Fr) : Option Tmp → AV → Fr
  | some d, v => f.set d v
  | none, _ => f

def loseA (f : Fr) : Option Tmp → Fr
  | some d => f.clear d
  | none => f

def dstOk (m : Nat) : Option Tmp → Bool
  | some d => decide (d < m)
  | none => true

theorem putA_ok {f : Fr} (r : FR κ m f a) {d : Option Tmp} (hd : dstOk m d = true) {v : AV} {x : Value} (h : VR κ v x) : FR κ m (putA f d v) (a.put d x) := by
  cases d with
  | none => exact r
  | some d => exact r.put (by simpa [dstOk] using hd) h

theorem loseA_ok {f : Fr} (r : FR κ m f a) (d : Option Tmp) (x : Value) : FR κ m (loseA f d) (a.put d x) := by
  cases d with
  | none => exact r
  | some d => exact r.lose d x

def wantA (ops : Array Oper) (f : Fr) (o : Oper) : Option Bool :=
  match o.guard with
  | none => some true
  | some (j, want) => match (ops[j]?).bind (·.dst) with
    | some d => match f d with
      | some (.bool b) => some (b == want)
      | some (.tup _) => some false
      | _ => none
    | none => none

theorem wantA_ok {f : Fr} (r : FR κ m f a) {o : Oper} {b : Bool} (e : wantA ops f o = some b) : Region.wanted o (yielded ops a.tmps) = b := by
  unfold wantA at e
  unfold Region.wanted
  split at e
  · rename_i hg; cases e; rw [hg]
  · rename_i j want hg
    rw [hg]
    split at e <;> try (cases e; done)
    rename_i d hd
    split at e <;> cases e
    · rename_i b' hb
      obtain ⟨x, hx, hv⟩ := r.has _ _ hb
      cases hv
      simp only [yielded, hd, Option.bind_some, hx]
      cases b' <;> cases want <;> rfl
    · rename_i b' hb
      obtain ⟨x, hx, hv⟩ := r.has _ _ hb
      cases hv
      simp only [yielded, hd, Option.bind_some, hx]
      cases want <;> rfl

def calleeA (f : Fr) (op : Op) : Option (FuncId × List AV) :=
  match op with
  | .call c => match c.callee with
    | .value x => match evalA f x, evalsA f c.args.toList with
      | some (.fn (.func g) fi ca), some vs => some (g, fi ++ vs ++ ca)
      | _, _ => none
    | _ => none
  | _ => none

/-- A function with a body of its own. -/
def bodied (P : Program) (g : FuncId) : Prop := ∃ fn, P.funcs[g]? = some fn ∧ (fn.name == "runtime.NumGoroutine") = false ∧ fn.body.isNone = false

/-- A function of the model's own. -/
def AExt (P : Program) (g : FuncId) (args : List AV) (h : Hp) (n : Nat) (Q : AV → Hp → Nat → Prop) : Prop :=
  ∀ κ w vs, κ.n = n → HR κ h w → VRs κ args vs → ∃ κ' r h' x w', Q r h' κ'.n ∧ (callFunc g vs.toArray).run P w = .ok (.value x) w' ∧ VR κ' r x ∧ HR κ' h' w' ∧ Step κ h w κ' h' w'

def ACalls (P : Program) (g : FuncId) (args : List AV) (h : Hp) (n : Nat) (Q : AV → Hp → Nat → Prop) : Prop := (bodied P g ∧ ACall P g args h n Q) ∨ AExt P g args h n Q

theorem ACalls.mono {g : FuncId} {args : List AV} {h : Hp} {n : Nat} {Q Q' : AV → Hp → Nat → Prop} (hq : ∀ r h' n', Q r h' n' → Q' r h' n') (hc : ACalls P g args h n Q) : ACalls P g args h n Q' := by
  rcases hc with ⟨hb, hc⟩ | hc
  · exact .inl ⟨hb, fun κ w vs h1 h2 h3 => Calls.mono (hc κ w vs h1 h2 h3) fun _ _ ⟨κ', r, h', x, q, he⟩ => ⟨κ', r, h', x, hq _ _ _ q, he⟩⟩
  · refine .inr fun κ w vs h1 h2 h3 => ?_
    obtain ⟨κ', r, h', x, w', q, he⟩ := hc κ w vs h1 h2 h3
    exact ⟨κ', r, h', x, w', hq _ _ _ q, he⟩

theorem calleeA_ok {f : Fr} (r : FR κ m f a) {o : Oper} {g : FuncId} {args : List AV} (e : calleeA f o.op = some (g, args)) (w : World) :
    ∃ vs, (execOp a.eval o).run P w = (callFunc g vs).run P w ∧ VRs κ args vs.toList := by
  obtain ⟨dst, op, type, pos, after, guard⟩ := o
  simp only at e
  unfold calleeA at e
  split at e <;> try (cases e; done)
  rename_i c
  obtain ⟨callee, as, ats⟩ := c
  simp only at e
  split at e <;> try (cases e; done)
  rename_i x
  split at e <;> cases e
  rename_i fi ca vs hvs hx
  have hf := evalA_ok r hx
  cases hfv : a.eval x <;> rw [hfv] at hf <;> cases hf
  rename_i F C hF hC
  have hv := evalsA_ok r hvs
  refine ⟨F ++ as.map a.eval ++ C, ?_, ?_⟩
  · simp only [execOp, resolve, hfv, Deferred.ofValue, Sem.run_bind, Sem.run_pure, Result.andThen_ok, invoke]
  · simp only [Array.toList_append, Array.toList_map]
    exact (hF.append hv).append hC

theorem bodied.enter {g : FuncId} (hb : bodied P g) (vs : Array Value) (w : World) : (callFunc g vs).run P w = .ok (.enter g vs) w := by
  obtain ⟨fn, hfn, hname, hbody⟩ := hb
  simp only [callFunc, Sem.run_bind, run_program, Result.andThen_ok, hfn, hname, Bool.false_eq_true, if_false, hbody, Sem.run_pure]

def aOp (P : Program) (T : Tys) (m : Nat) (ops : Array Oper) (o : Oper) (K : St → Prop) (s : St) : Prop :=
  match wantA ops s.f o with
  | some true => dstOk m o.dst = true ∧ (match opD T s.f s.h s.n o.op with
    | some (some v, h', n') => K ⟨putA s.f o.dst v, h', n'⟩
    | some (none, h', n') => K ⟨loseA s.f o.dst, h', n'⟩
    | none => match calleeA s.f o.op with
      | some (g, args) => ACalls P g args s.h s.n fun r h' n' => K ⟨putA s.f o.dst r, h', n'⟩
      | none => False)
  | some false => dstOk m o.dst = true ∧ K ⟨putA s.f o.dst (.tup []), s.h, s.n⟩
  | none => False

theorem aOp_ok (tok : TOK P T) (r : Rel κ m s a w) {o : Oper} {K : St → Prop} (h : aOp P T m ops o K s) {KR : Act → World → Prop} {QR : Exit → Act → World → Prop}
    (hk : ∀ a' w', Then κ s.h w m K a' w' → KR a' w') : if Region.wanted o (yielded ops a.tmps) then o.wp P a w KR QR else KR (a.put o.dst undef) w := by
  obtain ⟨hn, hh, hf⟩ := r
  unfold aOp at h
  split at h
  · rename_i hw
    rw [wantA_ok hf hw, if_pos rfl]
    obtain ⟨hd, h⟩ := h
    unfold Oper.wp
    split at h
    · rename_i v h' n' ho
      rw [← hn] at ho
      obtain ⟨w', κ', h1, h2, h3, h4⟩ := opD_ok tok hh hf o ho
      rcases h4 with ⟨v', x, hv, hrun, hvx⟩ | ⟨hv, _⟩
      · cases hv
        rw [hrun]
        exact hk _ _ ⟨κ', _, h, ⟨h3, h1, putA_ok (hf.ext h2.ext) hd hvx⟩, h2⟩
      · cases hv
    · rename_i h' n' ho
      rw [← hn] at ho
      obtain ⟨w', κ', h1, h2, h3, h4⟩ := opD_ok tok hh hf o ho
      rcases h4 with ⟨v', x, hv, _⟩ | ⟨_, hrun⟩
      · cases hv
      · rw [hrun]
        exact hk _ _ ⟨κ', _, h, ⟨h3, h1, loseA_ok (hf.ext h2.ext) _ _⟩, h2⟩
    · split at h
      · rename_i g args hc
        obtain ⟨vs, hrun, hvs⟩ := calleeA_ok (P := P) hf hc w
        rw [hrun]
        rcases h with ⟨hb, h⟩ | h
        · rw [hb.enter]
          have := h κ w vs.toList hn hh hvs
          simp only [Oper.upon]
          rw [Array.toArray_toList] at this
          refine Calls.mono this fun e w' he => ?_
          obtain ⟨κ', rv, h', x, hq, rfl, hvr, hh', hst⟩ := he
          exact hk _ _ ⟨κ', ⟨putA s.f o.dst rv, h', κ'.n⟩, hq, ⟨rfl, hh', putA_ok (hf.ext hst.ext) hd hvr⟩, hst⟩
        · obtain ⟨κ', rv, h', x, w', hq, hrun', hvr, hh', hst⟩ := h κ w vs.toList hn hh hvs
          rw [Array.toArray_toList] at hrun'
          rw [hrun']
          exact hk _ _ ⟨κ', ⟨putA s.f o.dst rv, h', κ'.n⟩, hq, ⟨rfl, hh', putA_ok (hf.ext hst.ext) hd hvr⟩, hst⟩
      · exact h.elim
  · rename_i hw
    rw [wantA_ok hf hw, if_neg (by simp)]
    exact hk _ _ ⟨κ, _, h.2, ⟨hn, hh, putA_ok hf h.1 (.tup _ _ .nil)⟩, Step.refl _ _ _⟩
  · exact h.elim

def aOps (P : Program) (T : Tys) (m : Nat) (ops : Array Oper) : List Oper → (St → Prop) → St → Prop
  | [], K, s => K s
  | o :: l, K, s => aOp P T m ops o (aOps P T m ops l K) s

theorem aOps_ok (tok : TOK P T) {Q : Exit → St → Prop} : ∀ (l : List Oper) (s : St) (κ : Kap) (a : Act) (w : World), Rel κ m s a w → aOps P T m ops l (Q .normal) s → ∀ κ0 h0 w0, Step κ0 h0 w0 κ s.h w →
    wpList P ops (fun e a' w' => Then κ0 h0 w0 m (Q e) a' w') l a w
  | [], s, κ, a, w, r, h, κ0, h0, w0, st => wpList_nil ⟨κ, s, h, r, st⟩
  | o :: l, s, κ, a, w, r, h, κ0, h0, w0, st => wpList_step fun K hK => aOp_ok tok r h fun a' w' t => by
    obtain ⟨κ', s', q, r', st'⟩ := t
    exact hK _ _ (aOps_ok tok l s' κ' a' w' r' q κ0 h0 w0 (st.trans st'))

theorem AWP.region (tok : TOK P T) {Q : Exit → St → Prop} {id : Nat} (h : aOps P T m ops ops.toList (Q .normal) s) : AWP P m (.region id ops false) Q s := fun κ a w r =>
  wp_region_list (aOps_ok tok ops.toList s κ a w r h κ s.h w (Step.refl _ _ _))

theorem aOp_mono {o : Oper} {K K' : St → Prop} (hk : ∀ s, K s → K' s) (h : aOp P T m ops o K s) : aOp P T m ops o K' s := by
  unfold aOp at *
  split at h
  · refine ⟨h.1, ?_⟩
    replace h := h.2
    split at h
    · exact hk _ h
    · exact hk _ h
    · split at h
      · exact h.mono fun _ _ _ q => hk _ q
      · exact h
  · exact ⟨h.1, hk _ h.2⟩
  · exact h

end Go.Acx
