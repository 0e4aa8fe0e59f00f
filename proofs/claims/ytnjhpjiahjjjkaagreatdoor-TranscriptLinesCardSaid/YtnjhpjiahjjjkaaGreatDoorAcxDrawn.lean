/- Acx, part 15: rows of operations whose order is open. -/
import Derived.Test.YtnjhpjiahjjjkaaGreatDoorAcxFun
namespace Go.Acx

variable {P : Program} {T : Tys} {m : Nat} {ops : Array Oper} {Q : St → Prop}

/-- Operations that only look. -/
def lightOp : Op → Bool
  | .move _ | .assign _ | .pick .. | .load .. | .nilCheck _ | .binOp .. | .unOp .. | .convert .. | .makeInterface .. | .makeFunc .. | .slice .. | .fieldAddr .. | .field .. | .indexAddr ..
  | .index .. | .lookup .. | .extract .. | .build .. => true
  | .call c => match c.callee with
    | .builtin .len | .builtin .max | .builtin .min => true
    | _ => false
  | _ => false

theorem light_opS {f : Fr} {h : Hp} {op : Op} (e : lightOp op = true) : opS T f h op = none := by cases op <;> first | rfl | (simp [lightOp] at e)
theorem light_opN {f : Fr} {h : Hp} {n : Nat} {op : Op} (e : lightOp op = true) : opN T f h n op = none := by
  cases op <;> first
    | rfl
    | (simp [lightOp] at e; done)
    | skip
  rename_i c
  obtain ⟨callee, args, ats⟩ := c
  cases callee with
  | builtin b => cases b <;> first | rfl | (simp [lightOp] at e)
  | _ => rfl
theorem light_callee {f : Fr} {op : Op} (e : lightOp op = true) : calleeA f op = none := by
  cases op <;> first
    | rfl
    | skip
  rename_i c
  obtain ⟨callee, args, ats⟩ := c
  cases callee with
  | value x => simp [lightOp] at e
  | _ => rfl

/-- Two frames say the same of what an operation looks at. -/
def Like (ops : Array Oper) (o : Oper) (f f' : Fr) : Prop := ∀ t ∈ o.looksAt ops, f t = f' t

theorem Like.eval {o : Oper} {f f' : Fr} (l : Like ops o f f') {x : Operand} (hx : x ∈ o.op.operands) : evalA f x = evalA f' x := by
  cases x with
  | tmp t => exact l t (List.mem_append_left _ (List.mem_filterMap.2 ⟨.tmp t, by simpa using hx, rfl⟩))
  | _ => rfl

theorem evalsA_congr {f f' : Fr} : ∀ {l : List Operand}, (∀ x ∈ l, evalA f x = evalA f' x) → evalsA f l = evalsA f' l
  | [], _ => rfl
  | x :: l, h => by
    simp only [evalsA]
    rw [h x (by simp), evalsA_congr (l := l) fun y hy => h y (by simp [hy])]

theorem pairsA_congr {f f' : Fr} : ∀ {l : List (Nat × Operand)}, (∀ x ∈ l, evalA f x.2 = evalA f' x.2) → pairsA f l = pairsA f' l
  | [], _ => rfl
  | (i, x) :: l, h => by
    simp only [pairsA]
    rw [h (i, x) (by simp), pairsA_congr (l := l) fun y hy => h y (by simp [hy])]

theorem optA_congr {f f' : Fr} {o : Option Operand} (h : ∀ x, o = some x → evalA f x = evalA f' x) : optA f o = optA f' o := by
  cases o with
  | none => rfl
  | some x => simp only [optA]; rw [h x rfl]

theorem Like.want {o : Oper} {f f' : Fr} (l : Like ops o f f') : wantA ops f o = wantA ops f' o := by
  unfold wantA
  split
  · rfl
  · rename_i j want hg
    split
    · rename_i d hd
      rw [l d (List.mem_append_right _ (by simp [hg, hd]))]
    · rfl

theorem Like.opP {o : Oper} {f f' : Fr} (l : Like ops o f f') (h : Hp) : opP T f h o.op = opP T f' h o.op := by
  obtain ⟨dst, op, type, pos, after, guard⟩ := o
  have ev := fun (x : Operand) (hx : x ∈ op.operands) => l.eval hx
  cases op <;> simp only [Acx.opP] <;> first
    | rfl
    | (rw [ev _ (by simp [Op.operands])]; done)
    | (rw [ev _ (by simp [Op.operands]), ev _ (by simp [Op.operands])]; done)
    | skip
  case pick c a b => rw [ev c (by simp [Op.operands]), ev a (by simp [Op.operands]), ev b (by simp [Op.operands])]
  case makeFunc fn a b =>
    rw [evalsA_congr (l := a.toList) fun x hx => ev x (by simp [Op.operands] at *; exact .inl hx), evalsA_congr (l := b.toList) fun x hx => ev x (by simp [Op.operands] at *; exact .inr hx)]
  case slice t x lo hi mx =>
    cases mx with
    | some _ => rfl
    | none =>
      simp only
      rw [ev x (by simp [Op.operands]), optA_congr (o := lo) fun y hy => ev y (by subst hy; simp [Op.operands]), optA_congr (o := hi) fun y hy => ev y (by subst hy; simp [Op.operands])]
  case build t ps =>
    rw [pairsA_congr (l := ps.toList) fun x hx => ev x.2 (by simp only [Op.operands, List.mem_toArray, List.mem_map]; exact ⟨x, hx, rfl⟩)]
  case call c =>
    obtain ⟨callee, args, ats⟩ := c
    have ha : evalsA f args.toList = evalsA f' args.toList := evalsA_congr fun x hx => ev x (by simp [Op.operands, Call.operands] at *; exact .inr hx)
    simp only [ha]

theorem Like.opD {o : Oper} {f f' : Fr} (l : Like ops o f f') (h : Hp) (n : Nat) : opD T f h n o.op = opD T f' h n o.op := by
  unfold Acx.opD
  rw [l.opP h]
  obtain ⟨dst, op, type, pos, after, guard⟩ := o
  have ev := fun (x : Operand) (hx : x ∈ op.operands) => l.eval hx
  have hS : opS T f h op = opS T f' h op := by
    cases op <;> simp only [Acx.opS] <;> first
      | rfl
      | (rw [ev _ (by simp [Op.operands]), ev _ (by simp [Op.operands])]; done)
      | skip
    case mapUpdate t x k v => rw [ev x (by simp [Op.operands]), ev k (by simp [Op.operands]), ev v (by simp [Op.operands])]
    case insert t x k v => rw [ev x (by simp [Op.operands]), ev k (by simp [Op.operands]), ev v (by simp [Op.operands])]
  have hN : opN T f h n op = opN T f' h n op := by
    cases op <;> simp only [Acx.opN] <;> first
      | rfl
      | (rw [ev _ (by simp [Op.operands])]; done)
      | skip
    case buildSlice t len ps =>
      rw [pairsA_congr (l := ps.toList) fun x hx => ev x.2 (by simp only [Op.operands, List.mem_toArray, List.mem_map]; exact ⟨x, hx, rfl⟩)]
    case makeMap t hint => cases hint <;> rfl
    case makeSlice t x y => rw [ev x (by simp [Op.operands]), ev y (by simp [Op.operands])]
    case call c =>
      obtain ⟨callee, args, ats⟩ := c
      have ha : evalsA f args.toList = evalsA f' args.toList := evalsA_congr fun x hx => ev x (by simp [Op.operands, Call.operands] at *; exact .inr hx)
      simp only [ha]
  simp only [hS, hN]

theorem Like.callee {o : Oper} {f f' : Fr} (l : Like ops o f f') : calleeA f o.op = calleeA f' o.op := by
  obtain ⟨dst, op, type, pos, after, guard⟩ := o
  have ev := fun (x : Operand) (hx : x ∈ op.operands) => l.eval hx
  cases op <;> first
    | rfl
    | skip
  rename_i c
  obtain ⟨callee, args, ats⟩ := c
  cases callee with
  | value x =>
    have ha : evalsA f args.toList = evalsA f' args.toList := evalsA_congr fun x hx => ev x (by simp [Op.operands, Call.operands] at *; exact .inr hx)
    have hx : evalA f x = evalA f' x := ev x (by simp [Op.operands, Call.operands])
    simp only [calleeA, ha, hx]
  | _ => rfl


/-! ### any order -/

def aWpOp (P : Program) (T : Tys) (m : Nat) (ops : Array Oper) (i : Nat) (K : St → Prop) (s : St) : Prop :=
  match ops[i]? with
  | none => K s
  | some o => aOp P T m ops o K s

def aAny (P : Program) (T : Tys) (m : Nat) (ops : Array Oper) (Q : St → Prop) : Nat → Array Bool → St → Prop
  | 0, listed, s => Region.ready .any ops listed = [] ∧ Q s
  | fuel + 1, listed, s => (Region.ready .any ops listed = [] → Q s) ∧
    ∀ i ∈ Region.ready .any ops listed, aWpOp P T m ops i (aAny P T m ops Q fuel (listed.setIfInBounds i true)) s

theorem aAny_ok (tok : TOK P T) {QA : Exit → St → Prop} : ∀ (fuel : Nat) (listed : Array Bool) (s : St) (κ : Kap) (a : Act) (w : World), Rel κ m s a w → aAny P T m ops (QA .normal) fuel listed s →
    ∀ κ0 h0 w0, Step κ0 h0 w0 κ s.h w → wpAny P .any ops (fun e a' w' => Then κ0 h0 w0 m (QA e) a' w') fuel listed a w := by
  intro fuel
  induction fuel with
  | zero => intro listed s κ a w r h κ0 h0 w0 st; exact ⟨h.1, ⟨κ, s, h.2, r, st⟩⟩
  | succ fuel ih =>
    intro listed s κ a w r h κ0 h0 w0 st
    refine ⟨fun he => ⟨κ, s, h.1 he, r, st⟩, fun i hi => ?_⟩
    have hop := h.2 i hi
    unfold aWpOp at hop
    unfold wpOp
    cases ho : ops[i]? with
    | none =>
      simp only [ho] at hop
      exact ih _ s κ a w r hop κ0 h0 w0 st
    | some o =>
      simp only [ho] at hop
      have := aOp_ok (QR := fun e a' w' => Then κ0 h0 w0 m (QA e) a' w') tok r hop (KR := wpAny P .any ops (fun e a' w' => Then κ0 h0 w0 m (QA e) a' w') fuel (listed.setIfInBounds i true)) fun a' w' t => by
        obtain ⟨κ', s', q, r', st'⟩ := t
        exact ih _ s' κ' a' w' r' q κ0 h0 w0 (st.trans st')
      by_cases hw : Region.wanted o (yielded ops a.tmps) = true
      · rw [if_pos hw] at this; simp only [hw, if_true]; exact .inl this
      · rw [if_neg hw] at this; simp only [hw]; exact this

theorem AWP.drawn_any (tok : TOK P T) (hm : P.follows .mixedOrders = true) {QA : Exit → St → Prop} {id : Nat} {s : St}
    (h : aAny P T m ops (QA .normal) ops.size (Array.replicate ops.size false) s) : AWP P m (.region id ops true) QA s := fun κ a w r => by
  refine wp_region_any hm ?_
  exact aAny_ok tok _ _ s κ a { w with drawn := w.drawn + 1 } ⟨r.1, r.2.1.heap rfl, r.2.2⟩ h κ s.h w (Step.heap rfl)

def dep (o : Oper) (i : Nat) : Bool := o.after.any fun e => Region.binds .any e && e.on == i

/-- Any order, with tests behind each operation that does not only look. -/
def aAnyC (P : Program) (T : Tys) (m : Nat) (ops : Array Oper) (Q : St → Prop) (L : List (Nat × (Hp → Prop))) : Nat → Array Bool → St → Prop
  | 0, listed, s => Region.ready .any ops listed = [] ∧ Q s
  | fuel + 1, listed, s => (Region.ready .any ops listed = [] → Q s) ∧
    ∀ i ∈ Region.ready .any ops listed, ∀ o, ops[i]? = some o → aOp P T m ops o (fun s' => (lightOp o.op = false → ∀ p ∈ L, dep o p.1 = false → p.2 s'.h) ∧
      aAnyC P T m ops Q L fuel (listed.setIfInBounds i true) s') s

theorem aAnyC_less {L L' : List (Nat × (Hp → Prop))} (hl : ∀ p ∈ L', p ∈ L) : ∀ (fuel : Nat) (listed : Array Bool) (s : St), aAnyC P T m ops Q L fuel listed s → aAnyC P T m ops Q L' fuel listed s := by
  intro fuel
  induction fuel with
  | zero => intro listed s h; exact h
  | succ fuel ih =>
    intro listed s h
    exact ⟨h.1, fun i hi o ho => aOp_mono (fun s' hs => ⟨fun hlt p hp => hs.1 hlt p (hl p hp), ih _ _ hs.2⟩) (h.2 i hi o ho)⟩

theorem aAnyC_any : ∀ (fuel : Nat) (listed : Array Bool) (s : St), aAnyC P T m ops Q [] fuel listed s → aAny P T m ops Q fuel listed s := by
  intro fuel
  induction fuel with
  | zero => intro listed s h; exact h
  | succ fuel ih =>
    intro listed s h
    refine ⟨h.1, fun i hi => ?_⟩
    obtain ⟨_, o, ho, _⟩ := mem_ready.1 hi
    unfold aWpOp
    rw [ho]
    exact aOp_mono (fun s' hs => ih _ _ hs.2) (h.2 i hi o ho)

/-- What a light operation does to the frame. -/
structure Yield (T : Tys) (m : Nat) (ops : Array Oper) (o : Oper) (eff : Fr → Fr) (f : Fr) (h : Hp) : Prop where
  ok : (wantA ops f o = some true ∧ dstOk m o.dst = true ∧ ∃ v, opP T f h o.op = some v ∧ eff = fun f => putA f o.dst v) ∨ (wantA ops f o = some false ∧ dstOk m o.dst = true ∧ eff = fun f => putA f o.dst (.tup []))

theorem Yield.aOp {o : Oper} {eff : Fr → Fr} {s : St} (y : Yield T m ops o eff s.f s.h) {K : St → Prop} (hk : K ⟨eff s.f, s.h, s.n⟩) : aOp P T m ops o K s := by
  unfold Acx.aOp
  rcases y.ok with ⟨hw, hd, v, hv, rfl⟩ | ⟨hw, hd, rfl⟩
  · rw [hw]
    simp only [opD, hv]
    exact ⟨hd, hk⟩
  · rw [hw]; exact ⟨hd, hk⟩

theorem Yield.like {o : Oper} {eff : Fr → Fr} {f f' : Fr} {h : Hp} (y : Yield T m ops o eff f h) (l : Like ops o f f') : Yield T m ops o eff f' h := by
  refine ⟨?_⟩
  rw [← l.want, ← l.opP h]
  exact y.ok

theorem eff_get {o : Oper} {eff : Fr → Fr} {f0 : Fr} {h : Hp} (y : Yield T m ops o eff f0 h) (f : Fr) (t : Nat) (ht : o.dst ≠ some t) : eff f t = f t := by
  rcases y.ok with ⟨_, _, v, _, rfl⟩ | ⟨_, _, rfl⟩ <;> cases hd : o.dst with
    | none => simp [putA, loseA]
    | some d =>
      have hne : t ≠ d := fun e => ht (by rw [hd, e])
      simp [putA, loseA, Fr.set, Fr.clear, hne]

theorem eff_put {o : Oper} {eff : Fr → Fr} {f0 : Fr} {h : Hp} (y : Yield T m ops o eff f0 h) (f : Fr) {d : Option Tmp} (v : AV) (hd : ∀ t, o.dst = some t → d ≠ some t) : eff (putA f d v) = putA (eff f) d v := by
  funext t
  rcases y.ok with ⟨_, _, v', _, rfl⟩ | ⟨_, _, rfl⟩ <;> cases ho : o.dst with
    | none => rfl
    | some d1 => cases d with
      | none => rfl
      | some d2 =>
        have hne : d2 ≠ d1 := fun e => hd d1 ho (by rw [e])
        simp only [putA, loseA, Fr.set, Fr.clear]
        by_cases h1 : t = d1
        · have h2 : ¬ d1 = d2 := fun e => hne e.symm
          simp only [h1, if_true, h2, if_false]
        · simp only [h1, if_false]

theorem eff_lose {o : Oper} {eff : Fr → Fr} {f0 : Fr} {h : Hp} (y : Yield T m ops o eff f0 h) (f : Fr) {d : Option Tmp} (hd : ∀ t, o.dst = some t → d ≠ some t) : eff (loseA f d) = loseA (eff f) d := by
  funext t
  rcases y.ok with ⟨_, _, v', _, rfl⟩ | ⟨_, _, rfl⟩ <;> cases ho : o.dst with
    | none => rfl
    | some d1 => cases d with
      | none => rfl
      | some d2 =>
        have hne : d2 ≠ d1 := fun e => hd d1 ho (by rw [e])
        simp only [putA, loseA, Fr.set, Fr.clear]
        by_cases h1 : t = d1
        · have h2 : ¬ d1 = d2 := fun e => hne e.symm
          simp only [h1, if_true, h2, if_false]
        · simp only [h1, if_false]

end Go.Acx
