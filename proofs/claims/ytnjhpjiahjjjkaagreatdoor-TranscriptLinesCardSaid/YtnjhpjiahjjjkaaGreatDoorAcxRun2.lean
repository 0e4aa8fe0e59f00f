/- Acx, part 20: the evaluator for rows whose order is open. -/
import Derived.Test.YtnjhpjiahjjjkaaGreatDoorAcxRun
namespace Go.Acx

variable {P : Program} {T : Tys} {m : Nat} {ops : Array Oper}

/-! ### apart -/

def operandsL : Op → List Operand
  | .alloc _ | .ready _ | .waits _ => []
  | .move x | .assign x | .box _ x | .load _ x | .nilCheck x | .unOp _ _ x | .convert _ _ x | .sliceToArrayPointer _ x | .makeInterface _ x
  | .makeChan _ x | .fieldAddr _ x _ | .field _ x _ | .range _ x | .next x _ | .entry x | .typeAssert x _ _ _ | .extract x _ | .panic x | .recv _ x _ => [x]
  | .pick c a b => [c, a, b]
  | .build _ ps | .buildSlice _ _ ps => ps.toList.map (·.2)
  | .store _ a v | .binOp _ _ a v _ | .makeSlice _ a v | .indexAddr _ a v | .index _ a v | .lookup _ a v _ | .mapEntry _ a v | .send a v => [a, v]
  | .makeFunc _ first captured => first.toList ++ captured.toList
  | .makeMap _ r => r.toList
  | .slice _ x l h m => x :: (l.toList ++ (h.toList ++ m.toList))
  | .mapUpdate _ m k v | .entryStore _ m k v | .insert _ m k v => [m, k, v]
  | .call c | .go c | .defer c => (match c.callee with | .value f => [f] | .invoke r _ => [r] | .builtin _ => []) ++ c.args.toList
  | .select cs _ => (cs.flatMap fun c => #[c.chan] ++ c.send.toArray).toList

theorem operandsL_eq (op : Op) : op.operands.toList = operandsL op := by
  cases op <;> simp [Op.operands, operandsL, Call.operands]
  all_goals
    rename_i c
    cases c.callee <;> simp

def tmpsL : List Operand → List Tmp
  | [] => []
  | .tmp t :: l => t :: tmpsL l
  | _ :: l => tmpsL l

def hasN (d : Nat) : List Nat → Bool
  | [] => false
  | t :: l => Nat.beq d t || hasN d l

theorem nbeq (a b : Nat) : Nat.beq a b = (a == b) := by
  rw [Bool.eq_iff_iff, Nat.beq_eq, beq_iff_eq]

theorem hasN_eq (d : Nat) : ∀ l : List Nat, hasN d l = l.contains d
  | [] => rfl
  | t :: l => by simp only [hasN, List.contains_cons, hasN_eq d l, nbeq]

theorem tmpsL_eq : ∀ l : List Operand, (l.filterMap fun | .tmp t => some t | _ => none) = tmpsL l
  | [] => rfl
  | x :: l => by cases x <;> simp [tmpsL, tmpsL_eq l]

def looksL (ops : Array Oper) (o : Oper) : List Tmp :=
  tmpsL (operandsL o.op) ++ (match o.guard with
    | some (g, _) => ((ops[g]?).bind (·.dst)).toList
    | none => [])

theorem looksL_eq (o : Oper) : o.looksAt ops = looksL ops o := by
  unfold Oper.looksAt looksL
  rw [operandsL_eq]
  congr 1
  exact tmpsL_eq _

def apartL (dx dy : Option Tmp) (lx ly : List Tmp) : Bool :=
  (match dx with
   | some d => !hasN d ly && (match dy with
     | some e => !Nat.beq e d
     | none => true)
   | none => true) &&
  (match dy with
   | some d => !hasN d lx
   | none => true)

theorem apartL_eq (x y : Oper) (h : apartL x.dst y.dst (looksL ops x) (looksL ops y) = true) : x.apart ops y = true := by
  unfold Oper.apart
  rw [looksL_eq, looksL_eq]
  unfold apartL at h
  simp only [hasN_eq, nbeq] at h
  cases hx : x.dst <;> cases hy : y.dst <;> simp only [hx, hy] at h ⊢ <;> simp_all

def depL (i : Nat) : List Edge → Bool
  | [] => false
  | e :: l => (Region.binds .any e && Nat.beq e.on i) || depL i l

theorem depL_eq (o : Oper) (i : Nat) : dep o i = depL i o.after.toList := by
  unfold dep
  rw [← Array.any_toList]
  induction o.after.toList with
  | nil => rfl
  | cons e l ih => simp only [List.any_cons, depL, ih, nbeq]

structure Look where
  i : Nat
  dst : Option Tmp
  after : List Edge
  looks : List Tmp

def looks (ops : Array Oper) : List Oper → Nat → List Look
  | [], _ => []
  | o :: l, i => ⟨i, o.dst, o.after.toList, looksL ops o⟩ :: looks ops l (i + 1)

def okPair (x y : Look) : Bool := depL x.i y.after || depL y.i x.after || apartL x.dst y.dst x.looks y.looks

def okAll : List Look → Bool
  | [] => true
  | x :: l => (l.all fun y => okPair x y && okPair y x) && okAll l

def apartC (ops : Array Oper) : Bool := okAll (looks ops ops.toList 0)

theorem looks_get : ∀ (l : List Oper) (i j : Nat) (o : Oper), l[j]? = some o → (looks ops l i)[j]? = some ⟨i + j, o.dst, o.after.toList, looksL ops o⟩
  | [], i, j, o, h => by simp at h
  | x :: l, i, 0, o, h => by simp at h; subst h; simp [looks]
  | x :: l, i, j + 1, o, h => by
    have := looks_get l (i + 1) j o (by simpa using h)
    simp only [looks, List.getElem?_cons_succ, this]
    simp [Nat.add_assoc, Nat.add_comm 1]

theorem okAll_get : ∀ (l : List Look) (i j : Nat) (x y : Look), okAll l = true → i < j → l[i]? = some x → l[j]? = some y → okPair x y = true ∧ okPair y x = true
  | [], i, j, x, y, _, _, h, _ => by simp at h
  | z :: l, 0, 0, x, y, _, h, _, _ => by omega
  | z :: l, 0, j + 1, x, y, e, _, h1, h2 => by
    simp only [okAll, Bool.and_eq_true, List.all_eq_true] at e
    simp at h1 h2
    subst h1
    exact e.1 y (List.mem_of_getElem? h2)
  | z :: l, i + 1, 0, x, y, _, h, _, _ => by omega
  | z :: l, i + 1, j + 1, x, y, e, h, h1, h2 => by
    simp only [okAll, Bool.and_eq_true] at e
    exact okAll_get l i j x y e.2 (by omega) (by simpa using h1) (by simpa using h2)

theorem apartC_ok (h : apartC ops = true) : ApartAll ops := by
  intro i j oi oj hi hj hne d1 d2
  rw [depL_eq] at d1 d2
  have g1 := looks_get (ops := ops) ops.toList 0 i oi (by simpa using hi)
  have g2 := looks_get (ops := ops) ops.toList 0 j oj (by simpa using hj)
  have fin : okPair ⟨0 + i, oi.dst, oi.after.toList, looksL ops oi⟩ ⟨0 + j, oj.dst, oj.after.toList, looksL ops oj⟩ = true := by
    rcases Nat.lt_or_ge i j with hlt | hge
    · exact (okAll_get _ i j _ _ h hlt g1 g2).1
    · exact (okAll_get _ j i _ _ h (by omega) g2 g1).2
  unfold okPair at fin
  simp only [Nat.zero_add, d1, d2, Bool.false_or] at fin
  exact apartL_eq _ _ fin

/-! ### what only looks -/

structure Lite where
  x : Nat
  o : Oper
  f : FL
  e : AV

def liteOf (T : Tys) (m : Nat) (ops : Array Oper) (f : FL) (h : HL) (o : Oper) : Option AV :=
  if dstOk m o.dst then (match wantA ops (nth f) o with
    | some true => opPF T (nth f) (nth h) o.op
    | some false => some (.tup [])
    | none => none) else none

def effOf (o : Oper) (v : AV) : Fr → Fr := fun f => putA f o.dst v

theorem liteOf_ok {f : FL} {h : HL} {o : Oper} {e : AV} (hl : liteOf T m ops f h o = some e) : Yield T m ops o (effOf o e) (nth f) (nth h) := by
  unfold liteOf at hl
  rw [opPF_eq] at hl
  refine ⟨?_⟩
  split at hl <;> try (cases hl; done)
  rename_i hd
  split at hl
  · rename_i hw
    exact .inl ⟨hw, hd, e, hl, rfl⟩
  · rename_i hw
    cases hl
    exact .inr ⟨hw, hd, rfl⟩
  · cases hl

theorem liteOf_dst {f : FL} {h : HL} {o : Oper} {e : AV} (hl : liteOf T m ops f h o = some e) : dstOk m o.dst = true := by
  unfold liteOf at hl
  split at hl <;> try (cases hl; done)
  assumption

def findLite (T : Tys) (m : Nat) (ops : Array Oper) (f : FL) (h : HL) : List Nat → Option (Nat × Oper × AV)
  | [] => none
  | i :: l => match ops[i]? with
    | some o => if lightOp o.op then (match liteOf T m ops f h o with
      | some e => some (i, o, e)
      | none => findLite T m ops f h l) else findLite T m ops f h l
    | none => findLite T m ops f h l

theorem findLite_ok {f : FL} {h : HL} : ∀ {l : List Nat} {x : Nat} {o : Oper} {e : AV}, findLite T m ops f h l = some (x, o, e) →
    x ∈ l ∧ ops[x]? = some o ∧ lightOp o.op = true ∧ liteOf T m ops f h o = some e
  | [], x, o, e, h => by cases h
  | i :: l, x, o, e, hh => by
    simp only [findLite] at hh
    split at hh
    · rename_i o' ho
      split at hh
      · rename_i hl
        split at hh
        · cases hh
          rename_i he
          exact ⟨List.mem_cons_self, ho, hl, he⟩
        · obtain ⟨h1, h2⟩ := findLite_ok hh
          exact ⟨List.mem_cons_of_mem _ h1, h2⟩
      · obtain ⟨h1, h2⟩ := findLite_ok hh
        exact ⟨List.mem_cons_of_mem _ h1, h2⟩
    · obtain ⟨h1, h2⟩ := findLite_ok hh
      exact ⟨List.mem_cons_of_mem _ h1, h2⟩

def sameE : Option AV → AV → Bool
  | some v, w => beqV v w
  | none, _ => false

theorem sameE_ok {a : Option AV} {e : AV} (h : sameE a e = true) : a = some e := by
  cases a with
  | none => simp [sameE] at h
  | some a => simp only [sameE] at h; rw [beqV_eq h]

def checkL (T : Tys) (m : Nat) (ops : Array Oper) (o : Oper) (h : HL) : List Lite → Bool
  | [] => true
  | p :: l => (depL p.x o.after.toList || sameE (liteOf T m ops p.f h p.o) p.e) && checkL T m ops o h l

def predOf (T : Tys) (m : Nat) (ops : Array Oper) (p : Lite) : Nat × (Hp → Prop) := (p.x, Yield T m ops p.o (effOf p.o p.e) (nth p.f))

theorem checkL_ok {o : Oper} {h : HL} : ∀ {l : List Lite}, checkL T m ops o h l = true → ∀ p ∈ l.map (predOf T m ops), dep o p.1 = false → p.2 (nth h)
  | [], _, p, hp, _ => by simp at hp
  | q :: l, e, p, hp, hd => by
    simp only [checkL, Bool.and_eq_true, Bool.or_eq_true] at e
    simp only [List.map_cons, List.mem_cons] at hp
    rcases hp with rfl | hp
    · rw [depL_eq] at hd
      simp only [predOf] at hd ⊢
      rcases e.1 with h1 | h1
      · rw [hd] at h1; cases h1
      · exact liteOf_ok (sameE_ok h1)
    · exact checkL_ok e.2 p hp hd

def setB : List Bool → Nat → (List Bool → Bool) → Bool
  | [], _, K => K []
  | _ :: l, 0, K => K (true :: l)
  | x :: l, d + 1, K => setB l d fun l => K (x :: l)

theorem setB_eq : ∀ (l : List Bool) (d : Nat) (K : List Bool → Bool), setB l d K = K (l.set d true)
  | [], d, K => rfl
  | x :: l, 0, K => rfl
  | x :: l, d + 1, K => by simp only [setB, List.set_cons_succ]; rw [setB_eq l]

def evLF (T : Tys) (call : Caller) (m : Nat) (ops : Array Oper) (K : Kst) : Nat → List Lite → List Bool → FL → HL → Nat → Bool
  | 0, _, bs, f, h, n => match readyL bs ops.toList bs 0 with
    | [] => K f h n
    | _ => false
  | fuel + 1, L, bs, f, h, n => match readyL bs ops.toList bs 0 with
    | [] => K f h n
    | i :: is => match findLite T m ops f h (i :: is) with
      | some (x, o, e) => frcV e fun e => putK f o.dst (some e) fun f' => setB bs x fun bs => evLF T call m ops K fuel (⟨x, o, f, e⟩ :: L) bs f' h n
      | none => (i :: is).all fun i => match ops[i]? with
        | some o => evOp T call m ops o f h n fun f h n => checkL T m ops o h L && setB bs i fun bs => evLF T call m ops K fuel L bs f h n
        | none => true

theorem effOf_put' {o : Oper} {f : FL} {h : HL} (hf : m ≤ wide) {e : AV} (hl : liteOf T m ops f h o = some e) : effOf o e (nth f) = nth (putL f o.dst (some e)) :=
  (putL_put hf (liteOf_dst hl) e).symm

theorem evLF_ok {call : Caller} (hc : Calling P call) {K : Kst} (hf : m ≤ wide) : ∀ (fuel : Nat) (L : List Lite) (bs : List Bool) (f : FL) (h : HL) (n : Nat), bs.length = ops.size → Dom h n →
    evLF T call m ops K fuel L bs f h n = true → aLF P T m ops (Cov K) fuel (L.map (predOf T m ops)) bs.toArray ⟨nth f, nth h, n⟩ := by
  have none_of : ∀ bs : List Bool, bs.length = ops.size → readyL bs ops.toList bs 0 = [] → Region.ready .any ops bs.toArray = [] := fun bs hb hr => by
    rw [List.eq_nil_iff_forall_not_mem]
    intro j hj
    rw [ready_eq hb, hr] at hj
    cases hj
  have not_none : ∀ (bs : List Bool) (i : Nat) (is : List Nat), bs.length = ops.size → readyL bs ops.toList bs 0 = i :: is → Region.ready .any ops bs.toArray ≠ [] := fun bs i is hb hr hn => by
    have : i ∈ Region.ready .any ops bs.toArray := by rw [ready_eq hb, hr]; exact List.mem_cons_self
    rw [hn] at this
    cases this
  intro fuel
  induction fuel with
  | zero =>
    intro L bs f h n hb hh e
    simp only [evLF] at e
    split at e <;> try (cases e; done)
    rename_i hr
    exact ⟨none_of bs hb hr, ⟨f, h, n, rfl, hh, e⟩⟩
  | succ fuel ih =>
    intro L bs f h n hb hh e
    simp only [evLF] at e
    split at e
    · rename_i hr
      have hn := none_of bs hb hr
      refine .inr ⟨fun _ => ⟨f, h, n, rfl, hh, e⟩, fun i hi => ?_⟩
      rw [hn] at hi
      cases hi
    · rename_i i is hr
      split at e
      · rename_i x o ev hfl
        rw [frcV_eq, putK_eq, setB_eq] at e
        obtain ⟨k1, k2, k3, k4⟩ := findLite_ok hfl
        refine .inl ⟨x, by rw [ready_eq hb, hr]; exact k1, o, effOf o ev, k2, k3, liteOf_ok k4, ?_⟩
        have := ih (⟨x, o, f, ev⟩ :: L) (bs.set x true) (putL f o.dst (some ev)) h n (by simpa using hb) hh e
        rw [List.map_cons] at this
        rw [List.setIfInBounds_toArray]
        simp only [effOf_put' hf k4]
        exact this
      · refine .inr ⟨fun hn => absurd hn (not_none bs i is hb hr), fun j hj o ho => ?_⟩
        rw [ready_eq hb, hr] at hj
        have := List.all_eq_true.1 e j hj
        simp only [ho] at this
        refine aOp_mono (fun s hs => ?_) (evOp_ok hc hf hh this)
        obtain ⟨f', h', n', rfl, hh', e'⟩ := hs
        simp only [Bool.and_eq_true] at e'
        refine ⟨checkL_ok e'.1, ?_⟩
        rw [List.setIfInBounds_toArray]
        replace e' := e'.2
        rw [setB_eq] at e'
        exact ih L (bs.set j true) f' h' n' (by simpa using hb) hh' e'

end Go.Acx
