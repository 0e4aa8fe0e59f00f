/- Acx, part 21: code and calls by the evaluator. -/
import Derived.Test.YtnjhpjiahjjjkaaGreatDoorAcxRun2
import Derived.Test.YtnjhpjiahjjjkaaGreatDoorAcxFun
namespace Go.Acx

variable {P : Program} {T : Tys} {m : Nat}

abbrev Xst := Exit → FL → HL → Nat → Bool

def evLoop (body : FL → HL → Nat → Xst → Bool) (K : Xst) : Nat → FL → HL → Nat → Bool
  | 0, _, _, _ => false
  | k + 1, f, h, n => body f h n fun e f h n => match e with
    | .normal => evLoop body K k f h n
    | e => K e f h n

def evCode (T : Tys) (call : Caller) (m : Nat) (rounds : Nat) : Code → FL → HL → Nat → Xst → Bool
  | .skip, f, h, n, K => K .normal f h n
  | .label _, f, h, n, K => K .normal f h n
  | .exit id, f, h, n, K => K (.exit id) f h n
  | .goto id, f, h, n, K => K (.goto id) f h n
  | .ret, f, h, n, K => K .ret f h n
  | .seq x y, f, h, n, K => evCode T call m rounds x f h n fun e f h n => match e with
    | .normal => evCode T call m rounds y f h n K
    | e => K e f h n
  | .cond c x y, f, h, n, K => match evalA (nth f) c with
    | some (.bool true) => evCode T call m rounds x f h n K
    | some (.bool false) => evCode T call m rounds y f h n K
    | _ => false
  | .block id c, f, h, n, K => evCode T call m rounds c f h n fun e f h n => match e with
    | .exit i => if Nat.beq i id then K .normal f h n else K (.exit i) f h n
    | e => K e f h n
  | .loop c, f, h, n, K => evLoop (evCode T call m rounds c) K rounds f h n
  | .region _ ops false, f, h, n, K => evOps T call m ops ops.toList f h n (K .normal)
  | .region _ ops true, f, h, n, K => apartC ops && evLF T call m ops (K .normal) ops.toList.length [] (List.replicate ops.toList.length false) f h n
  | _, _, _, _, _ => false

def CovX (K : Xst) (e : Exit) (s : St) : Prop := Cov (K e) s

theorem CovX.mono_then {K K' : Xst} {Q : St → Prop} (h0 : ∀ f h n, Dom h n → K .normal f h n = true → Q ⟨nth f, nth h, n⟩)
    (h1 : ∀ e f h n, e ≠ .normal → K e f h n = K' e f h n) : ∀ e s, CovX K e s → thenA Q (CovX K') e s := by
  intro e s ⟨f, h, n, hs, hh, hk⟩
  cases e <;> simp only [thenA] <;> first
    | (subst hs; exact h0 f h n hh hk)
    | exact ⟨f, h, n, hs, hh, by rw [← h1 _ _ _ _ (by simp)]; exact hk⟩

theorem evLoop_ok {c : Code} {body : FL → HL → Nat → Xst → Bool} (hb : ∀ f h n K, Dom h n → body f h n K = true → AWP P m c (CovX K) ⟨nth f, nth h, n⟩) (K : Xst) :
    ∀ (k : Nat) (f : FL) (h : HL) (n : Nat), Dom h n → evLoop body K k f h n = true → roundsA P m c (CovX K) k ⟨nth f, nth h, n⟩ := by
  intro k
  induction k with
  | zero => intro f h n _ e; cases e
  | succ k ih =>
    intro f h n hh e
    simp only [evLoop] at e
    refine AWP.mono ?_ (hb f h n _ hh e)
    exact CovX.mono_then (fun f h n hh hk => ih f h n hh hk) (fun e f h n hne => by cases e <;> first | rfl | exact absurd rfl hne)

theorem evCode_ok (tok : TOK P T) (hm : P.follows .mixedOrders = true) {call : Caller} (hc : Calling P call) {rounds : Nat} (hw : m ≤ wide) : ∀ (c : Code) (f : FL) (h : HL) (n : Nat) (K : Xst), Dom h n →
    evCode T call m rounds c f h n K = true → AWP P m c (CovX K) ⟨nth f, nth h, n⟩
  | .skip, f, h, n, K, hh, e => .skip ⟨f, h, n, rfl, hh, e⟩
  | .label _, f, h, n, K, hh, e => .label ⟨f, h, n, rfl, hh, e⟩
  | .exit id, f, h, n, K, hh, e => .exit ⟨f, h, n, rfl, hh, e⟩
  | .goto id, f, h, n, K, hh, e => .goto ⟨f, h, n, rfl, hh, e⟩
  | .ret, f, h, n, K, hh, e => .ret ⟨f, h, n, rfl, hh, e⟩
  | .seq x y, f, h, n, K, hh, e => by
    simp only [evCode] at e
    refine .seq (AWP.mono ?_ (evCode_ok tok hm hc hw x f h n _ hh e))
    exact CovX.mono_then (fun f h n hh hk => evCode_ok tok hm hc hw y f h n K hh hk) (fun e f h n hne => by cases e <;> first | rfl | exact absurd rfl hne)
  | .cond c x y, f, h, n, K, hh, e => by
    simp only [evCode] at e
    split at e
    · rename_i hcv
      exact .cond (t := true) hcv (by simpa using evCode_ok tok hm hc hw x f h n K hh e)
    · rename_i hcv
      exact .cond (t := false) hcv (by simpa using evCode_ok tok hm hc hw y f h n K hh e)
    · cases e
  | .block id c, f, h, n, K, hh, e => by
    simp only [evCode] at e
    refine .block (AWP.mono ?_ (evCode_ok tok hm hc hw c f h n _ hh e))
    rintro e s ⟨f, h, n, hs, hh, hk⟩
    cases e <;> simp only [inBlockA] <;> first
      | exact ⟨f, h, n, hs, hh, hk⟩
      | skip
    rename_i i
    by_cases hi : i = id
    · simp only [hi, if_true]
      have : Nat.beq i id = true := by rw [Nat.beq_eq]; exact hi
      simp only [this, if_true] at hk
      exact ⟨f, h, n, hs, hh, hk⟩
    · simp only [hi, if_false]
      have : Nat.beq i id = false := by rw [nbeq]; simpa using hi
      simp only [this] at hk
      exact ⟨f, h, n, hs, hh, hk⟩
  | .loop c, f, h, n, K, hh, e => by
    simp only [evCode] at e
    exact .rounds rounds (evLoop_ok (fun f h n K => evCode_ok tok hm hc hw c f h n K) K rounds f h n hh e)
  | .region _ ops false, f, h, n, K, hh, e => by
    simp only [evCode] at e
    exact .region tok (evOps_ok hc hw ops.toList f h n _ hh e)
  | .region _ ops true, f, h, n, K, hh, e => by
    simp only [evCode, Bool.and_eq_true] at e
    refine .drawn tok hm (apartC_ok e.1) ?_
    have := evLF_ok hc (K := K .normal) hw _ _ _ f h n (by simp) hh e.2
    have h2 : aLF P T m ops (CovX K .normal) _ _ _ _ := this
    simpa using h2
  | .rangeFunc .., f, h, n, K, hh, e => by simp [evCode] at e
  | .scope _, f, h, n, K, hh, e => by simp [evCode] at e
  | .refuse _, f, h, n, K, hh, e => by simp [evCode] at e

def fillL : List AV → Nat → FL → FL
  | [], _, f => f
  | v :: vs, i, f => fillL vs (i + 1) (Tr.put 24 f i (some v))

theorem fillL_ok : ∀ (vs : List AV) (i : Nat) (f : FL), i + vs.length ≤ wide → ∀ t, nth (fillL vs i f) t = if i ≤ t ∧ t < i + vs.length then vs[t - i]? else nth f t
  | [], i, f, _, t => by
    have : ¬ (i ≤ t ∧ t < i + 0) := by omega
    simp only [fillL, List.length_nil, if_neg this]
  | v :: vs, i, f, h, t => by
    simp only [List.length_cons] at h ⊢
    simp only [fillL]
    rw [fillL_ok vs (i + 1) _ (by omega) t, nth_put24 _ _ (Nat.le_trans (by omega) h)]
    by_cases h1 : t = i
    · subst h1
      have a1 : ¬ (t + 1 ≤ t ∧ t < t + 1 + vs.length) := by omega
      have a2 : t ≤ t ∧ t < t + (vs.length + 1) := by omega
      rw [if_neg a1, if_pos rfl, if_pos a2]
      simp
    · by_cases h2 : i + 1 ≤ t ∧ t < i + 1 + vs.length
      · have a2 : i ≤ t ∧ t < i + (vs.length + 1) := by omega
        rw [if_pos h2, if_pos a2]
        obtain ⟨q, hq⟩ : ∃ q, t - i = q + 1 := ⟨t - i - 1, by omega⟩
        rw [hq, List.getElem?_cons_succ]
        congr 1
        omega
      · have a2 : ¬ (i ≤ t ∧ t < i + (vs.length + 1)) := by omega
        rw [if_neg h2, if_neg h1, if_neg a2]

def enterL (args : List AV) : FL := fillL args 0 .leaf

theorem enterL_ok {args : List AV} (h : args.length ≤ m) (hw : m ≤ wide) : nth (enterL args) = enterF args := by
  funext t
  unfold enterL enterF
  rw [fillL_ok args 0 _ (by omega) t]
  by_cases ht : t < args.length
  · rw [if_pos (by omega)]; rfl
  · rw [if_neg (by omega), List.getElem?_eq_none (by omega)]; rfl

def fillK : List AV → Nat → FL → (FL → Bool) → Bool
  | [], _, f, K => K f
  | v :: vs, i, f, K => putT 24 f i (some v) fun f => fillK vs (i + 1) f K

theorem fillK_eq : ∀ (vs : List AV) (i : Nat) (f : FL) (K : FL → Bool), fillK vs i f K = K (fillL vs i f)
  | [], i, f, K => rfl
  | v :: vs, i, f, K => by simp only [fillK, putT_eq, fillL]; rw [fillK_eq vs]

/-- A table of functions. -/
structure Tab (P : Program) where
  fn : FuncId → Option Func
  ok : ∀ g f, fn g = some f → P.funcs[g]? = some f ∧ (f.name == "runtime.NumGoroutine") = false

/-- Calls that are known. -/
structure Prims (P : Program) where
  val : FuncId → List AV → Option AV
  ok : ∀ g args r, val g args = some r → ∀ h n, ACalls P g args h n fun r' h' n' => r' = r ∧ h' = h ∧ n' = n

def evRet (T : Tys) (rs : List ResultVar) (K : AV → HL → Nat → Bool) : Xst := fun e f h n => match e with
  | .normal => (match resVarsA T ⟨nth f, nth h, n⟩ rs with
    | some vs => K (packA vs) h n
    | none => false)
  | .ret => (match resVarsA T ⟨nth f, nth h, n⟩ rs with
    | some vs => K (packA vs) h n
    | none => false)
  | _ => false

def evCall (T : Tys) (tab : FuncId → Option Func) (prim : FuncId → List AV → Option AV) (rounds : Nat) : Nat → Caller
  | 0, _, _, _, _, _ => false
  | d + 1, g, args, h, n, K => match prim g args with
    | some r => frcV r fun r => K r h n
    | none => match tab g with
      | some fn => match fn.body with
        | some c => Nat.ble args.length fn.ntmps && (Nat.ble fn.ntmps wide && fillK args 0 .leaf fun f => evCode T (evCall T tab prim rounds d) fn.ntmps rounds c f h n (evRet T fn.results.toList K))
        | none => false
      | none => false

theorem evCall_ok (tok : TOK P T) (hm : P.follows .mixedOrders = true) (tab : Tab P) (prim : Prims P) {rounds : Nat} : ∀ d, Calling P (evCall T tab.fn prim.val rounds d) := by
  intro d
  induction d with
  | zero => intro g args h n K _ e; cases e
  | succ d ih =>
    intro g args h n K hh e
    simp only [evCall] at e
    split at e
    · rename_i r hr
      rw [frcV_eq] at e
      refine (prim.ok _ _ _ hr (nth h) n).mono ?_
      rintro r' h' n' ⟨rfl, rfl, rfl⟩
      exact ⟨h, rfl, hh, e⟩
    · split at e <;> try (cases e; done)
      rename_i fn hfn
      split at e <;> try (cases e; done)
      rename_i c hcode
      obtain ⟨hf, hname⟩ := tab.ok _ _ hfn
      simp only [Bool.and_eq_true, Nat.ble_eq, fillK_eq] at e
      obtain ⟨hl, hwd, e⟩ := e
      have k1 := enterL_ok hl hwd
      refine .inl ⟨⟨fn, hf, hname, by simp [hcode]⟩, .of_body tok hf hcode hl ?_⟩
      have := evCode_ok tok hm ih hwd c (enterL args) h n _ hh e
      rw [k1] at this
      refine AWP.mono ?_ this
      rintro ex s ⟨f, h, n, rfl, hh, hk⟩
      cases ex <;> simp only [evRet] at hk <;> try (cases hk; done)
      · split at hk <;> try (cases hk; done)
        rename_i vs hvs
        exact ⟨vs, nth h, hvs, fun _ _ h => h, h, rfl, hh, hk⟩
      · split at hk <;> try (cases hk; done)
        rename_i vs hvs
        exact ⟨vs, nth h, hvs, fun _ _ h => h, h, rfl, hh, hk⟩

theorem AExt.lift {g : FuncId} {args : List AV} {Q : AV → Prop} (ha : pureVs args = true) (hc : AExt P g args Hp.none 0 fun r _ _ => pureV r = true ∧ Q r) (h : Hp) (n : Nat) :
    AExt P g args h n fun r h' n' => Q r ∧ h' = h ∧ n' = n := by
  intro κ w vs hn hh hvs
  have h0 : HR { κ with n := 0 } Hp.none w :=
    ⟨(fun i o h => by cases h), (fun i o h => by cases h), (fun i j o p h => by cases h), hh.imm, (fun i o h => by cases h)⟩
  have none_owns : ∀ b, ¬ Owns { κ with n := 0 } Hp.none b := fun b ⟨i, o, h, _⟩ => by cases h
  obtain ⟨κ1, r, h1, x, w', ⟨hp, hq⟩, hrun, hvr, hh1, st⟩ := hc { κ with n := 0 } w vs rfl h0 (VRs.pure (κ := κ) (κ' := { κ with n := 0 }) (fun _ _ h => h) hvs ha)
  have hex : Ext κ { κ with I := κ1.I } := ⟨Nat.le_refl _, fun _ _ => rfl, fun b o hb => st.ext.I b o hb, fun _ _ => rfl, fun _ _ => rfl⟩
  have himm : ∀ b o, κ1.I b = some o → κ.I b = some o ∨ w.heap.size ≤ b := fun b o hb => by
    rcases st.imm b o hb with h | h | h
    · exact .inl h
    · exact absurd h (none_owns b)
    · exact .inr h
  refine ⟨{ κ with I := κ1.I }, r, h, x, w', ⟨hq, rfl, hn⟩, hrun, VR.pure (κ := κ1) (κ' := { κ with I := κ1.I }) (fun _ _ h => h) hvr hp, ⟨hh.dom, fun i o hi => ?_, hh.inj, hh1.imm, fun i o hi => ?_⟩, ⟨hex, st.size, fun b hb _ => st.keep b hb (none_owns b), fun b hb => .inl hb, fun b o hb => ?_, st.os⟩⟩
  · obtain ⟨O, hO, ho⟩ := hh.own i o hi
    exact ⟨O, by rw [st.keep _ (hh.lt hi) (none_owns _)]; exact hO, ho.ext hex (hh.dom _ _ hi)⟩
  · show κ1.I (κ.ρ i) = none
    cases hI : κ1.I (κ.ρ i) with
    | none => rfl
    | some o' =>
      rcases himm _ _ hI with h2 | h2
      · rw [hh.sep i o hi] at h2; cases h2
      · have := hh.lt hi; omega
  · rcases himm b o hb with h2 | h2
    · exact .inl h2
    · exact .inr (.inr h2)

theorem ACalls.lift {g : FuncId} {args : List AV} {Q : AV → Prop} (ha : pureVs args = true) (hc : ACalls P g args Hp.none 0 fun r _ _ => pureV r = true ∧ Q r) (h : Hp) (n : Nat) :
    ACalls P g args h n fun r h' n' => Q r ∧ h' = h ∧ n' = n := by
  rcases hc with ⟨hb, hc⟩ | hc
  · exact .inl ⟨hb, ACall.lift ha hc h n⟩
  · exact .inr (AExt.lift ha hc h n)

/-- A call of plain values that the evaluator ends with a plain value. -/
theorem evCall_plain (tok : TOK P T) (hm : P.follows .mixedOrders = true) (tab : Tab P) (prim : Prims P) {rounds d : Nat} {g : FuncId} {args : List AV} {r : AV}
    (ha : pureVs args = true) (e : evCall T tab.fn prim.val rounds d g args .leaf 0 (fun r' _ _ => pureV r' && beqV r' r) = true) :
    ∀ h n, ACalls P g args h n fun r' h' n' => r' = r ∧ h' = h ∧ n' = n := by
  have hc := evCall_ok tok hm tab prim d g args .leaf 0 _ (fun _ _ => rfl) e
  refine fun h n => ACalls.lift (Q := fun r' => r' = r) ha ?_ h n
  have : (nth (.leaf : HL)) = Hp.none := funext fun t => rfl
  rw [this] at hc
  refine hc.mono ?_
  rintro r' h' n' ⟨hl, _, _, hk⟩
  simp only [Bool.and_eq_true] at hk
  exact ⟨hk.1, beqV_eq hk.2⟩

end Go.Acx
