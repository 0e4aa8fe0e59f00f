/- Acx, part 19: the evaluator. -/
import Derived.Test.YtnjhpjiahjjjkaaGreatDoorAcxForce
import Derived.Test.YtnjhpjiahjjjkaaGreatDoorAcxFast
namespace Go.Acx

variable {P : Program} {T : Tys} {m : Nat} {ops : Array Oper}

abbrev Kst := FL → HL → Nat → Bool
abbrev Caller := FuncId → List AV → HL → Nat → (AV → HL → Nat → Bool) → Bool

/-- The states that a test covers. -/
def Dom (h : HL) (n : Nat) : Prop := ∀ i, n ≤ i → nth h i = none

def Cov (K : Kst) (s : St) : Prop := ∃ f h n, s = ⟨nth f, nth h, n⟩ ∧ Dom h n ∧ K f h n = true

def Calling (P : Program) (call : Caller) : Prop := ∀ g args h n K, Dom h n → call g args h n K = true →
  ACalls P g args (nth h) n fun r h' n' => ∃ hl, h' = nth hl ∧ Dom hl n' ∧ K r hl n' = true

def evOp (T : Tys) (call : Caller) (m : Nat) (ops : Array Oper) (o : Oper) (f : FL) (h : HL) (n : Nat) (K : Kst) : Bool :=
  match wantA ops (nth f) o with
  | some true => dstOk m o.dst && (match opDF T (nth f) (nth h) n o.op with
    | some (some v, h', n') => frcV v fun v => putK f o.dst (some v) fun f' => stepK h h' n n' (touchA (nth f) o.op) fun h n => K f' h n
    | some (none, h', n') => putK f o.dst none fun f' => stepK h h' n n' (touchA (nth f) o.op) fun h n => K f' h n
    | none => match calleeA (nth f) o.op with
      | some (g, args) => frcVs args fun args => call g args h n fun r h n => frcV r fun r => putK f o.dst (some r) fun f => K f h n
      | none => false)
  | some false => dstOk m o.dst && putK f o.dst (some (.tup [])) fun f => K f h n
  | none => false

theorem evOp_ok {call : Caller} (hc : Calling P call) {o : Oper} {f : FL} {h : HL} {n : Nat} {K : Kst} (hf : m ≤ wide) (hh : Dom h n) (e : evOp T call m ops o f h n K = true) :
    aOp P T m ops o (Cov K) ⟨nth f, nth h, n⟩ := by
  unfold evOp at e
  rw [opDF_eq] at e
  unfold aOp
  split at e
  · rename_i hw
    simp only [hw]
    simp only [Bool.and_eq_true] at e
    refine ⟨e.1, ?_⟩
    have hd := e.1
    replace e := e.2
    split at e
    · rename_i v h' n' ho
      simp only [ho]
      rw [frcV_eq, putK_eq] at e
      obtain ⟨e, e1, e2⟩ := stepK_ok e
      obtain ⟨h1, h2, h3⟩ := (opD_form ho).ok hh
      have k1 := stepH_ok hh h1 h2 h3 e1 e2
      refine ⟨putL f o.dst (some v), stepH h h' n n' (touchA (nth f) o.op), n', ?_, fun i hi => by rw [k1]; exact h2 i hi, e⟩
      rw [k1, putL_put hf hd]
    · rename_i h' n' ho
      simp only [ho]
      rw [putK_eq] at e
      obtain ⟨e, e1, e2⟩ := stepK_ok e
      obtain ⟨h1, h2, h3⟩ := (opD_form ho).ok hh
      have k1 := stepH_ok hh h1 h2 h3 e1 e2
      refine ⟨putL f o.dst none, stepH h h' n n' (touchA (nth f) o.op), n', ?_, fun i hi => by rw [k1]; exact h2 i hi, e⟩
      rw [k1, putL_lose hf hd]
    · rename_i ho
      simp only [ho]
      split at e <;> try (cases e; done)
      rename_i g args hg
      simp only [hg]
      rw [frcVs_eq] at e
      refine (hc _ _ _ _ _ hh e).mono fun r h' n' hq => ?_
      obtain ⟨hl, rfl, hdom, hk⟩ := hq
      rw [frcV_eq, putK_eq] at hk
      exact ⟨putL f o.dst (some r), hl, n', by rw [putL_put hf hd], hdom, hk⟩
  · rename_i hw
    simp only [hw]
    simp only [Bool.and_eq_true] at e
    obtain ⟨hd, e⟩ := e
    rw [putK_eq] at e
    exact ⟨hd, putL f o.dst (some (.tup [])), h, n, by rw [putL_put hf hd], hh, e⟩
  · cases e

def evOps (T : Tys) (call : Caller) (m : Nat) (ops : Array Oper) : List Oper → FL → HL → Nat → Kst → Bool
  | [], f, h, n, K => K f h n
  | o :: l, f, h, n, K => evOp T call m ops o f h n fun f h n => evOps T call m ops l f h n K

theorem evOps_ok {call : Caller} (hc : Calling P call) (hf : m ≤ wide) : ∀ (l : List Oper) (f : FL) (h : HL) (n : Nat) (K : Kst), Dom h n → evOps T call m ops l f h n K = true →
    aOps P T m ops l (Cov K) ⟨nth f, nth h, n⟩
  | [], f, h, n, K, hh, e => ⟨f, h, n, rfl, hh, e⟩
  | o :: l, f, h, n, K, hh, e => by
    simp only [evOps] at e
    refine aOp_mono (fun s hs => ?_) (evOp_ok hc hf hh e)
    obtain ⟨f, h, n, rfl, hh, e⟩ := hs
    exact evOps_ok hc hf l f h n K hh e

/-! ### open order -/

def getB : List Bool → Nat → Bool → Bool
  | [], _, d => d
  | b :: _, 0, _ => b
  | _ :: l, n + 1, d => getB l n d

def waits (all : List Bool) : List Edge → Bool
  | [] => true
  | e :: l => (!Region.binds .any e || getB all e.on false) && waits all l

def readyL (all : List Bool) : List Oper → List Bool → Nat → List Nat
  | o :: os, b :: bs, i => if !b && waits all o.after.toList then i :: readyL all os bs (i + 1) else readyL all os bs (i + 1)
  | _, _, _ => []

theorem getB_eq : ∀ (l : List Bool) (n : Nat) (d : Bool), getB l n d = l.toArray.getD n d
  | [], n, d => by simp [getB]
  | b :: l, 0, d => by simp [getB]
  | b :: l, n + 1, d => by
    have := getB_eq l n d
    simp only [getB, this]
    simp [Array.getD_eq_getD_getElem?]

theorem waits_iff {all : List Bool} : ∀ {l : List Edge}, waits all l = true ↔ ∀ e ∈ l, Region.binds .any e = true → all.toArray.getD e.on false = true
  | [] => by simp [waits]
  | e :: l => by
    simp only [waits, Bool.and_eq_true, Bool.or_eq_true, Bool.not_eq_true', waits_iff, List.mem_cons, forall_eq_or_imp, getB_eq]
    constructor
    · rintro ⟨h1, h2⟩
      exact ⟨fun h => by rcases h1 with h1 | h1; (rw [h1] at h; cases h); exact h1, h2⟩
    · rintro ⟨h1, h2⟩
      refine ⟨?_, h2⟩
      cases hb : Region.binds .any e
      · exact .inl rfl
      · exact .inr (h1 hb)

theorem readyL_mem {all : List Bool} : ∀ {os : List Oper} {bs : List Bool} {i j : Nat}, os.length = bs.length →
    (j ∈ readyL all os bs i ↔ ∃ k, j = i + k ∧ bs[k]? = some false ∧ ∃ o, os[k]? = some o ∧ waits all o.after.toList = true)
  | [], [], i, j, _ => by simp [readyL]
  | [], _ :: _, i, j, h => by simp at h
  | _ :: _, [], i, j, h => by simp at h
  | o :: os, b :: bs, i, j, h => by
    have ih := readyL_mem (all := all) (os := os) (bs := bs) (i := i + 1) (j := j) (by simpa using h)
    have tail : (∃ k, j = i + 1 + k ∧ bs[k]? = some false ∧ ∃ o, os[k]? = some o ∧ waits all o.after.toList = true) →
        ∃ k, j = i + k ∧ (b :: bs)[k]? = some false ∧ ∃ o', (o :: os)[k]? = some o' ∧ waits all o'.after.toList = true := by
      rintro ⟨k, h1, h2, h3⟩
      exact ⟨k + 1, by omega, by simpa using h2, by simpa using h3⟩
    have back : (∃ k, j = i + k ∧ (b :: bs)[k]? = some false ∧ ∃ o', (o :: os)[k]? = some o' ∧ waits all o'.after.toList = true) →
        (j = i ∧ b = false ∧ waits all o.after.toList = true) ∨ ∃ k, j = i + 1 + k ∧ bs[k]? = some false ∧ ∃ o, os[k]? = some o ∧ waits all o.after.toList = true := by
      rintro ⟨k, h1, h2, o', h3, h4⟩
      cases k with
      | zero => simp at h2 h3; subst h3; exact .inl ⟨by omega, h2, h4⟩
      | succ k => exact .inr ⟨k, by omega, by simpa using h2, o', by simpa using h3, h4⟩
    simp only [readyL]
    split
    · rename_i hb
      simp only [Bool.and_eq_true, Bool.not_eq_true'] at hb
      rw [List.mem_cons, ih]
      constructor
      · rintro (h1 | h1)
        · exact ⟨0, by omega, by simp [hb.1], o, by simp, hb.2⟩
        · exact tail h1
      · intro h1
        rcases back h1 with ⟨h2, _⟩ | h2
        · exact .inl h2
        · exact .inr h2
    · rename_i hb
      rw [ih]
      constructor
      · exact tail
      · intro h1
        rcases back h1 with ⟨_, h2, h3⟩ | h2
        · exact absurd (by simp [h2, h3]) hb
        · exact h2

theorem ready_eq {ops : Array Oper} {all : List Bool} (hl : all.length = ops.size) (j : Nat) : j ∈ Region.ready .any ops all.toArray ↔ j ∈ readyL all ops.toList all 0 := by
  rw [mem_ready, readyL_mem (by simp [hl])]
  constructor
  · rintro ⟨h1, o, ho, h2⟩
    refine ⟨j, by simp, ?_, o, by simpa using ho, waits_iff.2 (by simpa using h2)⟩
    have hlt : j < all.length := by rw [hl]; exact (Array.getElem?_eq_some_iff.1 ho).1
    simp [Array.getD_eq_getD_getElem?, hlt] at h1
    simp [hlt, h1]
  · rintro ⟨k, h1, h2, o, ho, h3⟩
    obtain rfl : j = k := by omega
    refine ⟨by simp [Array.getD_eq_getD_getElem?, h2], o, by simpa using ho, by simpa using waits_iff.1 h3⟩

end Go.Acx
