/- Acx, part 18: values in their plain form, so that the kernel's terms stay small. -/
import Derived.Test.YtnjhpjiahjjjkaaGreatDoorAcxEval
namespace Go.Acx

def frcN (n : Nat) (K : Nat → Bool) : Bool := match n with
  | 0 => K 0
  | m + 1 => K (m + 1)

theorem frcN_eq (n : Nat) (K : Nat → Bool) : frcN n K = K n := by cases n <;> rfl

def frcI (n : Int) (K : Int → Bool) : Bool := match n with
  | .ofNat m => frcN m fun m => K (.ofNat m)
  | .negSucc m => frcN m fun m => K (.negSucc m)

theorem frcI_eq (n : Int) (K : Int → Bool) : frcI n K = K n := by cases n <;> simp [frcI, frcN_eq]

def frcB (b : Bool) (K : Bool → Bool) : Bool := match b with
  | true => K true
  | false => K false

theorem frcB_eq (b : Bool) (K : Bool → Bool) : frcB b K = K b := by cases b <;> rfl

def frcO {α : Type} (frc : α → (α → Bool) → Bool) (o : Option α) (K : Option α → Bool) : Bool := match o with
  | none => K none
  | some v => frc v fun v => K (some v)

theorem frcO_eq {α : Type} {frc : α → (α → Bool) → Bool} (hf : ∀ v K, frc v K = K v) (o : Option α) (K : Option α → Bool) : frcO frc o K = K o := by cases o <;> simp [frcO, hf]

def frcU (u : UInt8) (K : UInt8 → Bool) : Bool := frcN u.toNat fun n => K (UInt8.ofNat n)

theorem frcU_eq (u : UInt8) (K : UInt8 → Bool) : frcU u K = K u := by simp [frcU, frcN_eq]

def frcS : List UInt8 → (List UInt8 → Bool) → Bool
  | [], K => K []
  | c :: l, K => frcU c fun c => frcS l fun l => K (c :: l)

theorem frcS_eq : ∀ (l : List UInt8) (K : List UInt8 → Bool), frcS l K = K l
  | [], K => rfl
  | c :: l, K => by simp only [frcS, frcU_eq]; rw [frcS_eq l]


mutual
def frcV : AV → (AV → Bool) → Bool
  | .bool b, K => frcB b fun b => K (.bool b)
  | .int k n, K => frcI n fun n => K (.int k n)
  | .str l, K => frcS l fun l => K (.str l)
  | .ptr i off, K => frcN i fun i => frcN off fun off => K (.ptr i off)
  | .nilp, K => K .nilp
  | .sl i off len cap, K => frcN i fun i => frcN off fun off => frcN len fun len => frcO frcN cap fun cap => K (.sl i off len cap)
  | .nils, K => K .nils
  | .imm cs len, K => frcN len fun len => frcVs cs fun cs => K (.imm cs len)
  | .iptr cs, K => frcVs cs fun cs => K (.iptr cs)
  | .map i, K => frcN i fun i => K (.map i)
  | .nilm, K => K .nilm
  | .fn f a b, K => frcVs a fun a => frcVs b fun b => K (.fn f a b)
  | .nilf, K => K .nilf
  | .iface t v, K => frcV v fun v => K (.iface t v)
  | .nili, K => K .nili
  | .agg cs, K => frcVs cs fun cs => K (.agg cs)
  | .tup cs, K => frcVs cs fun cs => K (.tup cs)
  | .txt c n, K => frcN c fun c => frcN n fun n => K (.txt c n)
def frcVs : List AV → (List AV → Bool) → Bool
  | [], K => K []
  | v :: vs, K => frcV v fun v => frcVs vs fun vs => K (v :: vs)
end

mutual
theorem frcV_eq : ∀ (v : AV) (K : AV → Bool), frcV v K = K v
  | .bool b, K => by simp only [frcV, frcB_eq]
  | .int k n, K => by simp only [frcV, frcI_eq]
  | .str l, K => by simp only [frcV, frcS_eq]
  | .ptr i off, K => by simp only [frcV, frcN_eq]
  | .nilp, K => rfl
  | .sl i off len cap, K => by simp only [frcV, frcN_eq, frcO_eq frcN_eq]
  | .nils, K => rfl
  | .imm cs len, K => by simp only [frcV, frcN_eq]; rw [frcVs_eq cs]
  | .iptr cs, K => by simp only [frcV]; rw [frcVs_eq cs]
  | .map i, K => by simp only [frcV, frcN_eq]
  | .nilm, K => rfl
  | .fn f a b, K => by simp only [frcV]; rw [frcVs_eq a, frcVs_eq b]
  | .nilf, K => rfl
  | .iface t v, K => by simp only [frcV]; rw [frcV_eq v]
  | .nili, K => rfl
  | .agg cs, K => by simp only [frcV]; rw [frcVs_eq cs]
  | .tup cs, K => by simp only [frcV]; rw [frcVs_eq cs]
  | .txt c n, K => by simp only [frcV, frcN_eq]
theorem frcVs_eq : ∀ (vs : List AV) (K : List AV → Bool), frcVs vs K = K vs
  | [], K => rfl
  | v :: vs, K => by simp only [frcVs]; rw [frcV_eq v, frcVs_eq vs]
end

def frcEs : List (AV × AV) → (List (AV × AV) → Bool) → Bool
  | [], K => K []
  | (k, v) :: l, K => frcV k fun k => frcV v fun v => frcEs l fun l => K ((k, v) :: l)

theorem frcEs_eq : ∀ (l : List (AV × AV)) (K : List (AV × AV) → Bool), frcEs l K = K l
  | [], K => rfl
  | (k, v) :: l, K => by simp only [frcEs, frcV_eq]; rw [frcEs_eq l]

def frcMore : Option (Nat × TypeId) → (Option (Nat × TypeId) → Bool) → Bool
  | none, K => K none
  | some (a, b), K => frcN a fun a => frcN b fun b => K (some (a, b))

theorem frcMore_eq (m : Option (Nat × TypeId)) (K : Option (Nat × TypeId) → Bool) : frcMore m K = K m := by
  cases m with
  | none => rfl
  | some p => simp only [frcMore, frcN_eq]

def frcJ : AObj → (AObj → Bool) → Bool
  | .cells cs more, K => frcVs cs fun cs => frcMore more fun more => K (.cells cs more)
  | .map es, K => frcEs es fun es => K (.map es)

theorem frcJ_eq (o : AObj) (K : AObj → Bool) : frcJ o K = K o := by cases o <;> simp [frcJ, frcVs_eq, frcMore_eq, frcEs_eq]

def putT {α : Type} : Nat → Tr α → Nat → Option α → (Tr α → Bool) → Bool
  | 0, t, _, _, K => K t
  | k + 1, .leaf, n, v, K => (match n with
    | 0 => K (.node v .leaf .leaf)
    | n + 1 => match Nat.beq (n % 2) 0 with
      | true => putT k .leaf (n / 2) v fun l => K (.node none l .leaf)
      | false => putT k .leaf (n / 2) v fun r => K (.node none .leaf r))
  | k + 1, .node w l r, n, v, K => (match n with
    | 0 => K (.node v l r)
    | n + 1 => match Nat.beq (n % 2) 0 with
      | true => putT k l (n / 2) v fun l => K (.node w l r)
      | false => putT k r (n / 2) v fun r => K (.node w l r))

theorem putT_eq {α : Type} (v : Option α) : ∀ (k : Nat) (t : Tr α) (n : Nat) (K : Tr α → Bool), putT k t n v K = K (Tr.put k t n v) := by
  intro k
  induction k with
  | zero => intro t n K; cases t <;> rfl
  | succ k ih =>
    intro t n K
    cases t with
    | leaf =>
      cases n with
      | zero => rfl
      | succ n =>
        simp only [putT, Tr.put]
        cases Nat.beq (n % 2) 0 <;> simp only [ih]
    | node w l r =>
      cases n with
      | zero => rfl
      | succ n =>
        simp only [putT, Tr.put]
        cases Nat.beq (n % 2) 0 <;> simp only [ih]

def putK (f : FL) (d : Option Tmp) (v : Option AV) (K : FL → Bool) : Bool := match d with
  | none => K f
  | some d => putT 24 f d v K

theorem putK_eq (f : FL) (d : Option Tmp) (v : Option AV) (K : FL → Bool) : putK f d v K = K (putL f d v) := by cases d <;> simp [putK, putL, putT_eq]

def newK (hl : HL) (h' : Hp) (n n' : Nat) (K : HL → Nat → Bool) : Bool :=
  match Nat.beq n' n with
  | true => K hl n
  | false => Nat.ble n wide && frcO frcJ (h' n) fun o => putT 24 hl n o fun hl => frcN n' fun n' => K hl n'

def stepK (hl : HL) (h' : Hp) (n n' : Nat) (t : Option Nat) (K : HL → Nat → Bool) : Bool :=
  match t with
  | none => newK hl h' n n' K
  | some i => Nat.ble i wide && frcO frcJ (h' i) fun oi => putT 24 hl i oi fun hl' => newK hl' h' n n' K

theorem beq_false {a b : Nat} (h : Nat.beq a b = false) : a ≠ b := fun e => by
  subst e
  rw [Nat.beq_refl] at h
  cases h

theorem newK_ok {hl : HL} {h' : Hp} {n n' : Nat} {K : HL → Nat → Bool} (e : newK hl h' n n' K = true) :
    K (if n' = n then hl else Tr.put 24 hl n (h' n)) n' = true ∧ (n' ≠ n → n ≤ wide) := by
  unfold newK at e
  split at e
  · rename_i hb
    have := Nat.eq_of_beq_eq_true hb
    subst this
    exact ⟨by simpa using e, fun h => absurd rfl h⟩
  · rename_i hb
    have hne := beq_false hb
    simp only [Bool.and_eq_true, frcO_eq frcJ_eq, putT_eq, frcN_eq, Nat.ble_eq] at e
    exact ⟨by rw [if_neg hne]; exact e.2, fun _ => e.1⟩

theorem stepK_ok {hl : HL} {h' : Hp} {n n' : Nat} {t : Option Nat} {K : HL → Nat → Bool} (e : stepK hl h' n n' t K = true) :
    K (stepH hl h' n n' t) n' = true ∧ (∀ i, t = some i → i ≤ wide) ∧ (n' ≠ n → n ≤ wide) := by
  unfold stepK at e
  cases t with
  | none =>
    obtain ⟨h1, h2⟩ := newK_ok e
    exact ⟨h1, (fun i h => by cases h), h2⟩
  | some i =>
    simp only [Bool.and_eq_true, frcO_eq frcJ_eq, putT_eq, Nat.ble_eq] at e
    obtain ⟨h1, h2⟩ := newK_ok e.2
    exact ⟨h1, (fun j h => by cases h; exact e.1), h2⟩

end Go.Acx
