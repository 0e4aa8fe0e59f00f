/- Acx, part 17: an evaluator for calls whose data is known; what it answers holds of the program. -/
import Derived.Test.YtnjhpjiahjjjkaaGreatDoorAcxDrawn2
namespace Go.Acx

mutual
def beqV : AV → AV → Bool
  | .bool a, .bool b => a == b
  | .int j a, .int k b => j == k && a == b
  | .str a, .str b => a == b
  | .ptr i a, .ptr j b => i == j && a == b
  | .nilp, .nilp => true
  | .sl i a b c, .sl i' a' b' c' => i == i' && a == a' && b == b' && c == c'
  | .nils, .nils => true
  | .imm a n, .imm b n' => n == n' && beqVs a b
  | .iptr a, .iptr b => beqVs a b
  | .map i, .map j => i == j
  | .nilm, .nilm => true
  | .fn f a b, .fn f' a' b' => f == f' && beqVs a a' && beqVs b b'
  | .nilf, .nilf => true
  | .iface t v, .iface t' v' => t == t' && beqV v v'
  | .nili, .nili => true
  | .agg a, .agg b => beqVs a b
  | .tup a, .tup b => beqVs a b
  | .txt a n, .txt b k => a == b && n == k
  | _, _ => false
def beqVs : List AV → List AV → Bool
  | [], [] => true
  | a :: as, b :: bs => beqV a b && beqVs as bs
  | _, _ => false
end

mutual
theorem beqV_eq : ∀ {a b : AV}, beqV a b = true → a = b
  | .bool a, b, h => by cases b <;> simp_all [beqV]
  | .int j a, b, h => by cases b <;> simp_all [beqV]
  | .str a, b, h => by cases b <;> simp_all [beqV]
  | .ptr i a, b, h => by cases b <;> simp_all [beqV]
  | .nilp, b, h => by cases b <;> simp_all [beqV]
  | .sl i a c d, b, h => by cases b <;> simp_all [beqV]
  | .nils, b, h => by cases b <;> simp_all [beqV]
  | .imm a n, b, h => by
    cases b <;> simp [beqV] at h
    rw [h.1, beqVs_eq h.2]
  | .iptr a, b, h => by
    cases b <;> simp [beqV] at h
    rw [beqVs_eq h]
  | .map i, b, h => by cases b <;> simp_all [beqV]
  | .nilm, b, h => by cases b <;> simp_all [beqV]
  | .fn f x y, b, h => by
    cases b <;> simp [beqV] at h
    rw [h.1.1, beqVs_eq h.1.2, beqVs_eq h.2]
  | .nilf, b, h => by cases b <;> simp_all [beqV]
  | .iface t v, b, h => by
    cases b <;> simp [beqV] at h
    rw [h.1, beqV_eq h.2]
  | .nili, b, h => by cases b <;> simp_all [beqV]
  | .agg a, b, h => by
    cases b <;> simp [beqV] at h
    rw [beqVs_eq h]
  | .tup a, b, h => by
    cases b <;> simp [beqV] at h
    rw [beqVs_eq h]
  | .txt a n, b, h => by cases b <;> simp_all [beqV]
theorem beqVs_eq : ∀ {a b : List AV}, beqVs a b = true → a = b
  | [], b, h => by cases b <;> simp_all [beqVs]
  | x :: xs, b, h => by
    cases b <;> simp [beqVs] at h
    rw [beqV_eq h.1, beqVs_eq h.2]
end

/-- Frames and heaps as trees. -/
inductive Tr (α : Type)
  | leaf
  | node (v : Option α) (l r : Tr α)

abbrev FL := Tr AV
abbrev HL := Tr AObj

def nth {α : Type} : Tr α → Nat → Option α
  | .leaf, _ => none
  | .node v l r, n => match n with
    | 0 => v
    | n + 1 => match Nat.beq (n % 2) 0 with
      | true => nth l (n / 2)
      | false => nth r (n / 2)

def Tr.put {α : Type} : Nat → Tr α → Nat → Option α → Tr α
  | 0, t, _, _ => t
  | k + 1, .leaf, n, v => (match n with
    | 0 => .node v .leaf .leaf
    | n + 1 => match Nat.beq (n % 2) 0 with
      | true => .node none (Tr.put k .leaf (n / 2) v) .leaf
      | false => .node none .leaf (Tr.put k .leaf (n / 2) v))
  | k + 1, .node w l r, n, v => (match n with
    | 0 => .node v l r
    | n + 1 => match Nat.beq (n % 2) 0 with
      | true => .node w (Tr.put k l (n / 2) v) r
      | false => .node w l (Tr.put k r (n / 2) v))

theorem even_beq (n : Nat) : Nat.beq (n % 2) 0 = decide (n % 2 = 0) := by
  by_cases h : n % 2 = 0
  · simp [h]
  · cases hb : Nat.beq (n % 2) 0
    · simp [h]
    · exact absurd (Nat.eq_of_beq_eq_true hb) h

theorem nth_node {α : Type} (w : Option α) (l r : Tr α) (n : Nat) : nth (.node w l r) (n + 1) = if n % 2 = 0 then nth l (n / 2) else nth r (n / 2) := by
  simp only [nth, even_beq]
  by_cases h : n % 2 = 0 <;> simp [h]

theorem put_node {α : Type} (k : Nat) (w : Option α) (l r : Tr α) (n : Nat) (v : Option α) :
    Tr.put (k + 1) (.node w l r) (n + 1) v = if n % 2 = 0 then .node w (Tr.put k l (n / 2) v) r else .node w l (Tr.put k r (n / 2) v) := by
  simp only [Tr.put, even_beq]
  by_cases h : n % 2 = 0 <;> simp [h]

theorem put_leaf {α : Type} (k : Nat) (n : Nat) (v : Option α) : Tr.put (k + 1) .leaf n v = Tr.put (k + 1) (.node none .leaf .leaf) n v := by
  cases n with
  | zero => rfl
  | succ n =>
    rw [put_node]
    simp only [Tr.put, even_beq]
    by_cases h : n % 2 = 0 <;> simp [h]

theorem nth_leaf {α : Type} (j : Nat) : nth (.leaf : Tr α) j = nth (.node none .leaf .leaf) j := by
  cases j with
  | zero => rfl
  | succ j => rw [nth_node]; split <;> rfl

theorem nth_put {α : Type} (v : Option α) : ∀ (k : Nat) (t : Tr α) (n : Nat), n + 1 < 2 ^ k → ∀ j, nth (Tr.put k t n v) j = if j = n then v else nth t j := by
  intro k
  induction k with
  | zero => intro t n h j; simp at h
  | succ k ih =>
    have key : ∀ (w : Option α) (l r : Tr α) (n : Nat), n + 1 < 2 ^ (k + 1) → ∀ j, nth (Tr.put (k + 1) (.node w l r) n v) j = if j = n then v else nth (.node w l r) j := by
      intro w l r n h j
      cases n with
      | zero =>
        cases j with
        | zero => rfl
        | succ j => simp only [Tr.put, nth_node]; simp
      | succ n =>
        have hd : n / 2 + 1 < 2 ^ k := by rw [Nat.pow_succ] at h; omega
        rw [put_node]
        cases j with
        | zero =>
          have : ¬ (0 = n + 1) := by omega
          rw [if_neg this]
          split <;> rfl
        | succ j =>
          by_cases hn : n % 2 = 0
          · rw [if_pos hn, nth_node, nth_node, ih l (n / 2) hd]
            by_cases hj : j % 2 = 0
            · simp only [hj, if_true]
              by_cases e : j = n
              · subst e; simp
              · have h1 : ¬ (j / 2 = n / 2) := by omega
                have h2 : ¬ (j + 1 = n + 1) := by omega
                rw [if_neg h1, if_neg h2]
            · have h2 : ¬ (j + 1 = n + 1) := by
                intro e
                have e2 : j = n := Nat.succ.inj e
                exact hj (e2 ▸ hn)
              rw [if_neg hj, if_neg h2, if_neg hj]
          · rw [if_neg hn, nth_node, nth_node, ih r (n / 2) hd]
            by_cases hj : j % 2 = 0
            · have h2 : ¬ (j + 1 = n + 1) := by
                intro e
                have e2 : j = n := Nat.succ.inj e
                exact hn (e2 ▸ hj)
              rw [if_pos hj, if_neg h2, if_pos hj]
            · simp only [hj, if_false]
              by_cases e : j = n
              · subst e; simp
              · have h1 : ¬ (j / 2 = n / 2) := by omega
                have h2 : ¬ (j + 1 = n + 1) := by omega
                rw [if_neg h1, if_neg h2]
    intro t n h j
    cases t with
    | leaf => rw [put_leaf, key _ _ _ _ h, nth_leaf]
    | node w l r => exact key w l r n h j

/-- Names of rows and temporaries stay below this. -/
abbrev wide : Nat := 16000000

theorem nth_put24 {α : Type} (v : Option α) (t : Tr α) {n : Nat} (h : n ≤ wide) (j : Nat) : nth (Tr.put 24 t n v) j = if j = n then v else nth t j :=
  nth_put v 24 t n (by have : (2 : Nat) ^ 24 = 16777216 := by decide
                       simp only [wide] at h; omega) j

def putL (f : FL) : Option Tmp → Option AV → FL
  | some d, v => Tr.put 24 f d v
  | none, _ => f

theorem putL_put {f : FL} {m : Nat} (hl : m ≤ wide) {d : Option Tmp} (hd : dstOk m d = true) (v : AV) : nth (putL f d (some v)) = putA (nth f) d v := by
  funext t
  cases d with
  | none => rfl
  | some d =>
    have hlt : d < m := by simpa [dstOk] using hd
    simp only [putL, putA, Fr.set]
    rw [nth_put24 _ _ (Nat.le_trans (Nat.le_of_lt hlt) hl)]

theorem putL_lose {f : FL} {m : Nat} (hl : m ≤ wide) {d : Option Tmp} (hd : dstOk m d = true) : nth (putL f d none) = loseA (nth f) d := by
  funext t
  cases d with
  | none => rfl
  | some d =>
    have hlt : d < m := by simpa [dstOk] using hd
    simp only [putL, loseA, Fr.clear]
    rw [nth_put24 _ _ (Nat.le_trans (Nat.le_of_lt hlt) hl)]

/-- The own row that an operation may change. -/
def touchA (f : Fr) : Op → Option Nat
  | .store _ x _ | .mapUpdate _ x _ _ | .insert _ x _ _ => match evalA f x with
    | some (.ptr i _) => some i
    | some (.map i) => some i
    | _ => none
  | .call c => match evalsA f c.args.toList with
    | some (.sl i _ _ _ :: _) => some i
    | some (.ptr i _ :: _) => some i
    | _ => none
  | _ => none

def setO (hl : HL) (h' : Hp) : Option Nat → HL
  | some i => Tr.put 24 hl i (h' i)
  | none => hl

def stepH (hl : HL) (h' : Hp) (n n' : Nat) (t : Option Nat) : HL :=
  if n' = n then setO hl h' t else Tr.put 24 (setO hl h' t) n (h' n)

theorem stepH_ok {hl : HL} {h' : Hp} {n n' : Nat} {t : Option Nat} (hz : ∀ j, n ≤ j → nth hl j = none) (hf : ∀ j, j < n → some j ≠ t → h' j = nth hl j) (h0 : ∀ j, n' ≤ j → h' j = none)
    (hn : n' = n ∨ n' = n + 1) (ht : ∀ i, t = some i → i ≤ wide) (hw : n' ≠ n → n ≤ wide) : nth (stepH hl h' n n' t) = h' := by
  have hget : ∀ j, (j < n ∨ n' ≤ j) → nth (setO hl h' t) j = h' j := by
    intro j hj
    cases t with
    | none =>
      rcases hj with hj | hj
      · exact (hf j hj (by simp)).symm
      · rw [h0 j hj]; exact hz j (by omega)
    | some i =>
      simp only [setO]
      rw [nth_put24 _ _ (ht i rfl)]
      by_cases e : j = i
      · subst e; simp
      · rw [if_neg e]
        rcases hj with hj | hj
        · exact (hf j hj (by simp [e])).symm
        · rw [h0 j hj]; exact hz j (by omega)
  funext j
  unfold stepH
  rcases hn with hn | hn
  · rw [if_pos hn]
    exact hget j (by omega)
  · rw [if_neg (by omega), nth_put24 _ _ (hw (by omega))]
    by_cases e : j = n
    · subst e; simp
    · rw [if_neg e]
      exact hget j (by omega)

/-- The forms that a heap takes behind one operation. -/
inductive Form (h : Hp) (n : Nat) (t : Option Nat) : Hp → Nat → Prop
  | same : Form h n t h n
  | set (b : Nat) (o p : AObj) (hb : h b = some o) (ht : t = some b) : Form h n t (h.set b p) n
  | new (p : AObj) : Form h n t (h.set n p) (n + 1)
  | gone (b : Nat) (o : AObj) (hb : h b = some o) (ht : t = some b) : Form h n t (h.del b) n
  | move (b : Nat) (o p : AObj) (hb : h b = some o) (ht : t = some b) : Form h n t ((h.del b).set n p) (n + 1)

theorem Form.ok {h h' : Hp} {n n' : Nat} {t : Option Nat} (hd : ∀ i, n ≤ i → h i = none) (F : Form h n t h' n') :
    (∀ j, j < n → some j ≠ t → h' j = h j) ∧ (∀ j, n' ≤ j → h' j = none) ∧ (n' = n ∨ n' = n + 1) := by
  have lt : ∀ i o, h i = some o → i < n := fun i o hi => by
    rcases Nat.lt_or_ge i n with h1 | h1
    · exact h1
    · rw [hd i h1] at hi; cases hi
  cases F with
  | same => exact ⟨fun _ _ _ => rfl, hd, .inl rfl⟩
  | set b o p hb ht =>
    have := lt b o hb
    exact ⟨fun j _ hj => Hp.set_ne h p (fun e => hj (by rw [ht, e])), fun j hj => by rw [Hp.set_ne h p (by omega)]; exact hd j hj, .inl rfl⟩
  | new p => exact ⟨fun j hj _ => Hp.set_ne h p (by omega), fun j hj => by rw [Hp.set_ne h p (by omega)]; exact hd j (by omega), .inr rfl⟩
  | gone b o hb ht =>
    have := lt b o hb
    exact ⟨fun j _ hj => Hp.del_ne h (fun e => hj (by rw [ht, e])), fun j hj => by rw [Hp.del_ne h (by omega)]; exact hd j hj, .inl rfl⟩
  | move b o p hb ht =>
    have := lt b o hb
    refine ⟨fun j hj hjt => ?_, fun j hj => ?_, .inr rfl⟩
    · rw [Hp.set_ne _ p (by omega), Hp.del_ne h (fun e => hjt (by rw [ht, e]))]
    · rw [Hp.set_ne _ p (by omega), Hp.del_ne h (by omega)]; exact hd j (by omega)

theorem opD_form {T : Tys} {f : Fr} {h : Hp} {n : Nat} {op : Op} {r : Option AV} {h' : Hp} {n' : Nat} (e : opD T f h n op = some (r, h', n')) : Form h n (touchA f op) h' n' := by
  unfold opD at e
  split at e
  · cases e; exact .same
  split at e
  · rename_i h2 hs
    cases e
    have upd : ∀ {t x k v}, updateA T h t x k v = some h' → ∃ b o p, x = .map b ∧ h b = some o ∧ h' = h.set b p := by
      intro t x k v hu
      unfold updateA at hu
      split at hu <;> try (cases hu; done)
      split at hu <;> try (cases hu; done)
      split at hu <;> try (cases hu; done)
      split at hu <;> try (cases hu; done)
      split at hu <;> try (cases hu; done)
      split at hu <;> try (cases hu; done)
      rename_i b _ es hes
      split at hu
      · cases hu; exact ⟨_, _, _, rfl, hes, rfl⟩
      · split at hu <;> try (cases hu; done)
        split at hu <;> cases hu
        exact ⟨_, _, _, rfl, hes, rfl⟩
      · cases hu
    cases op <;> simp only [opS] at hs <;> try (cases hs; done)
    case insert =>
      split at hs <;> try (cases hs; done)
      rename_i p q u hp hq hu
      obtain ⟨b, o, p', rfl, hb, rfl⟩ := upd hs
      exact .set b _ _ hb (by simp only [touchA, hp])
    case store =>
      split at hs <;> try (cases hs; done)
      rename_i i p v hi hp hv
      unfold storeA at hs
      split at hs <;> try (cases hs; done)
      split at hs <;> try (cases hs; done)
      split at hs <;> cases hs
      rename_i b off _ cs more hcs _
      exact .set b _ _ hcs (by simp only [touchA, hp])
    case mapUpdate =>
      split at hs <;> try (cases hs; done)
      rename_i p q u hp hq hu
      obtain ⟨b, o, p', rfl, hb, rfl⟩ := upd hs
      exact .set b _ _ hb (by simp only [touchA, hp])
  · cases op <;> simp only [opN] at e <;> try (cases e; done)
    case alloc =>
      unfold allocA at e
      split at e <;> cases e
      exact .new _
    case box =>
      split at e <;> cases e
      exact .new _
    case buildSlice =>
      split at e <;> try (cases e; done)
      unfold buildSliceA at e
      repeat (split at e <;> try (cases e; done))
      cases e
      exact .new _
    case makeMap t hint _ _ =>
      cases hint with
      | none =>
        simp only [Option.some.injEq, Prod.mk.injEq] at e
        obtain ⟨_, rfl, rfl⟩ := e
        exact .new _
      | some _ => exact absurd e (by simp)
    case makeSlice =>
      split at e <;> try (cases e; done)
      unfold makeSliceA at e
      repeat (split at e <;> try (cases e; done))
      cases e
      exact .new _
    case call c _ _ =>
      split at e <;> try (cases e; done)
      case h_2 =>
        split at e <;> try (cases e; done)
        rename_i pt p kk k hat hv
        unfold unsStrA at e
        split at e <;> try (cases e; done)
        · split at e <;> cases e
          exact .same
        · rename_i b off
          split at e
          · cases e; exact .same
          · split at e <;> try (cases e; done)
            split at e <;> try (cases e; done)
            split at e <;> try (cases e; done)
            rename_i hcs
            split at e <;> try (cases e; done)
            split at e <;> try (cases e; done)
            split at e <;> cases e
            exact .gone _ _ hcs (by simp only [touchA, hv])
      split at e <;> try (cases e; done)
      rename_i t tx s x hts hv
      have ht : ∀ b off len cap, s = .sl b off len cap → touchA f (.call c) = some b := fun b off len cap hs => by
        subst hs
        simp only [touchA, hv]
      unfold appendA at e
      split at e <;> try (cases e; done)
      split at e <;> try (cases e; done)
      split at e <;> try (cases e; done)
      split at e <;> try (cases e; done)
      split at e
      · split at e <;> cases e <;> exact .same
      · split at e <;> try (cases e; done)
        · split at e <;> cases e; exact .new _
        · split at e <;> try (cases e; done)
          rename_i cs more hcs
          split at e
          · split at e
            · split at e <;> cases e
              exact .set _ _ _ hcs (ht _ _ _ _ rfl)
            · split at e <;> try (cases e; done)
              split at e <;> cases e
              exact .new _
          · split at e <;> try (cases e; done)
            split at e <;> cases e
            exact .move _ _ _ hcs (ht _ _ _ _ rfl)

end Go.Acx
