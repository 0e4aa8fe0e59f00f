/- Acx, part 4: operations that give a value and leave memory alone. -/
import Derived.Test.YtnjhpjiahjjjkaaGreatDoorAcxMem
import Derived.Laws.StructEq
namespace Go.Acx

variable {P : Program} {κ : Kap} {h : Hp} {w : World}

def bitsA (op : BinOp) (k : IntKind) (x y : Int) : Option Int :=
  let a := BitVec.ofInt k.bits x
  let b := BitVec.ofInt k.bits y
  match op with
  | .and => some (k.wrap (a &&& b).toNat)
  | .or => some (k.wrap (a ||| b).toNat)
  | .xor => some (k.wrap (a ^^^ b).toNat)
  | .andNot => some (k.wrap (a &&& ~~~b).toNat)
  | _ => none

def intA (op : BinOp) (k : IntKind) (a b : Int) : Option AV :=
  match op with
  | .add => some (.int k (k.wrap (a + b)))
  | .sub => some (.int k (k.wrap (a - b)))
  | .mul => some (.int k (k.wrap (a * b)))
  | .quo => if b = 0 then none else some (.int k (k.wrap (a.tdiv b)))
  | .rem => if b = 0 then none else some (.int k (a.tmod b))
  | .eql => some (.bool (decide (a = b)))
  | .neq => some (.bool (!decide (a = b)))
  | .lss => some (.bool (decide (a < b)))
  | .leq => some (.bool (decide (a ≤ b)))
  | .gtr => some (.bool (decide (b < a)))
  | .geq => some (.bool (decide (b ≤ a)))
  | op => (bitsA op k a b).map (.int k)

def shiftA (op : BinOp) (k : IntKind) (a b : Int) : Option AV :=
  if b < 0 then none else
  match op with
  | .shl => some (.int k (k.wrap (a * 2 ^ (min b.toNat k.bits))))
  | .shr => some (.int k (a.fdiv (2 ^ (min b.toNat k.bits))))
  | _ => none

def strA (op : BinOp) (a b : List UInt8) : Option AV :=
  match op with
  | .add => if a.length + b.length ≤ 4611686018427387904 then some (.str (a ++ b)) else none
  | .eql => some (.bool (a == b))
  | .neq => some (.bool !(a == b))
  | .lss => some (.bool (Op.bytesLess a b))
  | .leq => some (.bool (Op.bytesLess a b || a == b))
  | .gtr => some (.bool !(Op.bytesLess a b || a == b))
  | .geq => some (.bool !(Op.bytesLess a b))
  | _ => none

/-- Equality of values that hold no addresses; structs field by field. -/
def eqA (T : Tys) : Nat → TypeId → AV → AV → Option Bool
  | 0, _, _, _ => none
  | d + 1, t, x, y =>
    match T t with
    | none => none
    | some i => match i.desc, x, y with
      | .bool, .bool a, .bool b => some (a == b)
      | .int _, .int k a, .int k' b => if k = k' then some (a == b) else none
      | .string, .str a, .str b => some (a == b)
      | .pointer _, .nilp, .nilp => some true
      | .pointer _, .nilp, .ptr _ _ => some false
      | .pointer _, .nilp, .iptr _ => some false
      | .pointer _, .ptr _ _, .nilp => some false
      | .pointer _, .iptr _, .nilp => some false
      | .pointer el, .ptr i a, .ptr j b => if i = j then (match T el with
        | some k => if k.size ≠ 0 then some (a == b) else none
        | none => none) else none
      | .slice _, .nils, .nils => some true
      | .slice _, .nils, .sl _ _ _ _ => some false
      | .slice _, .sl _ _ _ _, .nils => some false
      | .slice _, .imm (_ :: _) _, .nils => some false
      | .slice _, .nils, .imm (_ :: _) _ => some false
      | .map _ _, .nilm, .nilm => some true
      | .map _ _, .nilm, .map _ => some false
      | .map _ _, .map _, .nilm => some false
      | .func _ _ _, .nilf, .nilf => some true
      | .func _ _ _, .nilf, .fn _ _ _ => some false
      | .func _ _ _, .fn _ _ _, .nilf => some false
      | .interface _, .nili, .nili => some true
      | .interface _, .nili, .iface _ _ => some false
      | .interface _, .iface _ _, .nili => some false
      | _, _, _ => none

def binA (T : Tys) (op : BinOp) (t : TypeId) (x y : AV) : Option AV :=
  match x, y with
  | .int k a, .int k' b => match op with
    | .shl | .shr => shiftA op k a b
    | op => if k = k' then intA op k a b else none
  | .str a, .str b => strA op a b
  | x, y => match op with
    | .eql => (eqA T 1 t x y).map .bool
    | .neq => (eqA T 1 t x y).map fun b => .bool !b
    | _ => none

theorem beq_int (a b : Int) : (a == b) = decide (a = b) := by
  by_cases h : a = b <;> simp [h]

theorem intA_ok {op : BinOp} {k : IntKind} {a b : Int} {v : AV} (h1 : op ≠ .shl) (h2 : op ≠ .shr) (e : intA op k a b = some v) (t : TypeId) (w : World) :
    ∃ x, (binOp op t (.int k a) (.int k b)).run P w = .ok x w ∧ VR κ v x := by
  cases op <;> simp only [intA] at e <;> simp only [binOp, ne_eq, not_true_eq_false, if_false]
  case shl => exact absurd rfl h1
  case shr => exact absurd rfl h2
  case quo => split at e <;> cases e; rename_i hb; exact ⟨_, by simp [Op.intDiv, hb], .int _ _⟩
  case rem => split at e <;> cases e; rename_i hb; exact ⟨_, by simp [Op.intDiv, hb], .int _ _⟩
  case and => cases e; exact ⟨_, by simp [Op.intBits], .int _ _⟩
  case or => cases e; exact ⟨_, by simp [Op.intBits], .int _ _⟩
  case xor => cases e; exact ⟨_, by simp [Op.intBits], .int _ _⟩
  case andNot => cases e; exact ⟨_, by simp [Op.intBits], .int _ _⟩
  case eql => cases e; exact ⟨_, by simp only [Op.intCmp, beq_int]; rfl, .bool _⟩
  case neq => cases e; exact ⟨_, by simp only [Op.intCmp, bne, beq_int]; rfl, .bool _⟩
  all_goals (cases e; exact ⟨_, rfl, by constructor⟩)

theorem shiftA_ok {op : BinOp} {k k' : IntKind} {a b : Int} {v : AV} (hop : op = .shl ∨ op = .shr) (e : shiftA op k a b = some v) (t : TypeId) (w : World) :
    ∃ x, (binOp op t (.int k a) (.int k' b)).run P w = .ok x w ∧ VR κ v x := by
  unfold shiftA at e
  split at e
  · cases e
  rename_i hb
  rcases hop with rfl | rfl <;> simp only [Option.some.injEq] at e <;> subst e <;> simp only [binOp, Op.shift, hb, if_false]
  · exact ⟨_, rfl, .int _ _⟩
  · exact ⟨_, rfl, .int _ _⟩

theorem toList_data (s : ByteArray) : s.toList = s.data.toList := ByteArray.toList_eq s

theorem strA_ok {op : BinOp} {s t : ByteArray} {v : AV} (e : strA op s.data.toList t.data.toList = some v) (ty : TypeId) (w : World) :
    ∃ x, (binOp op ty (.string s) (.string t)).run P w = .ok x w ∧ VR κ v x := by
  cases op <;> simp only [strA] at e <;> try (cases e; done)
  case add =>
    split at e <;> cases e
    rename_i hl
    refine ⟨.string (s ++ t), ?_, .str _ _ (by simp)⟩
    have : ¬ (((s.size + t.size : Nat) : Int) > IntKind.i64.max) := by
      simp only [Array.length_toList] at hl
      have h1 : s.data.size = s.size := rfl
      have h2 : t.data.size = t.size := rfl
      have h3 : IntKind.i64.max = 9223372036854775807 := by decide
      rw [h3]; omega
    simp only [binOp, Op.stringOp, this, if_false]
    rfl
  all_goals (cases e; exact ⟨_, by simp only [binOp, Op.stringOp, toList_data]; rfl, .bool _⟩)

theorem eqA_ok' {T : Tys} (tok : TOK P T) {t : TypeId} {v u : AV} {x y : Value} (hv : VR κ v x) (hu : VR κ u y) {b : Bool} (e : eqA T 1 t v u = some b) (w : World) (d : Nat) :
    (Op.equalIn (d + 1) t x y).run P w = .ok b w := by
  simp only [eqA] at e
  split at e
  · cases e
  rename_i i ht
  have hund := tok.und t i ht
  split at e <;> try (cases e; done)
  all_goals (rename_i hd; cases hv; cases hu)
  all_goals simp only [Op.equalIn, Sem.run_bind, run_underlying hund, hd, Result.andThen]
  all_goals first
    | (cases e; rfl)
    | (split at e <;> cases e; rename_i hk; subst hk; simp; done)
    | (cases e; simp; done)
    | skip
  case h_9.ptr.ptr =>
    split at e <;> try (cases e; done)
    rename_i hij
    subst hij
    split at e <;> try (cases e; done)
    rename_i k hk
    split at e <;> cases e
    rename_i hk0
    obtain ⟨inf, z, hinf, hsz, _⟩ := tok.info _ _ hk
    simp [sizeOf, typeInfo, hinf, hsz, hk0, sameAddr]
    rw [Bool.eq_iff_iff, beq_iff_eq, beq_iff_eq]
    simp
  case h_3.str.str s h1 t h2 =>
    cases e
    rw [beq_toListBytes, toList_data, toList_data, h1, h2]
    rfl

end Go.Acx
