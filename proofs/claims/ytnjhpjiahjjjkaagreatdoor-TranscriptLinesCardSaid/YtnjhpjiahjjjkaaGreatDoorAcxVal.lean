/- Acx, part 1: abstract values, abstract heaps, and how they stand for Go's values and memory. -/
import Derived.Orders
import Derived.KernelRfl
namespace Go.Acx

inductive AV where
  | bool (b : Bool)
  | int (k : IntKind) (n : Int)
  | str (s : List UInt8)
  | ptr (i off : Nat)
  | nilp
  | sl (i off len : Nat) (cap : Option Nat)
  | nils
  | imm (cells : List AV) (len : Nat)
  | iptr (cells : List AV)
  | map (i : Nat)
  | nilm
  | fn (f : Fn) (first captured : List AV)
  | nilf
  | iface (t : TypeId) (v : AV)
  | nili
  | agg (cells : List AV)
  | tup (vs : List AV)
  | txt (c n : Nat)
  deriving Inhabited

structure Kap where
  ρ : Nat → Nat
  I : Nat → Option Obj
  n : Nat
  sz : Nat → Nat
  es : Nat → Nat

mutual
inductive VR (κ : Kap) : AV → Value → Prop
  | bool (b : Bool) : VR κ (.bool b) (.bool b)
  | int (k : IntKind) (n : Int) : VR κ (.int k n) (.int k n)
  | str (s : List UInt8) (t : ByteArray) (h : t.data.toList = s) : VR κ (.str s) (.string t)
  | ptr (i off : Nat) (h : i < κ.n) : VR κ (.ptr i off) (.pointer (some ⟨κ.ρ i, off, none⟩))
  | nilp : VR κ .nilp (.pointer none)
  | sl (i off len : Nat) (cap : Option Nat) (c : Nat) (h : i < κ.n) (hl : len ≤ c) (hc : ∀ c', cap = some c' → c = c')
      (hz : cap = none → off + c * κ.es i ≤ κ.sz i) :
      VR κ (.sl i off len cap) (.slice (some ⟨κ.ρ i, off, none⟩) len c)
  | nils : VR κ .nils (.slice none 0 0)
  | immNil (a : Option Addr) (c : Nat) : VR κ (.imm [] 0) (.slice a 0 c)
  | imm (cells : List AV) (len b off : Nat) (C : Array Value) (e : TypeId) (fr : Nat × Nat) (c : Nat) (hI : κ.I b = some (.cells C e fr))
      (hs : VRs κ cells ((C.toList.drop off).take cells.length)) (hl : len ≤ c) : VR κ (.imm cells len) (.slice (some ⟨b, off, none⟩) len c)
  | iptr (cells : List AV) (b off : Nat) (C : Array Value) (e : TypeId) (fr : Nat × Nat) (hI : κ.I b = some (.cells C e fr))
      (hs : VRs κ cells ((C.toList.drop off).take cells.length)) : VR κ (.iptr cells) (.pointer (some ⟨b, off, none⟩))
  | map (i : Nat) (h : i < κ.n) : VR κ (.map i) (.map (some (κ.ρ i)))
  | nilm : VR κ .nilm (.map none)
  | fn (f : Fn) (first captured : List AV) (F C : Array Value) (hf : VRs κ first F.toList) (hc : VRs κ captured C.toList) :
      VR κ (.fn f first captured) (.func f F C)
  | nilf : VR κ .nilf .nilFunc
  | iface (t : TypeId) (v : AV) (x : Value) (h : VR κ v x) : VR κ (.iface t v) (.iface t x)
  | nili : VR κ .nili .nilIface
  | agg (cells : List AV) (C : Array Value) (h : VRs κ cells C.toList) : VR κ (.agg cells) (.agg C)
  | tup (vs : List AV) (C : Array Value) (h : VRs κ vs C.toList) : VR κ (.tup vs) (.tuple C)
  | txt (c n : Nat) (t : ByteArray) (h : t.data.toList = List.replicate n (UInt8.ofNat c)) : VR κ (.txt c n) (.string t)
inductive VRs (κ : Kap) : List AV → List Value → Prop
  | nil : VRs κ [] []
  | cons (v : AV) (x : Value) (vs : List AV) (xs : List Value) (h : VR κ v x) (hs : VRs κ vs xs) : VRs κ (v :: vs) (x :: xs)
end

/-- A context grows. -/
structure Ext (κ κ' : Kap) : Prop where
  n : κ.n ≤ κ'.n
  ρ : ∀ i, i < κ.n → κ'.ρ i = κ.ρ i
  I : ∀ b o, κ.I b = some o → κ'.I b = some o
  sz : ∀ i, i < κ.n → κ'.sz i = κ.sz i
  es : ∀ i, i < κ.n → κ'.es i = κ.es i

theorem Ext.refl (κ : Kap) : Ext κ κ := ⟨Nat.le_refl _, fun _ _ => rfl, fun _ _ h => h, fun _ _ => rfl, fun _ _ => rfl⟩
theorem Ext.trans {a b c : Kap} (h : Ext a b) (k : Ext b c) : Ext a c :=
  ⟨Nat.le_trans h.n k.n, fun i hi => (k.ρ i (Nat.lt_of_lt_of_le hi h.n)).trans (h.ρ i hi), fun i o hi => k.I i o (h.I i o hi),
   fun i hi => (k.sz i (Nat.lt_of_lt_of_le hi h.n)).trans (h.sz i hi), fun i hi => (k.es i (Nat.lt_of_lt_of_le hi h.n)).trans (h.es i hi)⟩

mutual
theorem VR.ext {κ κ' : Kap} (e : Ext κ κ') : ∀ {v : AV} {x : Value}, VR κ v x → VR κ' v x
  | _, _, .bool b => .bool b
  | _, _, .int k n => .int k n
  | _, _, .str s t h => .str s t h
  | _, _, .ptr i off h => by rw [← e.ρ i h]; exact .ptr i off (Nat.lt_of_lt_of_le h e.n)
  | _, _, .nilp => .nilp
  | _, _, .sl i off len cap c h hl hc hz => by rw [← e.ρ i h]; exact .sl i off len cap c (Nat.lt_of_lt_of_le h e.n) hl hc (by rw [e.sz i h, e.es i h]; exact hz)
  | _, _, .nils => .nils
  | _, _, .immNil a c => .immNil a c
  | _, _, .imm cells len b off C el fr c hI hs hl => .imm cells len b off C el fr c (e.I _ _ hI) (VRs.ext e hs) hl
  | _, _, .iptr cells b off C el fr hI hs => .iptr cells b off C el fr (e.I _ _ hI) (VRs.ext e hs)
  | _, _, .map i h => by rw [← e.ρ i h]; exact .map i (Nat.lt_of_lt_of_le h e.n)
  | _, _, .nilm => .nilm
  | _, _, .fn f a b F C hf hc => .fn f a b F C (VRs.ext e hf) (VRs.ext e hc)
  | _, _, .nilf => .nilf
  | _, _, .iface t v x h => .iface t v x (VR.ext e h)
  | _, _, .nili => .nili
  | _, _, .agg cells C h => .agg cells C (VRs.ext e h)
  | _, _, .tup cells C h => .tup cells C (VRs.ext e h)
  | _, _, .txt c n t h => .txt c n t h
theorem VRs.ext {κ κ' : Kap} (e : Ext κ κ') : ∀ {v : List AV} {x : List Value}, VRs κ v x → VRs κ' v x
  | _, _, .nil => .nil
  | _, _, .cons v x vs xs h hs => .cons v x vs xs (VR.ext e h) (VRs.ext e hs)
end

theorem VRs.length {κ : Kap} : ∀ {v : List AV} {x : List Value}, VRs κ v x → v.length = x.length
  | _, _, .nil => rfl
  | _, _, .cons _ _ _ _ _ hs => congrArg (· + 1) (VRs.length hs)

theorem VRs.get {κ : Kap} : ∀ {v : List AV} {x : List Value}, VRs κ v x → ∀ {i : Nat} {a : AV}, v[i]? = some a → ∃ y, x[i]? = some y ∧ VR κ a y
  | _, _, .nil, i, a, h => by simp at h
  | _, _, .cons v x vs xs hv hs, 0, a, h => by simp at h; subst h; exact ⟨x, rfl, hv⟩
  | _, _, .cons v x vs xs hv hs, i + 1, a, h => by
    simp only [List.getElem?_cons_succ] at h ⊢
    exact VRs.get hs h

theorem VRs.take {κ : Kap} : ∀ {v : List AV} {x : List Value}, VRs κ v x → ∀ n, VRs κ (v.take n) (x.take n)
  | _, _, .nil, n => by simp; exact .nil
  | _, _, .cons v x vs xs hv hs, 0 => by simp; exact .nil
  | _, _, .cons v x vs xs hv hs, n + 1 => by simp only [List.take_succ_cons]; exact .cons _ _ _ _ hv (VRs.take hs n)

theorem VRs.drop {κ : Kap} : ∀ {v : List AV} {x : List Value}, VRs κ v x → ∀ n, VRs κ (v.drop n) (x.drop n)
  | _, _, h, 0 => by simpa using h
  | _, _, .nil, n + 1 => by simp; exact .nil
  | _, _, .cons v x vs xs hv hs, n + 1 => by simp only [List.drop_succ_cons]; exact VRs.drop hs n

theorem VRs.append {κ : Kap} : ∀ {v : List AV} {x : List Value}, VRs κ v x → ∀ {v' x'}, VRs κ v' x' → VRs κ (v ++ v') (x ++ x')
  | _, _, .nil, _, _, h => h
  | _, _, .cons v x vs xs hv hs, _, _, h => .cons _ _ _ _ hv (VRs.append hs h)

theorem VRs.set {κ : Kap} : ∀ {v : List AV} {x : List Value}, VRs κ v x → ∀ (i : Nat) {a : AV} {y : Value}, VR κ a y → VRs κ (v.set i a) (x.set i y)
  | _, _, .nil, _, _, _, _ => by simp; exact .nil
  | _, _, .cons v x vs xs hv hs, 0, a, y, h => by simp only [List.set_cons_zero]; exact .cons _ _ _ _ h hs
  | _, _, .cons v x vs xs hv hs, i + 1, a, y, h => by simp only [List.set_cons_succ]; exact .cons _ _ _ _ hv (VRs.set hs i h)

theorem VRs.replicate {κ : Kap} {a : AV} {y : Value} (h : VR κ a y) : ∀ n, VRs κ (List.replicate n a) (List.replicate n y)
  | 0 => .nil
  | n + 1 => .cons _ _ _ _ h (VRs.replicate h n)

/-- Abstract objects: a row of cells ('more': there may be further cells behind, of elements of so many cells), a map. -/
inductive AObj where
  | cells (cs : List AV) (more : Option (Nat × TypeId))
  | map (es : List (AV × AV))
  deriving Inhabited

inductive OR (κ : Kap) (i : Nat) : AObj → Obj → Prop
  | cells (cs : List AV) (more : Option (Nat × TypeId)) (C : Array Value) (e : TypeId) (fr : Nat × Nat) (h : VRs κ cs (C.toList.take cs.length)) (hm : more = none → C.size = cs.length)
      (hf : fr.2 ≤ fr.1) (hsz : C.size = κ.sz i) (hq : ∀ q, more = some q → κ.es i = q.1 ∧ e = q.2) : OR κ i (.cells cs more) (.cells C e fr)
  | map (es : List (AV × AV)) (E : Array MapEntry) (clock : Nat) (hk : VRs κ (es.map (·.1)) (E.toList.map (·.key))) (hv : VRs κ (es.map (·.2)) (E.toList.map (·.val)))
      (hb : (E.toList.map (·.born)).Pairwise (· < ·)) (hc : ∀ e ∈ E.toList, e.born < clock) : OR κ i (.map es) (.map E clock)

theorem OR.ext {κ κ' : Kap} (e : Ext κ κ') {i : Nat} (hi : i < κ.n) {a : AObj} {o : Obj} : OR κ i a o → OR κ' i a o
  | .cells cs more C el fr h hm hf hsz hq => .cells cs more C el fr (h.ext e) hm hf (by rw [e.sz i hi]; exact hsz) (by rw [e.es i hi]; exact hq)
  | .map es E clock hk hv hb hc => .map es E clock (hk.ext e) (hv.ext e) hb hc

abbrev Hp := Nat → Option AObj
def Hp.set (h : Hp) (i : Nat) (o : AObj) : Hp := fun j => if j = i then some o else h j
def Hp.del (h : Hp) (i : Nat) : Hp := fun j => if j = i then none else h j
def Hp.none : Hp := fun _ => Option.none

theorem Hp.set_same (h : Hp) (i : Nat) (o : AObj) : h.set i o i = some o := by simp [Hp.set]
theorem Hp.set_ne (h : Hp) {i j : Nat} (o : AObj) (hn : j ≠ i) : h.set i o j = h j := by simp [Hp.set, hn]
theorem Hp.del_same (h : Hp) (i : Nat) : h.del i i = Option.none := by simp [Hp.del]
theorem Hp.del_ne (h : Hp) {i j : Nat} (hn : j ≠ i) : h.del i j = h j := by simp [Hp.del, hn]

/-- How an abstract heap stands for memory. -/
structure HR (κ : Kap) (h : Hp) (w : World) : Prop where
  dom : ∀ i o, h i = some o → i < κ.n
  own : ∀ i o, h i = some o → ∃ O, w.heap[κ.ρ i]? = some O ∧ OR κ i o O
  inj : ∀ i j o p, h i = some o → h j = some p → κ.ρ i = κ.ρ j → i = j
  imm : ∀ b o, κ.I b = some o → w.heap[b]? = some o
  sep : ∀ i o, h i = some o → κ.I (κ.ρ i) = none

def Owns (κ : Kap) (h : Hp) (b : Nat) : Prop := ∃ i o, h i = some o ∧ κ.ρ i = b

/-- What a piece of a run may do to memory and context. -/
structure Step (κ : Kap) (h : Hp) (w : World) (κ' : Kap) (h' : Hp) (w' : World) : Prop where
  ext : Ext κ κ'
  size : w.heap.size ≤ w'.heap.size
  keep : ∀ b, b < w.heap.size → ¬ Owns κ h b → w'.heap[b]? = w.heap[b]?
  own : ∀ b, Owns κ' h' b → Owns κ h b ∨ w.heap.size ≤ b
  imm : ∀ b o, κ'.I b = some o → κ.I b = some o ∨ Owns κ h b ∨ w.heap.size ≤ b
  os : w'.os = w.os ∧ w'.output = w.output

theorem Step.refl (κ : Kap) (h : Hp) (w : World) : Step κ h w κ h w :=
  ⟨Ext.refl κ, Nat.le_refl _, fun _ _ _ => rfl, fun _ hb => .inl hb, fun _ _ hb => .inl hb, ⟨rfl, rfl⟩⟩

theorem Step.trans {κ κ' κ'' : Kap} {h h' h'' : Hp} {w w' w'' : World} (a : Step κ h w κ' h' w') (b : Step κ' h' w' κ'' h'' w'') : Step κ h w κ'' h'' w'' where
  ext := a.ext.trans b.ext
  size := Nat.le_trans a.size b.size
  keep := fun c hc hn => by
    have hn' : ¬ Owns κ' h' c := fun ho => (a.own c ho).elim hn fun h => by omega
    rw [b.keep c (Nat.lt_of_lt_of_le hc a.size) hn', a.keep c hc hn]
  own := fun c hc => (b.own c hc).elim (a.own c) fun h => .inr (Nat.le_trans a.size h)
  imm := fun c o hc => (b.imm c o hc).elim (a.imm c o) fun h => .inr (h.elim (a.own c) fun h => .inr (Nat.le_trans a.size h))
  os := ⟨b.os.1.trans a.os.1, b.os.2.trans a.os.2⟩

/-- Only 'drawn' (and the like) has changed. -/
theorem HR.heap {κ : Kap} {h : Hp} {w w' : World} (r : HR κ h w) (e : w'.heap = w.heap) : HR κ h w' :=
  ⟨r.dom, by rw [e]; exact r.own, r.inj, by rw [e]; exact r.imm, r.sep⟩

theorem Step.heap {κ : Kap} {h : Hp} {w w' : World} (e : w'.heap = w.heap) (eo : w'.os = w.os ∧ w'.output = w.output := by exact ⟨rfl, rfl⟩) : Step κ h w κ h w' :=
  ⟨Ext.refl κ, by rw [e]; exact Nat.le_refl _, fun _ _ _ => by rw [e], fun _ hb => .inl hb, fun _ _ hb => .inl hb, eo⟩

end Go.Acx
