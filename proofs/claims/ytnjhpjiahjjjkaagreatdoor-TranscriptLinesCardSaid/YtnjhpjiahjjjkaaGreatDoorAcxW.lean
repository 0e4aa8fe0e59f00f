/- Acx, part 27: walking symbolic states by rewriting: the walker's own forms, and that they are sound. -/
import Derived.Test.YtnjhpjiahjjjkaaGreatDoorAcxTab
import Derived.Attr
namespace Go.Acx

variable {P : Program} {T : Tys} {m : Nat}

/-- An argument that hangs on another one: so rewriting does not look into that one. -/
inductive Tie {α : Sort _} (a : α) : Type where
  | mk

/-- Two ways, told apart by a Bool; neither is looked into. -/
def Br (t : Bool) (A B : Prop) (_ : Tie A := .mk) (_ : Tie B := .mk) : Prop := (t = true → A) ∧ (t = false → B)
theorem Br_true {A B : Prop} : Br true A B = A := by simp [Br]
theorem Br_false {A B : Prop} : Br false A B = B := by simp [Br]
theorem Br_not {t : Bool} {A B : Prop} : Br (!t) A B = Br t B A := by cases t <;> simp [Br]
theorem Br.dec {p : Prop} [Decidable p] {A B : Prop} (h1 : p → A) (h2 : ¬ p → B) : Br (decide p) A B :=
  ⟨fun h => h1 (of_decide_eq_true h), fun h => h2 (of_decide_eq_false h)⟩

abbrev KS := Fr → Hp → Nat → Prop
abbrev Xq := Exit → KS

/-- Going on with a value, if there is one. -/
def kV {α : Type} (o : Option α) (k : α → Prop) (_ : Tie k := .mk) : Prop := match o with
  | some v => k v
  | none => False
theorem kV_some {α : Type} {v : α} {k : α → Prop} : kV (some v) k = k v := (rfl)
theorem kV_iff {α : Type} {o : Option α} {k : α → Prop} : kV o k ↔ ∃ v, o = some v ∧ k v := by
  cases o <;> simp [kV]

def gsl : List Oper → Nat → Option Nat
  | [], _ => none
  | o :: _, 0 => o.dst
  | _ :: l, j + 1 => gsl l j

theorem gsl_eq : ∀ (l : List Oper) (j : Nat), gsl l j = (l[j]?).bind (·.dst)
  | [], j => by simp [gsl]
  | o :: l, 0 => by simp [gsl]
  | o :: l, j + 1 => by simp [gsl, gsl_eq l j]

def kVs (f : Fr) : List Operand → (List AV → Prop) → Prop
  | [], k => k []
  | x :: xs, k => kV (evalA f x) fun v => kVs f xs fun vs => k (v :: vs)

theorem kVs_iff {f : Fr} : ∀ {xs : List Operand} {k : List AV → Prop}, kVs f xs k ↔ ∃ vs, evalsA f xs = some vs ∧ k vs
  | [], k => by simp [kVs, evalsA]
  | x :: xs, k => by
    simp only [kVs, kV_iff, kVs_iff, evalsA]
    constructor
    · rintro ⟨v, hv, vs, hvs, hk⟩
      exact ⟨v :: vs, by rw [hv, hvs], hk⟩
    · rintro ⟨vs, hvs, hk⟩
      split at hvs <;> cases hvs
      rename_i v vs hv hvs
      exact ⟨v, hv, vs, hvs, hk⟩

/-- Operands of a structure's fields. -/
def kPs (f : Fr) : List (Nat × Operand) → (List (Nat × AV) → Prop) → Prop
  | [], k => k []
  | (i, x) :: xs, k => kV (evalA f x) fun v => kPs f xs fun vs => k ((i, v) :: vs)

theorem kPs_iff {f : Fr} : ∀ {xs : List (Nat × Operand)} {k : List (Nat × AV) → Prop}, kPs f xs k ↔ ∃ vs, pairsA f xs = some vs ∧ k vs
  | [], k => by simp [kPs, pairsA]
  | (i, x) :: xs, k => by
    simp only [kPs, kV_iff, kPs_iff, pairsA]
    constructor
    · rintro ⟨v, hv, vs, hvs, hk⟩
      exact ⟨(i, v) :: vs, by rw [hv, hvs], hk⟩
    · rintro ⟨vs, hvs, hk⟩
      split at hvs <;> cases hvs
      rename_i v vs hv hvs
      exact ⟨v, hv, vs, hvs, hk⟩

-- what types say, once
def ldT (T : Tys) (t : TypeId) : Option (Option Nat) := (T t).map fun i => if aggD i.desc then some i.size else none
inductive Cv where
  | int (k : IntKind)
  | str
  | bytes
def cvT (T : Tys) (s d : TypeId) : Option Cv := match T s, T d with
  | some i, some j => match j.desc, i.desc with
    | .int k, .int _ => some (.int k)
    | .string, .string => some .str
    | .string, .slice e => match T e with
      | some ei => match ei.desc with
        | .int .u8 => some .bytes
        | _ => none
      | none => none
    | _, _ => none
  | _, _ => none
def miT (T : Tys) (t : TypeId) : Option Unit := match T t with
  | some i => match i.desc with
    | .interface _ => none
    | _ => some ()
  | none => none
inductive Sk where
  | str
  | sl (size : Nat)
  | arr (n size : Nat)
def slT (T : Tys) (t : TypeId) : Option Sk := match T t with
  | some i => match i.desc with
    | .string => some .str
    | .slice e => (T e).map fun j => .sl j.size
    | .array n e => (T e).map fun j => .arr n j.size
    | _ => none
  | none => none
def faT (T : Tys) (t : TypeId) (k : Nat) : Option Nat := match T t with
  | some i => match i.desc with
    | .struct fs => match fs[k]? with
      | some f => match T f.type with
        | some j => if j.size = 0 then none else some f.offset
        | none => none
      | none => none
    | _ => none
  | none => none
def fdT (T : Tys) (t : TypeId) (k : Nat) : Option (Nat × Option Nat) := match T t with
  | some i => match i.desc with
    | .struct fs => match fs[k]? with
      | some f => match T f.type with
        | some j => some (f.offset, if aggD j.desc then some j.size else none)
        | none => none
      | none => none
    | _ => none
  | none => none
def ixT (T : Tys) (t : TypeId) : Option (Option Nat × Nat) := match T t with
  | some i => match i.desc with
    | .slice e => (T e).map fun j => (none, j.size)
    | .array n e => (T e).map fun j => (some n, j.size)
    | _ => none
  | none => none
/-- A string, or an array of so many elements of so many cells (agg: they are many). -/
def inT (T : Tys) (t : TypeId) : Option (Option (Nat × Nat × Bool)) := match T t with
  | some i => match i.desc with
    | .string => some none
    | .array n e => (T e).map fun j => some (n, j.size, aggD j.desc)
    | _ => none
  | none => none
inductive Ln where
  | str
  | sl
  | map
  | arr (n : Nat)
def lnT (T : Tys) (t : TypeId) : Option Ln := match T t with
  | some i => match i.desc with
    | .string => some .str
    | .slice _ => some .sl
    | .map _ _ => some .map
    | .array n _ => some (.arr n)
    | _ => none
  | none => none
/-- A structure's fields (an array's elements): where they lie; the zero value's cells. -/
def buT (T : Tys) (t : TypeId) : Option (Option (List (Nat × Nat)) × Nat × List AV) := match T t with
  | some i => match i.desc with
    | .struct fs => (placesA T fs.toList).map fun l => (some l, 0, i.zero)
    | .array _ e => (T e).map fun j => (none, j.size, i.zero)
    | _ => none
  | none => none

-- what operations do with values
def tkN : Nat → List AV → Option (List AV)
  | 0, _ => some []
  | s + 1, a :: l => (tkN s l).map (a :: ·)
  | _ + 1, [] => none
theorem tkN_eq : ∀ (s : Nat) (l : List AV), readN l s = tkN s l
  | 0, l => by simp [readN, tkN]
  | s + 1, [] => by simp [readN, tkN]
  | s + 1, a :: l => by
    rw [tkN, ← tkN_eq s l]
    by_cases hc : s ≤ l.length
    · simp [readN, hc]
    · simp [readN, hc]
def ldC : Option Nat → List AV → Option AV
  | none, l => l.head?
  | some s, l => (tkN s l).map .agg
def ldO (s : Option Nat) (off : Nat) : Option AObj → Option AV
  | some (.cells cs _) => ldC s (cs.drop off)
  | _ => none
def ldV (s : Option Nat) (h : Hp) : AV → Option AV
  | .ptr b off => ldO s off (h b)
  | .iptr cs => ldC s cs
  | _ => none
def wPick (v : AV) (ox oy : Option AV) (k : AV → Prop) (_ : Tie k := .mk) (_ : Tie ox := .mk) (_ : Tie oy := .mk) : Prop := match v with
  | .bool b => Br b (kV ox k) (kV oy k)
  | _ => False
def bin2 (T : Tys) (op : BinOp) (t : TypeId) (x y : Operand) : AV → AV → Option AV
  | .nili, .nili => if Region.isConst x || Region.isConst y then binA T op t .nili .nili else none
  | .agg a, .agg b => eqStructA T op t a b
  | .txt _ n, .str s => txtA op n s
  | .str s, .txt _ n => txtA op n s
  | u, v => binA T op t u v
def cvO (off len : Nat) : Option AObj → Option AV
  | some (.cells cs _) => ((readN (cs.drop off) len).bind bytesOf).map .str
  | _ => none
def cvV (h : Hp) : Cv → AV → Option AV
  | .int k, .int _ n => some (.int k (k.wrap n))
  | .str, .str s => some (.str s)
  | .bytes, .sl i off len _ => cvO off len (h i)
  | .bytes, .imm cs len => ((readN cs len).bind bytesOf).map .str
  | .bytes, .nils => some (.str [])
  | _, _ => none
def kO (f : Fr) (o : Option Operand) (k : Option AV → Prop) (_ : Tie k := .mk) : Prop := match o with
  | none => k none
  | some x => kV (evalA f x) fun v => k (some v)
def lenV : AV → Int
  | .str s => s.length
  | .sl _ _ len _ => len
  | .imm _ len => len
  | _ => 0
def slM : Sk → AV → Int → Int → Option AV
  | .str, .str s, l, m => if 0 ≤ l ∧ l ≤ m ∧ m ≤ (s.length : Int) then some (.str ((s.drop l.toNat).take (m.toNat - l.toNat))) else none
  | .sl sz, .sl b off len cap, l, m => if 0 ≤ l ∧ l ≤ m ∧ m ≤ ((cap.getD len : Nat) : Int) then
          (if l = 0 then some (.sl b off m.toNat cap)
           else if l < m then (match cap with | some c => some (.sl b (off + l.toNat * sz) (m.toNat - l.toNat) (some (c - l.toNat))) | none => none)
           else some (.imm [] 0))
        else none
  | .sl sz, .imm cells len, l, m => if 0 ≤ l ∧ l ≤ m ∧ m ≤ (len : Int) then
          (if l < m then some (.imm ((cells.drop (l.toNat * sz)).take ((m.toNat - l.toNat) * sz)) (m.toNat - l.toNat)) else some (.imm [] 0))
        else none
  | .sl _, .nils, l, m => if l = 0 ∧ m = 0 then some .nils else none
  | .arr n _, .ptr b off, l, m => if l = 0 ∧ 0 ≤ m ∧ m ≤ (n : Int) then some (.sl b off m.toNat (some n)) else none
  | _, _, _, _ => none
def slV (e : Sk) (u : AV) (lo hi : Option AV) : Option AV :=
  (boundA 0 lo).bind fun l => ((match hi with
    | none => some (match e with
      | .arr n _ => (n : Int)
      | _ => lenV u)
    | some v => idxOf v) : Option Int).bind fun m => slM e u l m
def faV (o : Nat) : AV → Option AV
  | .ptr b off => some (.ptr b (off + o))
  | .iptr cs => some (.iptr (cs.drop o))
  | _ => none
def fdV (o : Nat × Option Nat) : AV → Option AV
  | .agg cs => (match o.2 with
    | some s => some (.agg ((cs.drop o.1).take s))
    | none => cs[o.1]?)
  | _ => none
def ixM : Option Nat × Nat → AV → Int → Option AV
  | (none, s), .sl b off len _, n => if 0 ≤ n ∧ n < (len : Int) then some (.ptr b (off + n.toNat * s)) else none
  | (none, s), .imm cells len, n => if 0 ≤ n ∧ n < (len : Int) then some (.iptr (cells.drop (n.toNat * s))) else none
  | (some len, s), .ptr b off, n => if 0 ≤ n ∧ n < (len : Int) then some (.ptr b (off + n.toNat * s)) else none
  | (some len, s), .iptr cells, n => if 0 ≤ n ∧ n < (len : Int) then some (.iptr (cells.drop (n.toNat * s))) else none
  | _, _, _ => none
def ixV (e : Option Nat × Nat) (u v : AV) : Option AV := (idxOf v).bind (ixM e u)
def inM : Option (Nat × Nat × Bool) → AV → Int → Option AV
  | none, .str s, n => if 0 ≤ n then (s[n.toNat]?).map fun b => .int .u8 b.toNat else none
  | some (len, sz, g), .agg cs, n => if 0 ≤ n ∧ n < (len : Int) then (if g then some (.agg ((cs.drop (n.toNat * sz)).take sz)) else cs[n.toNat * sz]?) else none
  | _, _, _ => none
def inV (e : Option (Nat × Nat × Bool)) (u v : AV) : Option AV := (idxOf v).bind (inM e u)
def exV (v : AV) (k : Nat) : Option AV := match v with
  | .tup vs => vs[k]?
  | _ => none
def buV (e : Option (List (Nat × Nat)) × Nat × List AV) (ps : List (Nat × AV)) : Option AV := match e with
  | (some l, _, z) => (fillA (fun k => l[k]?) z ps).map .agg
  | (none, s, z) => (fillA (fun k => some (k * s, s)) z ps).map .agg
def lnO : Option AObj → Option AV
  | some (.map es) => some (.int .i64 (es.length : Nat))
  | _ => none
def lnV (e : Ln) (h : Hp) (u : AV) : Option AV := match e, u with
  | .arr n, _ => some (.int .i64 (n : Nat))
  | .str, .str s => some (.int .i64 (s.length : Nat))
  | .str, .txt _ n => some (.int .i64 (n : Nat))
  | .sl, .sl _ _ len _ => some (.int .i64 (len : Nat))
  | .sl, .imm _ len => some (.int .i64 (len : Nat))
  | .sl, .nils => some (.int .i64 0)
  | .map, .nilm => some (.int .i64 0)
  | .map, .map b => lnO (h b)
  | _, _ => none

/-- An operation that gives a value and leaves memory alone. -/
def wP (T : Tys) (op : Op) (f : Fr) (h : Hp) (k : AV → Prop) : Prop := match op with
  | .move x => kV (evalA f x) k
  | .assign x => kV (evalA f x) k
  | .pick c x y => kV (evalA f c) fun v => wPick v (evalA f x) (evalA f y) k
  | .load t x => kV (ldT T t) fun s => kV (evalA f x) fun p => kV (ldV s h p) k
  | .nilCheck x => kV (evalA f x) fun v => nilOk v = true ∧ k v
  | .binOp op t x y _ => kV (evalA f x) fun a => kV (evalA f y) fun b => kV (bin2 T op t x y a b) k
  | .unOp op _ x => kV (evalA f x) fun a => kV (unA op a) k
  | .convert s d x => kV (cvT T s d) fun c => kV (evalA f x) fun u => kV (cvV h c u) k
  | .makeInterface t x => kV (miT T t) fun _ => kV (evalA f x) fun u => k (.iface t u)
  | .makeFunc fn a b => kVs f a.toList fun vs => kVs f b.toList fun us => k (.fn fn vs us)
  | .slice t x lo hi none => kV (slT T t) fun e => kV (evalA f x) fun u => kO f lo fun l => kO f hi fun r => kV (slV e u l r) k
  | .fieldAddr t x i => kV (faT T t i) fun o => kV (evalA f x) fun p => kV (faV o p) k
  | .field t x i => kV (fdT T t i) fun o => kV (evalA f x) fun p => kV (fdV o p) k
  | .indexAddr t x i => kV (ixT T t) fun e => kV (evalA f x) fun u => kV (evalA f i) fun v => kV (ixV e u v) k
  | .index t x i => kV (inT T t) fun e => kV (evalA f x) fun u => kV (evalA f i) fun v => kV (inV e u v) k
  | .extract x i => kV (evalA f x) fun v => kV (exV v i) k
  | .build t ps => kV (buT T t) fun e => kPs f ps.toList fun l => kV (buV e l) k
  | .call ⟨.builtin .len, as, ts⟩ => kV (ts[0]?) fun t => kV (lnT T t) fun e => kVs f as.toList fun l => (match l with
    | [u] => kV (lnV e h u) k
    | _ => False)
  | .call ⟨.builtin .max, as, _⟩ => kVs f as.toList fun l => (match l with
    | u :: us => kV (mmA true u us) k
    | _ => False)
  | .call ⟨.builtin .min, as, _⟩ => kVs f as.toList fun l => (match l with
    | u :: us => kV (mmA false u us) k
    | _ => False)
  | op => kV (opP T f h op) k

theorem kV_mono {α : Type} {o o' : Option α} {k : α → Prop} (hm : ∀ v, o = some v → o' = some v) (h : kV o k) : kV o' k := by
  obtain ⟨v, hv, hk⟩ := kV_iff.1 h
  rw [hm v hv]; exact hk

theorem ld_eq {h : Hp} {i : TyI} {p : AV} : loadA h i p = ldV (if aggD i.desc then some i.size else none) h p := by
  have key : ∀ l : List AV, (if aggD i.desc then (readN l i.size).map AV.agg else l[0]?) = ldC (if aggD i.desc then some i.size else none) l := by
    intro l
    split
    · simp [ldC, tkN_eq]
    · simp [ldC, List.head?_eq_getElem?]
  cases p <;> first
    | rfl
    | skip
  · rename_i b off
    simp only [loadA, restA, ldV]
    cases h b with
    | none => rfl
    | some o => cases o with
      | cells cs more => exact key _
      | map es => rfl
  · rename_i cs
    exact key cs

theorem cv_ok {T : Tys} {h : Hp} {sr ds : TypeId} {c : Cv} (e : cvT T sr ds = some c) {v u : AV} (hu : cvV h c v = some u) : convA T h sr ds v = some u := by
  unfold cvT at e
  split at e <;> try (cases e; done)
  rename_i i j hi hj
  unfold convA
  simp only [hi, hj]
  split at e
  · rename_i k k' hd hs
    cases e
    cases v <;> simp [cvV] at hu
    subst hu
    simp [hd]
  · rename_i hd hs
    cases e
    cases v <;> simp [cvV] at hu
    subst hu
    simp [hd]
  · rename_i el hd hs
    split at e <;> try (cases e; done)
    rename_i ei hei
    split at e <;> cases e
    rename_i hk
    cases v <;> simp only [cvV] at hu <;> try (cases hu; done)
    · rename_i i' off len cap
      cases hb : h i' with
      | none => simp [hb, cvO] at hu
      | some o => cases o with
        | map es => simp [hb, cvO] at hu
        | cells cs q =>
          simp only [hb, cvO, Option.map_eq_some_iff, Option.bind_eq_some_iff] at hu
          obtain ⟨a, ⟨b, hb1, hb2⟩, rfl⟩ := hu
          simp [hd, hs, hei, hk, restS, hb, hb1, hb2]
    · cases hu; simp [hd, hs, hei, hk, restS, readN, bytesOf]
    · simp only [Option.map_eq_some_iff, Option.bind_eq_some_iff] at hu
      obtain ⟨a, ⟨b, hb1, hb2⟩, rfl⟩ := hu
      simp [hd, hs, hei, hk, restS, hb1, hb2]
  · cases e

theorem wP_ok {T : Tys} {op : Op} {f : Fr} {h : Hp} {k : AV → Prop} (e : wP T op f h k) : kV (opP T f h op) k := by
  cases op with
  | move x => exact e
  | assign x => exact e
  | pick c x y =>
    simp only [wP, kV_iff] at e
    obtain ⟨v, hv, e⟩ := e
    unfold wPick at e
    split at e
    · rename_i b
      simp only [opP, hv]
      cases b
      · exact e.2 rfl
      · exact e.1 rfl
    · exact e.elim
  | load t x =>
    simp only [wP, kV_iff, ldT, Option.map_eq_some_iff] at e
    obtain ⟨s, ⟨i, hi, rfl⟩, p, hp, v, hv, hk⟩ := e
    simp only [opP, hi, hp, ld_eq, hv]
    exact hk
  | nilCheck x =>
    simp only [wP, kV_iff] at e
    obtain ⟨v, hv, hn, hk⟩ := e
    simp only [opP, hv, hn, if_true]
    exact hk
  | binOp op t x y u =>
    simp only [wP, kV_iff] at e
    obtain ⟨a, ha, b, hb, v, hv, hk⟩ := e
    simp only [opP, ha, hb]
    refine kV_iff.2 ⟨v, ?_, hk⟩
    cases a <;> cases b <;> exact hv
  | unOp op t x =>
    simp only [wP, kV_iff] at e
    obtain ⟨a, ha, v, hv, hk⟩ := e
    simp only [opP, ha, hv]
    exact hk
  | convert s d x =>
    simp only [wP, kV_iff] at e
    obtain ⟨c, hc, a, ha, v, hv, hk⟩ := e
    simp only [opP, ha, cv_ok hc hv]
    exact hk
  | makeInterface t x =>
    simp only [wP, kV_iff] at e
    obtain ⟨_, hc, a, ha, hk⟩ := e
    unfold miT at hc
    split at hc <;> try (cases hc; done)
    rename_i i hi
    simp only [opP, hi, ha]
    split at hc <;> try (cases hc; done)
    rename_i hni
    split
    · rename_i q hq; exact absurd hq (hni _)
    · exact hk
  | makeFunc fn a b =>
    simp only [wP, kVs_iff] at e
    obtain ⟨vs, hvs, us, hus, hk⟩ := e
    simp only [opP, hvs, hus]
    exact hk
  | slice t x lo hi mx =>
    cases mx with
    | some m => exact e
    | none =>
    obtain ⟨s, hs, e⟩ := kV_iff.1 (show kV (slT T t) fun e => kV (evalA f x) fun u => kO f lo fun l => kO f hi fun r => kV (slV e u l r) k from e)
    obtain ⟨u, hu, e⟩ := kV_iff.1 e
    have go : ∀ (l r : Option AV), optA f lo = some l → optA f hi = some r → kV (slV s u l r) k → kV (opP T f h (.slice t x lo hi none)) k := by
      intro l r hl hr e
      simp only [opP, hu, hl, hr]
      refine kV_mono (fun v hv => ?_) e
      unfold slV at hv
      simp only [Option.bind_eq_some_iff] at hv
      obtain ⟨l', hl', m', hm', hv⟩ := hv
      unfold slT at hs
      split at hs <;> try (cases hs; done)
      rename_i i hi'
      unfold sliceA
      simp only [hi']
      split at hs <;> try (cases hs; done)
      · rename_i hd
        cases hs
        have hm2 : ∀ q : Nat, (q : Int) = lenV u → boundA q r = some m' := by
          intro q hq
          cases r with
          | none => simp only [boundA, hq]; exact hm'
          | some v => exact hm'
        cases u <;> simp only [slM] at hv <;> try (cases hv; done)
        simp only [hd, hl', hm2 _ rfl]
        exact hv
      · rename_i el hd
        simp only [Option.map_eq_some_iff] at hs
        obtain ⟨j, hj, rfl⟩ := hs
        have hm2 : ∀ q : Nat, (q : Int) = lenV u → boundA q r = some m' := by
          intro q hq
          cases r with
          | none => simp only [boundA, hq]; exact hm'
          | some v => exact hm'
        cases u <;> simp only [slM] at hv <;> try (cases hv; done)
        all_goals
          simp only [hd, hj, hl', hm2 _ rfl]
          exact hv
      · rename_i nn el hd
        simp only [Option.map_eq_some_iff] at hs
        obtain ⟨j, hj, rfl⟩ := hs
        have hm2 : boundA nn r = some m' := by
          cases r with
          | none => exact hm'
          | some v => exact hm'
        cases u <;> simp only [slM] at hv <;> try (cases hv; done)
        simp only [hd, hj, hl', hm2]
        exact hv
    cases lo with
    | none => cases hi with
      | none => exact go none none rfl rfl e
      | some y =>
        obtain ⟨b, hb, e⟩ := kV_iff.1 (show kV (evalA f y) fun v => kV (slV s u none (some v)) k from e)
        exact go none (some b) rfl (by simp [optA, hb]) e
    | some z =>
      obtain ⟨a, ha, e⟩ := kV_iff.1 (show kV (evalA f z) fun v => kO f hi fun r => kV (slV s u (some v) r) k from e)
      cases hi with
      | none => exact go (some a) none (by simp [optA, ha]) rfl e
      | some y =>
        obtain ⟨b, hb, e⟩ := kV_iff.1 (show kV (evalA f y) fun v => kV (slV s u (some a) (some v)) k from e)
        exact go (some a) (some b) (by simp [optA, ha]) (by simp [optA, hb]) e
  | fieldAddr t x i =>
    simp only [wP, kV_iff] at e
    obtain ⟨o, ho, p, hp, v, hv, hk⟩ := e
    simp only [opP, hp]
    refine kV_iff.2 ⟨v, ?_, hk⟩
    unfold faT at ho
    unfold fieldAddrA
    split at ho <;> try (cases ho; done)
    rename_i j hj
    simp only [hj]
    split at ho <;> try (cases ho; done)
    rename_i fs hd
    simp only [hd]
    split at ho <;> try (cases ho; done)
    rename_i fl hfl
    simp only [hfl]
    split at ho <;> try (cases ho; done)
    rename_i j2 hj2
    simp only [hj2]
    split at ho <;> cases ho
    rename_i hz
    rw [if_neg hz]
    cases p <;> exact hv
  | field t x i =>
    simp only [wP, kV_iff] at e
    obtain ⟨o, ho, p, hp, v, hv, hk⟩ := e
    simp only [opP, hp]
    refine kV_iff.2 ⟨v, ?_, hk⟩
    unfold fdT at ho
    split at ho <;> try (cases ho; done)
    rename_i j hj
    split at ho <;> try (cases ho; done)
    rename_i fs hd
    split at ho <;> try (cases ho; done)
    rename_i fl hfl
    split at ho <;> try (cases ho; done)
    rename_i j2 hj2
    cases ho
    cases p <;> simp only [fdV] at hv <;> try (cases hv; done)
    simp only [fieldA, hj, hd, hfl, partA, hj2]
    cases hg : aggD j2.desc <;> simp only [hg, Bool.false_eq_true, if_false, if_true] at hv ⊢ <;> exact hv
  | indexAddr t x i =>
    simp only [wP, kV_iff] at e
    obtain ⟨o, ho, p, hp, q, hq, v, hv, hk⟩ := e
    simp only [opP, hp, hq]
    refine kV_iff.2 ⟨v, ?_, hk⟩
    simp only [ixV, Option.bind_eq_some_iff] at hv
    obtain ⟨z, hz, hv⟩ := hv
    unfold ixT at ho
    split at ho <;> try (cases ho; done)
    rename_i j hj
    unfold indexAddrA
    simp only [hj, hz]
    split at ho <;> try (cases ho; done)
    · rename_i el hd
      simp only [Option.map_eq_some_iff] at ho
      obtain ⟨j2, hj2, rfl⟩ := ho
      simp only [hd, hj2]
      cases p <;> exact hv
    · rename_i nn el hd
      simp only [Option.map_eq_some_iff] at ho
      obtain ⟨j2, hj2, rfl⟩ := ho
      simp only [hd, hj2]
      cases p <;> exact hv
  | index t x i =>
    simp only [wP, kV_iff] at e
    obtain ⟨o, ho, p, hp, q, hq, v, hv, hk⟩ := e
    simp only [opP, hp, hq]
    refine kV_iff.2 ⟨v, ?_, hk⟩
    simp only [inV, Option.bind_eq_some_iff] at hv
    obtain ⟨z, hz, hv⟩ := hv
    unfold inT at ho
    split at ho <;> try (cases ho; done)
    rename_i j hj
    unfold indexA
    simp only [hj, hz]
    split at ho <;> try (cases ho; done)
    · rename_i hd
      cases ho
      cases p <;> simp only [inM] at hv <;> try (cases hv; done)
      simp only [hd]
      exact hv
    · rename_i nn el hd
      simp only [Option.map_eq_some_iff] at ho
      obtain ⟨j2, hj2, rfl⟩ := ho
      cases p <;> simp only [inM] at hv <;> try (cases hv; done)
      simp only [hd, hj2, partA]
      cases hg : aggD j2.desc <;> simp only [hg, Bool.false_eq_true, if_false, if_true] at hv ⊢ <;> exact hv
  | extract x i =>
    simp only [wP, kV_iff] at e
    obtain ⟨v, hv, u, hu, hk⟩ := e
    simp only [opP, hv]
    refine kV_iff.2 ⟨u, ?_, hk⟩
    unfold exV at hu
    split at hu
    · exact hu
    · cases hu
  | build t ps =>
    simp only [wP, kV_iff, kPs_iff] at e
    obtain ⟨o, ho, l, hl, v, hv, hk⟩ := e
    simp only [opP, hl]
    refine kV_iff.2 ⟨v, ?_, hk⟩
    unfold buT at ho
    unfold buildA
    split at ho <;> try (cases ho; done)
    rename_i j hj
    simp only [hj]
    split at ho <;> try (cases ho; done)
    · rename_i fs hd
      simp only [Option.map_eq_some_iff] at ho
      obtain ⟨l2, hl2, rfl⟩ := ho
      simp only [hd, hl2]
      exact hv
    · rename_i nn el hd
      simp only [Option.map_eq_some_iff] at ho
      obtain ⟨j2, hj2, rfl⟩ := ho
      simp only [hd, hj2]
      exact hv
  | call c =>
    obtain ⟨cal, as, ts⟩ := c
    cases cal with
    | builtin b =>
      cases b <;> first
        | exact e
        | skip
      · obtain ⟨t, ht, e⟩ := kV_iff.1 (show kV (ts[0]?) fun t => kV (lnT T t) fun e => kVs f as.toList fun l => (match l with
          | [u] => kV (lnV e h u) k
          | _ => False) from e)
        obtain ⟨ln, hln, e⟩ := kV_iff.1 e
        obtain ⟨l, hl, e⟩ := kVs_iff.1 e
        match l, e, hl with
        | [u], e, hl =>
          obtain ⟨v, hv, hk⟩ := kV_iff.1 e
          simp only [opP, ht, hl]
          have : ∃ n : Nat, lenA T h t u = some n ∧ v = AV.int .i64 n := by
            unfold lnT at hln
            split at hln <;> try (cases hln; done)
            rename_i i hi
            unfold lenA
            simp only [hi]
            split at hln <;> (try (cases hln; done)) <;> rename_i hd <;> cases hln <;> simp only [hd]
            · cases u <;> first
                | (cases hv; done)
                | (cases hv; exact ⟨_, rfl, rfl⟩)
            · cases u <;> first
                | (cases hv; done)
                | (cases hv; exact ⟨_, rfl, rfl⟩)
            · cases u <;> first
                | (cases hv; done)
                | (cases hv; exact ⟨_, rfl, rfl⟩)
                | skip
              rename_i b
              replace hv : lnO (h b) = some v := hv
              cases hob : h b with
              | none => rw [hob] at hv; cases hv
              | some o => cases o with
                | cells cs q => rw [hob] at hv; cases hv
                | map es => rw [hob] at hv; cases hv; exact ⟨es.length, by simp only [hob], rfl⟩
            · cases hv; exact ⟨_, rfl, rfl⟩
          obtain ⟨n, hn, rfl⟩ := this
          simp only [hn]
          exact hk
        | [], e, _ => exact e.elim
        | _ :: _ :: _, e, _ => exact e.elim
      · simp only [wP, kVs_iff] at e
        obtain ⟨l, hl, e⟩ := e
        match l, e, hl with
        | u :: us, e, hl =>
          simp only [opP, hl]
          exact e
        | [], e, _ => exact e.elim
      · simp only [wP, kVs_iff] at e
        obtain ⟨l, hl, e⟩ := e
        match l, e, hl with
        | u :: us, e, hl =>
          simp only [opP, hl]
          exact e
        | [], e, _ => exact e.elim
    | _ => exact e
  | _ => exact e

/-- Of a slice type: its elements' cells, bytes, zero value, and type. -/
def eT (T : Tys) (t : TypeId) : Option (Nat × Nat × List AV × TypeId) := match T t with
  | some i => match i.desc with
    | .slice el => (T el).map fun j => (j.size, j.bytes, j.zero, el)
    | _ => none
  | none => none
/-- The first cells, each one a cell. -/
def tkC : Nat → List AV → Option (List AV)
  | 0, _ => some []
  | s + 1, a :: l => if isCell a then (tkC s l).map (a :: ·) else none
  | _ + 1, [] => none
theorem tkC_iff : ∀ {s : Nat} {l r : List AV}, tkC s l = some r → readN l s = some r ∧ r.all isCell = true
  | 0, l, r, e => by cases l <;> (cases e; simp [readN])
  | s + 1, [], r, e => by cases e
  | s + 1, a :: l, r, e => by
    simp only [tkC] at e
    split at e <;> try (cases e; done)
    rename_i ha
    simp only [Option.map_eq_some_iff] at e
    obtain ⟨r', hr, rfl⟩ := e
    obtain ⟨h1, h2⟩ := tkC_iff hr
    rw [tkN_eq] at h1 ⊢
    simp [tkN, h1, h2, ha]
theorem tkC_of {s : Nat} {l : List AV} (h1 : s ≤ l.length) (h2 : (l.take s).all isCell = true) : tkC s l = some (l.take s) := by
  induction s generalizing l with
  | zero => cases l <;> rfl
  | succ s ih => cases l with
    | nil => simp at h1
    | cons a l =>
      simp only [List.take_succ_cons, List.all_cons, Bool.and_eq_true] at h2
      simp only [tkC, h2.1, if_true, ih (by simpa using h1) h2.2, Option.map_some, List.take_succ_cons]

def srO (s off len : Nat) : Option AObj → Option (List AV × Nat)
  | some (.cells cs _) => (tkC (len * s) (cs.drop off)).map fun l => (l, len)
  | _ => none
def srV (s : Nat) (h : Hp) : AV → Option (List AV × Nat)
  | .sl i off len _ => srO s off len (h i)
  | .imm cs len => (tkC (len * s) cs).map fun l => (l, len)
  | .nils => some ([], 0)
  | _ => none

def apO (s b : Nat) (el : TypeId) (h : Hp) (n id off len : Nat) (cap : Option Nat) (news : List AV) (k : Nat) : Option AObj → Option (AV × Hp × Nat)
  | some (.cells cs more) => (match cap with
    | some c => if len + k ≤ c then
        (if off + (len + k) * s ≤ cs.length then some (.sl id off (len + k) (some c), h.set id (.cells (setsA cs (off + len * s) news) more), n) else none)
      else (tkC (len * s) (cs.drop off)).bind fun olds => if (2 * (len + k) + 768) * b ≤ 281474976710656 ∧ len + k ≤ 4611686018427387904 then
        some (.sl n 0 (len + k) none, h.set n (.cells (olds ++ news) (some (s, el))), n + 1) else none
    | none => (tkC (len * s) cs).bind fun olds => if off = 0 ∧ more = some (s, el) ∧ (2 * (len + k) + 768) * b ≤ 281474976710656 ∧ len + k ≤ 4611686018427387904 then
        some (.sl n 0 (len + k) none, (h.del id).set n (.cells (olds ++ news) (some (s, el))), n + 1) else none)
  | _ => none
def apV (s b : Nat) (el : TypeId) (h : Hp) (n : Nat) (news : List AV) (k : Nat) : AV → Option (AV × Hp × Nat)
  | .nils => if k = 0 then some (.nils, h, n) else if (2 * k + 768) * b ≤ 281474976710656 ∧ k ≤ 4611686018427387904 then some (.sl n 0 k none, h.set n (.cells news (some (s, el))), n + 1) else none
  | .sl id off len cap => if k = 0 then some (.sl id off len cap, h, n) else apO s b el h n id off len cap news k (h id)
  | .imm cs len => if k = 0 then some (.imm cs len, h, n) else none
  | _ => none

theorem ap_ok {T : Tys} {h : Hp} {n : Nat} {t tx : TypeId} {e : Nat × Nat × List AV × TypeId} (he : eT T t = some e) (hx : ∃ e', eT T tx = some e') {s x : AV} {news : List AV} {k : Nat} (hs : srV e.1 h x = some (news, k)) {r : AV × Hp × Nat}
    (ha : apV e.1 e.2.1 e.2.2.2 h n news k s = some r) : appendA T h n t tx s x = some (some r.1, r.2.1, r.2.2) := by
  obtain ⟨e', hx⟩ := hx
  unfold eT at he hx
  split at he <;> try (cases he; done)
  rename_i i hi
  split at he <;> try (cases he; done)
  rename_i el hd
  simp only [Option.map_eq_some_iff] at he
  obtain ⟨j, hj, rfl⟩ := he
  split at hx <;> try (cases hx; done)
  rename_i i' hi'
  split at hx <;> try (cases hx; done)
  rename_i el' hd'
  have hsrc : srcA T h tx j.size x = some (news, k) := by
    simp only [srcA, hi', hd']
    simp only at hs
    cases x <;> simp only [srV] at hs <;> try (cases hs; done)
    · rename_i id off len cap
      cases hb : h id with
      | none => rw [hb] at hs; cases hs
      | some o => cases o with
        | map es => rw [hb] at hs; cases hs
        | cells cs q =>
          rw [hb] at hs
          simp only [srO, Option.map_eq_some_iff] at hs
          obtain ⟨l, hl, hl2⟩ := hs
          cases hl2
          obtain ⟨h1, h2⟩ := tkC_iff hl
          simp only [restS, hb, h1, h2, if_true]
    · cases hs; simp [restS, readN]
    · simp only [Option.map_eq_some_iff] at hs
      obtain ⟨l, hl, hl2⟩ := hs
      cases hl2
      obtain ⟨h1, h2⟩ := tkC_iff hl
      simp only [restS, h1, h2, if_true]
  unfold appendA
  simp only [hi, hd, hj, hsrc]
  simp only at ha
  cases s <;> simp only [apV] at ha <;> try (cases ha; done)
  · rename_i id off len cap
    by_cases hk : k = 0
    · simp only [hk, if_true] at ha ⊢; cases ha; rfl
    · simp only [hk, if_false] at ha ⊢
      cases hb : h id with
      | none => rw [hb] at ha; cases ha
      | some o => cases o with
        | map es => rw [hb] at ha; cases ha
        | cells cs more =>
          rw [hb] at ha
          simp only [apO] at ha
          cases cap with
          | some c =>
            simp only at ha ⊢
            by_cases hc : len + k ≤ c
            · simp only [hc, if_true] at ha ⊢
              split at ha <;> cases ha
              rename_i h3
              simp only [h3, if_true]
            · simp only [hc, if_false, Option.bind_eq_some_iff] at ha ⊢
              obtain ⟨olds, ho, ha⟩ := ha
              split at ha <;> cases ha
              rename_i h3
              simp only [(tkC_iff ho).1]
              rw [if_pos h3]
          | none =>
            simp only [Option.bind_eq_some_iff] at ha ⊢
            obtain ⟨olds, ho, ha⟩ := ha
            split at ha <;> cases ha
            rename_i h3
            simp only [(tkC_iff ho).1]
            rw [if_pos h3]
  · by_cases hk : k = 0
    · simp only [hk, if_true] at ha ⊢; cases ha; rfl
    · simp only [hk, if_false] at ha ⊢
      split at ha <;> cases ha
      rename_i h3
      rw [if_pos h3]
  · by_cases hk : k = 0
    · simp only [hk, if_true] at ha ⊢; cases ha; rfl
    · simp only [hk, if_false] at ha; cases ha

/-- append, seen as far as it is needed. -/
def wApp (T : Tys) (d : Option Tmp) (x y : Operand) (t tx : TypeId) (K : KS) (f : Fr) (h : Hp) (n : Nat) : Prop :=
  kV (eT T t) fun e => kV (eT T tx) fun _ => kV (evalA f x) fun u => kV (evalA f y) fun v => kV (srV e.1 h v) fun w => kV (apV e.1 e.2.1 e.2.2.2 h n w.1 w.2 u) fun r => K (putA f d r.1) r.2.1 r.2.2
def wApp2 (T : Tys) (d : Option Tmp) (as : List Operand) (ts : List TypeId) (K : KS) (f : Fr) (h : Hp) (n : Nat) : Prop := match as, ts with
  | [x, y], [t, tx] => wApp T d x y t tx K f h n
  | _, _ => False

/-- A call, not looked behind. -/
def wCall (P : Program) (g : FuncId) (args : List AV) (h : Hp) (n : Nat) (Q : AV → Hp → Nat → Prop) (_ : Tie Q := .mk) (_ : Tie h := .mk) : Prop := ACalls P g args h n Q

/-- A call of a function value. -/
def kCal (P : Program) (d : Option Tmp) (v : AV) (vs : List AV) (K : KS) (f : Fr) (h : Hp) (n : Nat) (_ : Tie K := .mk) (_ : Tie f := .mk) (_ : Tie h := .mk) : Prop := match v with
  | .fn (.func g) fi ca => wCall P g (fi ++ vs ++ ca) h n fun r h' n' => K (putA f d r) h' n'
  | _ => False

/-- One operation. -/
def wDo (P : Program) (T : Tys) (d : Option Tmp) (op : Op) (K : KS) (f : Fr) (h : Hp) (n : Nat) : Prop :=
  match op with
  | .store .. | .mapUpdate .. | .insert .. => kV (opS T f h op) fun h' => K (loseA f d) h' n
  | .alloc .. | .box .. | .buildSlice .. | .makeSlice .. | .makeMap .. => kV (opN T f h n op) fun r => (match r with
    | (some v, h', n') => K (putA f d v) h' n'
    | (none, h', n') => K (loseA f d) h' n')
  | .call c => (match c.callee with
    | .builtin .append => wApp2 T d c.args.toList c.argTypes.toList K f h n
    | .builtin .unsafeString => kV (opN T f h n op) fun r => (match r with
      | (some v, h', n') => K (putA f d v) h' n'
      | (none, h', n') => K (loseA f d) h' n')
    | .value x => kV (evalA f x) fun v => kVs f c.args.toList fun vs => kCal P d v vs K f h n
    | .builtin _ => wP T op f h fun v => K (putA f d v) h n
    | _ => False)
  | op => wP T op f h fun v => K (putA f d v) h n

def wGd (o : Option AV) (want : Bool) (d : Option Tmp) (A B : KS) (t : Nat) (f : Fr) (h : Hp) (n : Nat) (_ : Tie A := .mk) (_ : Tie B := .mk) (_ : Tie f := .mk) (_ : Tie h := .mk) : Prop := match o with
  | some (.bool b) => Br b ((if want then A else B) (f.set t (.bool true)) h n) ((if want then B else A) (f.set t (.bool false)) h n)
  | some (.tup _) => B f h n
  | _ => False

def wOp (P : Program) (T : Tys) (l0 : List Oper) (o : Oper) (K : KS) (f : Fr) (h : Hp) (n : Nat) : Prop :=
  match o with
  | ⟨d, op, _, _, _, none⟩ => wDo P T d op K f h n
  | ⟨d, op, _, _, _, some (j, want)⟩ => kV (gsl l0 j) fun t => wGd (f t) want d (wDo P T d op K) (fun f h n => K (putA f d (.tup [])) h n) t f h n

def wOps (P : Program) (T : Tys) (l0 : List Oper) : List Oper → KS → KS
  | [], K => K
  | o :: l, K => wOp P T l0 o (wOps P T l0 l K)

def pr (K : KS) : St → Prop := fun s => K s.f s.h s.n

/-- What one operation that is not passed over does. -/
def doOp (P : Program) (T : Tys) (o : Oper) (K : St → Prop) (s : St) : Prop := match opD T s.f s.h s.n o.op with
  | some (some v, h', n') => K ⟨putA s.f o.dst v, h', n'⟩
  | some (none, h', n') => K ⟨loseA s.f o.dst, h', n'⟩
  | none => match calleeA s.f o.op with
    | some (g, args) => ACalls P g args s.h s.n fun r h' n' => K ⟨putA s.f o.dst r, h', n'⟩
    | none => False

theorem doOp_P {o : Oper} {K : KS} {f : Fr} {h : Hp} {n : Nat} (e : wP T o.op f h fun v => K (putA f o.dst v) h n) : doOp P T o (pr K) ⟨f, h, n⟩ := by
  obtain ⟨v, hv, hk⟩ := kV_iff.1 (wP_ok e)
  simp only [doOp, opD, hv]
  exact hk

theorem doOp_N {o : Oper} {K : KS} {f : Fr} {h : Hp} {n : Nat} (e1 : opP T f h o.op = none) (e2 : opS T f h o.op = none) (e : kV (opN T f h n o.op) fun r => (match r with
    | (some v, h', n') => K (putA f o.dst v) h' n'
    | (none, h', n') => K (loseA f o.dst) h' n')) : doOp P T o (pr K) ⟨f, h, n⟩ := by
  obtain ⟨⟨v, h', n'⟩, hv, hk⟩ := kV_iff.1 e
  simp only [doOp, opD, e1, e2, hv]
  cases v <;> exact hk

theorem doOp_S {o : Oper} {K : KS} {f : Fr} {h : Hp} {n : Nat} (e1 : opP T f h o.op = none) (e : kV (opS T f h o.op) fun h' => K (loseA f o.dst) h' n) : doOp P T o (pr K) ⟨f, h, n⟩ := by
  obtain ⟨h', hv, hk⟩ := kV_iff.1 e
  simp only [doOp, opD, e1, hv]
  exact hk

theorem wDo_ok {o : Oper} {K : KS} {f : Fr} {h : Hp} {n : Nat} (e : wDo P T o.dst o.op K f h n) : doOp P T o (pr K) ⟨f, h, n⟩ := by
  obtain ⟨d, op, ty, pos, aft, gd⟩ := o
  cases op with
  | call c =>
    obtain ⟨cal, as, ats⟩ := c
    cases cal with
    | value x =>
      simp only [wDo, kV_iff, kVs_iff] at e
      obtain ⟨v, hv, vs, hvs, hk⟩ := e
      unfold kCal at hk
      split at hk
      · simp only [doOp, opD, opP, opS, opN, calleeA, hv, hvs]
        exact hk
      · exact hk.elim
    | invoke r mth => exact e.elim
    | builtin b =>
      cases b with
      | append =>
        refine doOp_N rfl rfl ?_
        replace e : wApp2 T d as.toList ats.toList K f h n := e
        unfold wApp2 at e
        split at e
        · rename_i x y t tx has hts
          obtain ⟨e1, h1, e⟩ := kV_iff.1 e
          obtain ⟨e2, h2, e⟩ := kV_iff.1 e
          obtain ⟨u, hu, e⟩ := kV_iff.1 e
          obtain ⟨v, hv, e⟩ := kV_iff.1 e
          obtain ⟨w, hw, e⟩ := kV_iff.1 e
          obtain ⟨r, hr, e⟩ := kV_iff.1 e
          refine kV_iff.2 ⟨(some r.1, r.2.1, r.2.2), ?_, e⟩
          have := ap_ok (n := n) h1 ⟨e2, h2⟩ (k := w.2) (news := w.1) hw hr
          simp only [opN, has, hts, evalsA, hu, hv, this]
        · exact e.elim
      | unsafeString => exact doOp_N rfl rfl e
      | _ => exact doOp_P e
  | store t a v => exact doOp_S rfl e
  | mapUpdate t mp k v => exact doOp_S rfl e
  | insert t mp k v => exact doOp_S rfl e
  | alloc t => exact doOp_N rfl rfl e
  | box t x => exact doOp_N rfl rfl e
  | buildSlice t l ps => exact doOp_N rfl rfl e
  | makeSlice t l c => exact doOp_N rfl rfl e
  | makeMap t r => cases r <;> exact doOp_N rfl rfl e
  | _ => exact doOp_P e

theorem aOp_of_do {ops : Array Oper} {o : Oper} {K : St → Prop} {s : St} (hd : dstOk m o.dst = true) (hw : wantA ops s.f o = some true) (e : doOp P T o K s) : aOp P T m ops o K s := by
  unfold aOp
  rw [hw]
  exact ⟨hd, e⟩

/-- A slot that holds what is put there. -/
theorem Fr.set_self {f : Fr} {t : Nat} {v : AV} (h : f t = some v) : f.set t v = f := by
  funext u
  simp only [Fr.set]
  split
  · rename_i e; rw [e, h]
  · rfl

theorem wOp_ok {ops : Array Oper} {o : Oper} {K : KS} {f : Fr} {h : Hp} {n : Nat} (hd : dstOk m o.dst = true) (e : wOp P T ops.toList o K f h n) : aOp P T m ops o (pr K) ⟨f, h, n⟩ := by
  obtain ⟨d, op, ty, pos, aft, gd⟩ := o
  cases gd with
  | none => exact aOp_of_do hd rfl (wDo_ok (o := ⟨d, op, ty, pos, aft, none⟩) e)
  | some p =>
    obtain ⟨j, want⟩ := p
    simp only [wOp, kV_iff] at e
    obtain ⟨t, ht, e⟩ := e
    rw [gsl_eq] at ht
    have ht2 : (ops[j]?).bind (·.dst) = some t := by simpa using ht
    unfold wGd at e
    split at e
    · rename_i b hb
      have hw : wantA ops f ⟨d, op, ty, pos, aft, some (j, want)⟩ = some (b == want) := by
        simp only [wantA, ht2, hb]
      have key : (if b = want then wDo P T d op K else fun f h n => K (putA f d (.tup [])) h n) f h n := by
        cases b
        · have := e.2 rfl
          rw [Fr.set_self hb] at this
          cases want <;> exact this
        · have := e.1 rfl
          rw [Fr.set_self hb] at this
          cases want <;> exact this
      by_cases hbw : b = want
      · rw [if_pos hbw] at key
        subst hbw
        exact aOp_of_do hd (by rw [hw]; simp) (wDo_ok (o := ⟨d, op, ty, pos, aft, some (j, b)⟩) key)
      · rw [if_neg hbw] at key
        have hf : (b == want) = false := by simpa using hbw
        rw [hf] at hw
        unfold aOp
        rw [hw]
        exact ⟨hd, key⟩
    · rename_i b hb
      have hw : wantA ops f ⟨d, op, ty, pos, aft, some (j, want)⟩ = some false := by
        simp only [wantA, ht2, hb]
      unfold aOp
      rw [hw]
      exact ⟨hd, e⟩
    · exact e.elim

theorem wOps_ok {ops : Array Oper} : ∀ {l : List Oper} {K : KS} {f : Fr} {h : Hp} {n : Nat}, (l.all fun o => dstOk m o.dst) = true → wOps P T ops.toList l K f h n → aOps P T m ops l (pr K) ⟨f, h, n⟩
  | [], K, f, h, n, _, e => e
  | o :: l, K, f, h, n, hd, e => by
    simp only [List.all_cons, Bool.and_eq_true] at hd
    exact aOp_mono (fun s q => wOps_ok hd.2 q) (wOp_ok hd.1 e)

end Go.Acx
