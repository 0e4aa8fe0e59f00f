/- Acx, part 17b: the operations, each branch under a name of its own (so that the kernel's terms stay small). -/
import Derived.Test.YtnjhpjiahjjjkaaGreatDoorAcxDo
namespace Go.Acx

def pMove (f : Fr) (x : Operand) : Option AV := evalA f x
def pPick (f : Fr) (c x y : Operand) : Option AV := match evalA f c with
  | some (.bool b) => if b then evalA f x else evalA f y
  | _ => none
def pLoad (T : Tys) (f : Fr) (h : Hp) (t : TypeId) (x : Operand) : Option AV := match T t, evalA f x with
  | some i, some p => loadA h i p
  | _, _ => none
def pNil (f : Fr) (x : Operand) : Option AV := match evalA f x with
  | some v => if nilOk v then some v else none
  | none => none
def pBin1 (T : Tys) (op : BinOp) (t : TypeId) (x y : Operand) (u v : AV) : Option AV := match u, v with
  | .nili, .nili => if Region.isConst x || Region.isConst y then binA T op t u v else none
  | .agg a, .agg b => eqStructA T op t a b
  | .txt _ n, .str s => txtA op n s
  | .str s, .txt _ n => txtA op n s
  | u, v => binA T op t u v
def pBin2 (T : Tys) (op : BinOp) (t : TypeId) (x y : Operand) (u v : AV) : Option AV := match u with
  | .int k a => (match v with
    | .int k' b => (match op with
      | .shl => shiftA .shl k a b
      | .shr => shiftA .shr k a b
      | op => if k = k' then intA op k a b else none)
    | v => pBin1 T op t x y (.int k a) v)
  | u => pBin1 T op t x y u v
def pBin (T : Tys) (f : Fr) (op : BinOp) (t : TypeId) (x y : Operand) : Option AV := match evalA f x, evalA f y with
  | some u, some v => pBin2 T op t x y u v
  | _, _ => none
def pUn (f : Fr) (op : UnOp) (x : Operand) : Option AV := match evalA f x with
  | some u => unA op u
  | none => none
def pConv (T : Tys) (f : Fr) (h : Hp) (s d : TypeId) (x : Operand) : Option AV := match evalA f x with
  | some u => convA T h s d u
  | none => none
def pMkI (T : Tys) (f : Fr) (t : TypeId) (x : Operand) : Option AV := match T t, evalA f x with
  | some i, some u => (match i.desc with
    | .interface _ => none
    | _ => some (.iface t u))
  | _, _ => none
def pMkF (f : Fr) (fn : Fn) (first captured : Array Operand) : Option AV := match evalsA f first.toList, evalsA f captured.toList with
  | some a, some b => some (.fn fn a b)
  | _, _ => none
def pSlice (T : Tys) (f : Fr) (t : TypeId) (x : Operand) (lo hi : Option Operand) : Option AV := match evalA f x, optA f lo, optA f hi with
  | some u, some l, some r => sliceA T t u l r
  | _, _, _ => none
def pFieldAddr (T : Tys) (f : Fr) (t : TypeId) (x : Operand) (k : Nat) : Option AV := match evalA f x with
  | some u => fieldAddrA T t u k
  | none => none
def pField (T : Tys) (f : Fr) (t : TypeId) (x : Operand) (k : Nat) : Option AV := match evalA f x with
  | some u => fieldA T t u k
  | none => none
def pIndexAddr (T : Tys) (f : Fr) (t : TypeId) (x ix : Operand) : Option AV := match evalA f x, evalA f ix with
  | some u, some v => indexAddrA T t u v
  | _, _ => none
def pIndex (T : Tys) (f : Fr) (t : TypeId) (x ix : Operand) : Option AV := match evalA f x, evalA f ix with
  | some u, some v => indexA T t u v
  | _, _ => none
def pLookup (T : Tys) (f : Fr) (h : Hp) (t : TypeId) (x ix : Operand) (ok : Bool) : Option AV := match evalA f x, evalA f ix with
  | some u, some v => lookupA T h t u v ok
  | _, _ => none
def pExtract (f : Fr) (x : Operand) (k : Nat) : Option AV := match evalA f x with
  | some (.tup vs) => vs[k]?
  | _ => none
def pBuild (T : Tys) (f : Fr) (t : TypeId) (ps : Array (Nat × Operand)) : Option AV := match pairsA f ps.toList with
  | some l => buildA T t l
  | none => none
def pLen (T : Tys) (f : Fr) (h : Hp) (c : Call) : Option AV := match c.argTypes[0]?, evalsA f c.args.toList with
  | some t, some [u] => (match lenA T h t u with
    | some n => some (.int .i64 (n : Int))
    | none => none)
  | _, _ => none
def pMM (b : Bool) (f : Fr) (c : Call) : Option AV := match evalsA f c.args.toList with
  | some (u :: us) => mmA b u us
  | _ => none
def pData (f : Fr) (c : Call) : Option AV := match evalsA f c.args.toList with
  | some [u] => sliceDataA u
  | _ => none
def pCall (T : Tys) (f : Fr) (h : Hp) (c : Call) : Option AV := match c.callee with
  | .builtin b => (match b with
    | .len => pLen T f h c
    | .max => pMM true f c
    | .min => pMM false f c
    | .unsafeSliceData => pData f c
    | _ => none)
  | _ => none

def opPF (T : Tys) (f : Fr) (h : Hp) (op : Op) : Option AV := match op with
  | .move x => pMove f x
  | .assign x => pMove f x
  | .pick c x y => pPick f c x y
  | .load t x => pLoad T f h t x
  | .nilCheck x => pNil f x
  | .binOp op t x y _ => pBin T f op t x y
  | .unOp op _ x => pUn f op x
  | .convert s d x => pConv T f h s d x
  | .makeInterface t x => pMkI T f t x
  | .makeFunc fn a b => pMkF f fn a b
  | .slice t x lo hi mx => (match mx with
    | none => pSlice T f t x lo hi
    | some _ => none)
  | .fieldAddr t x k => pFieldAddr T f t x k
  | .field t x k => pField T f t x k
  | .indexAddr t x ix => pIndexAddr T f t x ix
  | .index t x ix => pIndex T f t x ix
  | .lookup t x ix ok => pLookup T f h t x ix ok
  | .extract x k => pExtract f x k
  | .build t ps => pBuild T f t ps
  | .call c => pCall T f h c
  | _ => none

theorem pBin2_eq (T : Tys) (op : BinOp) (t : TypeId) (x y : Operand) (u v : AV) : pBin2 T op t x y u v = pBin1 T op t x y u v := by
  unfold pBin2
  split
  · split
    · simp only [pBin1, binA]
      cases op <;> rfl
    · rfl
  · rfl

theorem opPF_eq (T : Tys) (f : Fr) (h : Hp) (op : Op) : opPF T f h op = opP T f h op := by
  cases op <;> try rfl
  case binOp op t x y s =>
    show pBin T f op t x y = _
    simp only [pBin, opP]
    cases evalA f x <;> cases evalA f y <;> try rfl
    simp only [pBin2_eq]
    rfl
  case slice t x lo hi mx => cases mx <;> rfl
  case call c =>
    show pCall T f h c = _
    obtain ⟨callee, as, ats⟩ := c
    cases callee <;> try rfl
    rename_i b
    cases b <;> rfl

def sStore (T : Tys) (f : Fr) (h : Hp) (n : Nat) (t : TypeId) (x y : Operand) : Option (Option AV × Hp × Nat) := match T t, evalA f x, evalA f y with
  | some i, some p, some v => (match storeA h i p v with
    | some h' => some (none, h', n)
    | none => none)
  | _, _, _ => none
def sUpdate (T : Tys) (f : Fr) (h : Hp) (n : Nat) (t : TypeId) (x k v : Operand) : Option (Option AV × Hp × Nat) := match evalA f x, evalA f k, evalA f v with
  | some p, some q, some u => (match updateA T h t p q u with
    | some h' => some (none, h', n)
    | none => none)
  | _, _, _ => none
def nBox (f : Fr) (h : Hp) (n : Nat) (x : Operand) : Option (Option AV × Hp × Nat) := match evalA f x with
  | some v => some (boxA h n v)
  | none => none
def nBuildSlice (T : Tys) (f : Fr) (h : Hp) (n : Nat) (t : TypeId) (len : Nat) (ps : Array (Nat × Operand)) : Option (Option AV × Hp × Nat) := match pairsA f ps.toList with
  | some l => buildSliceA T h n t len l
  | none => none
def nMakeSlice (T : Tys) (f : Fr) (h : Hp) (n : Nat) (t : TypeId) (l c : Operand) : Option (Option AV × Hp × Nat) := match evalA f l, evalA f c with
  | some u, some v => makeSliceA T h n t u v
  | _, _ => none
def nMap (h : Hp) (n : Nat) : Option (Option AV × Hp × Nat) := some (some (.map n), h.set n (.map []), n + 1)
def nAppend (T : Tys) (f : Fr) (h : Hp) (n : Nat) (c : Call) : Option (Option AV × Hp × Nat) := match c.argTypes.toList, evalsA f c.args.toList with
  | [t, tx], some [s, x] => appendA T h n t tx s x
  | _, _ => none
def nString (T : Tys) (f : Fr) (h : Hp) (n : Nat) (c : Call) : Option (Option AV × Hp × Nat) := match c.argTypes[0]?, evalsA f c.args.toList with
  | some pt, some [p, .int _ k] => unsStrA T h n pt p k
  | _, _ => none
def nCall (T : Tys) (f : Fr) (h : Hp) (n : Nat) (c : Call) : Option (Option AV × Hp × Nat) := match c.callee with
  | .builtin b => (match b with
    | .append => nAppend T f h n c
    | .unsafeString => nString T f h n c
    | _ => none)
  | _ => none

def opHF (T : Tys) (f : Fr) (h : Hp) (n : Nat) (op : Op) : Option (Option AV × Hp × Nat) := match op with
  | .store t x y => sStore T f h n t x y
  | .mapUpdate t x k v => sUpdate T f h n t x k v
  | .insert t x k v => sUpdate T f h n t x k v
  | .alloc t => allocA T h n t
  | .box _ x => nBox f h n x
  | .buildSlice t len ps => nBuildSlice T f h n t len ps
  | .makeSlice t l c => nMakeSlice T f h n t l c
  | .makeMap _ r => (match r with
    | none => nMap h n
    | some _ => none)
  | .call c => nCall T f h n c
  | _ => none

def opDF (T : Tys) (f : Fr) (h : Hp) (n : Nat) (op : Op) : Option (Option AV × Hp × Nat) :=
  match opPF T f h op with
  | some v => some (some v, h, n)
  | none => opHF T f h n op

theorem opHF_eq (T : Tys) (f : Fr) (h : Hp) (n : Nat) (op : Op) : opHF T f h n op = (match opS T f h op with
    | some h' => some (none, h', n)
    | none => opN T f h n op) := by
  cases op <;> try rfl
  case store t x y =>
    show sStore T f h n t x y = _
    simp only [sStore, opS, opN]
    cases T t <;> cases evalA f x <;> cases evalA f y <;> rfl
  case mapUpdate t x k v =>
    show sUpdate T f h n t x k v = _
    simp only [sUpdate, opS, opN]
    cases evalA f x <;> cases evalA f k <;> cases evalA f v <;> rfl
  case insert t x k v =>
    show sUpdate T f h n t x k v = _
    simp only [sUpdate, opS, opN]
    cases evalA f x <;> cases evalA f k <;> cases evalA f v <;> rfl
  case makeMap t r => cases r <;> rfl
  case call c =>
    obtain ⟨callee, as, ats⟩ := c
    cases callee <;> try rfl
    rename_i b
    cases b <;> rfl

theorem opDF_eq (T : Tys) (f : Fr) (h : Hp) (n : Nat) (op : Op) : opDF T f h n op = opD T f h n op := by
  unfold opDF opD
  rw [opPF_eq, opHF_eq]
  cases opP T f h op with
  | some v => rfl
  | none => cases opS T f h op <;> rfl

end Go.Acx
