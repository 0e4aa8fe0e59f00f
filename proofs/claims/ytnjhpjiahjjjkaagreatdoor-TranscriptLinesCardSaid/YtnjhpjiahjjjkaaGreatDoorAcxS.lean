/- Acx, part 29: the walker's rewriting rules (1): code, rows, frames, heaps. -/
import Derived.Test.YtnjhpjiahjjjkaaGreatDoorAcxW2
namespace Go.Acx

variable {P : Program} {T : Tys} {m : Nat} {Q : Xq} {K : KS} {f : Fr} {h : Hp} {n : Nat} {l0 l : List Oper}

-- code
@[go_sem ↓] theorem wc_skip : wc P T m .skip Q f h n = Q .normal f h n := (rfl)
@[go_sem ↓] theorem wc_label {i : Nat} : wc P T m (.label i) Q f h n = Q .normal f h n := (rfl)
@[go_sem ↓] theorem wc_exit {i : Nat} : wc P T m (.exit i) Q f h n = Q (.exit i) f h n := (rfl)
@[go_sem ↓] theorem wc_goto {i : Nat} : wc P T m (.goto i) Q f h n = Q (.goto i) f h n := (rfl)
@[go_sem ↓] theorem wc_ret : wc P T m .ret Q f h n = Q .ret f h n := (rfl)
@[go_sem ↓] theorem wc_seq {x y : Code} : wc P T m (.seq x y) Q f h n = wc P T m x (qSeq (wc P T m y Q) Q) f h n := (rfl)
@[go_sem ↓] theorem wc_cond {c : Operand} {x y : Code} : wc P T m (.cond c x y) Q f h n = kB (evalA f c) (wc P T m x Q f h n) (wc P T m y Q f h n) := (rfl)
@[go_sem ↓] theorem wc_block {i : Nat} {c : Code} : wc P T m (.block i c) Q f h n = wc P T m c (qBlk i Q) f h n := (rfl)
@[go_sem ↓] theorem wc_loop {c : Code} : wc P T m (.loop c) Q f h n = wLoop P m c Q f h n := (rfl)
@[go_sem ↓] theorem wc_region {i : Nat} {ops : List Oper} : wc P T m (.region i ops.toArray false) Q f h n = wOps P T ops ops (Q .normal) f h n := (rfl)
@[go_sem ↓] theorem wc_region' {i : Nat} {ops : List Oper} : wc P T m (.region i ⟨ops⟩ false) Q f h n = wOps P T ops ops (Q .normal) f h n := (rfl)
@[go_sem ↓] theorem wc_drawn {i : Nat} {ops : Array Oper} : wc P T m (.region i ops true) Q f h n = wDrw P m i ops Q f h n := (rfl)
@[go_sem ↓] theorem qSeq_normal {K : KS} : qSeq K Q .normal f h n = K f h n := (rfl)
@[go_sem ↓] theorem qSeq_ret {K : KS} : qSeq K Q .ret f h n = Q .ret f h n := (rfl)
@[go_sem ↓] theorem qSeq_exit {K : KS} {i : Nat} : qSeq K Q (.exit i) f h n = Q (.exit i) f h n := (rfl)
@[go_sem ↓] theorem qSeq_goto {K : KS} {i : Nat} : qSeq K Q (.goto i) f h n = Q (.goto i) f h n := (rfl)
@[go_sem ↓] theorem qBlk_normal {i : Nat} : qBlk i Q .normal f h n = Q .normal f h n := (rfl)
@[go_sem ↓] theorem qBlk_ret {i : Nat} : qBlk i Q .ret f h n = Q .ret f h n := (rfl)
@[go_sem ↓] theorem qBlk_goto {i j : Nat} : qBlk i Q (.goto j) f h n = Q (.goto j) f h n := (rfl)
@[go_sem ↓] theorem qBlk_exit {i j : Nat} : qBlk i Q (.exit j) f h n = if j = i then Q .normal f h n else Q (.exit j) f h n := by
  simp only [qBlk]; split <;> rfl
@[go_sem] theorem kB_bool {t : Bool} {A B : Prop} : kB (some (.bool t)) A B = Br t A B := (rfl)
attribute [go_sem] Br_true Br_false Br_not kV_some
attribute [go_sem ↓] kV_some

-- rows
@[go_sem ↓] theorem wOps_nil : wOps P T l0 [] K f h n = K f h n := (rfl)
@[go_sem ↓] theorem wOps_cons {o : Oper} : wOps P T l0 (o :: l) K f h n = wOp P T l0 o (wOps P T l0 l K) f h n := (rfl)
@[go_sem ↓] theorem gsl_zero {o : Oper} : gsl (o :: l) 0 = o.dst := (rfl)
@[go_sem ↓] theorem gsl_succ {o : Oper} {j : Nat} : gsl (o :: l) (j + 1) = gsl l j := (rfl)
@[go_sem ↓] theorem nthO_zero {o : Oper} : nthO (o :: l) 0 = some o := (rfl)
@[go_sem ↓] theorem nthO_succ {o : Oper} {j : Nat} : nthO (o :: l) (j + 1) = nthO l j := (rfl)
@[go_sem ↓] theorem wOp_plain {d : Option Tmp} {op : Op} {ty : TypeId} {ps : String} {af : Array Edge} : wOp P T l0 ⟨d, op, ty, ps, af, none⟩ K f h n = wDo P T d op K f h n := (rfl)
@[go_sem ↓] theorem wOp_guard {d : Option Tmp} {op : Op} {ty : TypeId} {ps : String} {af : Array Edge} {j : Nat} {want : Bool} : wOp P T l0 ⟨d, op, ty, ps, af, some (j, want)⟩ K f h n =
    kV (gsl l0 j) fun t => wGd (f t) want d (wDo P T d op K) (fun f h n => K (putA f d (.tup [])) h n) t f h n := (rfl)
@[go_sem] theorem wGd_tt {d : Option Tmp} {A B : KS} {t : Nat} : wGd (some (.bool true)) true d A B t f h n = A (f.set t (.bool true)) h n := by simp [wGd, Br]
@[go_sem] theorem wGd_tf {d : Option Tmp} {A B : KS} {t : Nat} : wGd (some (.bool true)) false d A B t f h n = B (f.set t (.bool true)) h n := by simp [wGd, Br]
@[go_sem] theorem wGd_ft {d : Option Tmp} {A B : KS} {t : Nat} : wGd (some (.bool false)) true d A B t f h n = B (f.set t (.bool false)) h n := by simp [wGd, Br]
@[go_sem] theorem wGd_ff {d : Option Tmp} {A B : KS} {t : Nat} : wGd (some (.bool false)) false d A B t f h n = A (f.set t (.bool false)) h n := by simp [wGd, Br]
@[go_sem] theorem wGd_t {b : Bool} {d : Option Tmp} {A B : KS} {t : Nat} : wGd (some (.bool b)) true d A B t f h n = Br b (A (f.set t (.bool true)) h n) (B (f.set t (.bool false)) h n) := (rfl)
@[go_sem] theorem wGd_f {b : Bool} {d : Option Tmp} {A B : KS} {t : Nat} : wGd (some (.bool b)) false d A B t f h n = Br b (B (f.set t (.bool true)) h n) (A (f.set t (.bool false)) h n) := (rfl)
@[go_sem] theorem wGd_tup {vs : List AV} {want : Bool} {d : Option Tmp} {A B : KS} {t : Nat} : wGd (some (.tup vs)) want d A B t f h n = B f h n := (rfl)

-- schedules
@[go_sem ↓] theorem wSch_nil {L : List Ob} : wSch P T l0 K [] L f h n = K f h n := (rfl)
@[go_sem ↓] theorem wSch_light {i : Nat} {is : Sched} {L : List Ob} : wSch P T l0 K ((i, none) :: is) L f h n = kV (nthO l0 i) fun o => wLt T l0 i o (wSch P T l0 K is) L f h n := (rfl)
@[go_sem ↓] theorem wSch_heavy {i : Nat} {ob : List Nat} {is : Sched} {L : List Ob} : wSch P T l0 K ((i, some ob) :: is) L f h n =
    kV (nthO l0 i) fun o => wOp P T l0 o (fun f' h' n' => oblL T ob h' (wSch P T l0 K is L f' h' n') L) f h n := (rfl)
@[go_sem ↓] theorem wLt_plain {d : Option Tmp} {op : Op} {ty : TypeId} {ps : String} {af : Array Edge} {i : Nat} {k : List Ob → KS} {L : List Ob} : wLt T l0 i ⟨d, op, ty, ps, af, none⟩ k L f h n =
    wP T op f h fun v => k (consOb (rdH op) ⟨i, op, f, v⟩ L) (putA f d v) h n := (rfl)
@[go_sem ↓] theorem wLt_guard {d : Option Tmp} {op : Op} {ty : TypeId} {ps : String} {af : Array Edge} {j : Nat} {want : Bool} {i : Nat} {k : List Ob → KS} {L : List Ob} : wLt T l0 i ⟨d, op, ty, ps, af, some (j, want)⟩ k L f h n =
    kV (gsl l0 j) fun t => wGd (f t) want d (fun f h n => wP T op f h fun v => k (consOb (rdH op) ⟨i, op, f, v⟩ L) (putA f d v) h n) (fun f h n => k L (putA f d (.tup [])) h n) t f h n := (rfl)
attribute [go_sem] rdH consOb
@[go_sem ↓] theorem oblL_nil {ob : List Nat} {A : Prop} : oblL T ob h A [] = A := (rfl)
@[go_sem ↓] theorem oblL_none {A : Prop} : ∀ {L : List Ob}, oblL T [] h A L = A
  | [] => rfl
  | e :: L => by simp only [oblL, List.contains_nil, Bool.false_eq_true, if_false]; exact oblL_none
def memN (i : Nat) : List Nat → Prop → Prop → Prop
  | [], _, B => B
  | j :: l, A, B => if i = j then A else memN i l A B
theorem memN_eq {i : Nat} {A B : Prop} : ∀ {l : List Nat}, memN i l A B = if l.contains i = true then A else B
  | [] => by simp [memN]
  | j :: l => by
    rw [memN, memN_eq (l := l)]
    by_cases h : i = j
    · simp [h]
    · simp [h]
@[go_sem ↓] theorem memN_nil {i : Nat} {A B : Prop} : memN i [] A B = B := (rfl)
@[go_sem ↓] theorem memN_cons {i j : Nat} {l : List Nat} {A B : Prop} : memN i (j :: l) A B = if i = j then A else memN i l A B := (rfl)
@[go_sem ↓] theorem oblL_cons {i : Nat} {ob : List Nat} {op : Op} {v : AV} {L : List Ob} {A : Prop} : oblL T ob h A (⟨i, op, f, v⟩ :: L) = memN i ob (wP T op f h (fun u => u = v) ∧ oblL T ob h A L) (oblL T ob h A L) := memN_eq.symm

-- frames, heaps
@[go_sem] theorem putA_some {t : Nat} {v : AV} : putA f (some t) v = f.set t v := (rfl)
@[go_sem] theorem putA_none {v : AV} : putA f none v = f := (rfl)
@[go_sem] theorem loseA_none : loseA f none = f := (rfl)
@[go_sem ↓] theorem Fr.get_set {t u : Nat} {v : AV} : (f.set t v) u = if u = t then some v else f u := (rfl)
@[go_sem ↓] theorem frl_nil {t : Nat} : frl [] t = none := (rfl)
@[go_sem ↓] theorem frl_cons {t u : Nat} {v : AV} {l : List (Nat × AV)} : frl ((t, v) :: l) u = if u = t then some v else frl l u := (rfl)
@[go_sem ↓] theorem enterF_zero {v : AV} {l : List AV} : enterF (v :: l) 0 = some v := (rfl)
@[go_sem ↓] theorem enterF_succ {v : AV} {l : List AV} {t : Nat} : enterF (v :: l) (t + 1) = enterF l t := (rfl)
@[go_sem ↓] theorem AllF_nil : AllF f [] = True := (rfl)
@[go_sem ↓] theorem AllF_cons {t : Nat} {v : AV} {l : List (Nat × AV)} : AllF f ((t, v) :: l) = (f t = some v ∧ AllF f l) := (rfl)
@[go_sem ↓] theorem Hp.get_same {i : Nat} {o : AObj} : (h.set i o) i = some o := Hp.set_same _ _ _
@[go_sem ↓] theorem Hp.get_ne {i j : Nat} {o : AObj} (hn : j ≠ i) : (h.set i o) j = h j := Hp.set_ne _ _ hn
@[go_sem ↓] theorem Hp.get_del {i j : Nat} (hn : j ≠ i) : (h.del i) j = h j := Hp.del_ne _ hn

theorem Hp.set_set {i : Nat} {o p : AObj} : (h.set i o).set i p = h.set i p := by
  funext j; simp only [Hp.set]; split <;> rfl
attribute [go_sem] Hp.set_set

-- operands
@[go_sem ↓] theorem evalA_tmp {t : Nat} : evalA f (.tmp t) = f t := (rfl)
@[go_sem ↓] theorem evalA_func {g : FuncId} : evalA f (.func g) = some (.fn (.func g) [] []) := (rfl)
@[go_sem ↓] theorem evalA_int {k : IntKind} {z : Int} : evalA f (.const (.int k z)) = some (.int k z) := (rfl)
@[go_sem ↓] theorem evalA_bool {b : Bool} : evalA f (.const (.bool b)) = some (.bool b) := (rfl)
@[go_sem ↓] theorem evalA_str {l : List UInt8} : evalA f (.const (.string ⟨l.toArray⟩)) = some (.str l) := by simp [evalA, constA, scalarA]
@[go_sem ↓] theorem evalA_str' {l : List UInt8} : evalA f (.const (.string ⟨⟨l⟩⟩)) = some (.str l) := by simp [evalA, constA, scalarA]
@[go_sem ↓] theorem evalA_nilp : evalA f (.const (.pointer none)) = some .nilp := (rfl)
@[go_sem ↓] theorem evalA_nils : evalA f (.const (.slice none 0 0)) = some .nils := (rfl)
@[go_sem ↓] theorem evalA_nilm : evalA f (.const (.map none)) = some .nilm := (rfl)
@[go_sem ↓] theorem evalA_nilf : evalA f (.const .nilFunc) = some .nilf := (rfl)
@[go_sem ↓] theorem evalA_nili : evalA f (.const .nilIface) = some .nili := (rfl)
@[go_sem ↓] theorem evalA_agg {cs : Array Value} : evalA f (.const (.agg cs)) = (scalarsA cs.toList).map .agg := (rfl)
attribute [go_sem] scalarsA scalarA
@[go_sem ↓] theorem kVs_nil {k : List AV → Prop} : kVs f [] k = k [] := (rfl)
@[go_sem ↓] theorem kVs_cons {x : Operand} {xs : List Operand} {k : List AV → Prop} : kVs f (x :: xs) k = kV (evalA f x) fun v => kVs f xs fun vs => k (v :: vs) := (rfl)

-- operations, by their kinds
@[go_sem ↓] theorem wDo_move {d : Option Tmp} {x : Operand} : wDo P T d (.move x) K f h n = kV (evalA f x) fun v => K (putA f d v) h n := (rfl)
@[go_sem ↓] theorem wDo_assign {d : Option Tmp} {x : Operand} : wDo P T d (.assign x) K f h n = kV (evalA f x) fun v => K (putA f d v) h n := (rfl)
@[go_sem ↓] theorem wDo_pick {d : Option Tmp} {c x y : Operand} : wDo P T d (.pick c x y) K f h n = wP T (.pick c x y) f h fun v => K (putA f d v) h n := (rfl)
@[go_sem ↓] theorem wDo_load {d : Option Tmp} {t : TypeId} {x : Operand} : wDo P T d (.load t x) K f h n = wP T (.load t x) f h fun v => K (putA f d v) h n := (rfl)
@[go_sem ↓] theorem wDo_nilCheck {d : Option Tmp} {x : Operand} : wDo P T d (.nilCheck x) K f h n = wP T (.nilCheck x) f h fun v => K (putA f d v) h n := (rfl)
@[go_sem ↓] theorem wDo_binOp {d : Option Tmp} {op : BinOp} {t u : TypeId} {x y : Operand} : wDo P T d (.binOp op t x y u) K f h n = wP T (.binOp op t x y u) f h fun v => K (putA f d v) h n := (rfl)
@[go_sem ↓] theorem wDo_unOp {d : Option Tmp} {op : UnOp} {t : TypeId} {x : Operand} : wDo P T d (.unOp op t x) K f h n = wP T (.unOp op t x) f h fun v => K (putA f d v) h n := (rfl)
@[go_sem ↓] theorem wDo_convert {d : Option Tmp} {s t : TypeId} {x : Operand} : wDo P T d (.convert s t x) K f h n = wP T (.convert s t x) f h fun v => K (putA f d v) h n := (rfl)
@[go_sem ↓] theorem wDo_makeInterface {d : Option Tmp} {t : TypeId} {x : Operand} : wDo P T d (.makeInterface t x) K f h n = wP T (.makeInterface t x) f h fun v => K (putA f d v) h n := (rfl)
@[go_sem ↓] theorem wDo_makeFunc {d : Option Tmp} {fn : Fn} {a b : Array Operand} : wDo P T d (.makeFunc fn a b) K f h n = wP T (.makeFunc fn a b) f h fun v => K (putA f d v) h n := (rfl)
@[go_sem ↓] theorem wDo_slice {d : Option Tmp} {t : TypeId} {x : Operand} {a b c : Option Operand} : wDo P T d (.slice t x a b c) K f h n = wP T (.slice t x a b c) f h fun v => K (putA f d v) h n := (rfl)
@[go_sem ↓] theorem wDo_fieldAddr {d : Option Tmp} {t : TypeId} {x : Operand} {k : Nat} : wDo P T d (.fieldAddr t x k) K f h n = wP T (.fieldAddr t x k) f h fun v => K (putA f d v) h n := (rfl)
@[go_sem ↓] theorem wDo_field {d : Option Tmp} {t : TypeId} {x : Operand} {k : Nat} : wDo P T d (.field t x k) K f h n = wP T (.field t x k) f h fun v => K (putA f d v) h n := (rfl)
@[go_sem ↓] theorem wDo_indexAddr {d : Option Tmp} {t : TypeId} {x y : Operand} : wDo P T d (.indexAddr t x y) K f h n = wP T (.indexAddr t x y) f h fun v => K (putA f d v) h n := (rfl)
@[go_sem ↓] theorem wDo_index {d : Option Tmp} {t : TypeId} {x y : Operand} : wDo P T d (.index t x y) K f h n = wP T (.index t x y) f h fun v => K (putA f d v) h n := (rfl)
@[go_sem ↓] theorem wDo_lookup {d : Option Tmp} {t : TypeId} {x y : Operand} {b : Bool} : wDo P T d (.lookup t x y b) K f h n = wP T (.lookup t x y b) f h fun v => K (putA f d v) h n := (rfl)
@[go_sem ↓] theorem wDo_extract {d : Option Tmp} {x : Operand} {k : Nat} : wDo P T d (.extract x k) K f h n = wP T (.extract x k) f h fun v => K (putA f d v) h n := (rfl)
@[go_sem ↓] theorem wDo_build {d : Option Tmp} {t : TypeId} {ps : Array (Nat × Operand)} : wDo P T d (.build t ps) K f h n = wP T (.build t ps) f h fun v => K (putA f d v) h n := (rfl)
@[go_sem ↓] theorem wDo_len {d : Option Tmp} {as : Array Operand} {ts : Array TypeId} : wDo P T d (.call ⟨.builtin .len, as, ts⟩) K f h n = wP T (.call ⟨.builtin .len, as, ts⟩) f h fun v => K (putA f d v) h n := (rfl)
@[go_sem ↓] theorem wDo_max {d : Option Tmp} {as : Array Operand} {ts : Array TypeId} : wDo P T d (.call ⟨.builtin .max, as, ts⟩) K f h n = wP T (.call ⟨.builtin .max, as, ts⟩) f h fun v => K (putA f d v) h n := (rfl)
@[go_sem ↓] theorem wDo_min {d : Option Tmp} {as : Array Operand} {ts : Array TypeId} : wDo P T d (.call ⟨.builtin .min, as, ts⟩) K f h n = wP T (.call ⟨.builtin .min, as, ts⟩) f h fun v => K (putA f d v) h n := (rfl)
@[go_sem ↓] theorem wDo_call {d : Option Tmp} {x : Operand} {as : List Operand} {ts : Array TypeId} : wDo P T d (.call ⟨.value x, as.toArray, ts⟩) K f h n =
    kV (evalA f x) fun v => kVs f as fun vs => kCal P d v vs K f h n := (rfl)
@[go_sem] theorem kCal_func {d : Option Tmp} {g : FuncId} {fi ca vs : List AV} : kCal P d (.fn (.func g) fi ca) vs K f h n = wCall P g (fi ++ vs ++ ca) h n fun r h' n' => K (putA f d r) h' n' := (rfl)

end Go.Acx
