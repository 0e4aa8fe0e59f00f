/- Acx, part 31: the walker's rewriting rules (3): operations that make or write memory; bodies, contracts of plain values. -/
import Derived.Test.YtnjhpjiahjjjkaaGreatDoorAcxS2
namespace Go.Acx

variable {P : Program} {T : Tys} {m : Nat} {K : KS} {f : Fr} {h : Hp} {n : Nat} {k : AV → Prop} {t : TypeId} {x y : Operand} {d : Option Tmp}

attribute [go_sem] if_pos

-- new memory
@[go_sem ↓] theorem wDo_box : wDo P T d (.box t x) K f h n = kV (evalA f x) fun v => K (putA f d (.ptr n 0)) (h.set n (.cells (cellsA v) none)) (n + 1) := by
  simp only [wDo, opN, boxA]
  cases evalA f x <;> rfl
def zT (T : Tys) (t : TypeId) : Option (List AV × Nat) := (T t).map fun i => (i.zero, i.size)
@[go_sem ↓] theorem wDo_alloc : wDo P T d (.alloc t) K f h n = kV (zT T t) fun z => K (putA f d (.ptr n 0)) (h.set n (.cells z.1 (some (z.2, t)))) (n + 1) := by
  simp only [wDo, opN, allocA, zT]
  cases T t <;> rfl
@[go_sem ↓] theorem wDo_makeMap : wDo P T d (.makeMap t none) K f h n = K (putA f d (.map n)) (h.set n (.map [])) (n + 1) := (rfl)
@[go_sem ↓] theorem wDo_buildSlice {len : Nat} {ps : List (Nat × Operand)} : wDo P T d (.buildSlice t len ps.toArray) K f h n = kV (eT T t) fun e => kPs f ps fun l =>
    kV (if len * e.1 ≤ 16777216 then fillA (fun k => some (k * e.1, e.1)) (rep len e.2.2.1) l else none) fun cs => K (putA f d (.sl n 0 len (some len))) (h.set n (.cells cs none)) (n + 1) := by
  apply propext
  simp only [wDo, opN, kV_iff, kPs_iff, eT]
  constructor
  · rintro ⟨r, hr, hk⟩
    split at hr <;> try (cases hr; done)
    rename_i l hl
    unfold buildSliceA at hr
    split at hr <;> try (cases hr; done)
    rename_i i hi
    split at hr <;> try (cases hr; done)
    rename_i el hd
    split at hr <;> try (cases hr; done)
    rename_i j hj
    split at hr <;> try (cases hr; done)
    rename_i hc
    split at hr <;> cases hr
    rename_i cs hcs
    refine ⟨(j.size, j.bytes, j.zero, el), by simp [hi, hd, hj], l, by simpa using hl, cs, ?_, hk⟩
    simp only [hc, if_true]; exact hcs
  · rintro ⟨e, he, l, hl, cs, hcs, hk⟩
    split at he <;> try (cases he; done)
    rename_i i hi
    split at he <;> try (cases he; done)
    rename_i el hd
    simp only [Option.map_eq_some_iff] at he
    obtain ⟨j, hj, rfl⟩ := he
    split at hcs <;> try (cases hcs; done)
    rename_i hc
    refine ⟨(some (.sl n 0 len (some len)), h.set n (.cells cs none), n + 1), ?_, hk⟩
    have hl' : pairsA f ps.toArray.toList = some l := by simpa using hl
    simp only [hl', buildSliceA, hi, hd, hj]
    rw [if_pos hc]
    simp only at hcs
    simp only [hcs]
def mkC (n : Nat) (z : List AV) : List AV := rep n z
theorem rep_one (v : AV) : ∀ n, rep n [v] = List.replicate n v
  | 0 => rfl
  | n + 1 => by simp only [rep, rep_one v n, List.replicate_succ]; rfl
@[go_sem] theorem mkC_one {v : AV} {n : Nat} : mkC n [v] = List.replicate n v := rep_one v n
@[go_sem] theorem rep_zero' {z : List AV} : rep 0 z = [] := (rfl)
@[go_sem] theorem rep_succ' {n : Nat} {z : List AV} : rep (n + 1) z = z ++ rep n z := (rfl)
def mkV (e : Nat × Nat × List AV × TypeId) : AV → AV → Option (Nat × Nat)
  | .int _ l, .int _ c => if 0 ≤ l ∧ l ≤ c ∧ (e.2.1 : Int) * c ≤ 281474976710656 ∧ c ≤ 9223372036854775807 then some (l.toNat, c.toNat) else none
  | _, _ => none
@[go_sem ↓] theorem wDo_makeSlice : wDo P T d (.makeSlice t x y) K f h n = kV (eT T t) fun e => kV (evalA f x) fun u => kV (evalA f y) fun v => kV (mkV e u v) fun r =>
    K (putA f d (.sl n 0 r.1 (some r.2))) (h.set n (.cells (mkC r.2 e.2.2.1) none)) (n + 1) := by
  apply propext
  simp only [wDo, opN, kV_iff, eT]
  constructor
  · rintro ⟨r, hr, hk⟩
    split at hr <;> try (cases hr; done)
    rename_i u v hu hv
    unfold makeSliceA at hr
    split at hr <;> try (cases hr; done)
    rename_i i l c hi hl hc
    split at hr <;> try (cases hr; done)
    rename_i el hd
    split at hr <;> try (cases hr; done)
    rename_i j hj
    split at hr <;> cases hr
    rename_i hcc
    unfold idxOf at hl hc
    split at hl <;> cases hl
    split at hc <;> cases hc
    exact ⟨(j.size, j.bytes, j.zero, el), by simp [hi, hd, hj], _, hu, _, hv, (l.toNat, c.toNat), by simp only [mkV]; rw [if_pos hcc], hk⟩
  · rintro ⟨e, he, u, hu, v, hv, r, hr, hk⟩
    split at he <;> try (cases he; done)
    rename_i i hi
    split at he <;> try (cases he; done)
    rename_i el hd
    simp only [Option.map_eq_some_iff] at he
    obtain ⟨j, hj, rfl⟩ := he
    unfold mkV at hr
    split at hr <;> try (cases hr; done)
    split at hr <;> cases hr
    rename_i hcc
    refine ⟨(some (.sl n 0 _ (some _)), h.set n (.cells (rep _ j.zero) none), n + 1), ?_, hk⟩
    simp only at hcc
    simp only [hu, hv, makeSliceA, hi, idxOf, hd, hj]
    rw [if_pos hcc]
@[go_sem] theorem mkV_int {s b : Nat} {z : List AV} {el : TypeId} {k1 k2 : IntKind} {l c : Int} (hc : 0 ≤ l ∧ l ≤ c ∧ (b : Int) * c ≤ 281474976710656 ∧ c ≤ 9223372036854775807) :
    mkV (s, b, z, el) (.int k1 l) (.int k2 c) = some (l.toNat, c.toNat) := by simp only [mkV]; rw [if_pos hc]

-- stores
def szT (T : Tys) (t : TypeId) : Option Nat := (T t).map (·.size)
def stO (s : Nat) (h : Hp) (b off : Nat) (u : AV) : Option AObj → Option Hp
  | some (.cells cs q) => if (cellsA u).length = s ∧ (cellsA u).all isCell = true ∧ off + (cellsA u).length ≤ cs.length then some (h.set b (.cells (setsA cs off (cellsA u)) q)) else none
  | _ => none
def stV (s : Nat) (h : Hp) (p u : AV) : Option Hp := match p with
  | .ptr b off => stO s h b off u (h b)
  | _ => none
@[go_sem ↓] theorem wDo_store : wDo P T d (.store t x y) K f h n = kV (szT T t) fun s => kV (evalA f x) fun p => kV (evalA f y) fun u => kV (stV s h p u) fun h' => K (loseA f d) h' n := by
  simp only [wDo, opS, szT]
  cases T t with
  | none => rfl
  | some i =>
    cases evalA f x with
    | none => rfl
    | some p =>
      cases evalA f y with
      | none => rfl
      | some u =>
        have : storeA h i p u = stV i.size h p u := by cases p <;> rfl
        show kV (storeA h i p u) _ = kV (stV i.size h p u) _
        rw [this]
@[go_sem] theorem stV_ptr {s b off : Nat} {u : AV} : stV s h (.ptr b off) u = stO s h b off u (h b) := (rfl)
theorem stO_cell {b off : Nat} {u : AV} {cs : List AV} {q : Option (Nat × TypeId)} (hu : isCell u = true) (hc : off < cs.length) : stO 1 h b off u (some (.cells cs q)) = some (h.set b (.cells (cs.set off u) q)) := by
  simp only [stO, cellsA_of hu]
  rw [if_pos ⟨rfl, by simp [hu], by simp; omega⟩]
  rfl
variable {b off : Nat} {cs : List AV} {q : Option (Nat × TypeId)}
section
variable (hc : off < cs.length)
include hc
@[go_sem] theorem stO_int {kk : IntKind} {z : Int} : stO 1 h b off (.int kk z) (some (.cells cs q)) = some (h.set b (.cells (cs.set off (.int kk z)) q)) := stO_cell rfl hc
@[go_sem] theorem stO_bool {z : Bool} : stO 1 h b off (.bool z) (some (.cells cs q)) = some (h.set b (.cells (cs.set off (.bool z)) q)) := stO_cell rfl hc
@[go_sem] theorem stO_str {z : List UInt8} : stO 1 h b off (.str z) (some (.cells cs q)) = some (h.set b (.cells (cs.set off (.str z)) q)) := stO_cell rfl hc
@[go_sem] theorem stO_ptr {i j : Nat} : stO 1 h b off (.ptr i j) (some (.cells cs q)) = some (h.set b (.cells (cs.set off (.ptr i j)) q)) := stO_cell rfl hc
@[go_sem] theorem stO_nilp : stO 1 h b off .nilp (some (.cells cs q)) = some (h.set b (.cells (cs.set off .nilp) q)) := stO_cell rfl hc
@[go_sem] theorem stO_sl {i j l : Nat} {c : Option Nat} : stO 1 h b off (.sl i j l c) (some (.cells cs q)) = some (h.set b (.cells (cs.set off (.sl i j l c)) q)) := stO_cell rfl hc
@[go_sem] theorem stO_nils : stO 1 h b off .nils (some (.cells cs q)) = some (h.set b (.cells (cs.set off .nils) q)) := stO_cell rfl hc
@[go_sem] theorem stO_imm {l : List AV} {c : Nat} : stO 1 h b off (.imm l c) (some (.cells cs q)) = some (h.set b (.cells (cs.set off (.imm l c)) q)) := stO_cell rfl hc
@[go_sem] theorem stO_map {i : Nat} : stO 1 h b off (.map i) (some (.cells cs q)) = some (h.set b (.cells (cs.set off (.map i)) q)) := stO_cell rfl hc
@[go_sem] theorem stO_nilm : stO 1 h b off .nilm (some (.cells cs q)) = some (h.set b (.cells (cs.set off .nilm) q)) := stO_cell rfl hc
@[go_sem] theorem stO_fn {g : Fn} {l l' : List AV} : stO 1 h b off (.fn g l l') (some (.cells cs q)) = some (h.set b (.cells (cs.set off (.fn g l l')) q)) := stO_cell rfl hc
@[go_sem] theorem stO_nilf : stO 1 h b off .nilf (some (.cells cs q)) = some (h.set b (.cells (cs.set off .nilf) q)) := stO_cell rfl hc
@[go_sem] theorem stO_iface {i : TypeId} {v : AV} : stO 1 h b off (.iface i v) (some (.cells cs q)) = some (h.set b (.cells (cs.set off (.iface i v)) q)) := stO_cell rfl hc
@[go_sem] theorem stO_nili : stO 1 h b off .nili (some (.cells cs q)) = some (h.set b (.cells (cs.set off .nili) q)) := stO_cell rfl hc
end
def allC : Nat → List AV → Bool
  | 0, [] => true
  | s + 1, v :: l => isCell v && allC s l
  | _, _ => false
theorem allC_iff : ∀ {s : Nat} {l : List AV}, allC s l = true → l.length = s ∧ l.all isCell = true
  | 0, [], _ => by simp
  | s + 1, v :: l, e => by
    simp only [allC, Bool.and_eq_true] at e
    obtain ⟨h1, h2⟩ := allC_iff e.2
    simp [h1, h2, e.1]
  | 0, _ :: _, e => by simp [allC] at e
  | _ + 1, [], e => by simp [allC] at e
theorem allC_of : ∀ {s : Nat} {l : List AV}, l.length = s → l.all isCell = true → allC s l = true
  | 0, [], _, _ => rfl
  | s + 1, v :: l, e, e2 => by
    simp only [List.all_cons, Bool.and_eq_true] at e2
    simp only [allC, Bool.and_eq_true]
    exact ⟨e2.1, allC_of (by simpa using e) e2.2⟩
  | 0, _ :: _, e, _ => by simp at e
  | _ + 1, [], e, _ => by simp at e
attribute [go_sem] allC isCell Bool.true_and Bool.and_true
@[go_sem] theorem stO_agg {s : Nat} {l : List AV} (hc : off + s ≤ cs.length) : stO s h b off (.agg l) (some (.cells cs q)) = if allC s l = true then some (h.set b (.cells (setsA cs off l) q)) else none := by
  split
  · rename_i hh
    obtain ⟨h1, h2⟩ := allC_iff hh
    exact if_pos ⟨h1, h2, by show off + l.length ≤ _; omega⟩
  · rename_i hh
    refine if_neg fun h3 => hh (allC_of h3.1 h3.2.1)

-- results
def kRs (T : Tys) (f : Fr) (h : Hp) : List ResultVar → (List AV → Prop) → Prop
  | [], k => k []
  | .tmp t :: l, k => kV (f t) fun v => kRs T f h l fun vs => k (v :: vs)
  | .cell a t :: l, k => kV (ldT T t) fun s => kV (f a) fun p => kV (ldV s h p) fun v => kRs T f h l fun vs => k (v :: vs)
@[go_sem ↓] theorem kRs_nil {k : List AV → Prop} : kRs T f h [] k = k [] := (rfl)
@[go_sem ↓] theorem kRs_tmp {i : Nat} {l : List ResultVar} {k : List AV → Prop} : kRs T f h (.tmp i :: l) k = kV (f i) fun v => kRs T f h l fun vs => k (v :: vs) := (rfl)
@[go_sem ↓] theorem kRs_cell {i : Nat} {l : List ResultVar} {k : List AV → Prop} : kRs T f h (.cell i t :: l) k = kV (ldT T t) fun s => kV (f i) fun p => kV (ldV s h p) fun v => kRs T f h l fun vs => k (v :: vs) := (rfl)
theorem kRs_iff {h : Hp} : ∀ {l : List ResultVar} {k : List AV → Prop}, kRs T f h l k → ∃ vs, resVarsA T ⟨f, h, n⟩ l = some vs ∧ k vs
  | [], k, e => ⟨[], rfl, e⟩
  | .tmp t :: l, k, e => by
    obtain ⟨v, hv, e⟩ := kV_iff.1 e
    obtain ⟨vs, hvs, e⟩ := kRs_iff e
    exact ⟨v :: vs, by simp only [resVarsA, resVarA, hv, hvs], e⟩
  | .cell a t :: l, k, e => by
    obtain ⟨s, hs, e1⟩ := kV_iff.1 e
    obtain ⟨p, hp, e2⟩ := kV_iff.1 e1
    obtain ⟨v, hv, e3⟩ := kV_iff.1 e2
    obtain ⟨vs, hvs, e4⟩ := kRs_iff e3
    simp only [ldT, Option.map_eq_some_iff] at hs
    obtain ⟨i, hi, rfl⟩ := hs
    refine ⟨v :: vs, ?_, e4⟩
    simp only [resVarsA, resVarA, hi, hp, ld_eq, hv, hvs]
def qRet (T : Tys) (rs : List ResultVar) (Q : AV → Hp → Nat → Prop) : Xq
  | .normal => fun f h n => kRs T f h rs fun vs => Q (packA vs) h n
  | .ret => fun f h n => kRs T f h rs fun vs => Q (packA vs) h n
  | _ => fun _ _ _ => False
@[go_sem ↓] theorem qRet_ret {rs : List ResultVar} {Q : AV → Hp → Nat → Prop} : qRet T rs Q .ret f h n = kRs T f h rs fun vs => Q (packA vs) h n := (rfl)
@[go_sem ↓] theorem qRet_normal {rs : List ResultVar} {Q : AV → Hp → Nat → Prop} : qRet T rs Q .normal f h n = kRs T f h rs fun vs => Q (packA vs) h n := (rfl)
@[go_sem] theorem packA_one {v : AV} : packA [v] = v := (rfl)
@[go_sem] theorem packA_nil : packA [] = .tup [] := (rfl)
@[go_sem] theorem packA_two {v w : AV} {l : List AV} : packA (v :: w :: l) = .tup (v :: w :: l) := (rfl)

/-- A body. -/
theorem ACalls.enter (tok : TOK P T) {g : FuncId} {m : Nat} {rs : List ResultVar} {c : Code} {args : List AV} {Q : AV → Hp → Nat → Prop} {fn : Func}
    (hf : P.funcs[g]? = some fn) (hm : fn.ntmps = m) (hr : fn.results.toList = rs) (hb : fn.body = some c) (hs : (fn.name == "runtime.NumGoroutine") = false) (hl : args.length ≤ m) (hc : cOk m c = true)
    (hw : wc P T m c (qRet T rs Q) (enterF args) h n) : ACalls P g args h n Q := by
  subst hm; subst hr
  refine .inl ⟨⟨fn, hf, hs, by simp [hb]⟩, .of_body tok hf hb hl (AWP.mono (fun ex s q => ?_) (wc_ok tok hc hw))⟩
  cases ex <;> first
    | (obtain ⟨vs, hvs, q⟩ := kRs_iff (n := s.n) q
       exact ⟨vs, s.h, hvs, fun _ _ h => h, q⟩)
    | exact q.elim

/-- A call that computes a plain value. -/
def PC (P : Program) (g : FuncId) (args : List AV) (v : AV) : Prop := ∀ h n, ACalls P g args h n fun r h' n' => r = v ∧ h' = h ∧ n' = n

theorem PC.go {g : FuncId} {args : List AV} {v : AV} {Q : AV → Hp → Nat → Prop} (hc : PC P g args v) (hk : Q v h n) : wCall P g args h n Q :=
  (hc h n).mono (by rintro _ _ _ ⟨rfl, rfl, rfl⟩; exact hk)
theorem ACalls.go {g : FuncId} {args : List AV} {Q Q' : AV → Hp → Nat → Prop} (hc : ACalls P g args h n Q) (hk : ∀ r h' n', Q r h' n' → Q' r h' n') : wCall P g args h n Q' := hc.mono hk

theorem PC.enter (tok : TOK P T) {g : FuncId} {m : Nat} {rs : List ResultVar} {c : Code} {args : List AV} {v : AV} {fn : Func}
    (hf : P.funcs[g]? = some fn) (hm : fn.ntmps = m) (hr : fn.results.toList = rs) (hb : fn.body = some c) (hs : (fn.name == "runtime.NumGoroutine") = false) (hl : args.length ≤ m) (hc : cOk m c = true)
    (ha : pureVs args = true) (hv : pureV v = true) (hw : wc P T m c (qRet T rs fun r _ _ => r = v) (enterF args) Hp.none 0) : PC P g args v := by
  refine fun h n => ACalls.lift (Q := fun r => r = v) ha ?_ h n
  refine (ACalls.enter tok hf hm hr hb hs hl hc hw).mono ?_
  rintro r _ _ rfl
  exact ⟨hv, rfl⟩

end Go.Acx
