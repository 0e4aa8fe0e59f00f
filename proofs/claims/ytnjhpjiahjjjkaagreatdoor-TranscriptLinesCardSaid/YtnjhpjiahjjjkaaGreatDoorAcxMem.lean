/- Acx, part 3: reading and writing memory by abstract pointers; new rows. -/
import Derived.Test.YtnjhpjiahjjjkaaGreatDoorAcxFr
namespace Go.Acx

variable {P : Program} {κ : Kap} {h : Hp} {w : World}

theorem VR.cells {v : AV} {x : Value} (r : VR κ v x) : VRs κ (cellsA v) x.cells.toList := by
  cases r <;> simp only [cellsA, Value.cells] <;> first
    | assumption
    | (refine .cons _ _ _ _ ?_ .nil; constructor <;> assumption)

theorem VR.one {v : AV} {x : Value} (r : VR κ v x) (hc : isCell v = true) : x.oneCell' = true := by
  cases r <;> first | rfl | simp [isCell] at hc

theorem VRs.ones : ∀ {vs : List AV} {xs : List Value}, VRs κ vs xs → vs.all isCell = true → ∀ x ∈ xs, x.oneCell' = true
  | _, _, .nil, _, x, hx => by cases hx
  | _, _, .cons v y vs ys hv hs, ha, x, hx => by
    simp only [List.all_cons, Bool.and_eq_true] at ha
    cases hx with
    | head => exact hv.one ha.1
    | tail _ hx => exact VRs.ones hs ha.2 x hx

/-- The cells from a pointer on. -/
def restA (h : Hp) : AV → Option (List AV)
  | .ptr i off => match h i with
    | some (.cells cs _) => some (cs.drop off)
    | _ => none
  | .iptr cells => some cells
  | _ => none

theorem take_drop_take {α : Type} (l : List α) (n k : Nat) : (l.take n).drop k = (l.drop k).take (n - k) := List.drop_take

theorem restA_ok (hr : HR κ h w) {v : AV} {x : Value} (r : VR κ v x) {rest : List AV} (e : restA h v = some rest) :
    ∃ b o C el fr, x = .pointer (some ⟨b, o, none⟩) ∧ w.heap[b]? = some (.cells C el fr) ∧ VRs κ rest ((C.toList.drop o).take rest.length) := by
  cases r with
  | ptr i off hi =>
    simp only [restA] at e
    split at e <;> cases e
    rename_i cs more hcs
    obtain ⟨O, hO, ho⟩ := hr.own i _ hcs
    cases ho with
    | cells _ _ C el fr hv hm hf hsz hq =>
      refine ⟨κ.ρ i, off, C, el, fr, rfl, hO, ?_⟩
      have := hv.drop off
      rw [List.drop_take] at this
      simpa using this
  | iptr cells b off C el fr hI hs =>
    cases e
    exact ⟨b, off, C, el, fr, rfl, hr.imm _ _ hI, hs⟩
  | _ => simp [restA] at e

theorem cell_at {b : Nat} {C : Array Value} {el : TypeId} {fr : Nat × Nat} (hb : w.heap[b]? = some (.cells C el fr)) (o : Nat) : w.cell? ⟨b, o, none⟩ = C[o]? := by
  simp [World.cell?, hb]

theorem add_eq (b o n : Nat) : (⟨b, o, none⟩ : Addr).add n = ⟨b, o + n, none⟩ := by
  unfold Addr.add
  split
  · simp [*]
  · rfl

def readN (l : List AV) (n : Nat) : Option (List AV) := if n ≤ l.length then some (l.take n) else none

theorem run_loadCells_rest' {rest : List AV} {b o : Nat} {C : Array Value} {el : TypeId} {fr : Nat × Nat} (hb : w.heap[b]? = some (.cells C el fr))
    (hv : VRs κ rest ((C.toList.drop o).take rest.length)) {n : Nat} {l : List AV} (e : readN rest n = some l) :
    (loadCells ⟨b, o, none⟩ n).run P w = .ok ((C.toList.drop o).take n).toArray w ∧ VRs κ l ((C.toList.drop o).take n) ∧ ((C.toList.drop o).take n).length = n := by
  unfold readN at e
  split at e <;> cases e
  rename_i hn
  have hlen := hv.length
  simp only [List.length_take, List.length_drop, Array.length_toList] at hlen
  have hv' := hv.take n
  rw [List.take_take, Nat.min_eq_left hn] at hv'
  have hl : ((C.toList.drop o).take n).length = n := by simp; omega
  refine ⟨?_, hv', hl⟩
  have := run_loadCells_list (P := P) (w := w) ⟨b, o, none⟩ ((C.toList.drop o).take n) (fun j v hj => by
    rw [add_eq, cell_at hb]
    rw [List.getElem?_take] at hj
    split at hj
    · rw [List.getElem?_drop] at hj; simpa using hj
    · cases hj)
  rw [hl] at this
  exact this

theorem run_loadCells_rest {rest : List AV} {b o : Nat} {C : Array Value} {el : TypeId} {fr : Nat × Nat} (hb : w.heap[b]? = some (.cells C el fr))
    (hv : VRs κ rest ((C.toList.drop o).take rest.length)) {n : Nat} {l : List AV} (e : readN rest n = some l) :
    ∃ xs : List Value, (loadCells ⟨b, o, none⟩ n).run P w = .ok xs.toArray w ∧ VRs κ l xs ∧ xs.length = n := by
  exact ⟨_, run_loadCells_rest' hb hv e⟩

def loadA (h : Hp) (i : TyI) (p : AV) : Option AV :=
  match restA h p with
  | some rest => if aggD i.desc then (readN rest i.size).map .agg else rest[0]?
  | none => none

theorem run_isAgg {P : Program} {t : TypeId} {d : TypeDesc} (hu : P.underlying t = some d) (w : World) : (isAgg t).run P w = .ok (aggD d) w := by
  simp only [isAgg, Sem.run_bind, run_underlying hu]
  cases d <;> rfl

theorem run_info {t : TypeId} {i : TypeInfo} (hi : P.info? t = some i) (w : World) : (typeInfo t).run P w = .ok i w := by
  simp [typeInfo, hi]

theorem loadA_ok {T : Tys} (tok : TOK P T) (hr : HR κ h w) {t : TypeId} {i : TyI} (ht : T t = some i) {p v : AV} {x : Value} (r : VR κ p x) (e : loadA h i p = some v) :
    ∃ y, (Instr.loadAt t x).run P w = .ok y w ∧ VR κ v y := by
  unfold loadA at e
  split at e
  · rename_i rest hrest
    obtain ⟨b, o, C, el, fr, rfl, hb, hv⟩ := restA_ok hr r hrest
    obtain ⟨inf, z, hi, hs, _⟩ := tok.info t i ht
    have hu := tok.und t i ht
    cases hd : aggD i.desc
    · simp only [hd, Bool.false_eq_true, if_false] at e
      obtain ⟨y, hy, hvy⟩ := hv.get e
      refine ⟨y, ?_, hvy⟩
      have hc : w.cell? ⟨b, o, none⟩ = some y := by
        rw [cell_at hb]
        rw [List.getElem?_take] at hy
        split at hy
        · rw [List.getElem?_drop] at hy; simpa using hy
        · cases hy
      simp [Instr.loadAt, Instr.sureAddr, loadVar, run_isAgg hu, hd, hc]
    · simp only [hd, if_true] at e
      rw [Option.map_eq_some_iff] at e
      obtain ⟨l, hl, rfl⟩ := e
      obtain ⟨xs, hrun, hvx, _⟩ := run_loadCells_rest (P := P) hb hv hl
      refine ⟨.agg xs.toArray, ?_, .agg _ _ (by simpa using hvx)⟩
      simp [Instr.loadAt, Instr.sureAddr, loadVar, run_isAgg hu, hd, sizeOf, run_info hi, hs, hrun]
  · cases e


def setsA : List AV → Nat → List AV → List AV
  | cs, _, [] => cs
  | cs, o, v :: vs => setsA (cs.set o v) (o + 1) vs

theorem setsA_length : ∀ (vs : List AV) (cs : List AV) (o : Nat), (setsA cs o vs).length = cs.length
  | [], cs, o => rfl
  | v :: vs, cs, o => by simp [setsA, setsA_length vs]

/-- Go's memory behind one block's new object. -/
def World.setObj (w : World) (b : Nat) (o : Obj) : World := { w with heap := w.heap.setIfInBounds b o }

theorem setCell_of {b : Nat} {C : Array Value} {el : TypeId} {fr : Nat × Nat} (hb : w.heap[b]? = some (.cells C el fr)) (o : Nat) (y : Value) :
    w.setCell ⟨b, o, none⟩ y = World.setObj w b (.cells (C.setIfInBounds o y) el fr) := by
  simp only [World.setCell, World.setObj]
  congr 1
  apply Array.ext_getElem?
  intro j
  rw [Array.getElem?_modify, Array.getElem?_setIfInBounds]
  by_cases hj : b = j
  · subst hj
    obtain ⟨hlt, he⟩ := Array.getElem?_eq_some_iff.1 hb
    simp [he, hlt]
  · simp [hj]

theorem setObj_same {b : Nat} (hb : b < w.heap.size) (o : Obj) : (World.setObj w b o).heap[b]? = some o := by
  simp [World.setObj, hb]
theorem setObj_ne {b c : Nat} (hn : b ≠ c) (o : Obj) : (World.setObj w b o).heap[c]? = w.heap[c]? := by
  simp only [World.setObj]
  rw [Array.getElem?_setIfInBounds_ne hn]
theorem setObj_size (b : Nat) (o : Obj) : (World.setObj w b o).heap.size = w.heap.size := by simp [World.setObj]
theorem setObj_setObj (b : Nat) (o p : Obj) : World.setObj (World.setObj w b o) b p = World.setObj w b p := by
  simp [World.setObj]
theorem setObj_id {b : Nat} {o : Obj} (hb : w.heap[b]? = some o) : World.setObj w b o = w := by
  have : w.heap.setIfInBounds b o = w.heap := by
    apply Array.ext_getElem?
    intro j
    rw [Array.getElem?_setIfInBounds]
    split
    · rename_i hj; subst hj
      obtain ⟨hlt, he⟩ := Array.getElem?_eq_some_iff.1 hb
      simp [he, hlt]
    · rfl
  simp [World.setObj, this]

/-- One own object is exchanged for another at the same place. -/
theorem HR.exchange (hr : HR κ h w) {i : Nat} {o p : AObj} (hi : h i = some o) {O : Obj} (ho : OR κ i p O) : HR κ (h.set i p) (World.setObj w (κ.ρ i) O) where
  dom := fun j q hj => by
    by_cases hji : j = i
    · subst hji; exact hr.dom _ _ hi
    · rw [Hp.set_ne h p hji] at hj; exact hr.dom _ _ hj
  own := fun j q hj => by
    have hb : κ.ρ i < w.heap.size := by
      obtain ⟨O', hO, _⟩ := hr.own i o hi
      exact (Array.getElem?_eq_some_iff.1 hO).1
    by_cases hji : j = i
    · subst hji
      rw [Hp.set_same] at hj
      cases hj
      exact ⟨O, setObj_same hb O, ho⟩
    · rw [Hp.set_ne h p hji] at hj
      obtain ⟨O', hO, hq⟩ := hr.own j q hj
      refine ⟨O', ?_, hq⟩
      rw [setObj_ne (fun e => hji (hr.inj _ _ _ _ hj hi e.symm))]
      exact hO
  inj := fun a b c d ha hb e => by
    have get : ∀ j q, h.set i p j = some q → ∃ q', h j = some q' := fun j q hj => by
      by_cases hji : j = i
      · subst hji; exact ⟨o, hi⟩
      · rw [Hp.set_ne h p hji] at hj; exact ⟨q, hj⟩
    obtain ⟨_, h1⟩ := get a c ha
    obtain ⟨_, h2⟩ := get b d hb
    exact hr.inj _ _ _ _ h1 h2 e
  imm := fun b q hb => by
    rw [setObj_ne (fun e => by have := hr.sep i o hi; rw [e, hb] at this; cases this)]
    exact hr.imm b q hb
  sep := fun j q hj => by
    by_cases hji : j = i
    · subst hji; exact hr.sep _ _ hi
    · rw [Hp.set_ne h p hji] at hj; exact hr.sep _ _ hj

theorem Step.exchange (hr : HR κ h w) {i : Nat} {o p : AObj} (hi : h i = some o) (O : Obj) : Step κ h w κ (h.set i p) (World.setObj w (κ.ρ i) O) where
  ext := Ext.refl κ
  size := by rw [setObj_size]; exact Nat.le_refl _
  keep := fun b hb hn => setObj_ne (fun e => hn ⟨i, o, hi, e⟩) O
  own := fun b ⟨j, q, hj, e⟩ => by
    by_cases hji : j = i
    · subst hji; exact .inl ⟨_, o, hi, e⟩
    · rw [Hp.set_ne h p hji] at hj; exact .inl ⟨j, q, hj, e⟩
  imm := fun b o hb => .inl hb
  os := ⟨rfl, rfl⟩

theorem frozen_not {b : Nat} {C : Array Value} {el : TypeId} {fr : Nat × Nat} (hb : w.heap[b]? = some (.cells C el fr)) (hf : fr.2 ≤ fr.1) (o : Nat) : w.frozen? ⟨b, o, none⟩ = false := by
  obtain ⟨lo, hi⟩ := fr
  simp only [World.frozen?, hb, Bool.and_eq_false_iff, decide_eq_false_iff_not]
  simp only at hf
  omega

theorem run_storeCells_set : ∀ (vs : List Value) (b o i : Nat) (w : World) (C : Array Value) (el : TypeId) (fr : Nat × Nat), w.heap[b]? = some (.cells C el fr) → fr.2 ≤ fr.1 →
    o + i + vs.length ≤ C.size → (∀ v ∈ vs, v.oneCell' = true) → ∃ C', (storeCells ⟨b, o, none⟩ vs i).run P w = .ok () (World.setObj w b (.cells C' el fr)) ∧ C'.size = C.size ∧
      (∀ κ cs us, VRs κ cs (C.toList.take cs.length) → VRs κ us vs → VRs κ (setsA cs (o + i) us) (C'.toList.take cs.length))
  | [], b, o, i, w, C, el, fr, hb, hf, hs, h1 => ⟨C, by simp [storeCells, setObj_id hb], rfl, fun κ cs us hc hu => by cases hu; exact hc⟩
  | v :: vs, b, o, i, w, C, el, fr, hb, hf, hs, h1 => by
    simp only [List.length_cons] at hs
    have hblt : b < w.heap.size := (Array.getElem?_eq_some_iff.1 hb).1
    have hc : w.cell? ⟨b, o + i, none⟩ = some C[o + i] := by rw [cell_at hb]; exact Array.getElem?_eq_getElem (by omega)
    have hst := run_store P w ⟨b, o + i, none⟩ v .plain (h1 v (by simp))
    obtain ⟨C', hrun, hsz, hrel⟩ := run_storeCells_set vs b o (i + 1) (World.setObj w b (.cells (C.setIfInBounds (o + i) v) el fr)) (C.setIfInBounds (o + i) v) el fr
      (setObj_same hblt _) hf (by simp; omega) (fun u hu => h1 u (by simp [hu]))
    refine ⟨C', ?_, by simp [hsz], fun κ cs us hcs hu => ?_⟩
    · simp only [storeCells, Sem.run_bind, add_eq, hst, stored, hc, frozen_not hb hf, setCell_of hb, Result.andThen]
      simp only [Bool.false_eq_true, if_false, hrun, setObj_setObj]
    · cases hu with
      | cons u _ us _ hu hus =>
        simp only [setsA]
        have := hrel κ (cs.set (o + i) u) us (by
          rw [List.length_set]
          have := hcs.set (o + i) hu
          rw [Array.toList_setIfInBounds, List.take_set]; exact this) hus
        rw [List.length_set] at this
        exact this

def storeA (h : Hp) (i : TyI) (p v : AV) : Option Hp :=
  match p with
  | .ptr b off => match h b with
    | some (.cells cs more) => if (cellsA v).length = i.size ∧ (cellsA v).all isCell = true ∧ off + (cellsA v).length ≤ cs.length then some (h.set b (.cells (setsA cs off (cellsA v)) more)) else none
    | _ => none
  | _ => none

theorem storeA_ok {T : Tys} (tok : TOK P T) (hr : HR κ h w) {t : TypeId} {i : TyI} (ht : T t = some i) {p v : AV} {x y : Value} (r : VR κ p x) (rv : VR κ v y) {h' : Hp}
    (e : storeA h i p v = some h') : ∃ w', (Instr.storeAt t x y).run P w = .ok () w' ∧ HR κ h' w' ∧ Step κ h w κ h' w' := by
  unfold storeA at e
  split at e <;> try (cases e; done)
  rename_i b off
  split at e <;> try (cases e; done)
  rename_i cs more hcs
  split at e <;> cases e
  rename_i hc
  obtain ⟨hlen, hone, hin⟩ := hc
  cases r
  rename_i hlt
  obtain ⟨O, hO, ho⟩ := hr.own b _ hcs
  cases ho with
  | cells _ _ C el fr hv hm hf hsz0 hq =>
    obtain ⟨inf, z, hi, hs, _⟩ := tok.info t i ht
    have rc := rv.cells
    have hyl := rc.length
    simp only [Array.length_toList] at hyl
    have hcl : cs.length ≤ C.size := by
      have := hv.length
      simp only [List.length_take, Array.length_toList] at this
      omega
    obtain ⟨C', hrun, hsz, hrel⟩ := run_storeCells_set (P := P) y.cells.toList (κ.ρ b) off 0 w C el fr hO hf (by simp only [Array.length_toList]; omega) (VRs.ones rc hone)
    refine ⟨World.setObj w (κ.ρ b) (.cells C' el fr), ?_, ?_, Step.exchange hr hcs _⟩
    · have hne : ¬ y.cells.size ≠ inf.size := by rw [hs, ← hlen, hyl]; simp
      simp only [Instr.storeAt, Instr.sureAddr, storeVar, Sem.run_bind, Sem.run_pure, Result.andThen, sizeOf, run_info hi, hne, if_false, hrun]
    · refine HR.exchange hr hcs (.cells _ _ C' el fr ?_ ?_ hf (by rw [hsz, hsz0]) hq)
      · have := hrel κ cs (cellsA v) hv rc
        rw [setsA_length]
        simpa using this
      · intro hmo
        rw [setsA_length, hsz, hm hmo]


/-- A new own row. -/
def Kap.new (κ : Kap) (b s q : Nat) : Kap :=
  { ρ := fun i => if i = κ.n then b else κ.ρ i, I := κ.I, n := κ.n + 1, sz := fun i => if i = κ.n then s else κ.sz i, es := fun i => if i = κ.n then q else κ.es i }

theorem Kap.new_ext (κ : Kap) (b s q : Nat) : Ext κ (κ.new b s q) :=
  ⟨Nat.le_succ _, fun i hi => by simp [Kap.new, Nat.ne_of_lt hi], fun _ _ h => h, fun i hi => by simp [Kap.new, Nat.ne_of_lt hi], fun i hi => by simp [Kap.new, Nat.ne_of_lt hi]⟩

theorem Kap.new_ρ (κ : Kap) (b s q : Nat) : (κ.new b s q).ρ κ.n = b := by simp [Kap.new]
theorem Kap.new_sz (κ : Kap) (b s q : Nat) : (κ.new b s q).sz κ.n = s := by simp [Kap.new]
theorem Kap.new_es (κ : Kap) (b s q : Nat) : (κ.new b s q).es κ.n = q := by simp [Kap.new]

theorem heap_push_old {b : Nat} (hb : b < w.heap.size) (o : Obj) : ({ w with heap := w.heap.push o } : World).heap[b]? = w.heap[b]? := by
  simp only [Array.getElem?_push]
  rw [if_neg (by omega)]

theorem HR.fresh_none (hr : HR κ h w) : h κ.n = none := by
  cases e : h κ.n with
  | none => rfl
  | some o => exact absurd (hr.dom _ _ e) (Nat.lt_irrefl _)

theorem HR.lt (hr : HR κ h w) {i : Nat} {o : AObj} (hi : h i = some o) : κ.ρ i < w.heap.size := by
  obtain ⟨O, hO, _⟩ := hr.own i o hi
  exact (Array.getElem?_eq_some_iff.1 hO).1

theorem HR.I_lt (hr : HR κ h w) {b : Nat} {o : Obj} (hi : κ.I b = some o) : b < w.heap.size :=
  (Array.getElem?_eq_some_iff.1 (hr.imm _ _ hi)).1

theorem HR.alloc (hr : HR κ h w) {p : AObj} {O : Obj} {s q : Nat} (ho : OR (κ.new w.heap.size s q) κ.n p O) :
    HR (κ.new w.heap.size s q) (h.set κ.n p) { w with heap := w.heap.push O } where
  dom := fun i p' hi => by
    by_cases e : i = κ.n
    · subst e; exact Nat.lt_succ_self _
    · rw [Hp.set_ne h p e] at hi; exact Nat.lt_succ_of_lt (hr.dom _ _ hi)
  own := fun i p' hi => by
    by_cases e : i = κ.n
    · subst e
      rw [Hp.set_same] at hi; cases hi
      exact ⟨O, by rw [Kap.new_ρ]; simp, ho⟩
    · rw [Hp.set_ne h p e] at hi
      obtain ⟨O', hO, hq⟩ := hr.own i p' hi
      refine ⟨O', ?_, hq.ext (κ.new_ext _ _ _) (hr.dom _ _ hi)⟩
      rw [(κ.new_ext w.heap.size s q).ρ i (hr.dom _ _ hi), heap_push_old (hr.lt hi)]
      exact hO
  inj := fun i j c d hi hj e => by
    by_cases ei : i = κ.n <;> by_cases ej : j = κ.n
    · omega
    · subst ei
      rw [Hp.set_ne h p ej] at hj
      rw [Kap.new_ρ, (κ.new_ext w.heap.size s q).ρ j (hr.dom _ _ hj)] at e
      have := hr.lt hj; omega
    · subst ej
      rw [Hp.set_ne h p ei] at hi
      rw [Kap.new_ρ, (κ.new_ext w.heap.size s q).ρ i (hr.dom _ _ hi)] at e
      have := hr.lt hi; omega
    · rw [Hp.set_ne h p ei] at hi
      rw [Hp.set_ne h p ej] at hj
      rw [(κ.new_ext w.heap.size s q).ρ i (hr.dom _ _ hi), (κ.new_ext w.heap.size s q).ρ j (hr.dom _ _ hj)] at e
      exact hr.inj _ _ _ _ hi hj e
  imm := fun b o hb => by
    have hb' : κ.I b = some o := hb
    rw [heap_push_old (hr.I_lt hb')]; exact hr.imm _ _ hb'
  sep := fun i p' hi => by
    by_cases e : i = κ.n
    · subst e
      rw [Kap.new_ρ]
      show κ.I w.heap.size = none
      cases hI : κ.I w.heap.size with
      | none => rfl
      | some o => exact absurd (hr.I_lt hI) (Nat.lt_irrefl _)
    · rw [Hp.set_ne h p e] at hi
      rw [(κ.new_ext w.heap.size s q).ρ i (hr.dom _ _ hi)]
      exact hr.sep _ _ hi

theorem Step.alloc (hr : HR κ h w) (p : AObj) (O : Obj) (s q : Nat) : Step κ h w (κ.new w.heap.size s q) (h.set κ.n p) { w with heap := w.heap.push O } where
  ext := κ.new_ext _ _ _
  size := by simp
  keep := fun b hb _ => heap_push_old hb O
  own := fun b ⟨i, p', hi, e⟩ => by
    by_cases ei : i = κ.n
    · subst ei; rw [Kap.new_ρ] at e; exact .inr (by omega)
    · rw [Hp.set_ne h p ei] at hi
      rw [(κ.new_ext w.heap.size s q).ρ i (hr.dom _ _ hi)] at e
      exact .inl ⟨i, p', hi, e⟩
  imm := fun b o hb => .inl hb
  os := ⟨rfl, rfl⟩

/-- Memory forgotten: own objects may be let go. -/
def Sub (h' h : Hp) : Prop := ∀ i o, h' i = some o → h i = some o

theorem HR.sub (hr : HR κ h w) {h' : Hp} (hs : Sub h' h) : HR κ h' w :=
  ⟨fun i o hi => hr.dom i o (hs i o hi), fun i o hi => hr.own i o (hs i o hi), fun i j o p hi hj e => hr.inj i j o p (hs _ _ hi) (hs _ _ hj) e, hr.imm,
   fun i o hi => hr.sep i o (hs i o hi)⟩

theorem Step.sub {κ' : Kap} {h' h'' : Hp} {w' : World} (s : Step κ h w κ' h' w') (hs : Sub h'' h') : Step κ h w κ' h'' w' :=
  ⟨s.ext, s.size, s.keep, fun b ⟨i, o, hi, e⟩ => s.own b ⟨i, o, hs i o hi, e⟩, s.imm, s.os⟩

/-- An own row becomes a value that nobody writes. -/
def Kap.shut (κ : Kap) (b : Nat) (o : Obj) : Kap := { κ with I := fun c => if c = b then some o else κ.I c }

theorem HR.shut (hr : HR κ h w) {i : Nat} {p : AObj} (hi : h i = some p) {O : Obj} (hO : w.heap[κ.ρ i]? = some O) :
    HR (κ.shut (κ.ρ i) O) (h.del i) w ∧ Step κ h w (κ.shut (κ.ρ i) O) (h.del i) w := by
  have hex : Ext κ (κ.shut (κ.ρ i) O) := ⟨Nat.le_refl _, fun _ _ => rfl, fun b o hb => by
    simp only [Kap.shut]
    split
    · rename_i e; subst e; have := hr.sep i p hi; rw [hb] at this; cases this
    · exact hb, fun _ _ => rfl, fun _ _ => rfl⟩
  have hsub : Sub (h.del i) h := fun j o hj => by
    by_cases e : j = i
    · subst e; rw [Hp.del_same] at hj; cases hj
    · rwa [Hp.del_ne h e] at hj
  refine ⟨⟨fun j o hj => hr.dom j o (hsub j o hj), fun j o hj => ?_, fun a b c d ha hb e => hr.inj a b c d (hsub _ _ ha) (hsub _ _ hb) e, fun b o hb => ?_, fun j o hj => ?_⟩, ?_⟩
  · obtain ⟨O', hO', ho⟩ := hr.own j o (hsub j o hj)
    exact ⟨O', hO', ho.ext hex (hr.dom _ _ (hsub j o hj))⟩
  · simp only [Kap.shut] at hb
    split at hb
    · rename_i e; subst e; rw [hO]; exact hb
    · exact hr.imm b o hb
  · show (if κ.ρ j = κ.ρ i then some O else κ.I (κ.ρ j)) = none
    have hj' := hsub j o hj
    split
    · rename_i e
      have := hr.inj j i o p hj' hi e
      subst this
      rw [Hp.del_same] at hj; cases hj
    · exact hr.sep j o hj'
  · exact ⟨hex, Nat.le_refl _, fun _ _ _ => rfl, fun b ⟨j, o, hj, e⟩ => .inl ⟨j, o, hsub j o hj, e⟩, fun b o hb => by
      simp only [Kap.shut] at hb
      split at hb
      · rename_i e; exact .inr (.inl ⟨i, p, hi, e.symm⟩)
      · exact .inl hb, ⟨rfl, rfl⟩⟩

end Go.Acx
