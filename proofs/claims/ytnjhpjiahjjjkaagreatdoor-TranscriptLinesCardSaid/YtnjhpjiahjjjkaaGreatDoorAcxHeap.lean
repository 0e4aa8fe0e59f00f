/- Acx, part 8: operations that make or write memory. -/
import Derived.Test.YtnjhpjiahjjjkaaGreatDoorAcxOp
import Derived.Deep.AppendSrc
import Derived.Deep.Upon
import Derived.Laws.MakeOwn
namespace Go.Acx

variable {P : Program} {κ : Kap} {h : Hp} {w : World} {T : Tys} {m : Nat} {f : Fr} {a : Act}

/-- What one operation does: its result (none: it gives no value), the heap and the context behind it. -/
def Does (P : Program) (κ : Kap) (h : Hp) (w : World) (s : Sem Next) (r : Option AV) (h' : Hp) (n' : Nat) : Prop :=
  ∃ w' κ', HR κ' h' w' ∧ Step κ h w κ' h' w' ∧ κ'.n = n' ∧
    ((∃ v x, r = some v ∧ s.run P w = .ok (.value x) w' ∧ VR κ' v x) ∨ (r = none ∧ s.run P w = .ok .skip w'))

theorem Does.quiet (hr : HR κ h w) {s : Sem Next} {v : AV} {x : Value} (e : s.run P w = .ok (.value x) w) (hv : VR κ v x) : Does P κ h w s (some v) h κ.n :=
  ⟨w, κ, hr, Step.refl κ h w, rfl, .inl ⟨v, x, rfl, e, hv⟩⟩

theorem Does.new (hr : HR κ h w) {s : Sem Next} {v : AV} {x : Value} {O : Obj} {p : AObj} (sz q : Nat) (e : s.run P w = .ok (.value x) { w with heap := w.heap.push O }) (ho : OR (κ.new w.heap.size sz q) κ.n p O)
    (hv : VR (κ.new w.heap.size sz q) v x) : Does P κ h w s (some v) (h.set κ.n p) (κ.n + 1) :=
  ⟨_, _, hr.alloc ho, Step.alloc hr p O sz q, rfl, .inl ⟨v, x, rfl, e, hv⟩⟩

theorem new_ptr (κ : Kap) (b s q : Nat) (off : Nat) : VR (κ.new b s q) (.ptr κ.n off) (.pointer (some ⟨b, off, none⟩)) := by
  have := VR.ptr (κ := κ.new b s q) κ.n off (Nat.lt_succ_self _)
  rwa [Kap.new_ρ] at this

theorem new_sl (κ : Kap) (b s q len : Nat) (cap : Option Nat) (c : Nat) (hl : len ≤ c) (hc : ∀ c', cap = some c' → c = c') (hz : cap = none → c * q ≤ s) :
    VR (κ.new b s q) (.sl κ.n 0 len cap) (.slice (some ⟨b, 0, none⟩) len c) := by
  have := VR.sl (κ := κ.new b s q) κ.n 0 len cap c (Nat.lt_succ_self _) hl hc (by rw [Kap.new_es, Kap.new_sz, Nat.zero_add]; exact hz)
  rwa [Kap.new_ρ] at this

theorem OR.row {i : Nat} {cs : List AV} {C : Array Value} {e : TypeId} (hv : VRs κ cs C.toList) (hsz : C.size = κ.sz i) : OR κ i (.cells cs none) (.cells C e (0, 0)) := by
  have hl := hv.length
  simp only [Array.length_toList] at hl
  refine .cells _ _ _ _ _ ?_ (fun _ => hl.symm) (Nat.le_refl _) hsz (fun q h => by cases h)
  rw [List.take_of_length_le (by simp [hl])]
  exact hv

theorem OR.rowMore {i q : Nat} {cs : List AV} {C : Array Value} {e : TypeId} (hv : VRs κ cs (C.toList.take cs.length)) (hsz : C.size = κ.sz i) (hq : κ.es i = q) :
    OR κ i (.cells cs (some (q, e))) (.cells C e (0, 0)) :=
  .cells _ _ _ _ _ hv (fun h => by cases h) (Nat.le_refl _) hsz (fun q' h => by cases h; exact ⟨hq, rfl⟩)

def allocA (T : Tys) (h : Hp) (n : Nat) (t : TypeId) : Option (Option AV × Hp × Nat) :=
  match T t with
  | some i => some (some (.ptr n 0), h.set n (.cells i.zero (some (i.size, t))), n + 1)
  | none => none

theorem allocA_ok (tok : TOK P T) (hr : HR κ h w) {t : TypeId} {r : Option AV} {h' : Hp} {n' : Nat} (e : allocA T h κ.n t = some (r, h', n')) :
    Does P κ h w (do pure (.value (← Instr.alloc t true (.tuple #[])))) r h' n' := by
  unfold allocA at e
  split at e <;> cases e
  rename_i i hi
  obtain ⟨z, hz, hc, _⟩ := run_zeroCells (κ := κ.new w.heap.size i.zero.length i.size) tok hi w
  have hl := hc.length
  rw [Array.length_toList] at hl
  refine Does.new hr (O := .cells z.cells t (0, 0)) i.zero.length i.size ?_ (OR.rowMore (by rw [List.take_of_length_le (by simp [hl])]; exact hc) (by rw [Kap.new_sz, hl]) (Kap.new_es _ _ _ _)) (new_ptr _ _ _ _ _)
  simp only [Instr.alloc, Sem.run_bind, hz, Result.andThen_ok, newVar, newRow, run_newObj, Sem.run_pure]

def boxA (h : Hp) (n : Nat) (v : AV) : Option AV × Hp × Nat := (some (.ptr n 0), h.set n (.cells (cellsA v) none), n + 1)

theorem boxA_ok (hr : HR κ h w) {t : TypeId} {v : AV} {x : Value} (hv : VR κ v x) : Does P κ h w (do pure (.value (← Instr.box t x))) (boxA h κ.n v).1 (boxA h κ.n v).2.1 (boxA h κ.n v).2.2 := by
  refine Does.new hr (O := .cells x.cells t (0, 0)) x.cells.size 0 ?_ (OR.row ((hv.ext (κ.new_ext _ _ _)).cells) (by rw [Kap.new_sz])) (new_ptr _ _ _ _ _)
  simp only [Instr.box, newVar, newRow, Sem.run_bind, run_newObj, Result.andThen_ok, Sem.run_pure]

def rep : Nat → List AV → List AV
  | 0, _ => []
  | n + 1, l => l ++ rep n l

def repV : Nat → List Value → List Value
  | 0, _ => []
  | n + 1, l => l ++ repV n l

theorem repV_length (l : List Value) : ∀ n, (repV n l).length = n * l.length
  | 0 => by simp [repV]
  | n + 1 => by simp [repV, repV_length l n, Nat.succ_mul, Nat.add_comm]

theorem repV_get (l : List Value) : ∀ n j, j < n * l.length → (repV n l)[j]? = l[j % l.length]?
  | 0, j, hj => by simp at hj
  | n + 1, j, hj => by
    simp only [repV]
    by_cases hlt : j < l.length
    · rw [List.getElem?_append_left hlt, Nat.mod_eq_of_lt hlt]
    · have hge : l.length ≤ j := by omega
      rw [List.getElem?_append_right hge, repV_get l n (j - l.length) (by rw [Nat.succ_mul] at hj; omega)]
      rw [Nat.mod_eq_sub_mod hge]

theorem madeCells_rep (z : Array Value) (n : Nat) : (madeCells z (n * z.size)).toList = repV n z.toList := by
  apply List.ext_getElem?
  intro j
  by_cases hj : j < n * z.size
  · rw [repV_get _ _ _ (by simpa using hj)]
    have hz : 0 < z.size := by
      rcases Nat.eq_zero_or_pos z.size with h0 | h0
      · rw [h0] at hj; simp at hj
      · exact h0
    have hm : j % z.size < z.size := Nat.mod_lt _ hz
    simp [madeCells, hj, hm]
  · have h1 : (madeCells z (n * z.size)).toList.length ≤ j := by rw [Array.length_toList, size_madeCells]; omega
    have h2 : (repV n z.toList).length ≤ j := by rw [repV_length]; simp; omega
    rw [List.getElem?_eq_none h1, List.getElem?_eq_none h2]

theorem VRs.rep {l : List AV} {x : List Value} (hv : VRs κ l x) : ∀ n, VRs κ (Acx.rep n l) (repV n x)
  | 0 => .nil
  | n + 1 => hv.append (VRs.rep hv n)

def makeSliceA (T : Tys) (h : Hp) (n : Nat) (t : TypeId) (l c : AV) : Option (Option AV × Hp × Nat) :=
  match T t, idxOf l, idxOf c with
  | some i, some l, some c => match i.desc with
    | .slice el => match T el with
      | some j => if 0 ≤ l ∧ l ≤ c ∧ (j.bytes : Int) * c ≤ 281474976710656 ∧ c ≤ 9223372036854775807 then
          some (some (.sl n 0 l.toNat (some c.toNat)), h.set n (.cells (rep c.toNat j.zero) none), n + 1) else none
      | none => none
    | _ => none
  | _, _, _ => none

theorem makeSliceA_ok (tok : TOK P T) (hr : HR κ h w) {t : TypeId} {l c : AV} {x y : Value} (hl : VR κ l x) (hc : VR κ c y) {r : Option AV} {h' : Hp} {n' : Nat}
    (e : makeSliceA T h κ.n t l c = some (r, h', n')) : Does P κ h w (do pure (.value (← Instr.makeSlice t x y))) r h' n' := by
  unfold makeSliceA at e
  split at e <;> try (cases e; done)
  rename_i i l' c' hi hl' hc'
  obtain ⟨kl, rfl⟩ := idxOf_ok hl hl'
  obtain ⟨kc, rfl⟩ := idxOf_ok hc hc'
  have ui := tok.und _ _ hi
  split at e <;> try (cases e; done)
  rename_i el hd
  split at e <;> try (cases e; done)
  rename_i j hj
  split at e <;> cases e
  rename_i hcond
  obtain ⟨inf, z, hinf, hs, hb, hz, hzc, h1, h2⟩ := tok.info _ _ hj
  obtain ⟨z', hz', hcells, _⟩ := run_zeroCells (κ := κ) tok hj w
  have : z' = z := by
    have h3 : (zeroValue el).run P w = .ok z w := by simp [zeroValue, run_info hinf, hz]
    rw [h3] at hz'; cases hz'; rfl
  subst this
  have hlen := hcells.length
  rw [Array.length_toList, h2] at hlen
  have hrun := run_make (P := P) w t el inf z' (by rw [ui, hd]) hinf hz kl kc l' c' hcond.1 hcond.2.1 (by rw [hb]; exact hcond.2.2.1) hcond.2.2.2
  refine Does.new hr (O := .cells (madeCells z'.cells (c'.toNat * inf.size)) el (0, 0)) (c'.toNat * inf.size) 0 ?_ (OR.row ?_ (by rw [Kap.new_sz, size_madeCells]))
    (new_sl κ w.heap.size _ _ l'.toNat (some c'.toNat) c'.toNat (by omega) (fun c0 h0 => by cases h0; rfl) (fun h0 => by cases h0))
  · simp only [Sem.run_bind, hrun, Result.andThen_ok, Sem.run_pure]
    rfl
  · rw [hs, hlen, madeCells_rep]
    exact (hcells.ext (κ.new_ext _ _ _)).rep _


def buildSliceA (T : Tys) (h : Hp) (n : Nat) (t : TypeId) (len : Nat) (ps : List (Nat × AV)) : Option (Option AV × Hp × Nat) :=
  match T t with
  | some i => match i.desc with
    | .slice el => match T el with
      | some j => if len * j.size ≤ 16777216 then
          match fillA (fun k => some (k * j.size, j.size)) (rep len j.zero) ps with
          | some cs => some (some (.sl n 0 len (some len)), h.set n (.cells cs none), n + 1)
          | none => none
        else none
      | none => none
    | _ => none
  | none => none

theorem buildSliceA_ok (tok : TOK P T) (hr : HR κ h w) {t : TypeId} {len : Nat} {ps : List (Nat × AV)} {qs : Array (Nat × Value)} (h1 : ps.map (·.1) = qs.toList.map (·.1))
    (h2 : VRs κ (ps.map (·.2)) (qs.toList.map (·.2))) {r : Option AV} {h' : Hp} {n' : Nat} (e : buildSliceA T h κ.n t len ps = some (r, h', n')) :
    Does P κ h w (do pure (.value (← Instr.buildSlice t len qs))) r h' n' := by
  unfold buildSliceA at e
  split at e <;> try (cases e; done)
  rename_i i hi
  have ui := tok.und _ _ hi
  split at e <;> try (cases e; done)
  rename_i el hd
  split at e <;> try (cases e; done)
  rename_i j hj
  split at e <;> try (cases e; done)
  rename_i hsz
  split at e <;> cases e
  rename_i cs hcs
  obtain ⟨inf, z, hinf, hs, hb, hz, hzc, h3, h4⟩ := tok.info _ _ hj
  obtain ⟨z', hz', hcells, _⟩ := run_zeroCells (κ := κ) tok hj w
  have : z' = z := by
    have h5 : (zeroValue el).run P w = .ok z w := by simp [zeroValue, run_info hinf, hz]
    rw [h5] at hz'; cases hz'; rfl
  subst this
  have hlen := hcells.length
  rw [Array.length_toList, h4] at hlen
  have hbase : VRs κ (rep len j.zero) (madeCells z'.cells (len * j.size)).toList := by
    rw [hlen, madeCells_rep]; exact hcells.rep _
  obtain ⟨O, hO, ho⟩ := fillA_ok h1 h2 hbase hcs
  refine Does.new hr (O := .cells O el (0, 0)) O.size 0 ?_ (OR.row (ho.ext (κ.new_ext _ _ _)) (by rw [Kap.new_sz]))
    (new_sl κ w.heap.size _ _ len (some len) len (Nat.le_refl _) (fun c0 h0 => by cases h0; rfl) (fun h0 => by cases h0))
  have hsz' : ¬ (len * inf.size > 2 ^ 24) := by rw [hs]; omega
  simp only [Instr.buildSlice, Sem.run_bind, run_underlying ui, hd, Result.andThen_ok, sizeOf, run_info hinf, hsz', if_false, Sem.run_pure]
  by_cases h0 : len * inf.size = 0
  · have hm : madeCells z'.cells (len * j.size) = (Array.range (len * inf.size)).map fun x => (#[] : Array Value)[x % (#[] : Array Value).size]! := by
      rw [← hs, h0]; simp [madeCells]
    simp only [h0, if_true, Sem.run_pure, Result.andThen_ok]
    rw [hm, h0] at hO
    simp only [hs] at hO ⊢
    simp only [hO, Sem.run_bind, newRow, run_newObj, Result.andThen_ok, Sem.run_pure]
  · simp only [h0, if_false, Sem.run_bind, hz', Result.andThen_ok, Sem.run_pure]
    have hm : madeCells z'.cells (len * j.size) = (Array.range (len * inf.size)).map fun x => z'.cells[x % z'.cells.size]! := by rw [hs]; rfl
    rw [hm] at hO
    simp only [hs] at hO ⊢
    simp only [hO, Sem.run_bind, newRow, run_newObj, Result.andThen_ok, Sem.run_pure]


/-- What an append's second argument gives: its cells and how many elements they are. -/
def srcA (T : Tys) (h : Hp) (t : TypeId) (size : Nat) (x : AV) : Option (List AV × Nat) :=
  match T t with
  | some i => match i.desc with
    | .slice _ => match restS h x with
      | some (rest, n) => match readN rest (n * size) with
        | some l => if l.all isCell then some (l, n) else none
        | none => none
      | none => none
    | .string => match x with
      | .str s => if size = 1 then some (s.map fun b => .int .u8 b.toNat, s.length) else none
      | _ => none
    | _ => none
  | none => none

theorem VRs.bytes : ∀ (s : List UInt8), VRs κ (s.map fun b => AV.int .u8 b.toNat) (s.map fun b => Value.int .u8 b.toNat)
  | [] => .nil
  | b :: s => .cons _ _ _ _ (.int _ _) (VRs.bytes s)

theorem srcA_ok (tok : TOK P T) (hr : HR κ h w) {t : TypeId} {size : Nat} {v : AV} {x : Value} (hv : VR κ v x) {l : List AV} {n : Nat} (e : srcA T h t size v = some (l, n)) :
    ∃ news, Src P size t x n news w ∧ VRs κ l news := by
  unfold srcA at e
  split at e <;> try (cases e; done)
  rename_i i hi
  have ui := tok.und _ _ hi
  split at e <;> try (cases e; done)
  · rename_i el hd
    split at e <;> try (cases e; done)
    rename_i rest n' hrest
    split at e <;> try (cases e; done)
    rename_i l' hl'
    split at e <;> cases e
    rename_i hone
    obtain ⟨a, c, rfl, hor⟩ := restS_ok hr hv hrest
    rcases hor with rfl | ⟨b, o, C, ty, fr, rfl, hb, hvs⟩
    · obtain ⟨h0, rfl⟩ := readN_nil hl'
      refine ⟨[], ⟨.inl ⟨el, by rw [ui, hd]⟩, fun _ => rfl, ?_, ?_, by simp [h0], fun u hu => by cases hu⟩, .nil⟩ <;>
        cases a <;> simp [Builtin.firstCells, h0, loadCells, loadCellsFrom]
    · obtain ⟨hrun, hx, hl⟩ := run_loadCells_rest' (P := P) hb hvs hl'
      obtain ⟨hrun2, _, _⟩ := run_loadCells_rest' (P := P) (w := w.drew) hb hvs hl'
      exact ⟨_, ⟨.inl ⟨el, by rw [ui, hd]⟩, fun _ => rfl, hrun, hrun2, hl, VRs.ones hx hone⟩, hx⟩
  · rename_i hd
    split at e <;> try (cases e; done)
    rename_i s
    split at e <;> cases e
    rename_i hsz
    subst hsz
    cases hv
    rename_i s' hs'
    subst hs'
    refine ⟨byteCells s', ?_, VRs.bytes _⟩
    have := Src.ofString (P := P) w (tx := t) (by rw [ui, hd]) s'
    have hl : s'.data.toList.length = s'.size := by simp
    rw [hl]
    exact this

end Go.Acx
