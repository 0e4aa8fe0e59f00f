/- Acx, part 5: operations that give a value and leave memory alone (2). -/
import Derived.Test.YtnjhpjiahjjjkaaGreatDoorAcxPure
import Derived.Lib.Builder
namespace Go.Acx

variable {P : Program} {κ : Kap} {h : Hp} {w : World} {T : Tys}

def unA (op : UnOp) (x : AV) : Option AV :=
  match op, x with
  | .neg, .int k n => some (.int k (k.wrap (0 - n)))
  | .xor, .int k n => (bitsA .xor k (if k.signed then -1 else k.max) n).map (.int k)
  | .not, .bool b => some (.bool !b)
  | _, _ => none

theorem unA_ok {op : UnOp} {v u : AV} {x : Value} (hv : VR κ v x) (e : unA op v = some u) (w : World) : ∃ y, (Op.unary op x).run P w = .ok y w ∧ VR κ u y := by
  unfold unA at e
  split at e <;> try (cases e; done)
  · cases hv; cases e; exact ⟨_, rfl, .int _ _⟩
  · cases hv; cases e; exact ⟨_, by simp [Op.unary, Op.intBits], .int _ _⟩
  · cases hv; cases e; exact ⟨_, rfl, .bool _⟩

/-- The elements of a slice as cells, and its length. -/
def restS (h : Hp) : AV → Option (List AV × Nat)
  | .sl i off len _ => match h i with
    | some (.cells cs _) => some (cs.drop off, len)
    | _ => none
  | .imm cells len => some (cells, len)
  | .nils => some ([], 0)
  | _ => none

theorem restS_ok (hr : HR κ h w) {v : AV} {x : Value} (r : VR κ v x) {rest : List AV} {len : Nat} (e : restS h v = some (rest, len)) :
    ∃ a c, x = .slice a len c ∧ (rest = [] ∨ ∃ b o C el fr, a = some ⟨b, o, none⟩ ∧ w.heap[b]? = some (.cells C el fr) ∧ VRs κ rest ((C.toList.drop o).take rest.length)) := by
  cases r with
  | sl i off n cap c hi hl hc hz =>
    simp only [restS] at e
    split at e <;> cases e
    rename_i cs more hcs
    obtain ⟨O, hO, ho⟩ := hr.own i _ hcs
    cases ho with
    | cells _ _ C el fr hv hm hf hsz hq =>
      refine ⟨_, c, rfl, .inr ⟨κ.ρ i, off, C, el, fr, rfl, hO, ?_⟩⟩
      have := hv.drop off
      rw [List.drop_take] at this
      simpa using this
  | imm cells n b off C el fr c hI hs hl => cases e; exact ⟨_, c, rfl, .inr ⟨b, off, C, el, fr, rfl, hr.imm _ _ hI, hs⟩⟩
  | immNil a c => cases e; exact ⟨a, c, rfl, .inl rfl⟩
  | nils => cases e; exact ⟨none, 0, rfl, .inl rfl⟩
  | _ => simp [restS] at e

theorem readN_nil {n : Nat} {l : List AV} (e : readN [] n = some l) : n = 0 ∧ l = [] := by
  unfold readN at e
  split at e <;> cases e
  rename_i h
  simp at h
  exact ⟨h, by simp [h]⟩

/-- Reading n cells from a slice's start. -/
theorem run_firstCells (hr : HR κ h w) {v : AV} {x : Value} (r : VR κ v x) {rest : List AV} {len : Nat} (e : restS h v = some (rest, len)) {size n : Nat} {l : List AV}
    (el : readN rest (n * size) = some l) : ∃ xs : List Value, (Builtin.firstCells size n x).run P w = .ok xs.toArray w ∧ VRs κ l xs := by
  obtain ⟨a, c, rfl, hor⟩ := restS_ok hr r e
  rcases hor with rfl | ⟨b, o, C, ty, fr, rfl, hb, hv⟩
  · obtain ⟨h0, rfl⟩ := readN_nil el
    cases a with
    | none => exact ⟨[], by simp [Builtin.firstCells], .nil⟩
    | some a => exact ⟨[], by simp [Builtin.firstCells, h0, loadCells, loadCellsFrom], .nil⟩
  · obtain ⟨xs, hrun, hx, _⟩ := run_loadCells_rest (P := P) hb hv el
    exact ⟨xs, by simp [Builtin.firstCells, hrun], hx⟩

def bytesOf : List AV → Option (List UInt8)
  | [] => some []
  | .int .u8 n :: l => (bytesOf l).map (UInt8.ofNat n.toNat :: ·)
  | _ => none

theorem run_bytesLoop : ∀ {l : List AV} {xs : List Value} {bs : List UInt8}, VRs κ l xs → bytesOf l = some bs → ∀ (s : ByteArray) (w : World),
    ∃ t : ByteArray, (forIn xs s fun c s => (match c with | .int .u8 n => pure (.yield (s.push (UInt8.ofNat n.toNat))) | _ => (do stuck (α := PUnit) "bytesToString: byte expected"; pure (.yield s)) : Sem (ForInStep ByteArray))).run P w = .ok t w ∧ t.data.toList = s.data.toList ++ bs
  | _, _, _, .nil, e, s, w => by cases e; exact ⟨s, by simp, by simp⟩
  | _, _, _, .cons v x vs xs hv hs, e, s, w => by
    unfold bytesOf at e
    split at e <;> try (cases e; done)
    · rename_i he; cases he
    · rename_i n l he
      cases he
      rw [Option.map_eq_some_iff] at e
      obtain ⟨bs', hbs, rfl⟩ := e
      cases hv
      obtain ⟨t, ht, hd⟩ := run_bytesLoop hs hbs (s.push (UInt8.ofNat n.toNat)) w
      refine ⟨t, ?_, by simp [hd]⟩
      simp only [List.forIn_cons, Sem.run_bind]
      simpa using ht

def convA (T : Tys) (h : Hp) (src dst : TypeId) (x : AV) : Option AV :=
  match T src, T dst with
  | some i, some j => match j.desc, x with
    | .int k, .int _ n => some (.int k (k.wrap n))
    | .string, .str s => some (.str s)
    | .string, x => match i.desc with
      | .slice e => match T e with
        | some ei => match ei.desc with
          | .int .u8 => match restS h x with
            | some (rest, len) => match readN rest len with
              | some l => (bytesOf l).map .str
              | none => none
            | none => none
          | _ => none
        | none => none
      | _ => none
    | .unsafePointer, .ptr b off => match i.desc with
      | .pointer t => match T t, h b with
        | some it, some (.cells cs _) => if it.size ≠ 0 ∧ off < cs.length then some (.ptr b off) else none
        | _, _ => none
      | _ => none
    | .pointer t, .ptr b off => match i.desc with
      | .unsafePointer => match T t, h b with
        | some it, some (.cells cs (some (_, e))) => if it.size ≠ 0 ∧ it.size ≤ cs.length ∧ e = t ∧ off = 0 then some (.ptr b off) else none
        | _, _ => none
      | _ => none
    | _, _ => none
  | _, _ => none

/-- At a row's head lies a variable of the row's element type. -/
theorem liesAt_head {e : TypeId} {s : Nat} (hc : P.cellsOf e = s) (hs : s ≠ 0) (count n : Nat) (hn : n ≤ count) : liesAt P P.depth e count 0 e n = true := by
  have hd : P.depth = (2 * (P.types.size + Made.depth) + 1) + 1 := rfl
  rw [hd]
  simp only [liesAt, Bool.or_eq_true]
  left
  rw [hd]
  simp [rowAt, hc, hn, hs, sameLayout]

theorem convA_ok (tok : TOK P T) (hr : HR κ h w) {src dst : TypeId} {v u : AV} {x : Value} (hv : VR κ v x) (e : convA T h src dst v = some u) :
    ∃ y, (convert src dst x).run P w = .ok y w ∧ VR κ u y := by
  unfold convA at e
  split at e <;> try (cases e; done)
  rename_i i j hi hj
  have ui := tok.und _ _ hi
  have uj := tok.und _ _ hj
  split at e <;> try (cases e; done)
  · rename_i k k' n hd
    cases hv; cases e
    refine ⟨_, ?_, .int _ _⟩
    simp only [convert, Sem.run_bind, run_underlying ui, run_underlying uj, hd, Result.andThen_ok]
    cases i.desc <;> rfl
  · rename_i s hd
    cases e
    cases hv
    rename_i t ht
    refine ⟨.string t, ?_, .str _ _ ht⟩
    simp only [convert, Sem.run_bind, run_underlying ui, run_underlying uj, hd, Result.andThen_ok]
    cases i.desc <;> rfl
  · rename_i hd hns
    split at e <;> try (cases e; done)
    rename_i el hdi
    split at e <;> try (cases e; done)
    rename_i ei hei
    have ue := tok.und _ _ hei
    split at e <;> try (cases e; done)
    rename_i hde
    split at e <;> try (cases e; done)
    rename_i rest len hrest
    split at e <;> try (cases e; done)
    rename_i l hl
    rw [Option.map_eq_some_iff] at e
    obtain ⟨bs, hbs, rfl⟩ := e
    obtain ⟨a, c, rfl, hor⟩ := restS_ok hr hv hrest
    rcases hor with rfl | ⟨b, o, C, ty, fr, rfl, hb, hvs⟩
    · obtain ⟨h0, rfl⟩ := readN_nil hl
      cases hbs
      refine ⟨.string .empty, ?_, .str _ _ rfl⟩
      subst h0
      cases a with
      | none => simp [convert, Sem.run_bind, run_underlying ui, run_underlying uj, run_underlying ue, hd, hdi, hde, Conv.bytesToString]
      | some a => simp [convert, Sem.run_bind, run_underlying ui, run_underlying uj, run_underlying ue, hd, hdi, hde, Conv.bytesToString, loadCells, loadCellsFrom]
    · obtain ⟨xs, hrun, hx, _⟩ := run_loadCells_rest (P := P) hb hvs hl
      obtain ⟨t, ht, hd'⟩ := run_bytesLoop (P := P) hx hbs ByteArray.empty w
      refine ⟨.string t, ?_, .str _ _ (by simpa using hd')⟩
      simp only [convert, Sem.run_bind, run_underlying ui, run_underlying uj, run_underlying ue, hd, hdi, hde, Conv.bytesToString, hrun, Result.andThen_ok]
      rw [List.forIn_toArray]
      exact (congrArg (fun r => Result.andThen r fun a w' => Sem.run P (pure (Value.string a)) w') ht).trans rfl
  · rename_i b off hd
    split at e <;> try (cases e; done)
    rename_i t hdi
    split at e <;> try (cases e; done)
    rename_i it cs more hit hcs
    split at e <;> cases e
    rename_i hc
    obtain ⟨inf, z, hinf, hsz, _⟩ := tok.info _ _ hit
    cases hv
    obtain ⟨O, hO, ho⟩ := hr.own b _ hcs
    cases ho with
    | cells _ _ C el fr hvs hm hf hsz' hq =>
    have hl := hvs.length
    simp only [List.length_take, Array.length_toList] at hl
    have hi2 := ui
    rw [hdi] at hi2
    have hj2 := uj
    rw [hd] at hj2
    refine ⟨_, Lib.run_to_unsafe (P := P) w ⟨κ.ρ b, off, none⟩ hi2 hj2 hinf (by rw [hsz]; exact hc.1) (e := el) (cells := C.size) (by simp [World.shape?, hO]) (by simp only; omega), .ptr b off (by assumption)⟩
  · rename_i t b off hd
    split at e <;> try (cases e; done)
    rename_i hdi
    split at e <;> try (cases e; done)
    rename_i it cs q e' hit hcs
    split at e <;> cases e
    rename_i hc
    obtain ⟨hc1, hc2, hc3, hc4⟩ := hc
    subst hc4
    obtain ⟨inf, z, hinf, hsz, _⟩ := tok.info _ _ hit
    cases hv
    obtain ⟨O, hO, ho⟩ := hr.own b _ hcs
    cases ho with
    | cells _ _ C el fr hvs hm hf hsz' hq =>
    have hl := hvs.length
    simp only [List.length_take, Array.length_toList] at hl
    have hel : el = t := ((hq _ rfl).2).trans hc3
    subst hel
    have hi2 := ui
    rw [hdi] at hi2
    have hj2 := uj
    rw [hd] at hj2
    have hco : P.cellsOf el = it.size := by simp [Program.cellsOf, hinf, hsz]
    refine ⟨_, Lib.run_from_unsafe (P := P) w ⟨κ.ρ b, 0, none⟩ hi2 hj2 hinf (e := el) (cells := C.size) (by simp [World.shape?, hO]) ?_, .ptr b 0 (by assumption)⟩
    refine liesAt_head hco hc1 _ 1 ?_
    rw [hco]
    exact (Nat.one_le_div_iff (by omega)).2 (by omega)


def fieldAddrA (T : Tys) (t : TypeId) (p : AV) (fld : Nat) : Option AV :=
  match T t with
  | some i => match i.desc with
    | .struct fs => match fs[fld]? with
      | some f => match T f.type with
        | some j => if j.size = 0 then none else match p with
          | .ptr b off => some (.ptr b (off + f.offset))
          | .iptr cells => some (.iptr (cells.drop f.offset))
          | _ => none
        | none => none
      | none => none
    | _ => none
  | none => none

theorem VRs.shift {C : List Value} {cells : List AV} {o : Nat} (hs : VRs κ cells ((C.drop o).take cells.length)) (k : Nat) :
    VRs κ (cells.drop k) ((C.drop (o + k)).take (cells.drop k).length) := by
  have := hs.drop k
  rw [List.drop_take, List.drop_drop] at this
  simpa using this

theorem VRs.cut {C : List Value} {cells : List AV} {o : Nat} (hs : VRs κ cells ((C.drop o).take cells.length)) (n : Nat) :
    VRs κ (cells.take n) ((C.drop o).take (cells.take n).length) := by
  have := hs.take n
  rw [List.take_take] at this
  rw [List.length_take]
  exact this

theorem fieldAddrA_ok (tok : TOK P T) {t : TypeId} {p u : AV} {x : Value} (hv : VR κ p x) {fld : Nat} (e : fieldAddrA T t p fld = some u) (w : World) :
    ∃ y, (Instr.fieldAt t x fld).run P w = .ok y w ∧ VR κ u y := by
  unfold fieldAddrA at e
  split at e <;> try (cases e; done)
  rename_i i hi
  split at e <;> try (cases e; done)
  rename_i fs hd
  split at e <;> try (cases e; done)
  rename_i f hf
  split at e <;> try (cases e; done)
  rename_i j hj
  split at e
  · cases e
  rename_i hz
  have ui := tok.und _ _ hi
  obtain ⟨inf, z, hinf, hs, _⟩ := tok.info _ _ hj
  have hne : inf.size ≠ 0 := by rw [hs]; exact hz
  split at e <;> cases e
  · cases hv
    refine ⟨_, ?_, .ptr _ _ (by assumption)⟩
    simp [Instr.fieldAt, run_underlying ui, hd, hf, Instr.sureAddr, fieldPlace, sizeOf, run_info hinf, hne, add_eq]
  · cases hv
    rename_i cells b off C el fr hI hsv
    refine ⟨.pointer (some ⟨b, off + f.offset, none⟩), ?_, .iptr _ _ _ C el fr hI (hsv.shift _)⟩
    simp [Instr.fieldAt, run_underlying ui, hd, hf, Instr.sureAddr, fieldPlace, sizeOf, run_info hinf, hne, add_eq]

def partA (T : Tys) (t : TypeId) (cs : List AV) (off : Nat) : Option AV :=
  match T t with
  | some j => if aggD j.desc then some (.agg ((cs.drop off).take j.size)) else cs[off]?
  | none => none

theorem partA_ok (tok : TOK P T) {t : TypeId} {cs : List AV} {C : Array Value} (hv : VRs κ cs C.toList) {off : Nat} {u : AV} (e : partA T t cs off = some u) (w : World) :
    ∃ y, (part t C off).run P w = .ok y w ∧ VR κ u y := by
  unfold partA at e
  split at e <;> try (cases e; done)
  rename_i j hj
  have uj := tok.und _ _ hj
  obtain ⟨inf, z, hinf, hs, _⟩ := tok.info _ _ hj
  cases hd : aggD j.desc
  · simp only [hd, Bool.false_eq_true, if_false] at e
    obtain ⟨y, hy, hvy⟩ := hv.get e
    refine ⟨y, ?_, hvy⟩
    have : C[off]? = some y := by simpa using hy
    simp [part, run_isAgg uj, hd, this]
  · simp only [hd, if_true, Option.some.injEq] at e
    subst e
    refine ⟨.agg (C.extract off (off + j.size)), by simp [part, run_isAgg uj, hd, sizeOf, run_info hinf, hs], .agg _ _ ?_⟩
    have := (hv.drop off).take j.size
    simpa using this

def fieldA (T : Tys) (t : TypeId) (x : AV) (fld : Nat) : Option AV :=
  match T t, x with
  | some i, .agg cs => match i.desc with
    | .struct fs => match fs[fld]? with
      | some f => partA T f.type cs f.offset
      | none => none
    | _ => none
  | _, _ => none

theorem fieldA_ok (tok : TOK P T) {t : TypeId} {p u : AV} {x : Value} (hv : VR κ p x) {fld : Nat} (e : fieldA T t p fld = some u) (w : World) :
    ∃ y, (Instr.field t x fld).run P w = .ok y w ∧ VR κ u y := by
  unfold fieldA at e
  split at e <;> try (cases e; done)
  rename_i i cs hi
  split at e <;> try (cases e; done)
  rename_i fs hd
  split at e <;> try (cases e; done)
  rename_i f hf
  have ui := tok.und _ _ hi
  cases hv
  rename_i C hC
  obtain ⟨y, hy, hvy⟩ := partA_ok (P := P) tok hC e w
  exact ⟨y, by simp [Instr.field, run_underlying ui, hd, hf, asAgg, hy], hvy⟩

def idxOf : AV → Option Int
  | .int _ n => some n
  | _ => none

theorem idxOf_ok {v : AV} {x : Value} {n : Int} (hv : VR κ v x) (e : idxOf v = some n) : ∃ k, x = .int k n := by
  unfold idxOf at e
  split at e <;> cases e
  cases hv
  exact ⟨_, rfl⟩

def indexAddrA (T : Tys) (t : TypeId) (x : AV) (ix : AV) : Option AV :=
  match T t, idxOf ix with
  | some i, some n => match i.desc with
    | .slice el => match T el with
      | some j => match x with
        | .sl b off len _ => if 0 ≤ n ∧ n < (len : Int) then some (.ptr b (off + n.toNat * j.size)) else none
        | .imm cells len => if 0 ≤ n ∧ n < (len : Int) then some (.iptr (cells.drop (n.toNat * j.size))) else none
        | _ => none
      | none => none
    | .array len el => match T el with
      | some j => match x with
        | .ptr b off => if 0 ≤ n ∧ n < (len : Int) then some (.ptr b (off + n.toNat * j.size)) else none
        | .iptr cells => if 0 ≤ n ∧ n < (len : Int) then some (.iptr (cells.drop (n.toNat * j.size))) else none
        | _ => none
      | none => none
    | _ => none
  | _, _ => none

theorem indexAddrA_ok (tok : TOK P T) {t : TypeId} {v ix u : AV} {x k : Value} (hv : VR κ v x) (hk : VR κ ix k) (e : indexAddrA T t v ix = some u) (w : World) :
    ∃ y, (Instr.indexAt t x k).run P w = .ok y w ∧ VR κ u y := by
  unfold indexAddrA at e
  split at e <;> try (cases e; done)
  rename_i i n hi hn
  obtain ⟨ik, rfl⟩ := idxOf_ok hk hn
  have ui := tok.und _ _ hi
  split at e <;> try (cases e; done)
  · rename_i el hd
    split at e <;> try (cases e; done)
    rename_i j hj
    obtain ⟨inf, z, hinf, hs, _⟩ := tok.info _ _ hj
    split at e <;> try (cases e; done)
    · split at e <;> cases e
      rename_i hin
      cases hv
      refine ⟨_, ?_, .ptr _ _ (by assumption)⟩
      simp [Instr.indexAt, asIntOf, run_underlying ui, hd, hin, sizeOf, run_info hinf, hs, add_eq]
    · split at e <;> cases e
      rename_i hin
      cases hv
      · omega
      rename_i cells b off C ty fr c hI hsv hl
      refine ⟨.pointer (some ⟨b, off + n.toNat * j.size, none⟩), ?_, .iptr _ _ _ C ty fr hI (hsv.shift _)⟩
      simp [Instr.indexAt, asIntOf, run_underlying ui, hd, hin, sizeOf, run_info hinf, hs, add_eq]
  · rename_i len el hd
    split at e <;> try (cases e; done)
    rename_i j hj
    obtain ⟨inf, z, hinf, hs, _⟩ := tok.info _ _ hj
    split at e <;> try (cases e; done)
    · split at e <;> cases e
      rename_i hin
      cases hv
      refine ⟨_, ?_, .ptr _ _ (by assumption)⟩
      simp [Instr.indexAt, asIntOf, run_underlying ui, hd, hin, sizeOf, run_info hinf, hs, add_eq, Instr.sureAddr]
    · split at e <;> cases e
      rename_i hin
      cases hv
      rename_i cells b off C ty fr hI hsv
      refine ⟨.pointer (some ⟨b, off + n.toNat * j.size, none⟩), ?_, .iptr _ _ _ C ty fr hI (hsv.shift _)⟩
      simp [Instr.indexAt, asIntOf, run_underlying ui, hd, hin, sizeOf, run_info hinf, hs, add_eq, Instr.sureAddr]

end Go.Acx
