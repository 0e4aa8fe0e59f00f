/- Acx, part 9c: strings that share the bytes of a row. -/
import Derived.Test.YtnjhpjiahjjjkaaGreatDoorAcxStruct
import Derived.Test.YtnjhpjiahjjjkaaGreatDoorAcxApp
import Derived.Lib.UnsafeStr
namespace Go.Acx

variable {P : Program} {T : Tys} {κ : Kap} {h : Hp} {w : World}

theorem run_loadBytesA : ∀ {l : List AV} {xs : List Value} {bs : List UInt8}, VRs κ l xs → bytesOf l = some bs → ∀ (a : Addr) (acc : ByteArray) (w : World), (∀ j x, xs[j]? = some x → w.cell? (a.add j) = some x) →
    (loadBytes a acc l.length).run P w = .ok ⟨acc.data ++ bs.toArray⟩ w
  | [], xs, bs, _, e, a, acc, w, _ => by cases e; simp [loadBytes]
  | v :: l, xs, bs, hv, e, a, acc, w, hc => by
    cases hv with
    | cons _ x _ xs hx hxs =>
    unfold bytesOf at e
    split at e <;> try (cases e; done)
    · rename_i h0; cases h0
    rename_i n l' heq
    cases heq
    rw [Option.map_eq_some_iff] at e
    obtain ⟨bs', hbs, rfl⟩ := e
    cases hx
    have h0 : w.cell? a = some (.int .u8 n) := by
      have := hc 0 _ rfl
      simpa [Addr.add] using this
    have ih := run_loadBytesA hxs hbs (a.add 1) (acc.push n.toNat.toUInt8) w (fun j y hy => by
      have := hc (j + 1) y (by simpa using hy)
      have e : (a.add 1).add j = a.add (j + 1) := by
        unfold Addr.add
        by_cases hj : j = 0
        · subst hj; simp
        · simp [hj]; omega
      rw [e]; exact this)
    simp only [List.length_cons, loadBytes, Sem.run_bind, run_load, h0, Result.andThen]
    rw [ih]
    congr 1
    apply ByteArray.ext
    simp [ByteArray.push]

def unsStrA (T : Tys) (h : Hp) (n : Nat) (pt : TypeId) (p : AV) (k : Int) : Option (Option AV × Hp × Nat) :=
  match p with
  | .nilp => if k = 0 then some (some (.str []), h, n) else none
  | .ptr b off => if k = 0 then some (some (.str []), h, n) else
    match T pt with
    | some i => match i.desc with
      | .pointer el => match T el, h b with
        | some j, some (.cells cs (some (_, e))) => if j.size = 1 ∧ 0 < k ∧ k ≤ 9223372036854775807 ∧ e = el ∧ off = 0 then (match readN cs k.toNat with
          | some l => (match bytesOf l with
            | some bs => some (some (.str bs), h.del b, n)
            | none => none)
          | none => none) else none
        | _, _ => none
      | _ => none
    | none => none
  | _ => none

theorem freeze_ne (w : World) (a : Addr) (n : Nat) {b : Nat} (hb : b ≠ a.block) : (w.freeze a n).heap[b]? = w.heap[b]? := by
  unfold World.freeze
  split
  · rfl
  · simp only [Array.getElem?_modify]
    rw [if_neg (Ne.symm hb)]

theorem freeze_os (w : World) (a : Addr) (n : Nat) : (w.freeze a n).os = w.os ∧ (w.freeze a n).output = w.output := by
  unfold World.freeze
  split <;> first
    | exact ⟨rfl, rfl⟩
    | (split <;> exact ⟨rfl, rfl⟩)

theorem freeze_size (w : World) (a : Addr) (n : Nat) : (w.freeze a n).heap.size = w.heap.size := by
  unfold World.freeze
  split <;> simp

theorem HR.frozen (hr : HR κ h w) {b : Nat} {o : AObj} (hb : h b = some o) (off n : Nat) : HR κ (h.del b) (w.freeze ⟨κ.ρ b, off, none⟩ n) where
  dom := fun i q hi => by
    by_cases e : i = b
    · subst e; rw [Hp.del_same] at hi; cases hi
    · rw [Hp.del_ne h e] at hi; exact hr.dom i q hi
  own := fun i q hi => by
    by_cases e : i = b
    · subst e; rw [Hp.del_same] at hi; cases hi
    · rw [Hp.del_ne h e] at hi
      obtain ⟨O, hO, ho⟩ := hr.own i q hi
      exact ⟨O, by rw [freeze_ne]; exact hO; exact fun e' => e (hr.inj _ _ _ _ hi hb e'), ho⟩
  inj := fun i j p q hi hj e => by
    by_cases e1 : i = b
    · subst e1; rw [Hp.del_same] at hi; cases hi
    · by_cases e2 : j = b
      · subst e2; rw [Hp.del_same] at hj; cases hj
      · rw [Hp.del_ne h e1] at hi; rw [Hp.del_ne h e2] at hj; exact hr.inj _ _ _ _ hi hj e
  imm := fun c q hc => by
    rw [freeze_ne]
    · exact hr.imm c q hc
    · intro e
      have := hr.sep b o hb
      simp only at e
      rw [← e, hc] at this
      cases this
  sep := fun i q hi => by
    by_cases e : i = b
    · subst e; rw [Hp.del_same] at hi; cases hi
    · rw [Hp.del_ne h e] at hi; exact hr.sep i q hi

theorem Step.frozen (hr : HR κ h w) {b : Nat} {o : AObj} (hb : h b = some o) (off n : Nat) : Step κ h w κ (h.del b) (w.freeze ⟨κ.ρ b, off, none⟩ n) where
  ext := Ext.refl κ
  size := by rw [freeze_size]; exact Nat.le_refl _
  keep := fun c hc hn => freeze_ne _ _ _ (fun e => hn ⟨b, o, hb, e.symm⟩)
  own := fun c ⟨j, q, hj, e⟩ => by
    by_cases e1 : j = b
    · subst e1; rw [Hp.del_same] at hj; cases hj
    · rw [Hp.del_ne h e1] at hj; exact .inl ⟨j, q, hj, e⟩
  imm := fun b o hb => .inl hb
  os := freeze_os _ _ _

theorem unsStrA_ok (tok : TOK P T) (hr : HR κ h w) {ats : Array TypeId} {pt ty : TypeId} (hat : ats[0]? = some pt) {p : AV} {k : Int} {kk : IntKind} {x : Value} (hx : VR κ p x) {u : Option AV} {h' : Hp} {n' : Nat}
    (e : unsStrA T h κ.n pt p k = some (u, h', n')) : Does P κ h w (do pure (.value (← Builtin.unsafeString_ ats ty #[x, .int kk k]))) u h' n' := by
  have hmax : IntKind.i64.max = 9223372036854775807 := rfl
  unfold unsStrA at e
  split at e <;> try (cases e; done)
  · split at e <;> cases e
    rename_i hk
    subst hk
    cases hx
    refine Does.quiet hr (x := .string .empty) ?_ (.str _ _ rfl)
    have hdef : Builtin.unsafeString_ ats ty #[.pointer none, .int kk 0] =
      (do
        let n ← asInt (.int kk 0)
        let some pt := ats[0]? | stuck "unsafe.String: no argument types"
        if n < 0 then runtimePanic (.error "unsafe.String: len out of range")
        if n > IntKind.i64.max then unsupported (.unsafePointer "String: a length above the largest int")
        if n = 0 then pure (.string .empty)
        else runtimePanic (.error "unsafe.String: ptr is nil and len is not zero")) := rfl
    rw [hdef]
    simp [asInt, asIntOf, hmax, hat]
  · rename_i b off
    cases hx
    have hdef : ∀ q, Builtin.unsafeString_ ats ty #[.pointer (some q), .int kk k] =
      (do
        let n ← asInt (.int kk k)
        let some pt := ats[0]? | stuck "unsafe.String: no argument types"
        if n < 0 then runtimePanic (.error "unsafe.String: len out of range")
        if n > IntKind.i64.max then unsupported (.unsafePointer "String: a length above the largest int")
        if n = 0 then pure (.string .empty)
        else if ← variablesAt q (← elemOf pt) n.toNat then do
          let s ← loadBytes q .empty n.toNat
          freeze q n.toNat
          pure (.string s)
        else unsupported (.unsafePointer "String: not so many bytes at ptr")) := fun q => rfl
    split at e
    · rename_i hk
      cases e
      subst hk
      refine Does.quiet hr (x := .string .empty) ?_ (.str _ _ rfl)
      rw [hdef]
      simp [asInt, asIntOf, hmax, hat]
    · rename_i hk0
      split at e <;> try (cases e; done)
      rename_i i hi
      split at e <;> try (cases e; done)
      rename_i el hdesc
      split at e <;> try (cases e; done)
      rename_i j cs q e' hj hcs
      split at e <;> try (cases e; done)
      rename_i hc
      obtain ⟨h1, h2, h3, h4, h5⟩ := hc
      subst h5
      split at e <;> try (cases e; done)
      rename_i l hl
      split at e <;> cases e
      rename_i bs hbs
      obtain ⟨O, hO, ho⟩ := hr.own b _ hcs
      cases ho with
      | cells _ _ C el' fr hvs hm hf hsz' hq =>
      have hle : el' = el := ((hq _ rfl).2).trans h4
      subst hle
      obtain ⟨r1, r2, r3⟩ := readN_len hl
      obtain ⟨inf, z, hinf, hszj, _⟩ := tok.info _ _ hj
      have hui := tok.und _ _ hi
      rw [hdesc] at hui
      have hco : P.cellsOf el' = 1 := by simp [Program.cellsOf, hinf, hszj, h1]
      have hlen := hvs.length
      simp only [List.length_take, Array.length_toList] at hlen
      have hlies := liesAt_head (P := P) hco (by decide) (C.size / P.cellsOf el') k.toNat (by rw [hco]; simp; omega)
      have hvl : VRs κ l ((C.toList.take cs.length).take k.toNat) := by rw [r3]; exact hvs.take _
      have hld := run_loadBytesA (P := P) hvl hbs ⟨κ.ρ b, 0, none⟩ .empty w (fun jj x hx => by
        rw [List.getElem?_take] at hx
        split at hx <;> try (cases hx; done)
        rw [List.getElem?_take] at hx
        split at hx <;> try (cases hx; done)
        rw [add_eq, cell_at hO]
        simpa using hx)
      rw [r1] at hld
      have hneg : ¬ k < 0 := by omega
      have hbig : ¬ (9223372036854775807 : Int) < k := by omega
      refine ⟨_, κ, hr.frozen hcs 0 k.toNat, Step.frozen hr hcs 0 k.toNat, rfl, .inl ⟨_, .string ⟨bs.toArray⟩, rfl, ?_, .str _ _ (by simp)⟩⟩
      rw [hdef]
      have hsh : w.shape? (κ.ρ b) = some (el', C.size) := by simp [World.shape?, hO]
      simp [asInt, asIntOf, hmax, hat, hneg, hbig, hk0, variablesAt, hsh, elemOf, run_underlying hui, hlies, hld]

def sliceDataA : AV → Option AV
  | .nils => some .nilp
  | .sl b off len cap => if len ≠ 0 ∨ (cap.getD 0) ≠ 0 then some (.ptr b off) else none
  | _ => none

theorem sliceDataA_ok {v u : AV} {x : Value} (hx : VR κ v x) (e : sliceDataA v = some u) (ats : Array TypeId) (ty : TypeId) (w : World) :
    ∃ y, (Builtin.unsafeSliceData_ ats ty #[x]).run P w = .ok y w ∧ VR κ u y := by
  unfold sliceDataA at e
  split at e <;> try (cases e; done)
  · cases e; cases hx; exact ⟨_, Lib.run_unsafeSliceData_nil w ats ty 0 0, .nilp⟩
  · split at e <;> cases e
    rename_i b off len cap hc
    cases hx with
    | sl _ _ _ _ c hi hl hcap hz =>
    refine ⟨_, Lib.run_unsafeSliceData_row w ats ty ⟨κ.ρ b, off, none⟩ len c ?_, .ptr b off hi⟩
    rcases hc with hc | hc
    · omega
    · cases cap with
      | none => simp at hc
      | some c' => have := hcap c' rfl; subst this; simpa using hc

end Go.Acx
