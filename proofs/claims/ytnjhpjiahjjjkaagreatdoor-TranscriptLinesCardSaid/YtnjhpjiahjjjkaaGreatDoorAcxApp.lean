/- Acx, part 9: append and copy. -/
import Derived.Test.YtnjhpjiahjjjkaaGreatDoorAcxHeap
namespace Go.Acx

variable {P : Program} {κ : Kap} {h : Hp} {w : World} {T : Tys}

theorem growBy_le (need : Nat) : ∀ (r c : Nat), c ≤ 2 * need + 768 → Builtin.growBy need r c ≤ 2 * need + 768
  | 0, c, hc => hc
  | r + 1, c, hc => by
    unfold Builtin.growBy
    split
    · exact hc
    · exact growBy_le need r _ (by omega)

theorem nextslicecap_le {need old : Nat} (ho : old ≤ need) : Builtin.nextslicecap need old ≤ 2 * need + 768 := by
  unfold Builtin.nextslicecap
  split
  · omega
  · split
    · omega
    · exact growBy_le need 4 old (by omega)

theorem setCells_obj {b o : Nat} {C : Array Value} {el : TypeId} {fr : Nat × Nat} (hb : w.heap[b]? = some (.cells C el fr)) (hf : fr.2 ≤ fr.1) {vs : List Value} (hs : o + vs.length ≤ C.size)
    (h1 : ∀ v ∈ vs, v.oneCell' = true) : ∃ C', w.setCells b o vs = World.setObj w b (.cells C' el fr) ∧ C'.size = C.size ∧
      (∀ κ cs us, VRs κ cs (C.toList.take cs.length) → VRs κ us vs → VRs κ (setsA cs o us) (C'.toList.take cs.length)) := by
  obtain ⟨C', hrun, hsz, hrel⟩ := run_storeCells_set (P := default) vs b o 0 w C el fr hb hf (by simpa using hs) h1
  have h2 := run_storeCells_cells (P := default) b o vs 0 w (fun j hj => by
    rw [cell_at hb, Array.getElem?_eq_getElem (by omega)]; rfl) (fun j hj => frozen_not hb hf _) h1
  rw [hrun] at h2
  simp only [Nat.add_zero, Result.ok.injEq, true_and] at h2
  exact ⟨C', h2.symm, hsz, by simpa using hrel⟩

/-- A row is given a new name, and new cells. -/
theorem HR.move (hr : HR κ h w) {i : Nat} {o p : AObj} (hi : h i = some o) {O : Obj} {s q : Nat} (ho : OR (κ.new (κ.ρ i) s q) κ.n p O) :
    HR (κ.new (κ.ρ i) s q) ((h.del i).set κ.n p) (World.setObj w (κ.ρ i) O) where
  dom := fun j p' hj => by
    by_cases e : j = κ.n
    · subst e; exact Nat.lt_succ_self _
    · rw [Hp.set_ne _ p e] at hj
      by_cases e2 : j = i
      · subst e2; rw [Hp.del_same] at hj; cases hj
      · rw [Hp.del_ne h e2] at hj; exact Nat.lt_succ_of_lt (hr.dom _ _ hj)
  own := fun j p' hj => by
    by_cases e : j = κ.n
    · subst e
      rw [Hp.set_same] at hj; cases hj
      exact ⟨O, by rw [Kap.new_ρ]; exact setObj_same (hr.lt hi) O, ho⟩
    · rw [Hp.set_ne _ p e] at hj
      by_cases e2 : j = i
      · subst e2; rw [Hp.del_same] at hj; cases hj
      · rw [Hp.del_ne h e2] at hj
        obtain ⟨O', hO, hq⟩ := hr.own j p' hj
        refine ⟨O', ?_, hq.ext (κ.new_ext _ _ _) (hr.dom _ _ hj)⟩
        rw [(κ.new_ext (κ.ρ i) s q).ρ j (hr.dom _ _ hj), setObj_ne (fun e3 => e2 (hr.inj _ _ _ _ hj hi e3.symm))]
        exact hO
  inj := fun a b c d ha hb e => by
    by_cases ea : a = κ.n <;> by_cases eb : b = κ.n
    · omega
    · subst ea
      rw [Hp.set_ne _ p eb] at hb
      by_cases e2 : b = i
      · subst e2; rw [Hp.del_same] at hb; cases hb
      · rw [Hp.del_ne h e2] at hb
        rw [Kap.new_ρ, (κ.new_ext (κ.ρ i) s q).ρ b (hr.dom _ _ hb)] at e
        exact absurd (hr.inj _ _ _ _ hb hi e.symm) e2
    · subst eb
      rw [Hp.set_ne _ p ea] at ha
      by_cases e2 : a = i
      · subst e2; rw [Hp.del_same] at ha; cases ha
      · rw [Hp.del_ne h e2] at ha
        rw [Kap.new_ρ, (κ.new_ext (κ.ρ i) s q).ρ a (hr.dom _ _ ha)] at e
        exact absurd (hr.inj _ _ _ _ ha hi e) e2
    · rw [Hp.set_ne _ p ea] at ha
      rw [Hp.set_ne _ p eb] at hb
      by_cases e2 : a = i
      · subst e2; rw [Hp.del_same] at ha; cases ha
      by_cases e3 : b = i
      · subst e3; rw [Hp.del_same] at hb; cases hb
      rw [Hp.del_ne h e2] at ha
      rw [Hp.del_ne h e3] at hb
      rw [(κ.new_ext (κ.ρ i) s q).ρ a (hr.dom _ _ ha), (κ.new_ext (κ.ρ i) s q).ρ b (hr.dom _ _ hb)] at e
      exact hr.inj _ _ _ _ ha hb e
  imm := fun b o' hb => by
    have hb' : κ.I b = some o' := hb
    rw [setObj_ne (fun e => by have := hr.sep i o hi; rw [e, hb'] at this; cases this)]
    exact hr.imm b o' hb'
  sep := fun j p' hj => by
    by_cases e : j = κ.n
    · subst e; rw [Kap.new_ρ]; exact hr.sep i o hi
    · rw [Hp.set_ne _ p e] at hj
      by_cases e2 : j = i
      · subst e2; rw [Hp.del_same] at hj; cases hj
      · rw [Hp.del_ne h e2] at hj
        rw [(κ.new_ext (κ.ρ i) s q).ρ j (hr.dom _ _ hj)]
        exact hr.sep j p' hj

theorem Step.move (hr : HR κ h w) {i : Nat} {o : AObj} (hi : h i = some o) (p : AObj) (O : Obj) (s q : Nat) :
    Step κ h w (κ.new (κ.ρ i) s q) ((h.del i).set κ.n p) (World.setObj w (κ.ρ i) O) where
  ext := κ.new_ext _ _ _
  size := by rw [setObj_size]; exact Nat.le_refl _
  keep := fun b hb hn => setObj_ne (fun e => hn ⟨i, o, hi, e⟩) O
  own := fun b ⟨j, p', hj, e⟩ => by
    by_cases ej : j = κ.n
    · subst ej; rw [Kap.new_ρ] at e; exact .inl ⟨i, o, hi, e⟩
    · rw [Hp.set_ne _ p ej] at hj
      by_cases e2 : j = i
      · subst e2; rw [Hp.del_same] at hj; cases hj
      · rw [Hp.del_ne h e2] at hj
        rw [(κ.new_ext (κ.ρ i) s q).ρ j (hr.dom _ _ hj)] at e
        exact .inl ⟨j, p', hj, e⟩
  imm := fun b o' hb => .inl hb
  os := ⟨rfl, rfl⟩

/-- A row is left behind, and a new one has its name. -/
theorem Sub.del (h : Hp) (i : Nat) : Sub (h.del i) h := fun j o hj => by
  by_cases e : j = i
  · subst e; rw [Hp.del_same] at hj; cases hj
  · rwa [Hp.del_ne h e] at hj

def appendA (T : Tys) (h : Hp) (n : Nat) (t tx : TypeId) (s x : AV) : Option (Option AV × Hp × Nat) :=
  match T t with
  | some i => match i.desc with
    | .slice el => match T el with
      | some j => match srcA T h tx j.size x with
        | some (news, k) =>
          if k = 0 then (match s with
            | .sl _ _ _ _ | .imm _ _ | .nils => some (some s, h, n)
            | _ => none)
          else match s with
          | .nils => if (2 * k + 768) * j.bytes ≤ 281474976710656 ∧ k ≤ 4611686018427387904 then some (some (.sl n 0 k none), h.set n (.cells news (some (j.size, el))), n + 1) else none
          | .sl b off len cap => match h b with
            | some (.cells cs more) => match cap with
              | some c =>
                if len + k ≤ c then
                  (if off + (len + k) * j.size ≤ cs.length then some (some (.sl b off (len + k) (some c)), h.set b (.cells (setsA cs (off + len * j.size) news) more), n) else none)
                else match readN (cs.drop off) (len * j.size) with
                  | some olds => if (2 * (len + k) + 768) * j.bytes ≤ 281474976710656 ∧ len + k ≤ 4611686018427387904 then
                      some (some (.sl n 0 (len + k) none), h.set n (.cells (olds ++ news) (some (j.size, el))), n + 1) else none
                  | none => none
              | none => match readN cs (len * j.size) with
                | some olds => if off = 0 ∧ more = some (j.size, el) ∧ (2 * (len + k) + 768) * j.bytes ≤ 281474976710656 ∧ len + k ≤ 4611686018427387904 then
                    some (some (.sl n 0 (len + k) none), (h.del b).set n (.cells (olds ++ news) (some (j.size, el))), n + 1) else none
                | none => none
            | _ => none
          | _ => none
        | none => none
      | none => none
    | _ => none
  | none => none

theorem readN_len {l r : List AV} {n : Nat} (e : readN l n = some r) : r.length = n ∧ n ≤ l.length ∧ r = l.take n := by
  unfold readN at e
  split at e <;> cases e
  rename_i hn
  exact ⟨by simp; omega, hn, rfl⟩

theorem grown_cells {news olds : List AV} {xs ys : List Value} (ho : VRs κ olds xs) (hn : VRs κ news ys) (Z : Array Value) :
    VRs κ (olds ++ news) (((xs ++ ys).toArray ++ Z).toList.take (olds ++ news).length) := by
  have hv := ho.append hn
  have hl := hv.length
  rw [Array.toList_append, List.take_append_of_le_length (by simp only; omega)]
  rw [List.take_of_length_le (by simp only; omega)]
  exact hv

theorem cut_ge (w : World) (need old : Nat) (e : TypeId) : need ≤ grownCap w need old e := by
  simp only [grownCap, Question.cut]
  exact Nat.le_add_right _ _

theorem zeroCells_size (z : Array Value) (n : Nat) : (Builtin.zeroCells z n).size = n * z.size := by simp [Builtin.zeroCells]


theorem setCells_list {b : Nat} {el : TypeId} {fr : Nat × Nat} : ∀ (vs : List Value) (o : Nat) (w : World) (C : Array Value), w.heap[b]? = some (.cells C el fr) → o + vs.length ≤ C.size →
    ∃ C' : Array Value, w.setCells b o vs = World.setObj w b (.cells C' el fr) ∧ C'.toList = C.toList.take o ++ vs ++ C.toList.drop (o + vs.length)
  | [], o, w, C, hb, hs => ⟨C, by simp [World.setCells, setObj_id hb], by simp⟩
  | v :: vs, o, w, C, hb, hs => by
    simp only [List.length_cons] at hs
    have hblt : b < w.heap.size := (Array.getElem?_eq_some_iff.1 hb).1
    obtain ⟨C', h1, h2⟩ := setCells_list vs (o + 1) (World.setObj w b (.cells (C.setIfInBounds o v) el fr)) (C.setIfInBounds o v) (setObj_same hblt _) (by simp; omega)
    refine ⟨C', ?_, ?_⟩
    · simp only [World.setCells]
      rw [setCell_of hb, h1, setObj_setObj]
    · rw [h2, Array.toList_setIfInBounds]
      have hlt : o < C.toList.length := by simp; omega
      rw [List.take_set, List.drop_set_of_lt (by omega), List.take_succ_eq_append_getElem (by simpa using hlt)]
      rw [List.set_append_right _ _ (by simp; omega)]
      simp [Nat.min_eq_left (Nat.le_of_lt hlt), Nat.add_assoc, Nat.add_comm 1]
      have hm : o - min o C.size = 0 := by simp only [Array.length_toList] at hlt; omega
      rw [hm]
      rfl


theorem set_del_ne (h : Hp) {i j : Nat} (o : AObj) : (h.del i).set j o j = some o := Hp.set_same _ _ _

theorem appendA_ok (tok : TOK P T) (hr : HR κ h w) {t tx ty : TypeId} {s x : AV} {vs vx : Value} (hs : VR κ s vs) (hx : VR κ x vx) {r : Option AV} {h' : Hp} {n' : Nat}
    (e : appendA T h κ.n t tx s x = some (r, h', n')) : Does P κ h w (do pure (.value (← Builtin.append_ #[t, tx] ty #[vs, vx]))) r h' n' := by
  unfold appendA at e
  split at e <;> try (cases e; done)
  rename_i i hi
  have ui := tok.und _ _ hi
  split at e <;> try (cases e; done)
  rename_i el hd
  split at e <;> try (cases e; done)
  rename_i j hj
  split at e <;> try (cases e; done)
  rename_i news k hsrc
  obtain ⟨inf, z, hinf, hsz, hby, hz, hzc, h3, h4⟩ := tok.info _ _ hj
  obtain ⟨z', hz', hcells, _⟩ := run_zeroCells (κ := κ) tok hj w
  have : z' = z := by
    have h5 : (zeroValue el).run P w = .ok z w := by simp [zeroValue, run_info hinf, hz]
    rw [h5] at hz'; cases hz'; rfl
  subst this
  have hzl := hcells.length
  rw [Array.length_toList, h4] at hzl
  rw [← hsz] at hsrc
  obtain ⟨ys, hsrc', hnews⟩ := srcA_ok (P := P) tok hr hx hsrc
  have hut : P.underlying t = some (.slice el) := by rw [ui, hd]
  have hyl := hsrc'.newsLen
  have hnl := hnews.length
  split at e
  · rename_i hk
    subst hk
    have hy0 : ys = [] := by simpa using hyl
    subst hy0
    have key : ∀ a l c, l ≤ c → vs = .slice a l c → Does P κ h w (do pure (.value (← Builtin.append_ #[t, tx] ty #[vs, vx]))) (some s) h κ.n := fun a l c hle hvs => by
      subst hvs
      refine Does.quiet hr ?_ hs
      simp only [Sem.run_bind, run_append_nothing (P := P) w t tx ty el inf hut hinf a l c hle vx hsrc', Result.andThen_ok, Sem.run_pure]
    split at e <;> cases e
    · cases hs; exact key _ _ _ (by assumption) rfl
    · cases hs
      · exact key _ _ _ (Nat.zero_le _) rfl
      · exact key _ _ _ (by assumption) rfl
    · cases hs; exact key _ _ _ (Nat.le_refl _) rfl
  rename_i hk
  have grow : ∀ (base : Option Addr) (l c : Nat) (olds : List AV) (xs : List Value) (v0 : Nat), vs = .slice base l c → c < l + k → VRs κ olds xs → xs.length = l * inf.size →
      (Builtin.firstCells inf.size l (.slice base l c)).run P w.drew = .ok xs.toArray w.drew → (2 * (l + k) + 768) * j.bytes ≤ 281474976710656 → l + k ≤ 4611686018427387904 →
      ∃ c2, l + k ≤ c2 ∧ ∃ C : Array Value, C.size = c2 * inf.size ∧ VRs κ (olds ++ news) (C.toList.take (olds ++ news).length) ∧
        (Builtin.append_ #[t, tx] ty #[vs, vx]).run P w = .ok (.slice (some ⟨w.heap.size, 0, none⟩) (l + k) c2) (w.drew.alloc (.cells C el)) := by
    intro base l c olds xs _ hvs hlt ho hxl hfirst hfit hcap
    subst hvs
    have hns : Builtin.nextslicecap (l + k) c * inf.bytes ≤ 281474976710656 := by
      rw [hby]
      exact Nat.le_trans (Nat.mul_le_mul_right _ (nextslicecap_le (by omega))) hfit
    have hrun := run_append_grow_src (P := P) w t tx ty el inf z' hut hinf hz base l c xs hfirst vx k ys hsrc' hlt (by omega) hns
    refine ⟨_, cut_ge w (l + k) c el, _, ?_, grown_cells ho hnews _, hrun⟩
    have hge := cut_ge w (l + k) c el
    rw [Array.size_append, zeroCells_size, List.size_toArray, List.length_append, hxl, hyl, hsz, ← hzl]
    rw [← Nat.add_mul, ← Nat.add_mul]
    congr 1
    omega
  split at e <;> try (cases e; done)
  · split at e <;> cases e
    rename_i hc
    cases hs
    obtain ⟨c2, hc2, C, hC, hv, hrun⟩ := grow none 0 0 [] [] 0 rfl (by omega) .nil (by simp) (by simp [Builtin.firstCells]) (by simpa using hc.1) (by omega)
    have hp := hr.heap (w' := w.drew) rfl
    have hv' : VRs κ news (C.toList.take news.length) := by simpa using hv
    refine ⟨_, _, HR.alloc hp (s := c2 * inf.size) (q := j.size) (OR.rowMore (e := el) (C := C) (hv'.ext (κ.new_ext _ _ _)) (by rw [Kap.new_sz, hC]) (Kap.new_es _ _ _ _)),
      (Step.heap (w := w) (w' := w.drew) rfl).trans (Step.alloc hp _ _ _ _), rfl, .inl ⟨_, .slice (some ⟨w.heap.size, 0, none⟩) (0 + k) c2, rfl, ?_, ?_⟩⟩
    · simp only [Sem.run_bind, hrun, Result.andThen_ok, Sem.run_pure]
      rfl
    · rw [Nat.zero_add]
      exact new_sl κ w.heap.size _ _ k none c2 (by omega) (fun _ h0 => by cases h0) (fun _ => by rw [hsz]; exact Nat.le_refl _)
  · rename_i b off len cap
    split at e <;> try (cases e; done)
    rename_i cs more hcs
    obtain ⟨O, hO, ho⟩ := hr.own b _ hcs
    cases ho with
    | cells _ _ C el' fr hvc hm hf hszC hq =>
    cases hs
    rename_i c hbn hlc hcap hzz
    have hcl : cs.length ≤ C.size := by
      have := hvc.length
      simp only [List.length_take, Array.length_toList] at this
      omega
    have fresh : ∀ (olds : List AV) (xs : List Value), c < len + k → VRs κ olds xs → xs.length = len * inf.size →
        (Builtin.firstCells inf.size len (.slice (some ⟨κ.ρ b, off, none⟩) len c)).run P w.drew = .ok xs.toArray w.drew → (2 * (len + k) + 768) * j.bytes ≤ 281474976710656 →
        len + k ≤ 4611686018427387904 → ∀ h2, Sub h2 h → h2 κ.n = none →
        Does P κ h w (do pure (.value (← Builtin.append_ #[t, tx] ty #[.slice (some ⟨κ.ρ b, off, none⟩) len c, vx]))) (some (.sl κ.n 0 (len + k) none)) (h2.set κ.n (.cells (olds ++ news) (some (j.size, el)))) (κ.n + 1) := by
      intro olds xs hlt ho hxl hfirst hfit hcap' h2 hsub hnone
      obtain ⟨c2, hc2, C2, hC2, hv, hrun⟩ := grow _ len c olds xs 0 rfl hlt ho hxl hfirst hfit hcap'
      have hp := (hr.sub hsub).heap (w' := w.drew) rfl
      have hst : Step κ h w κ h2 w.drew := (Step.heap (w := w) (w' := w.drew) rfl).sub hsub
      refine ⟨_, _, HR.alloc hp (s := c2 * inf.size) (q := j.size) (OR.rowMore (e := el) (C := C2) (hv.ext (κ.new_ext _ _ _)) (by rw [Kap.new_sz, hC2]) (Kap.new_es _ _ _ _)),
        hst.trans (Step.alloc hp _ _ _ _), rfl, .inl ⟨_, .slice (some ⟨w.heap.size, 0, none⟩) (len + k) c2, rfl, ?_, ?_⟩⟩
      · simp only [Sem.run_bind, hrun, Result.andThen_ok, Sem.run_pure]
        rfl
      · exact new_sl κ w.heap.size _ _ (len + k) none c2 (by omega) (fun _ h0 => by cases h0) (fun _ => by rw [hsz]; exact Nat.le_refl _)
    have hfn := hr.fresh_none
    split at e
    · rename_i c0
      have hc0 := hcap c0 rfl
      subst hc0
      split at e
      · rename_i hroom
        split at e <;> cases e
        rename_i hin
        have hend : off + len * inf.size + ys.length ≤ C.size := by
          rw [hyl, hsz, Nat.add_assoc, ← Nat.add_mul]; omega
        obtain ⟨C', hset, hsz', hrel⟩ := setCells_obj hO hf hend hsrc'.one
        have hrun := run_append_room_src (P := P) w t tx ty el inf hut hinf (κ.ρ b) off len c vx k ys hsrc' hroom
          (fun jj hjj => by rw [cell_at hO, Array.getElem?_eq_getElem (by omega)]; rfl) (fun jj hjj => frozen_not hO hf _)
        rw [hset] at hrun
        refine ⟨_, κ, HR.exchange hr hcs (.cells _ _ C' el' fr ?_ ?_ hf (by rw [hsz', hszC]) hq), Step.exchange hr hcs _, rfl, .inl ⟨_, _, rfl, ?_, .sl b off (len + k) (some c) c hbn hroom (fun c' h0 => by cases h0; rfl) (fun h0 => by cases h0)⟩⟩
        · rw [setsA_length, ← hsz]; exact hrel κ cs news hvc hnews
        · intro hmo; rw [setsA_length, hsz', hm hmo]
        · simp only [Sem.run_bind, hrun, Result.andThen_ok, Sem.run_pure]
      · rename_i hroom
        split at e <;> try (cases e; done)
        rename_i olds hol
        split at e <;> cases e
        rename_i hc
        obtain ⟨hol1, hol2, hol3⟩ := readN_len hol
        have hrd : VRs κ (cs.drop off) ((C.toList.drop off).take (cs.drop off).length) := by
          have := hvc.drop off
          rw [List.drop_take] at this
          simpa using this
        have hpd := hr.heap (w' := w.drew) rfl
        obtain ⟨hl1, hl2, hl3⟩ := run_loadCells_rest' (P := P) (w := w.drew) (b := κ.ρ b) (o := off) (C := C) (el := el') (fr := fr) hO hrd hol
        exact fresh olds _ (by omega) hl2 (by rw [hl3, hsz]) (by simp only [Builtin.firstCells, hsz]; exact hl1) hc.1 hc.2 h (fun _ _ h0 => h0) hfn
    · split at e <;> try (cases e; done)
      rename_i olds hol
      split at e <;> cases e
      rename_i hc
      obtain ⟨h0, hmq, hfit, hcap'⟩ := hc
      subst h0
      obtain ⟨hol1, hol2, hol3⟩ := readN_len hol
      have hrd : VRs κ cs ((C.toList.drop 0).take cs.length) := by simpa using hvc
      obtain ⟨hl1, hl2, hl3⟩ := run_loadCells_rest' (P := P) (w := w.drew) (b := κ.ρ b) (o := 0) (C := C) (el := el') (fr := fr) hO hrd hol
      by_cases hroom : len + k ≤ c
      · have hes : κ.es b = j.size := (hq _ hmq).1
        have hel : el' = el := (hq _ hmq).2
        have hcz : 0 + c * κ.es b ≤ κ.sz b := hzz rfl
        rw [hes, ← hszC] at hcz
        have hend : 0 + len * inf.size + ys.length ≤ C.size := by
          rw [hyl, hsz, Nat.add_assoc, ← Nat.add_mul]
          have := Nat.mul_le_mul_right j.size hroom
          omega
        obtain ⟨C', hset, hC'⟩ := setCells_list (w := w) ys (0 + len * inf.size) C hO hend
        have hrun := run_append_room_src (P := P) w t tx ty el inf hut hinf (κ.ρ b) 0 len c vx k ys hsrc' hroom
          (fun jj hjj => by rw [cell_at hO, Array.getElem?_eq_getElem (by omega)]; rfl) (fun jj hjj => frozen_not hO hf _)
        rw [hset] at hrun
        have hszC' : C'.size = C.size := by
          have := congrArg List.length hC'
          simp only [Array.length_toList, List.length_append, List.length_take, List.length_drop] at this
          omega
        have hv2 : VRs κ (olds ++ news) (C'.toList.take (olds ++ news).length) := by
          rw [hC', List.length_append, hol1, List.append_assoc]
          have hle : len * inf.size ≤ C.toList.length := by simp only [Array.length_toList]; omega
          have h9 : (C.toList.take (0 + len * inf.size) ++ (ys ++ C.toList.drop (0 + len * inf.size + ys.length))).take (len * j.size + news.length) = C.toList.take (len * inf.size) ++ ys := by
            rw [Nat.zero_add, ← hsz, hnl, ← List.append_assoc]
            rw [List.take_append_of_le_length (by simp only [List.length_append, List.length_take]; omega)]
            exact List.take_of_length_le (by simp only [List.length_append, List.length_take]; omega)
          rw [h9]
          refine VRs.append ?_ hnews
          rw [List.drop_zero] at hl2
          rw [hsz]
          exact hl2
        refine ⟨_, _, HR.move hr hcs (s := C.size) (q := j.size) (.cells _ _ C' el' fr (hv2.ext (κ.new_ext _ _ _)) (fun h0 => by cases h0) hf (by rw [Kap.new_sz, hszC']) (fun q' h0 => by cases h0; exact ⟨Kap.new_es _ _ _ _, hel⟩)),
          Step.move hr hcs _ _ _ _, rfl, .inl ⟨_, _, rfl, ?_, new_sl κ (κ.ρ b) C.size j.size (len + k) none c hroom (fun _ h0 => by cases h0) (fun _ => by omega)⟩⟩
        simp only [Sem.run_bind, hrun, Result.andThen_ok, Sem.run_pure]
      · exact fresh olds _ (by omega) hl2 (by rw [hl3, hsz]) (by simp only [Builtin.firstCells, hsz]; exact hl1) hfit hcap' (h.del b) (Sub.del h b) (by
          by_cases e0 : κ.n = b
          · rw [e0, Hp.del_same]
          · rw [Hp.del_ne h e0]; exact hfn)

end Go.Acx
