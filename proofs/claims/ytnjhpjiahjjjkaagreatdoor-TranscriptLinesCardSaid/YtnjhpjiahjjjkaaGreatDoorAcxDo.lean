/- Acx, part 11: all operations that call nothing, under one name. -/
import Derived.Test.YtnjhpjiahjjjkaaGreatDoorAcxStruct
import Derived.Test.YtnjhpjiahjjjkaaGreatDoorAcxUns
namespace Go.Acx

variable {P : Program} {κ : Kap} {h : Hp} {w : World} {T : Tys} {m : Nat} {f : Fr} {a : Act}

def txtA (op : BinOp) (n : Nat) (t : List UInt8) : Option AV :=
  match op with
  | .eql => if n = t.length then none else some (.bool false)
  | .neq => if n = t.length then none else some (.bool true)
  | _ => none

/-- Operations that give a value and leave memory alone. -/
def opP (T : Tys) (f : Fr) (h : Hp) (op : Op) : Option AV :=
  match op with
  | .move x | .assign x => evalA f x
  | .pick c x y => match evalA f c with
    | some (.bool b) => if b then evalA f x else evalA f y
    | _ => none
  | .load t x => match T t, evalA f x with
    | some i, some p => loadA h i p
    | _, _ => none
  | .nilCheck x => match evalA f x with
    | some v => if nilOk v then some v else none
    | none => none
  | .binOp op t x y _ => match evalA f x, evalA f y with
    | some u, some v => match u, v with
      | .nili, .nili => if Region.isConst x || Region.isConst y then binA T op t u v else none
      | .agg a, .agg b => eqStructA T op t a b
      | .txt _ n, .str s => txtA op n s
      | .str s, .txt _ n => txtA op n s
      | u, v => binA T op t u v
    | _, _ => none
  | .unOp op _ x => match evalA f x with
    | some u => unA op u
    | none => none
  | .convert s d x => match evalA f x with
    | some u => convA T h s d u
    | none => none
  | .makeInterface t x => match T t, evalA f x with
    | some i, some u => (match i.desc with
      | .interface _ => none
      | _ => some (.iface t u))
    | _, _ => none
  | .makeFunc fn first captured => match evalsA f first.toList, evalsA f captured.toList with
    | some a, some b => some (.fn fn a b)
    | _, _ => none
  | .slice t x lo hi none => match evalA f x, optA f lo, optA f hi with
    | some u, some l, some r => sliceA T t u l r
    | _, _, _ => none
  | .fieldAddr t x k => match evalA f x with
    | some u => fieldAddrA T t u k
    | none => none
  | .field t x k => match evalA f x with
    | some u => fieldA T t u k
    | none => none
  | .indexAddr t x ix => match evalA f x, evalA f ix with
    | some u, some v => indexAddrA T t u v
    | _, _ => none
  | .index t x ix => match evalA f x, evalA f ix with
    | some u, some v => indexA T t u v
    | _, _ => none
  | .lookup t x ix ok => match evalA f x, evalA f ix with
    | some u, some v => lookupA T h t u v ok
    | _, _ => none
  | .extract x k => match evalA f x with
    | some (.tup vs) => vs[k]?
    | _ => none
  | .build t ps => match pairsA f ps.toList with
    | some l => buildA T t l
    | none => none
  | .call c => match c.callee with
    | .builtin .len => match c.argTypes[0]?, evalsA f c.args.toList with
      | some t, some [u] => (match lenA T h t u with
        | some n => some (.int .i64 (n : Int))
        | none => none)
      | _, _ => none
    | .builtin .max => match evalsA f c.args.toList with
      | some (u :: us) => mmA true u us
      | _ => none
    | .builtin .min => match evalsA f c.args.toList with
      | some (u :: us) => mmA false u us
      | _ => none
    | .builtin .unsafeSliceData => match evalsA f c.args.toList with
      | some [u] => sliceDataA u
      | _ => none
    | _ => none
  | _ => none

theorem optA_ok (r : FR κ m f a) {o : Option Operand} {u : Option AV} (e : optA f o = some u) : (∀ v, u = some v → ∃ x, o.map a.eval = some x ∧ VR κ v x) ∧ (u = none → o.map a.eval = none) := by
  cases o with
  | none => cases e; exact ⟨(fun v h => by cases h), fun _ => rfl⟩
  | some x =>
    simp only [optA, Option.map_eq_some_iff] at e
    obtain ⟨v, hv, rfl⟩ := e
    exact ⟨(fun v' h' => by cases h'; exact ⟨_, rfl, evalA_ok r hv⟩), (fun h' => by cases h')⟩

theorem binA_ok (tok : TOK P T) {op : BinOp} {t : TypeId} {u v r : AV} {x y : Value} (hu : VR κ u x) (hv : VR κ v y) (e : binA T op t u v = some r) (w : World) :
    ∃ z, (binOp op t x y).run P w = .ok z w ∧ VR κ r z := by
  unfold binA at e
  split at e
  · cases hu; cases hv
    split at e
    · exact shiftA_ok (.inl rfl) e t w
    · exact shiftA_ok (.inr rfl) e t w
    · rename_i h1 h2
      split at e <;> try (cases e; done)
      rename_i hk
      subst hk
      exact intA_ok h1 h2 e t w
  · cases hu; cases hv
    rename_i s hs s' hs'
    subst hs; subst hs'
    exact strA_ok e t w
  · rename_i hni hns
    have shape : ∀ b, eqA T 1 t u v = some b → binOp .eql t x y = (do pure (.bool (← Op.equal t x y))) ∧ binOp .neq t x y = (do pure (.bool (!(← Op.equal t x y)))) := by
      intro b hb
      simp only [eqA] at hb
      split at hb
      · cases hb
      split at hb <;> try (cases hb; done)
      case h_2 => exact absurd rfl (hni _ _ _ _ rfl)
      case h_3 => exact absurd rfl (hns _ _ rfl)
      all_goals (cases hu; cases hv; exact ⟨rfl, rfl⟩)
    split at e <;> try (cases e; done)
    · rw [Option.map_eq_some_iff] at e
      obtain ⟨b, hb, rfl⟩ := e
      have heq : (Op.equal t x y).run P w = .ok b w := eqA_ok' tok hu hv hb w 9999
      exact ⟨.bool b, by rw [(shape b hb).1]; simp only [Sem.run_bind, heq, Result.andThen_ok, Sem.run_pure], .bool _⟩
    · rw [Option.map_eq_some_iff] at e
      obtain ⟨b, hb, rfl⟩ := e
      have heq : (Op.equal t x y).run P w = .ok b w := eqA_ok' tok hu hv hb w 9999
      exact ⟨.bool !b, by rw [(shape b hb).2]; simp only [Sem.run_bind, heq, Result.andThen_ok, Sem.run_pure], .bool _⟩


theorem not_aggA {op : BinOp} {t : TypeId} {cs : List AV} {v r : AV} (e : binA T op t (.agg cs) v = some r) : False := by
  have key : ∀ b, eqA T 1 t (.agg cs) v = some b → False := by
    intro b hb
    simp only [eqA] at hb
    split at hb
    · cases hb
    · split at hb
      all_goals first
        | (rename_i h0; cases h0; done)
        | (rename_i h0 _; cases h0; done)
        | (rename_i h0 _ _; cases h0; done)
        | (cases hb; done)
        | skip
  unfold binA at e
  split at e
  · rename_i h0; cases h0
  · rename_i h0; cases h0
  · split at e <;> try (cases e; done)
    · rw [Option.map_eq_some_iff] at e
      obtain ⟨b, hb, _⟩ := e
      exact key b hb
    · rw [Option.map_eq_some_iff] at e
      obtain ⟨b, hb, _⟩ := e
      exact key b hb

theorem run_eqGuard {op : BinOp} {t : TypeId} {u v r : AV} {x y : Value} (hu : VR κ u x) (hv : VR κ v y) (e : binA T op t u v = some r) (xo yo : Operand)
    (hn : u = .nili → v = .nili → (Region.isConst xo || Region.isConst yo) = true) (w : World) : (eqGuard op t xo yo x y).run P w = .ok () w := by
  cases op
  case eql =>
    cases hu <;> try rfl
    · cases hv <;> try rfl
      have := hn rfl rfl
      cases xo <;> cases yo <;> first | rfl | (simp [Region.isConst] at this)
    · exact (not_aggA e).elim
  case neq =>
    cases hu <;> try rfl
    · cases hv <;> try rfl
      have := hn rfl rfl
      cases xo <;> cases yo <;> first | rfl | (simp [Region.isConst] at this)
    · exact (not_aggA e).elim
  all_goals rfl


theorem opP_ok (tok : TOK P T) (hr : HR κ h w) (r : FR κ m f a) (o : Oper) {u : AV} (e : opP T f h o.op = some u) : ∃ y, (execOp a.eval o).run P w = .ok (.value y) w ∧ VR κ u y := by
  obtain ⟨dst, op, type, pos, after, guard⟩ := o
  have lift : ∀ {s : Sem Value} {u : AV}, (∃ y, s.run P w = .ok y w ∧ VR κ u y) → ∃ y, (do pure (Next.value (← s)) : Sem Next).run P w = .ok (.value y) w ∧ VR κ u y := by
    rintro s u ⟨y, hy, hu⟩
    exact ⟨y, by simp only [Sem.run_bind, hy, Result.andThen_ok, Sem.run_pure], hu⟩
  cases op <;> simp only [opP] at e <;> try (cases e; done)
  case move x => exact ⟨_, rfl, evalA_ok r e⟩
  case assign x => exact ⟨_, rfl, evalA_ok r e⟩
  case pick c x y =>
    split at e <;> try (cases e; done)
    rename_i b hb
    have hc := evalA_ok r hb
    cases hcv : a.eval c <;> rw [hcv] at hc <;> cases hc
    simp only [execOp, hcv, asBool, Sem.run_bind, Sem.run_pure, Result.andThen_ok]
    cases b
    · exact ⟨_, rfl, evalA_ok r e⟩
    · exact ⟨_, rfl, evalA_ok r e⟩
  case load t x =>
    split at e <;> try (cases e; done)
    rename_i i p hi hp
    exact lift (loadA_ok tok hr hi (evalA_ok r hp) e)
  case nilCheck x =>
    split at e <;> try (cases e; done)
    rename_i v hv
    split at e <;> cases e
    rename_i hn
    exact ⟨_, nilOk_ok (evalA_ok r hv) hn _ x rfl a.eval rfl w, evalA_ok r hv⟩
  case binOp op t x y yt =>
    split at e <;> try (cases e; done)
    rename_i u1 u2 h1 h2
    by_cases hagg : ∃ a b, u1 = .agg a ∧ u2 = .agg b
    · obtain ⟨a1, b1, rfl, rfl⟩ := hagg
      simp only at e
      have k1 := evalA_ok r h1
      have k2 := evalA_ok r h2
      cases hx1 : a.eval x <;> rw [hx1] at k1 <;> cases k1
      cases hx2 : a.eval y <;> rw [hx2] at k2 <;> cases k2
      rename_i X hX Y hY
      obtain ⟨hg, z, hz, hu⟩ := eqStructA_ok (P := P) tok hX hY e x y w
      refine lift ⟨z, ?_, hu⟩
      rw [hx1, hx2]
      simp only [Sem.run_bind, hg, Result.andThen_ok, hz]
    by_cases htxt : ∃ a n b, u1 = .txt a n ∧ u2 = .str b
    · obtain ⟨a1, n1, b1, rfl, rfl⟩ := htxt
      simp only at e
      have k1 := evalA_ok r h1
      have k2 := evalA_ok r h2
      cases hx1 : a.eval x <;> rw [hx1] at k1 <;> cases k1
      cases hx2 : a.eval y <;> rw [hx2] at k2 <;> cases k2
      rename_i s1 hs1 s2 hs2
      subst hs2
      have hne : (s1.data.toList == s2.data.toList) = false ∧ (op = .eql ∧ u = .bool false ∨ op = .neq ∧ u = .bool true) := by
        unfold txtA at e
        split at e <;> try (cases e; done)
        all_goals
          split at e <;> cases e
          rename_i hl
          refine ⟨?_, by simp⟩
          rw [beq_eq_false_iff_ne]
          intro he
          exact hl (by rw [← he, hs1]; simp)
      have hstr : strA op s1.data.toList s2.data.toList = some u := by
        rcases hne.2 with ⟨rfl, rfl⟩ | ⟨rfl, rfl⟩ <;> simp only [strA, hne.1] <;> rfl
      obtain ⟨z, hz, hu⟩ := strA_ok (P := P) (κ := κ) hstr t w
      have hg : (eqGuard op t x y (.string s1) (.string s2)).run P w = .ok () w := by cases op <;> rfl
      refine lift ⟨z, ?_, hu⟩
      rw [hx1, hx2]
      simp only [Sem.run_bind, hg, Result.andThen_ok, hz]
    by_cases htxu : ∃ a n b, u1 = .str b ∧ u2 = .txt a n
    · obtain ⟨a1, n1, b1, rfl, rfl⟩ := htxu
      simp only at e
      have k1 := evalA_ok r h1
      have k2 := evalA_ok r h2
      cases hx1 : a.eval x <;> rw [hx1] at k1 <;> cases k1
      cases hx2 : a.eval y <;> rw [hx2] at k2 <;> cases k2
      rename_i s1 hs1 s2 hs2
      subst hs1
      have hne : (s1.data.toList == s2.data.toList) = false ∧ (op = .eql ∧ u = .bool false ∨ op = .neq ∧ u = .bool true) := by
        unfold txtA at e
        split at e <;> try (cases e; done)
        all_goals
          split at e <;> cases e
          rename_i hl
          refine ⟨?_, by simp⟩
          rw [beq_eq_false_iff_ne]
          intro he
          exact hl (by rw [he, hs2]; simp)
      have hstr : strA op s1.data.toList s2.data.toList = some u := by
        rcases hne.2 with ⟨rfl, rfl⟩ | ⟨rfl, rfl⟩ <;> simp only [strA, hne.1] <;> rfl
      obtain ⟨z, hz, hu⟩ := strA_ok (P := P) (κ := κ) hstr t w
      have hg : (eqGuard op t x y (.string s1) (.string s2)).run P w = .ok () w := by cases op <;> rfl
      refine lift ⟨z, ?_, hu⟩
      rw [hx1, hx2]
      simp only [Sem.run_bind, hg, Result.andThen_ok, hz]
    have e' : binA T op t u1 u2 = some u ∧ (u1 = .nili → u2 = .nili → (Region.isConst x || Region.isConst y) = true) := by
      split at e
      · split at e
        · rename_i hc; exact ⟨e, fun _ _ => hc⟩
        · cases e
      · exact absurd ⟨_, _, rfl, rfl⟩ hagg
      · exact absurd ⟨_, _, _, rfl, rfl⟩ htxt
      · exact absurd ⟨_, _, _, rfl, rfl⟩ htxu
      · rename_i hnn _ _ _
        exact ⟨e, fun a b => absurd b (hnn a)⟩
    obtain ⟨z, hz, hu⟩ := binA_ok tok (evalA_ok r h1) (evalA_ok r h2) e'.1 w
    have hg := run_eqGuard (P := P) (evalA_ok r h1) (evalA_ok r h2) e'.1 x y e'.2 w
    refine lift ⟨z, ?_, hu⟩
    simp only [Sem.run_bind, hg, Result.andThen_ok, hz]
  case unOp op t x =>
    split at e <;> try (cases e; done)
    rename_i v hv
    exact lift (unA_ok (evalA_ok r hv) e w)
  case convert s d x =>
    split at e <;> try (cases e; done)
    rename_i v hv
    exact lift (convA_ok tok hr (evalA_ok r hv) e)
  case makeInterface t x =>
    split at e <;> try (cases e; done)
    rename_i i v hi hv
    have ui := tok.und _ _ hi
    split at e <;> cases e
    rename_i hni
    refine lift ⟨.iface t (a.eval x), ?_, .iface _ _ _ (evalA_ok r hv)⟩
    simp only [Instr.makeInterface, Sem.run_bind, run_underlying ui, Result.andThen_ok, Sem.run_pure]
  case makeFunc fn first captured =>
    split at e <;> cases e
    rename_i l1 l2 h1 h2
    refine lift ⟨_, rfl, .fn _ _ _ _ _ ?_ ?_⟩
    · simpa using evalsA_ok r h1
    · simpa using evalsA_ok r h2
  case slice t x lo hi mx =>
    cases mx with
    | some _ => cases e
    | none =>
      simp only at e
      split at e <;> try (cases e; done)
      rename_i v l q hv hl hq
      obtain ⟨l1, l2⟩ := optA_ok r hl
      obtain ⟨q1, q2⟩ := optA_ok r hq
      exact lift (sliceA_ok tok (evalA_ok r hv) l1 l2 q1 q2 e w)
  case fieldAddr t x k =>
    split at e <;> try (cases e; done)
    rename_i v hv
    exact lift (fieldAddrA_ok tok (evalA_ok r hv) e w)
  case field t x k =>
    split at e <;> try (cases e; done)
    rename_i v hv
    exact lift (fieldA_ok tok (evalA_ok r hv) e w)
  case indexAddr t x ix =>
    split at e <;> try (cases e; done)
    rename_i v i hv hi
    exact lift (indexAddrA_ok tok (evalA_ok r hv) (evalA_ok r hi) e w)
  case index t x ix =>
    split at e <;> try (cases e; done)
    rename_i v i hv hi
    exact lift (indexA_ok tok (evalA_ok r hv) (evalA_ok r hi) e w)
  case lookup t x ix ok =>
    split at e <;> try (cases e; done)
    rename_i v i hv hi
    exact lift (lookupA_ok tok hr (evalA_ok r hv) (evalA_ok r hi) e)
  case extract x k =>
    split at e <;> try (cases e; done)
    rename_i vs hv
    have hc := evalA_ok r hv
    cases hcv : a.eval x <;> rw [hcv] at hc <;> cases hc
    rename_i C hC
    obtain ⟨y, hy, hu⟩ := hC.get e
    refine lift ⟨y, ?_, hu⟩
    have hy' : C[k]? = some y := by simpa using hy
    simp only [hcv, Instr.extract, hy', Sem.run_pure]
  case build t ps =>
    split at e <;> try (cases e; done)
    rename_i l hl
    obtain ⟨h1, h2⟩ := pairsA_ok r hl
    exact lift (buildA_ok (qs := ps.map fun (i, x) => (i, a.eval x)) tok (by simpa using h1) (by simpa using h2) e w)
  case call c =>
    obtain ⟨callee, args, ats⟩ := c
    simp only at e
    split at e <;> try (cases e; done)
    · split at e <;> try (cases e; done)
      rename_i t v ht hv
      split at e <;> cases e
      rename_i n hn
      have hvs := evalsA_ok r hv
      have hargs : ∃ x, (args.map a.eval)[0]? = some x ∧ VR κ v x := by
        generalize hq : args.toList.map a.eval = q at hvs
        cases hvs with
        | cons _ x _ _ hx hxs =>
          refine ⟨x, ?_, hx⟩
          have := congrArg (fun l => l[0]?) hq
          simpa using this
      obtain ⟨x, hx, hxv⟩ := hargs
      exact ⟨_, by simp only [execOp, resolve, invoke, builtin, Sem.run_bind, Sem.run_pure, Result.andThen_ok, lenA_ok tok hr hxv hn ats _ _ ht hx], .int _ _⟩
    · split at e <;> try (cases e; done)
      rename_i v vs hv
      have hvs := evalsA_ok r hv
      generalize hq : args.toList.map a.eval = q at hvs
      cases hvs with
      | cons _ x _ xs hx hxs =>
        obtain ⟨y, hy, hu⟩ := maxA_ok (P := P) (w := w) hx hxs e
        refine ⟨y, ?_, hu⟩
        have hq' : (args.map a.eval).toList = x :: xs := by simpa using hq
        simp only [execOp, resolve, invoke, builtin, Sem.run_bind, Sem.run_pure, Result.andThen_ok, Builtin.max_, hq', hy]
    · split at e <;> try (cases e; done)
      rename_i v vs hv
      have hvs := evalsA_ok r hv
      generalize hq : args.toList.map a.eval = q at hvs
      cases hvs with
      | cons _ x _ xs hx hxs =>
        obtain ⟨y, hy, hu⟩ := minA_ok (P := P) (w := w) hx hxs e
        refine ⟨y, ?_, hu⟩
        have hq' : (args.map a.eval).toList = x :: xs := by simpa using hq
        simp only [execOp, resolve, invoke, builtin, Sem.run_bind, Sem.run_pure, Result.andThen_ok, Builtin.min_, hq', hy]
    · split at e <;> try (cases e; done)
      rename_i v hv
      have hvs := evalsA_ok r hv
      generalize hq : args.toList.map a.eval = q at hvs
      cases hvs with
      | cons _ x _ xs hx hxs =>
        cases hxs
        obtain ⟨y, hy, hu⟩ := sliceDataA_ok (P := P) hx e ats type w
        refine ⟨y, ?_, hu⟩
        have hq' : args.map a.eval = #[x] := by
          apply Array.toList_inj.1
          simpa using hq
        simp only [execOp, resolve, invoke, builtin, Sem.run_bind, Sem.run_pure, Result.andThen_ok, hq', hy]


/-- Operations that write memory and give no value. -/
def opS (T : Tys) (f : Fr) (h : Hp) (op : Op) : Option Hp :=
  match op with
  | .store t x y => match T t, evalA f x, evalA f y with
    | some i, some p, some v => storeA h i p v
    | _, _, _ => none
  | .mapUpdate t x k v | .insert t x k v => match evalA f x, evalA f k, evalA f v with
    | some p, some q, some u => updateA T h t p q u
    | _, _, _ => none
  | _ => none

theorem opS_ok (tok : TOK P T) (hr : HR κ h w) (r : FR κ m f a) (o : Oper) {h' : Hp} (e : opS T f h o.op = some h') : Does P κ h w (execOp a.eval o) none h' κ.n := by
  obtain ⟨dst, op, type, pos, after, guard⟩ := o
  have lift : ∀ {s : Sem Unit}, (∃ w', s.run P w = .ok () w' ∧ HR κ h' w' ∧ Step κ h w κ h' w') → Does P κ h w (do s; pure .skip) none h' κ.n := by
    rintro s ⟨w', hy, h1, h2⟩
    exact ⟨w', κ, h1, h2, rfl, .inr ⟨rfl, by simp only [Sem.run_bind, hy, Result.andThen_ok, Sem.run_pure]⟩⟩
  cases op <;> simp only [opS] at e <;> try (cases e; done)
  case store t x y =>
    split at e <;> try (cases e; done)
    rename_i i p v hi hp hv
    exact lift (storeA_ok tok hr hi (evalA_ok r hp) (evalA_ok r hv) e)
  case mapUpdate t x k v =>
    split at e <;> try (cases e; done)
    rename_i p q u hp hq hu
    exact lift (updateA_ok tok hr (evalA_ok r hp) (evalA_ok r hq) (evalA_ok r hu) e)
  case insert t x k v =>
    split at e <;> try (cases e; done)
    rename_i p q u hp hq hu
    exact lift (updateA_ok tok hr (evalA_ok r hp) (evalA_ok r hq) (evalA_ok r hu) e)

/-- Operations that make memory. -/
def opN (T : Tys) (f : Fr) (h : Hp) (n : Nat) (op : Op) : Option (Option AV × Hp × Nat) :=
  match op with
  | .alloc t => allocA T h n t
  | .box _ x => match evalA f x with
    | some v => some (boxA h n v)
    | none => none
  | .buildSlice t len ps => match pairsA f ps.toList with
    | some l => buildSliceA T h n t len l
    | none => none
  | .makeSlice t l c => match evalA f l, evalA f c with
    | some u, some v => makeSliceA T h n t u v
    | _, _ => none
  | .makeMap t none => some (some (.map n), h.set n (.map []), n + 1)
  | .call c => match c.callee with
    | .builtin .append => match c.argTypes.toList, evalsA f c.args.toList with
      | [t, tx], some [s, x] => appendA T h n t tx s x
      | _, _ => none
    | .builtin .unsafeString => match c.argTypes[0]?, evalsA f c.args.toList with
      | some pt, some [p, .int _ k] => unsStrA T h n pt p k
      | _, _ => none
    | _ => none
  | _ => none

theorem append_op (tok : TOK P T) (hr : HR κ h w) {dst : Option Tmp} {type : TypeId} {pos : String} {after : Array Edge} {guard : Option (Nat × Bool)} {args : Array Operand} {ats : Array TypeId}
    {t tx : TypeId} {s x : AV} {x1 x2 : Value} (hx1 : VR κ s x1) (hx2 : VR κ x x2) {u : Option AV} {h' : Hp} {n' : Nat} (e : appendA T h κ.n t tx s x = some (u, h', n'))
    (hargs : args.map a.eval = #[x1, x2]) (hats : ats = #[t, tx]) : Does P κ h w (execOp a.eval ⟨dst, .call ⟨.builtin .append, args, ats⟩, type, pos, after, guard⟩) u h' n' := by
  have k1 : execOp a.eval ⟨dst, .call ⟨.builtin .append, args, ats⟩, type, pos, after, guard⟩ = (do pure (Next.value (← Builtin.append_ ats type (args.map a.eval)))) := rfl
  rw [k1, hargs, hats]
  exact appendA_ok (P := P) tok hr (ty := type) hx1 hx2 e

theorem opN_ok (tok : TOK P T) (hr : HR κ h w) (r : FR κ m f a) (o : Oper) {u : Option AV} {h' : Hp} {n' : Nat} (e : opN T f h κ.n o.op = some (u, h', n')) :
    Does P κ h w (execOp a.eval o) u h' n' := by
  obtain ⟨dst, op, type, pos, after, guard⟩ := o
  cases op <;> simp only [opN] at e <;> try (cases e; done)
  case alloc t => exact allocA_ok tok hr e
  case box t x =>
    split at e <;> try (cases e; done)
    rename_i v hv
    simp only [boxA, Option.some.injEq, Prod.mk.injEq] at e
    obtain ⟨rfl, rfl, rfl⟩ := e
    exact boxA_ok (P := P) hr (t := t) (evalA_ok r hv)
  case buildSlice t len ps =>
    split at e <;> try (cases e; done)
    rename_i l hl
    obtain ⟨h1, h2⟩ := pairsA_ok r hl
    have hq : (ps.map fun (i, x) => (i, a.eval x)).toList = ps.toList.map fun (i, x) => (i, a.eval x) := by simp
    have h1' : l.map (·.1) = (ps.map fun (i, x) => (i, a.eval x)).toList.map (·.1) := by rw [hq]; exact h1
    have h2' : VRs κ (l.map (·.2)) ((ps.map fun (i, x) => (i, a.eval x)).toList.map (·.2)) := by rw [hq]; exact h2
    have k1 : execOp a.eval ⟨dst, .buildSlice t len ps, type, pos, after, guard⟩ = (do pure (Next.value (← Instr.buildSlice t len (ps.map fun (i, x) => (i, a.eval x))))) := rfl
    rw [k1]
    exact buildSliceA_ok (P := P) tok hr h1' h2' e
  case makeSlice t l c =>
    split at e <;> try (cases e; done)
    rename_i u1 u2 h1 h2
    exact makeSliceA_ok tok hr (evalA_ok r h1) (evalA_ok r h2) e
  case makeMap t hint =>
    cases hint with
    | some _ => cases e
    | none =>
      simp only [Option.some.injEq, Prod.mk.injEq] at e
      obtain ⟨rfl, rfl, rfl⟩ := e
      refine Does.new hr (O := .map #[] 0) 0 0 ?_ (.map _ _ _ .nil .nil (by simp) (by simp)) ?_ (x := .map (some w.heap.size))
      · simp only [execOp, Instr.makeMap, Option.map_none, Sem.run_bind, run_newObj, Result.andThen_ok, Sem.run_pure]
      · have := VR.map (κ := κ.new w.heap.size 0 0) κ.n (Nat.lt_succ_self _)
        rwa [Kap.new_ρ] at this
  case call c =>
    obtain ⟨callee, args, ats⟩ := c
    simp only at e
    split at e <;> try (cases e; done)
    · split at e <;> try (cases e; done)
      rename_i t tx s x hts hv
      have hvs := evalsA_ok r hv
      generalize hq : args.toList.map a.eval = q at hvs
      cases hvs with
      | cons _ x1 _ _ hx1 hxs =>
      cases hxs with
      | cons _ x2 _ _ hx2 hxs =>
      cases hxs
      have hargs : args.map a.eval = #[x1, x2] := by
        apply Array.toList_inj.1
        simpa using hq
      have hats : ats = #[t, tx] := by
        apply Array.toList_inj.1
        simpa using hts
      exact append_op tok hr hx1 hx2 e hargs hats
    · split at e <;> try (cases e; done)
      rename_i pt p kk k hat hv
      have hvs := evalsA_ok r hv
      generalize hq : args.toList.map a.eval = q at hvs
      cases hvs with
      | cons _ x1 _ _ hx1 hxs =>
      cases hxs with
      | cons _ x2 _ _ hx2 hxs =>
      cases hxs
      cases hx2
      have hargs : args.map a.eval = #[x1, .int kk k] := by
        apply Array.toList_inj.1
        simpa using hq
      have k1 : execOp a.eval ⟨dst, .call ⟨.builtin .unsafeString, args, ats⟩, type, pos, after, guard⟩ = (do pure (Next.value (← Builtin.unsafeString_ ats type (args.map a.eval)))) := rfl
      rw [k1, hargs]
      exact unsStrA_ok tok hr hat hx1 e

/-- One operation that calls nothing: its value (none: it gives none), the heap and the next free name behind it. -/
def opD (T : Tys) (f : Fr) (h : Hp) (n : Nat) (op : Op) : Option (Option AV × Hp × Nat) :=
  match opP T f h op with
  | some v => some (some v, h, n)
  | none => match opS T f h op with
    | some h' => some (none, h', n)
    | none => opN T f h n op

theorem opD_ok (tok : TOK P T) (hr : HR κ h w) (r : FR κ m f a) (o : Oper) {u : Option AV} {h' : Hp} {n' : Nat} (e : opD T f h κ.n o.op = some (u, h', n')) :
    Does P κ h w (execOp a.eval o) u h' n' := by
  unfold opD at e
  split at e
  · rename_i v hv
    cases e
    obtain ⟨y, hy, hu⟩ := opP_ok tok hr r o hv
    exact Does.quiet hr hy hu
  · split at e
    · rename_i h2 hs
      cases e
      exact opS_ok tok hr r o hs
    · exact opN_ok tok hr r o e

end Go.Acx
