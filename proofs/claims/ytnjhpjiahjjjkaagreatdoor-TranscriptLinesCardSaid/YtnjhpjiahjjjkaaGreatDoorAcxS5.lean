/- Acx, part 33: what a call hands back is frozen: rows of its own become values that nobody writes. -/
import Derived.Test.YtnjhpjiahjjjkaaGreatDoorAcxS4
namespace Go.Acx

variable {P : Program} {T : Tys} {m : Nat} {κ : Kap} {h : Hp} {w : World}

def FzO (off : Nat) (cells : List AV) : Option AObj → Prop
  | some (.cells cs _) => cells = (cs.drop off).take cells.length
  | _ => False
mutual
def Fz (h : Hp) : AV → AV → Prop
  | .sl i off len _, v => match v with
    | .imm cells len' => len' = len ∧ FzO off cells (h i)
    | _ => False
  | .nils, v => v = .nils ∨ v = .imm [] 0
  | .imm cs n, v => match v with
    | .imm cs' n' => n' = n ∧ cs' = cs.take cs'.length
    | _ => False
  | .agg l, v => match v with
    | .agg l' => FzL h l l'
    | _ => False
  | .tup l, v => match v with
    | .tup l' => FzL h l l'
    | _ => False
  | r, v => r = v
def FzL (h : Hp) : List AV → List AV → Prop
  | [], l' => l' = []
  | r :: l, l' => match l' with
    | v :: l' => Fz h r v ∧ FzL h l l'
    | [] => False
end

/-- All own rows are given up. -/
noncomputable def Kap.shutAll (κ : Kap) (h : Hp) (w : World) : Kap :=
  { κ with I := fun b => open Classical in if ∃ i o, h i = some o ∧ κ.ρ i = b then w.heap[b]? else κ.I b }

theorem Kap.shutAll_ext (hr : HR κ h w) : Ext κ (κ.shutAll h w) :=
  ⟨Nat.le_refl _, fun _ _ => rfl, fun b o hb => by
    simp only [Kap.shutAll]
    split
    · rename_i hh
      obtain ⟨i, o', hi, rfl⟩ := hh
      have := hr.sep i o' hi
      rw [hb] at this; cases this
    · exact hb, fun _ _ => rfl, fun _ _ => rfl⟩

mutual
theorem VR.freeze (hr : HR κ h w) : ∀ {r v : AV} {x : Value}, VR κ r x → Fz h r v → VR (κ.shutAll h w) v x
  | .sl i off len cap, v, x, hv, e => by
    cases v with
    | imm cells len' =>
      obtain ⟨rfl, e⟩ := e
      cases hv with
      | sl _ _ _ _ c hlt hl hc hz =>
        cases ho : h i with
        | none => rw [ho] at e; exact e.elim
        | some o => cases o with
          | map es => rw [ho] at e; exact e.elim
          | cells cs q =>
            rw [ho] at e
            replace e : cells = (cs.drop off).take cells.length := e
            obtain ⟨O, hO, hor⟩ := hr.own i _ ho
            cases hor with
            | cells _ _ C el fr hvs hm hf hsz hq =>
              refine .imm cells len' (κ.ρ i) off C el fr c ?_ ?_ hl
              · simp only [Kap.shutAll]
                rw [if_pos ⟨i, _, ho, rfl⟩]; exact hO
              · have h1 := (hvs.drop off).take cells.length
                rw [← e] at h1
                have h2 := h1.ext (Kap.shutAll_ext hr)
                have hlen : cells.length ≤ cs.length - off := by
                  have := congrArg List.length e
                  simp only [List.length_take, List.length_drop] at this
                  omega
                rw [List.drop_take, List.take_take] at h2
                have : min cells.length (cs.length - off) = cells.length := by omega
                rw [this] at h2
                exact h2
    | _ => exact e.elim
  | .nils, v, x, hv, e => by
    cases hv
    rcases e with rfl | rfl
    · exact .nils
    · exact .immNil none 0
  | .imm cs n, v, x, hv, e => by
    cases v with
    | imm cs' n' =>
      obtain ⟨rfl, e⟩ := e
      have := hv.ext (Kap.shutAll_ext hr)
      cases this with
      | immNil a c =>
        have : cs' = [] := by rw [e]; simp
        subst this
        exact .immNil a c
      | imm _ _ b off C el fr c hI hs hl =>
        refine .imm cs' n' b off C el fr c hI ?_ hl
        have h1 := hs.take cs'.length
        rw [← e, List.take_take] at h1
        have hlen : cs'.length ≤ cs.length := by
          have := congrArg List.length e
          simp only [List.length_take] at this
          omega
        have : min cs'.length cs.length = cs'.length := by omega
        rw [this] at h1
        exact h1
    | _ => exact e.elim
  | .agg l, v, x, hv, e => by
    cases v with
    | agg l' => cases hv with
      | agg _ C hs => exact .agg l' C (VRs.freeze hr hs e)
    | _ => exact e.elim
  | .tup l, v, x, hv, e => by
    cases v with
    | tup l' => cases hv with
      | tup _ C hs => exact .tup l' C (VRs.freeze hr hs e)
    | _ => exact e.elim
  | .bool b, v, x, hv, e => by cases e; exact hv.ext (Kap.shutAll_ext hr)
  | .int k z, v, x, hv, e => by cases e; exact hv.ext (Kap.shutAll_ext hr)
  | .str s, v, x, hv, e => by cases e; exact hv.ext (Kap.shutAll_ext hr)
  | .ptr i o, v, x, hv, e => by cases e; exact hv.ext (Kap.shutAll_ext hr)
  | .nilp, v, x, hv, e => by cases e; exact hv.ext (Kap.shutAll_ext hr)
  | .iptr cs, v, x, hv, e => by cases e; exact hv.ext (Kap.shutAll_ext hr)
  | .map i, v, x, hv, e => by cases e; exact hv.ext (Kap.shutAll_ext hr)
  | .nilm, v, x, hv, e => by cases e; exact hv.ext (Kap.shutAll_ext hr)
  | .fn g a b, v, x, hv, e => by cases e; exact hv.ext (Kap.shutAll_ext hr)
  | .nilf, v, x, hv, e => by cases e; exact hv.ext (Kap.shutAll_ext hr)
  | .iface t u, v, x, hv, e => by cases e; exact hv.ext (Kap.shutAll_ext hr)
  | .nili, v, x, hv, e => by cases e; exact hv.ext (Kap.shutAll_ext hr)
  | .txt c n, v, x, hv, e => by cases e; exact hv.ext (Kap.shutAll_ext hr)
theorem VRs.freeze (hr : HR κ h w) : ∀ {r v : List AV} {x : List Value}, VRs κ r x → FzL h r v → VRs (κ.shutAll h w) v x
  | [], v, x, hv, e => by cases hv; cases e; exact .nil
  | r :: l, v, x, hv, e => by
    cases v with
    | nil => exact e.elim
    | cons v l' => cases hv with
      | cons _ x _ xs h1 h2 => exact .cons _ _ _ _ (VR.freeze hr h1 e.1) (VRs.freeze hr h2 e.2)
end

theorem HR.freeze (hr : HR κ h w) : HR (κ.shutAll h w) Hp.none w ∧ Step κ h w (κ.shutAll h w) Hp.none w := by
  refine ⟨⟨(fun _ _ h => by cases h), (fun _ _ h => by cases h), (fun _ _ _ _ h => by cases h), fun b o hb => ?_, (fun _ _ h => by cases h)⟩,
    ⟨Kap.shutAll_ext hr, Nat.le_refl _, fun _ _ _ => rfl, (fun b ⟨i, o, hi, _⟩ => by cases hi), fun b o hb => ?_, ⟨rfl, rfl⟩⟩⟩
  · simp only [Kap.shutAll] at hb
    split at hb
    · exact hb
    · exact hr.imm b o hb
  · simp only [Kap.shutAll] at hb
    split at hb
    · rename_i hh
      obtain ⟨i, o', hi, rfl⟩ := hh
      exact .inr (.inl ⟨i, o', hi, rfl⟩)
    · exact .inl hb

theorem ACalls.conv {g : FuncId} {args : List AV} {n : Nat} {Q Q' : AV → Hp → Nat → Prop}
    (hq : ∀ κ w r h' x, Q r h' κ.n → VR κ r x → HR κ h' w → ∃ κ' r' h'', Q' r' h'' κ'.n ∧ VR κ' r' x ∧ HR κ' h'' w ∧ Step κ h' w κ' h'' w) (hc : ACalls P g args h n Q) : ACalls P g args h n Q' := by
  rcases hc with ⟨hb, hc⟩ | hc
  · refine .inl ⟨hb, fun κ w vs h1 h2 h3 => Calls.mono (hc κ w vs h1 h2 h3) fun e w' ⟨κ', r, h', x, q, he, hv, hh, st⟩ => ?_⟩
    obtain ⟨κ2, r2, h2, q2, v2, hh2, st2⟩ := hq κ' w' r h' x q hv hh
    exact ⟨κ2, r2, h2, x, q2, he, v2, hh2, st.trans st2⟩
  · refine .inr fun κ w vs h1 h2 h3 => ?_
    obtain ⟨κ', r, h', x, w', q, hrun, hv, hh, st⟩ := hc κ w vs h1 h2 h3
    obtain ⟨κ2, r2, h2, q2, v2, hh2, st2⟩ := hq κ' w' r h' x q hv hh
    exact ⟨κ2, r2, h2, x, w', q2, hrun, v2, hh2, st.trans st2⟩

theorem PC.of {g : FuncId} {args : List AV} {v : AV} (ha : pureVs args = true) (hv : pureV v = true) (hc : ACalls P g args Hp.none 0 fun r h' _ => Fz h' r v) : PC P g args v := by
  refine fun h n => ACalls.lift (Q := fun r => r = v) ha ?_ h n
  refine ACalls.conv (fun κ w r h' x q hvr hh => ?_) hc
  exact ⟨_, v, Hp.none, ⟨hv, rfl⟩, hvr.freeze hh q, hh.freeze.1, hh.freeze.2⟩

/-- A body that hands back what may be frozen. -/
theorem FC.enter (tok : TOK P T) {g : FuncId} {m : Nat} {rs : List ResultVar} {c : Code} {args : List AV} {v : AV} {fn : Func}
    (hf : P.funcs[g]? = some fn) (hm : fn.ntmps = m) (hr : fn.results.toList = rs) (hb : fn.body = some c) (hs : (fn.name == "runtime.NumGoroutine") = false) (hl : args.length ≤ m) (hc : cOk m c = true)
    (ha : pureVs args = true) (hv : pureV v = true) (hw : wc P T m c (qRet T rs fun r h' _ => Fz h' r v) (enterF args) Hp.none 0) : PC P g args v :=
  PC.of ha hv (ACalls.enter tok hf hm hr hb hs hl hc hw)

theorem pureVs_all : ∀ {l : List AV}, (∀ v ∈ l, pureV v = true) → pureVs l = true
  | [], _ => rfl
  | v :: l, h => by
    simp only [pureVs, Bool.and_eq_true]
    exact ⟨h v (by simp), pureVs_all fun u hu => h u (by simp [hu])⟩
@[go_sem] theorem pureVs_strs {L : List (List UInt8)} : pureVs (L.map AV.str) = true := pureVs_all (by simp [pureV])
@[go_sem] theorem pureVs_ints {kk : IntKind} {L : List Int} : pureVs (L.map (AV.int kk)) = true := pureVs_all (by simp [pureV])
attribute [go_sem] pureV pureVs
variable {r v : AV} {l l' cs cs' : List AV} {k kk : IntKind} {z z' : Int} {i off len len' n : Nat} {cap : Option Nat} {q : Option (Nat × TypeId)}
@[go_sem] theorem fz_int : Fz h (.int k z) v = (AV.int k z = v) := (rfl)
@[go_sem] theorem fz_bool {b : Bool} : Fz h (.bool b) v = (AV.bool b = v) := (rfl)
@[go_sem] theorem fz_str {s : List UInt8} : Fz h (.str s) v = (AV.str s = v) := (rfl)
@[go_sem] theorem fz_nilp : Fz h .nilp v = (AV.nilp = v) := (rfl)
@[go_sem] theorem fz_nils : Fz h .nils (.imm cs n) = (cs = [] ∧ n = 0) := by simp [Fz]
@[go_sem] theorem fz_nils' : Fz h .nils .nils = True := by simp [Fz]
@[go_sem] theorem fz_imm : Fz h (.imm cs n) (.imm cs' len) = (len = n ∧ cs' = cs.take cs'.length) := (rfl)
@[go_sem] theorem fz_sl : Fz h (.sl i off len cap) (.imm cs len') = (len' = len ∧ FzO off cs (h i)) := (rfl)
@[go_sem] theorem fzO_cells : FzO off cs (some (.cells cs' q)) = (cs = (cs'.drop off).take cs.length) := (rfl)
@[go_sem] theorem fz_agg : Fz h (.agg l) (.agg l') = FzL h l l' := (rfl)
@[go_sem] theorem fz_tup : Fz h (.tup l) (.tup l') = FzL h l l' := (rfl)
@[go_sem] theorem fzL_nil : FzL h [] [] = True := by simp [FzL]
@[go_sem] theorem fzL_cons : FzL h (r :: l) (v :: l') = (Fz h r v ∧ FzL h l l') := (rfl)
attribute [go_sem] AV.int.injEq AV.bool.injEq AV.str.injEq AV.imm.injEq AV.agg.injEq AV.tup.injEq AV.sl.injEq AV.ptr.injEq AV.map.injEq List.cons.injEq Option.some.injEq

end Go.Acx
