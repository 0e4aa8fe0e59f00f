/- Acx, part 6: indexes, slices, lengths; all quiet operations under one name. -/
import Derived.Test.YtnjhpjiahjjjkaaGreatDoorAcxPure2
namespace Go.Acx

variable {P : Program} {κ : Kap} {h : Hp} {w : World} {T : Tys}

def indexA (T : Tys) (t : TypeId) (x : AV) (ix : AV) : Option AV :=
  match T t, idxOf ix with
  | some i, some n => match i.desc, x with
    | .array len el, .agg cs => match T el with
      | some j => if 0 ≤ n ∧ n < (len : Int) then partA T el cs (n.toNat * j.size) else none
      | none => none
    | .string, .str s => if 0 ≤ n then (s[n.toNat]?).map fun b => .int .u8 b.toNat else none
    | _, _ => none
  | _, _ => none

theorem indexA_ok (tok : TOK P T) {t : TypeId} {v ix u : AV} {x k : Value} (hv : VR κ v x) (hk : VR κ ix k) (e : indexA T t v ix = some u) (w : World) :
    ∃ y, (Instr.index t x k).run P w = .ok y w ∧ VR κ u y := by
  unfold indexA at e
  split at e <;> try (cases e; done)
  rename_i i n hi hn
  obtain ⟨ik, rfl⟩ := idxOf_ok hk hn
  have ui := tok.und _ _ hi
  split at e <;> try (cases e; done)
  · rename_i len el cs hd
    split at e <;> try (cases e; done)
    rename_i j hj
    obtain ⟨inf, z, hinf, hs, _⟩ := tok.info _ _ hj
    split at e <;> try (cases e; done)
    rename_i hin
    cases hv
    rename_i C hC
    obtain ⟨y, hy, hvy⟩ := partA_ok (P := P) tok hC e w
    exact ⟨y, by simp [Instr.index, asIntOf, run_underlying ui, hd, hin, sizeOf, run_info hinf, hs, hy], hvy⟩
  · rename_i s hd
    split at e <;> try (cases e; done)
    rename_i hin
    rw [Option.map_eq_some_iff] at e
    obtain ⟨b, hb, rfl⟩ := e
    cases hv
    rename_i s' hs'
    subst hs'
    refine ⟨_, ?_, .int _ _⟩
    have hb' : s'[n.toNat]? = some b := by
      have : s'.data[n.toNat]? = some b := by simpa using hb
      rw [Array.getElem?_eq_some_iff] at this
      obtain ⟨hlt, he⟩ := this
      have hlt' : n.toNat < s'.size := hlt
      rw [getElem?_pos s' n.toNat hlt']
      exact congrArg some he
    simp [Instr.index, asIntOf, run_underlying ui, hd, hin, hb']

def boundA (d : Nat) : Option AV → Option Int
  | none => some d
  | some v => idxOf v

def optA (f : Fr) : Option Operand → Option (Option AV)
  | none => some none
  | some x => (evalA f x).map some

/-- x[lo:hi] -/
def sliceA (T : Tys) (t : TypeId) (x : AV) (lo hi : Option AV) : Option AV :=
  match T t with
  | some i => match i.desc, x with
    | .string, .str s => match boundA 0 lo, boundA s.length hi with
      | some l, some m => if 0 ≤ l ∧ l ≤ m ∧ m ≤ (s.length : Int) then some (.str ((s.drop l.toNat).take (m.toNat - l.toNat))) else none
      | _, _ => none
    | .slice el, .sl b off len cap => match T el, boundA 0 lo, boundA len hi with
      | some j, some l, some m =>
        if 0 ≤ l ∧ l ≤ m ∧ m ≤ ((cap.getD len : Nat) : Int) then
          (if l = 0 then some (.sl b off m.toNat cap)
           else if l < m then (match cap with | some c => some (.sl b (off + l.toNat * j.size) (m.toNat - l.toNat) (some (c - l.toNat))) | none => none)
           else some (.imm [] 0))
        else none
      | _, _, _ => none
    | .slice el, .imm cells len => match T el, boundA 0 lo, boundA len hi with
      | some j, some l, some m =>
        if 0 ≤ l ∧ l ≤ m ∧ m ≤ (len : Int) then
          (if l < m then some (.imm ((cells.drop (l.toNat * j.size)).take ((m.toNat - l.toNat) * j.size)) (m.toNat - l.toNat)) else some (.imm [] 0))
        else none
      | _, _, _ => none
    | .slice el, .nils => match T el, boundA 0 lo, boundA 0 hi with
      | some j, some l, some m => if l = 0 ∧ m = 0 then some .nils else none
      | _, _, _ => none
    | .array n el, .ptr b off => match T el, boundA 0 lo, boundA n hi with
      | some j, some l, some m => if l = 0 ∧ 0 ≤ m ∧ m ≤ (n : Int) then some (.sl b off m.toNat (some n)) else none
      | _, _, _ => none
    | _, _ => none
  | none => none

theorem run_sliceBound {x : Value} {n : Int} {k : IntKind} (hx : x = .int k n) (y : Nat) (code : BoundsCode) (h0 : 0 ≤ n) (h1 : n ≤ y) (w : World) :
    (Instr.sliceBound x y code).run P w = .ok n.toNat w := by
  subst hx
  simp [Instr.sliceBound, asIntOf, h0, h1]

theorem run_sliceBounds {lo hi : Option AV} {xl xh : Option Value} (hl : ∀ v, lo = some v → ∃ x, xl = some x ∧ VR κ v x) (hl0 : lo = none → xl = none)
    (hh : ∀ v, hi = some v → ∃ x, xh = some x ∧ VR κ v x) (hh0 : hi = none → xh = none) {len cap : Nat} {l m : Int} (el : boundA 0 lo = some l) (em : boundA len hi = some m)
    (h0 : 0 ≤ l) (h1 : l ≤ m) (h2 : m ≤ (cap : Int)) (b : Bool) (w : World) : (Instr.sliceBounds b len cap xl xh none).run P w = .ok (l.toNat, m.toNat, cap) w := by
  have H : ∃ c : BoundsCode, True := ⟨.index, trivial⟩
  unfold Instr.sliceBounds
  cases hi with
  | none =>
    rw [hh0 rfl]
    simp only [boundA, Option.some.injEq] at em
    subst em
    cases lo with
    | none =>
      rw [hl0 rfl]
      simp only [boundA, Option.some.injEq] at el
      subst el
      simp
    | some v =>
      obtain ⟨x, hx, hvx⟩ := hl v rfl
      obtain ⟨k, rfl⟩ := idxOf_ok hvx el
      subst hx
      simp [run_sliceBound (P := P) rfl len _ h0 h1]
  | some u =>
    obtain ⟨y, hy, hvy⟩ := hh u rfl
    obtain ⟨k, rfl⟩ := idxOf_ok hvy em
    subst hy
    have hm0 : 0 ≤ m := by omega
    have hlm : l ≤ (m.toNat : Int) := by omega
    cases lo with
    | none =>
      rw [hl0 rfl]
      simp only [boundA, Option.some.injEq] at el
      subst el
      simp [run_sliceBound (P := P) rfl cap _ hm0 h2]
    | some v =>
      obtain ⟨x, hx, hvx⟩ := hl v rfl
      obtain ⟨k, rfl⟩ := idxOf_ok hvx el
      subst hx
      simp [run_sliceBound (P := P) rfl cap _ hm0 h2, run_sliceBound (P := P) rfl m.toNat _ h0 hlm]

theorem extract_data (s : ByteArray) (l m : Nat) : (s.extract l m).data.toList = (s.data.toList.drop l).take (m - l) := by
  simp [ByteArray.data_extract]

theorem sliceA_ok (tok : TOK P T) {t : TypeId} {v u : AV} {x : Value} (hv : VR κ v x) {lo hi : Option AV} {xl xh : Option Value} (hl : ∀ v, lo = some v → ∃ x, xl = some x ∧ VR κ v x)
    (hl0 : lo = none → xl = none) (hh : ∀ v, hi = some v → ∃ x, xh = some x ∧ VR κ v x) (hh0 : hi = none → xh = none) (e : sliceA T t v lo hi = some u) (w : World) :
    ∃ y, (Instr.sliceAt t x xl xh none).run P w = .ok y w ∧ VR κ u y := by
  unfold sliceA at e
  split at e <;> try (cases e; done)
  rename_i i hi'
  have ui := tok.und _ _ hi'
  split at e <;> try (cases e; done)
  · rename_i s hd
    split at e <;> try (cases e; done)
    rename_i l m el em
    split at e <;> cases e
    rename_i hc
    cases hv
    rename_i s' hs'
    subst hs'
    have hsz : s'.data.toList.length = s'.size := by simp
    rw [hsz] at em hc
    have hb := run_sliceBounds (P := P) (κ := κ) (cap := s'.size) hl hl0 hh hh0 el em hc.1 hc.2.1 hc.2.2 false w
    exact ⟨.string (s'.extract l.toNat m.toNat), by simp [Instr.sliceAt, Instr.slice, run_underlying ui, hd, hb], .str _ _ (extract_data _ _ _)⟩
  · rename_i el b off len cap hd
    split at e <;> try (cases e; done)
    rename_i j l m hj el' em
    obtain ⟨inf, z, hinf, hs, _⟩ := tok.info _ _ hj
    split at e <;> try (cases e; done)
    rename_i hc
    cases hv
    rename_i c hn hlc hcap hz
    have hmc : m ≤ (c : Int) := by
      cases cap with
      | none => simp only [Option.getD_none] at hc; omega
      | some c' => rw [hcap c' rfl]; exact hc.2.2
    have hb := run_sliceBounds (P := P) (κ := κ) (cap := c) hl hl0 hh hh0 el' em hc.1 hc.2.1 hmc true w
    refine ⟨_, by simp [Instr.sliceAt, Instr.slice, run_underlying ui, hd, hb, sizeOf, run_info hinf, hs]; rfl, ?_⟩
    split at e
    · rename_i h0
      cases e
      subst h0
      have : (if c = (0 : Int).toNat then some (⟨κ.ρ b, off, none⟩ : Addr) else some ((⟨κ.ρ b, off, none⟩ : Addr).add ((0 : Int).toNat * j.size))) = some ⟨κ.ρ b, off, none⟩ := by
        split <;> simp [add_eq]
      rw [this]
      have h3 : m.toNat - (0 : Int).toNat = m.toNat := by simp
      have h4 : c - (0 : Int).toNat = c := by simp
      rw [h3, h4]
      exact .sl _ _ _ _ _ hn (by omega) hcap hz
    · rename_i h0
      split at e
      · rename_i hlm
        cases cap with
        | none => cases e
        | some c0 =>
          cases e
          have hne : c ≠ l.toNat := by omega
          rw [if_neg hne, add_eq]
          exact .sl _ _ _ _ _ hn (by omega) (fun c' hc' => by rw [hcap c0 rfl]; exact Option.some.inj hc') (fun h0 => by cases h0)
      · rename_i hlm
        cases e
        have : m.toNat - l.toNat = 0 := by omega
        rw [this]
        exact .immNil _ _
  · rename_i el cells len hd
    split at e <;> try (cases e; done)
    rename_i j l m hj el' em
    obtain ⟨inf, z, hinf, hs, _⟩ := tok.info _ _ hj
    split at e <;> try (cases e; done)
    rename_i hc
    have hex : ∃ a c, x = .slice a len c ∧ len ≤ c ∧ (l < m → ∃ b off C ty fr, a = some ⟨b, off, none⟩ ∧ κ.I b = some (.cells C ty fr) ∧ VRs κ cells ((C.toList.drop off).take cells.length)) := by
      cases hv
      · exact ⟨_, _, rfl, Nat.zero_le _, fun hlt => by omega⟩
      · rename_i b off C ty fr c hI hsv hlc; exact ⟨_, c, rfl, hlc, fun _ => ⟨b, off, C, ty, fr, rfl, hI, hsv⟩⟩
    obtain ⟨a, c, rfl, hlc, hmore⟩ := hex
    have hb := run_sliceBounds (P := P) (κ := κ) (cap := c) hl hl0 hh hh0 el' em hc.1 hc.2.1 (by omega) true w
    refine ⟨_, by simp [Instr.sliceAt, Instr.slice, run_underlying ui, hd, hb, sizeOf, run_info hinf, hs]; rfl, ?_⟩
    split at e
    · rename_i hlm
      cases e
      obtain ⟨b, off, C, ty, fr, rfl, hI, hsv⟩ := hmore hlm
      have hne : c ≠ l.toNat := by omega
      rw [if_neg hne]
      simp only [Option.map_some, add_eq]
      exact .imm _ _ _ _ C ty fr _ hI ((hsv.shift _).cut _) (by omega)
    · rename_i hlm
      cases e
      have : m.toNat - l.toNat = 0 := by omega
      rw [this]
      exact .immNil _ _
  · rename_i el hd
    split at e <;> try (cases e; done)
    rename_i j l m hj el' em
    obtain ⟨inf, z, hinf, hs, _⟩ := tok.info _ _ hj
    split at e <;> cases e
    rename_i hc
    obtain ⟨rfl, rfl⟩ := hc
    cases hv
    have hb := run_sliceBounds (P := P) (κ := κ) (cap := 0) hl hl0 hh hh0 el' em (by omega) (by omega) (by omega) true w
    exact ⟨_, by simp [Instr.sliceAt, Instr.slice, run_underlying ui, hd, hb, sizeOf, run_info hinf, hs], .nils⟩
  · rename_i n el b off hd
    split at e <;> try (cases e; done)
    rename_i j l m hj el' em
    obtain ⟨inf, z, hinf, hs, _⟩ := tok.info _ _ hj
    split at e <;> cases e
    rename_i hc
    obtain ⟨rfl, hc1, hc2⟩ := hc
    cases hv
    rename_i hn
    have hb := run_sliceBounds (P := P) (κ := κ) (cap := n) hl hl0 hh hh0 el' em (by omega) hc1 hc2 false w
    refine ⟨.slice (some ⟨κ.ρ b, off, none⟩) m.toNat n, ?_, .sl _ _ _ _ _ hn (by omega) (fun c' hc' => by cases hc'; rfl) (fun h0 => by cases h0)⟩
    simp [Instr.sliceAt, run_underlying ui, hd, hb, sizeOf, run_info hinf, hs, Instr.sureAddr, add_eq]


def lenA (T : Tys) (h : Hp) (t : TypeId) (x : AV) : Option Nat :=
  match T t with
  | some i => match i.desc, x with
    | .string, .str s => some s.length
    | .array n _, _ => some n
    | .slice _, .sl _ _ len _ => some len
    | .slice _, .imm _ len => some len
    | .slice _, .nils => some 0
    | .map _ _, .nilm => some 0
    | .map _ _, .map b => match h b with
      | some (.map es) => some es.length
      | _ => none
    | .string, .txt _ n => some n
    | _, _ => none
  | none => none

theorem lenA_ok (tok : TOK P T) (hr : HR κ h w) {t : TypeId} {v : AV} {x : Value} (hv : VR κ v x) {n : Nat} (e : lenA T h t v = some n) (ts : Array TypeId) (ty : TypeId) (as : Array Value)
    (h0 : ts[0]? = some t) (h1 : as[0]? = some x) : (Builtin.len_ ts ty as).run P w = .ok (.int .i64 n) w := by
  unfold lenA at e
  split at e <;> try (cases e; done)
  rename_i i hi
  have ui := tok.und _ _ hi
  unfold Builtin.len_
  simp only [h0, h1, Sem.run_bind, run_underlying ui, Result.andThen_ok]
  split at e <;> try (cases e; done)
  · rename_i s hd; cases e; cases hv; rename_i s' hs'; subst hs'; simp only [hd]; simp [goInt]
  · rename_i n' el hd; cases e; simp only [hd]; rfl
  · rename_i hd; cases e; cases hv; simp only [hd]; rfl
  · rename_i hd; cases e; cases hv <;> (simp only [hd]; rfl)
  · rename_i hd; cases e; cases hv; simp only [hd]; rfl
  · rename_i hd; cases e; cases hv; simp only [hd]; rfl
  · rename_i k el b hd
    split at e <;> try (cases e; done)
    rename_i es hes
    cases e; cases hv
    obtain ⟨O, hO, ho⟩ := hr.own _ _ hes
    cases ho
    rename_i E clock hb hvs hc hk
    simp only [hd, Sem.run_bind, getObj, Sem.run, hO, Result.andThen_ok]
    have := hk.length
    simp only [List.length_map, Array.length_toList] at this
    simp [goInt, this]
  · rename_i c n' hd; cases e; cases hv; rename_i s' hs'; simp only [hd]
    have hl := congrArg List.length hs'
    simp at hl
    simp [goInt, hl]

def mm2A (mx : Bool) : AV → AV → Option AV
  | .int k a, .int _ b => some (.int k (if mx then (if b > a then b else a) else (if b < a then b else a)))
  | _, _ => none

def mmA (mx : Bool) : AV → List AV → Option AV
  | x, [] => some x
  | x, y :: ys => match mm2A mx x y with
    | some z => mmA mx z ys
    | none => none

theorem maxA_ok : ∀ {vs : List AV} {xs : List Value} {v : AV} {x : Value} {u : AV}, VR κ v x → VRs κ vs xs → mmA true v vs = some u →
    ∃ y, (xs.foldlM Builtin.max2 x).run P w = .ok y w ∧ VR κ u y
  | _, _, _, x, _, hv, .nil, e => by cases e; exact ⟨x, by simp, hv⟩
  | _, _, _, x, _, hv, .cons a y as ys ha hs, e => by
    simp only [mmA] at e
    split at e <;> try (cases e; done)
    rename_i z hz
    unfold mm2A at hz
    split at hz <;> cases hz
    cases hv; cases ha
    obtain ⟨r, hr, hu⟩ := maxA_ok (.int _ _) hs e
    exact ⟨r, by simpa [Builtin.max2] using hr, hu⟩

theorem minA_ok : ∀ {vs : List AV} {xs : List Value} {v : AV} {x : Value} {u : AV}, VR κ v x → VRs κ vs xs → mmA false v vs = some u →
    ∃ y, (xs.foldlM Builtin.min2 x).run P w = .ok y w ∧ VR κ u y
  | _, _, _, x, _, hv, .nil, e => by cases e; exact ⟨x, by simp, hv⟩
  | _, _, _, x, _, hv, .cons a y as ys ha hs, e => by
    simp only [mmA] at e
    split at e <;> try (cases e; done)
    rename_i z hz
    unfold mm2A at hz
    split at hz <;> cases hz
    cases hv; cases ha
    obtain ⟨r, hr, hu⟩ := minA_ok (.int _ _) hs e
    exact ⟨r, by simpa [Builtin.min2] using hr, hu⟩

/-- Parts laid into cells. -/
def fillA (place : Nat → Option (Nat × Nat)) : List AV → List (Nat × AV) → Option (List AV)
  | cs, [] => some cs
  | cs, (i, v) :: rest => match place i with
    | some (off, size) => if (cellsA v).length = size ∧ off + size ≤ cs.length then fillA place (setsA cs off (cellsA v)) rest else none
    | none => none

theorem foldl_sets (off : Nat) : ∀ {us : List AV} {xs : List Value} {cs : List AV} {C : Array Value} (k : Nat), VRs κ us xs → VRs κ cs C.toList →
    VRs κ (setsA cs (off + k) us) ((xs.zipIdx k).foldl (fun c (p : Value × Nat) => c.setIfInBounds (off + p.2) p.1) C).toList
  | _, _, _, _, k, .nil, hc => hc
  | _, _, cs, C, k, .cons u x us xs hu hs, hc => by
    simp only [setsA, List.zipIdx_cons, List.foldl_cons]
    exact foldl_sets off (k + 1) hs (by rw [Array.toList_setIfInBounds]; exact hc.set _ hu)

theorem fillA_ok {place : Nat → Option (Nat × Nat)} : ∀ {ps : List (Nat × AV)} {qs : List (Nat × Value)} {cs : List AV} {C : Array Value} {out : List AV}, ps.map (·.1) = qs.map (·.1) →
    VRs κ (ps.map (·.2)) (qs.map (·.2)) → VRs κ cs C.toList → fillA place cs ps = some out → ∃ O : Array Value, Instr.fill place C qs = some O ∧ VRs κ out O.toList
  | [], [], _, C, _, _, _, hc, e => by cases e; exact ⟨C, rfl, hc⟩
  | [], q :: qs, _, _, _, h1, _, _, _ => by simp at h1
  | p :: ps, [], _, _, _, h1, _, _, _ => by simp at h1
  | (i, v) :: ps, (j, x) :: qs, cs, C, out, h1, h2, hc, e => by
    simp only [List.map_cons, List.cons.injEq] at h1
    obtain ⟨rfl, h1⟩ := h1
    cases h2 with
    | cons _ _ _ _ hv hs =>
      simp only [fillA] at e
      split at e <;> try (cases e; done)
      rename_i off size hp
      split at e <;> try (cases e; done)
      rename_i hlen
      have rc := hv.cells
      have hl := rc.length
      have hcl := hc.length
      simp only [Array.length_toList] at hl hcl
      have hstep := foldl_sets (κ := κ) off 0 rc hc
      simp only [Nat.add_zero] at hstep
      obtain ⟨O, hO, ho⟩ := fillA_ok h1 hs hstep e
      refine ⟨O, ?_, ho⟩
      simp only [Instr.fill, hp]
      have hcond : ¬ (x.cells.size ≠ size ∨ off + x.cells.size > C.size) := by omega
      simp only [Bool.or_eq_true, decide_eq_true_eq] at *
      rw [if_neg (by simpa using hcond)]
      rw [← hO, ← Array.foldl_toList, Array.toList_zipIdx]

end Go.Acx
