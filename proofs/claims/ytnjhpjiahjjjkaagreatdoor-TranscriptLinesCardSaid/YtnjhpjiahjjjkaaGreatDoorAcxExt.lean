/- Acx, part 22: functions of the model's own. -/
import Derived.Test.YtnjhpjiahjjjkaaGreatDoorAcxRun3
import Derived.Laws.Externs
namespace Go.Acx

variable {P : Program} {T : Tys}

/-- A function of the model's own that computes and looks at no memory. -/
theorem AExt.of_pure {g : FuncId} {fn : Func} {e : Array Value → Sem Value} (hf : P.funcs[g]? = some fn) (hname : (fn.name == "runtime.NumGoroutine") = false) (hb : fn.body.isNone = true)
    (hn : Extern.findNext fn = none) (he : Extern.find fn = some e) {args : List AV} {r : AV}
    (h0 : ∀ (κ : Kap) (h : Hp) (w : World) (vs : List Value), HR κ h w → VRs κ args vs → ∃ x, (e vs.toArray).run P w = .ok x w ∧ VR κ r x) (h : Hp) (n : Nat) :
    ACalls P g args h n fun r' h' n' => r' = r ∧ h' = h ∧ n' = n := by
  refine .inr fun κ w vs hn0 hh hvs => ?_
  obtain ⟨x, hx, hr⟩ := h0 κ h w vs hh hvs
  refine ⟨κ, r, h, x, w, ⟨rfl, rfl, hn0⟩, ?_, hr, hh, Step.refl _ _ _⟩
  rw [run_callFunc_extern hf hname hb hn he, hx]
  rfl

def firstIx (c : Nat) : List UInt8 → Nat → Option Nat
  | [], _ => none
  | u :: l, i => if Nat.beq u.toNat c then some i else firstIx c l (i + 1)

def indexByteA : List AV → Option AV
  | [.str l, .int .u8 c] => if 0 ≤ c ∧ c < 256 then some (.int .i64 (match firstIx c.toNat l 0 with
    | some i => (i : Int)
    | none => -1)) else none
  | [.txt d n, .int .u8 c] => if 0 ≤ c ∧ c < 256 ∧ d < 256 ∧ c.toNat ≠ d then some (.int .i64 (-1)) else none
  | _ => none

theorem firstIx_none (c : Nat) (u : UInt8) (h : u.toNat ≠ c) : ∀ (n i : Nat), firstIx c (List.replicate n u) i = none
  | 0, i => rfl
  | n + 1, i => by
    have : Nat.beq u.toNat c = false := by rw [nbeq]; simpa using h
    simp only [List.replicate_succ, firstIx, this]
    exact firstIx_none c u h n (i + 1)

def countN (c : Nat) : List UInt8 → Nat → Nat
  | [], n => n
  | u :: l, n => countN c l (if Nat.beq u.toNat c then n + 1 else n)

def countByteA : List AV → Option AV
  | [.str l, .int .u8 c] => if 0 ≤ c ∧ c < 256 then some (.int .i64 (countN c.toNat l 0 : Nat)) else none
  | _ => none

theorem byteAt (s : ByteArray) (i : Nat) (u : UInt8) (h : s.data.toList[i]? = some u) : s[i]! = u := by
  have hlt : i < s.data.size := by
    rcases Nat.lt_or_ge i s.data.toList.length with h1 | h1
    · simpa using h1
    · rw [List.getElem?_eq_none h1] at h; cases h
  have hs : i < s.size := hlt
  rw [getElem!_pos s i hs]
  have : s.data[i]? = some u := by simpa using h
  rw [Array.getElem?_eq_getElem hlt] at this
  injection this

theorem find_first (s : ByteArray) (c : UInt8) : ∀ (l : List UInt8) (i : Nat), s.data.toList.drop i = l → ((List.range' i l.length).find? fun i => s[i]! == c) = firstIx c.toNat l i
  | [], i, _ => by simp [firstIx]
  | u :: l, i, h => by
    have hu : s.data.toList[i]? = some u := by
      have := congrArg (fun q => q[0]?) h
      simpa using this
    have hl : s.data.toList.drop (i + 1) = l := by
      have := congrArg List.tail h
      simpa using this
    have ih := find_first s c l (i + 1) hl
    simp only [List.length_cons, List.range'_succ, List.find?_cons, byteAt s i u hu, firstIx, ih]
    by_cases hc : u = c
    · subst hc
      have : Nat.beq u.toNat u.toNat = true := by simp
      simp [this]
    · have h1 : (u == c) = false := by simpa using hc
      have h2 : Nat.beq u.toNat c.toNat = false := by
        rw [nbeq]
        simp only [beq_eq_false_iff_ne, ne_eq]
        exact fun e => hc (UInt8.toNat_inj.1 e)
      simp [h1, h2]

theorem firstIdx_eq (s : ByteArray) (c : UInt8) : firstIdx s c = (match firstIx c.toNat s.data.toList 0 with
    | some i => (i : Int)
    | none => -1) := by
  unfold firstIdx
  have hsz : s.size = s.data.toList.length := by simp
  rw [hsz, List.range_eq_range', find_first s c s.data.toList 0 (by simp)]
  cases firstIx c.toNat s.data.toList 0 <;> rfl

theorem indexByte_ok {g : FuncId} {fn : Func} (hf : P.funcs[g]? = some fn) (hname : (fn.name == "runtime.NumGoroutine") = false) (hb : fn.body.isNone = true)
    (hn : Extern.findNext fn = none) (he : Extern.find fn = some Extern.BytealgIndexByte.indexByte) {args : List AV} {r : AV} (e : indexByteA args = some r) (h : Hp) (n : Nat) :
    ACalls P g args h n fun r' h' n' => r' = r ∧ h' = h ∧ n' = n := by
  refine AExt.of_pure hf hname hb hn he (fun κ h w vs hr hv => ?_) h n
  unfold indexByteA at e
  split at e <;> try (cases e; done)
  · rename_i l c
    split at e <;> cases e
    rename_i hc
    cases hv with
    | cons _ x _ _ hx hxs =>
    cases hxs with
    | cons _ y _ _ hy hxs =>
    cases hxs
    cases hx
    cases hy
    rename_i s hs
    subst hs
    refine ⟨_, run_indexByte_string s c w, ?_⟩
    rw [firstIdx_eq]
    have : c.toNat.toUInt8.toNat = c.toNat := by
      simp only [Nat.toUInt8, UInt8.toNat_ofNat']
      omega
    rw [this]
    exact .int _ _
  · rename_i d k c
    split at e <;> cases e
    rename_i hc
    cases hv with
    | cons _ x _ _ hx hxs =>
    cases hxs with
    | cons _ y _ _ hy hxs =>
    cases hxs
    cases hx
    cases hy
    rename_i s hs
    refine ⟨_, run_indexByte_string s c w, ?_⟩
    rw [firstIdx_eq, hs]
    have h1 : c.toNat.toUInt8.toNat = c.toNat := by
      simp only [Nat.toUInt8, UInt8.toNat_ofNat']
      omega
    have h2 : (UInt8.ofNat d).toNat = d := by
      simp only [UInt8.toNat_ofNat']
      omega
    rw [h1, firstIx_none _ _ (by rw [h2]; exact fun e => hc.2.2.2 e.symm)]
    exact .int _ _

theorem noEscape_ok {g : FuncId} {fn : Func} (hf : P.funcs[g]? = some fn) (hname : (fn.name == "runtime.NumGoroutine") = false) (hb : fn.body.isNone = true)
    (hn : Extern.findNext fn = none) (he : Extern.find fn = some Extern.AbiNoEscape.same) (v : AV) (h : Hp) (n : Nat) :
    ACalls P g [v] h n fun r' h' n' => r' = v ∧ h' = h ∧ n' = n := by
  refine AExt.of_pure hf hname hb hn he (fun κ h w vs hr hv => ?_) h n
  cases hv with
  | cons _ x _ _ hx hxs =>
  cases hxs
  exact ⟨x, rfl, hx⟩

end Go.Acx
