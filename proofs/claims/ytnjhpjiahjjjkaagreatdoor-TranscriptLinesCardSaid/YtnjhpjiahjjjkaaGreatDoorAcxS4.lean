/- Acx, part 32: the walker's rewriting rules (4): append; what a call hands back frozen. -/
import Derived.Test.YtnjhpjiahjjjkaaGreatDoorAcxS3
namespace Go.Acx

variable {P : Program} {T : Tys} {m : Nat} {K : KS} {f : Fr} {h : Hp} {n : Nat} {t tx : TypeId} {x y : Operand} {d : Option Tmp}

@[go_sem ↓] theorem wDo_append : wDo P T d (.call ⟨.builtin .append, #[x, y], #[t, tx]⟩) K f h n =
    kV (eT T t) fun e => kV (eT T tx) fun _ => kV (evalA f x) fun u => kV (evalA f y) fun v => kV (srV e.1 h v) fun w => kV (apV e.1 e.2.1 e.2.2.2 h n w.1 w.2 u) fun r => K (putA f d r.1) r.2.1 r.2.2 := (rfl)
variable {s b id off len k q : Nat} {el : TypeId} {cs cs' news olds : List AV} {cap : Option Nat} {mo : Option (Nat × TypeId)}
@[go_sem] theorem srV_sl : srV s h (.sl id off len cap) = srO s off len (h id) := (rfl)
@[go_sem] theorem srV_imm : srV s h (.imm cs len) = (tkC (len * s) cs).map fun l => (l, len) := (rfl)
@[go_sem] theorem srV_nils : srV s h .nils = some ([], 0) := (rfl)
@[go_sem] theorem srO_cells : srO s off len (some (.cells cs mo)) = (tkC (len * s) (cs.drop off)).map fun l => (l, len) := (rfl)
@[go_sem] theorem tkC_zero : tkC 0 cs = some [] := (by cases cs <;> rfl)
@[go_sem] theorem tkC_succ {v : AV} : tkC (s + 1) (v :: cs) = if isCell v = true then (tkC s cs).map (v :: ·) else none := (rfl)
theorem tkC_map {α : Type} {e : α → AV} (he : ∀ a, isCell (e a) = true) (L : List α) : tkC L.length (L.map e) = some (L.map e) := by
  rw [tkC_of (by simp) (by rw [List.take_of_length_le (by simp)]; simpa using fun a _ => he a), List.take_of_length_le (by simp)]
@[go_sem] theorem tkC_strs {L : List (List UInt8)} : tkC L.length (L.map .str) = some (L.map .str) := tkC_map (fun _ => rfl) L
@[go_sem] theorem tkC_ints {kk : IntKind} {L : List Int} : tkC L.length (L.map (AV.int kk)) = some (L.map (AV.int kk)) := tkC_map (fun _ => rfl) L
attribute [go_sem] Nat.mul_one
@[go_sem] theorem ap_none {u : AV} : apV s b el h n [] 0 u = match u with
  | .nils => some (.nils, h, n)
  | .sl id off len cap => some (.sl id off len cap, h, n)
  | .imm cs len => some (.imm cs len, h, n)
  | _ => none := (by cases u <;> simp [apV])
@[go_sem] theorem ap_nils (hk : 0 < k) (hb : (2 * k + 768) * b ≤ 281474976710656 ∧ k ≤ 4611686018427387904) : apV s b el h n news k .nils = some (.sl n 0 k none, h.set n (.cells news (some (s, el))), n + 1) := by
  simp only [apV]; rw [if_neg (by omega), if_pos hb]
@[go_sem] theorem ap_sl (hk : 0 < k) : apV s b el h n news k (.sl id off len cap) = apO s b el h n id off len cap news k (h id) := by
  simp only [apV]; rw [if_neg (by omega)]
/-- Behind a row of one's own. -/
@[go_sem] theorem apO_own (hb : (2 * (len + k) + 768) * b ≤ 281474976710656 ∧ len + k ≤ 4611686018427387904) : apO s b el h n id 0 len none news k (some (.cells cs (some (s, el)))) =
    (tkC (len * s) cs).bind fun olds => some (.sl n 0 (len + k) none, (h.del id).set n (.cells (olds ++ news) (some (s, el))), n + 1) := by
  simp only [apO]
  congr 1
  funext olds
  rw [if_pos (by simp only [true_and]; exact hb)]
@[go_sem] theorem apO_in {c : Nat} (hc : len + k ≤ c ∧ off + (len + k) * s ≤ cs.length) : apO s b el h n id off len (some c) news k (some (.cells cs mo)) = some (.sl id off (len + k) (some c), h.set id (.cells (setsA cs (off + len * s) news) mo), n) := by
  simp only [apO]; rw [if_pos hc.1, if_pos hc.2]
@[go_sem] theorem apO_out {c : Nat} (hc : c < len + k ∧ (2 * (len + k) + 768) * b ≤ 281474976710656 ∧ len + k ≤ 4611686018427387904) : apO s b el h n id off len (some c) news k (some (.cells cs mo)) =
    (tkC (len * s) (cs.drop off)).bind fun olds => some (.sl n 0 (len + k) none, h.set n (.cells (olds ++ news) (some (s, el))), n + 1) := by
  simp only [apO]
  rw [if_neg (by omega)]
  congr 1
  funext olds
  rw [if_pos hc.2]

end Go.Acx
