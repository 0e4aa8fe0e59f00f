/- Acx, part 30: the walker's rewriting rules (2): operations that look. -/
import Derived.Test.YtnjhpjiahjjjkaaGreatDoorAcxS
namespace Go.Acx

variable {P : Program} {T : Tys} {m : Nat} {f : Fr} {h : Hp} {n : Nat} {k : AV → Prop} {t : TypeId} {x y : Operand}

@[go_sem ↓] theorem wP_move : wP T (.move x) f h k = kV (evalA f x) k := (rfl)
@[go_sem ↓] theorem wP_assign : wP T (.assign x) f h k = kV (evalA f x) k := (rfl)
@[go_sem ↓] theorem wP_pick {c : Operand} : wP T (.pick c x y) f h k = kV (evalA f c) fun v => wPick v (evalA f x) (evalA f y) k := (rfl)
@[go_sem ↓] theorem wP_load : wP T (.load t x) f h k = kV (ldT T t) fun s => kV (evalA f x) fun p => kV (ldV s h p) k := (rfl)
@[go_sem ↓] theorem wP_nilCheck : wP T (.nilCheck x) f h k = kV (evalA f x) fun v => nilOk v = true ∧ k v := (rfl)
@[go_sem ↓] theorem wP_binOp {op : BinOp} {u : TypeId} : wP T (.binOp op t x y u) f h k = kV (evalA f x) fun a => kV (evalA f y) fun b => kV (bin2 T op t x y a b) k := (rfl)
@[go_sem ↓] theorem wP_unOp {op : UnOp} : wP T (.unOp op t x) f h k = kV (evalA f x) fun a => kV (unA op a) k := (rfl)
@[go_sem ↓] theorem wP_convert {s d : TypeId} : wP T (.convert s d x) f h k = kV (cvT T s d) fun c => kV (evalA f x) fun u => kV (cvV h c u) k := (rfl)
@[go_sem ↓] theorem wP_makeInterface : wP T (.makeInterface t x) f h k = kV (miT T t) fun _ => kV (evalA f x) fun u => k (.iface t u) := (rfl)
@[go_sem ↓] theorem wP_makeFunc {fn : Fn} {a b : List Operand} : wP T (.makeFunc fn a.toArray b.toArray) f h k = kVs f a fun vs => kVs f b fun us => k (.fn fn vs us) := (rfl)
@[go_sem ↓] theorem wP_slice {lo hi : Option Operand} : wP T (.slice t x lo hi none) f h k = kV (slT T t) fun e => kV (evalA f x) fun u => kO f lo fun l => kO f hi fun r => kV (slV e u l r) k := (rfl)
@[go_sem ↓] theorem wP_fieldAddr {i : Nat} : wP T (.fieldAddr t x i) f h k = kV (faT T t i) fun o => kV (evalA f x) fun p => kV (faV o p) k := (rfl)
@[go_sem ↓] theorem wP_field {i : Nat} : wP T (.field t x i) f h k = kV (fdT T t i) fun o => kV (evalA f x) fun p => kV (fdV o p) k := (rfl)
@[go_sem ↓] theorem wP_indexAddr : wP T (.indexAddr t x y) f h k = kV (ixT T t) fun e => kV (evalA f x) fun u => kV (evalA f y) fun v => kV (ixV e u v) k := (rfl)
@[go_sem ↓] theorem wP_index : wP T (.index t x y) f h k = kV (inT T t) fun e => kV (evalA f x) fun u => kV (evalA f y) fun v => kV (inV e u v) k := (rfl)
@[go_sem ↓] theorem wP_extract {i : Nat} : wP T (.extract x i) f h k = kV (evalA f x) fun v => kV (exV v i) k := (rfl)
@[go_sem ↓] theorem wP_build {ps : List (Nat × Operand)} : wP T (.build t ps.toArray) f h k = kV (buT T t) fun e => kPs f ps fun l => kV (buV e l) k := (rfl)
def one1 (l : List AV) (k : AV → Prop) : Prop := match l with
  | [u] => k u
  | _ => False
@[go_sem] theorem one1_one {u : AV} : one1 [u] k = k u := (rfl)
@[go_sem ↓] theorem wP_len {ts : List TypeId} : wP T (.call ⟨.builtin .len, #[x], (t :: ts).toArray⟩) f h k = kV (lnT T t) fun e => kV (evalA f x) fun u => kV (lnV e h u) k := (rfl)
@[go_sem ↓] theorem wP_max2 {ts : Array TypeId} : wP T (.call ⟨.builtin .max, #[x, y], ts⟩) f h k = kV (evalA f x) fun u => kV (evalA f y) fun v => kV (mmA true u [v]) k := (rfl)
@[go_sem ↓] theorem wP_min2 {ts : Array TypeId} : wP T (.call ⟨.builtin .min, #[x, y], ts⟩) f h k = kV (evalA f x) fun u => kV (evalA f y) fun v => kV (mmA false u [v]) k := (rfl)
@[go_sem ↓] theorem kO_none {kk : Option AV → Prop} : kO f none kk = kk none := (rfl)
@[go_sem ↓] theorem kO_some {kk : Option AV → Prop} : kO f (some x) kk = kV (evalA f x) fun v => kk (some v) := (rfl)
@[go_sem ↓] theorem kPs_nil {kk : List (Nat × AV) → Prop} : kPs f [] kk = kk [] := (rfl)
@[go_sem ↓] theorem kPs_cons {i : Nat} {xs : List (Nat × Operand)} {kk : List (Nat × AV) → Prop} : kPs f ((i, x) :: xs) kk = kV (evalA f x) fun v => kPs f xs fun vs => kk ((i, v) :: vs) := (rfl)

-- choices
@[go_sem] theorem wPick_true {ox oy : Option AV} : wPick (.bool true) ox oy k = kV ox k := by simp [wPick, Br]
@[go_sem] theorem wPick_false {ox oy : Option AV} : wPick (.bool false) ox oy k = kV oy k := by simp [wPick, Br]
@[go_sem] theorem wPick_bool {b : Bool} {ox oy : Option AV} : wPick (.bool b) ox oy k = Br b (kV ox k) (kV oy k) := (rfl)

-- loads
@[go_sem] theorem ldV_ptr {s : Option Nat} {b off : Nat} : ldV s h (.ptr b off) = ldO s off (h b) := (rfl)
@[go_sem] theorem ldV_iptr {s : Option Nat} {cs : List AV} : ldV s h (.iptr cs) = ldC s cs := (rfl)
@[go_sem] theorem ldO_cells {s : Option Nat} {off : Nat} {cs : List AV} {q : Option (Nat × TypeId)} : ldO s off (some (.cells cs q)) = ldC s (cs.drop off) := (rfl)
@[go_sem] theorem ldC_none {v : AV} {l : List AV} : ldC none (v :: l) = some v := (rfl)
@[go_sem] theorem ldC_some {s : Nat} {l : List AV} : ldC (some s) l = (tkN s l).map .agg := (rfl)
@[go_sem] theorem tkN_zero {l : List AV} : tkN 0 l = some [] := by cases l <;> rfl
@[go_sem] theorem tkN_succ {s : Nat} {v : AV} {l : List AV} : tkN (s + 1) (v :: l) = (tkN s l).map (v :: ·) := (rfl)
attribute [go_sem] Option.map_some Option.map_none List.drop_zero List.drop_succ_cons List.cons_append List.nil_append List.append_nil Option.bind_some
@[go_sem] theorem nilOk_ptr {b off : Nat} : nilOk (.ptr b off) = true := (rfl)
@[go_sem] theorem nilOk_iptr {cs : List AV} : nilOk (.iptr cs) = true := (rfl)
attribute [go_sem] true_and and_true

-- arithmetic
variable {kk : IntKind} {a b : Int}
theorem bin2_int {op : BinOp} (h1 : op ≠ .shl) (h2 : op ≠ .shr) : bin2 T op t x y (.int kk a) (.int kk b) = intA op kk a b := by
  cases op <;> first
    | exact absurd rfl h1
    | exact absurd rfl h2
    | simp [bin2, binA]
@[go_sem] theorem b_add : bin2 T .add t x y (.int kk a) (.int kk b) = some (.int kk (kk.wrap (a + b))) := bin2_int (by simp) (by simp)
@[go_sem] theorem b_sub : bin2 T .sub t x y (.int kk a) (.int kk b) = some (.int kk (kk.wrap (a - b))) := bin2_int (by simp) (by simp)
@[go_sem] theorem b_mul : bin2 T .mul t x y (.int kk a) (.int kk b) = some (.int kk (kk.wrap (a * b))) := bin2_int (by simp) (by simp)
@[go_sem] theorem b_quo (hb : b ≠ 0) : bin2 T .quo t x y (.int kk a) (.int kk b) = some (.int kk (kk.wrap (a.tdiv b))) := (bin2_int (by simp) (by simp)).trans (by simp [intA, hb])
@[go_sem] theorem b_rem (hb : b ≠ 0) : bin2 T .rem t x y (.int kk a) (.int kk b) = some (.int kk (a.tmod b)) := (bin2_int (by simp) (by simp)).trans (by simp [intA, hb])
@[go_sem] theorem b_eql : bin2 T .eql t x y (.int kk a) (.int kk b) = some (.bool (decide (a = b))) := bin2_int (by simp) (by simp)
@[go_sem] theorem b_neq : bin2 T .neq t x y (.int kk a) (.int kk b) = some (.bool (!decide (a = b))) := bin2_int (by simp) (by simp)
@[go_sem] theorem b_lss : bin2 T .lss t x y (.int kk a) (.int kk b) = some (.bool (decide (a < b))) := bin2_int (by simp) (by simp)
@[go_sem] theorem b_leq : bin2 T .leq t x y (.int kk a) (.int kk b) = some (.bool (decide (a ≤ b))) := bin2_int (by simp) (by simp)
@[go_sem] theorem b_gtr : bin2 T .gtr t x y (.int kk a) (.int kk b) = some (.bool (decide (b < a))) := bin2_int (by simp) (by simp)
@[go_sem] theorem b_geq : bin2 T .geq t x y (.int kk a) (.int kk b) = some (.bool (decide (b ≤ a))) := bin2_int (by simp) (by simp)
@[go_sem] theorem b_shl {kj : IntKind} (hb : 0 ≤ b) : bin2 T .shl t x y (.int kk a) (.int kj b) = some (.int kk (kk.wrap (a * 2 ^ (min b.toNat kk.bits)))) := by
  have : ¬ b < 0 := by omega
  simp [bin2, binA, shiftA, this]
@[go_sem] theorem b_shr {kj : IntKind} (hb : 0 ≤ b) : bin2 T .shr t x y (.int kk a) (.int kj b) = some (.int kk (a.fdiv (2 ^ (min b.toNat kk.bits)))) := by
  have : ¬ b < 0 := by omega
  simp [bin2, binA, shiftA, this]
variable {r s : List UInt8}
@[go_sem] theorem b_sadd (hl : r.length + s.length ≤ 4611686018427387904) : bin2 T .add t x y (.str r) (.str s) = some (.str (r ++ s)) := by simp [bin2, binA, strA, hl]
@[go_sem] theorem b_seql : bin2 T .eql t x y (.str r) (.str s) = some (.bool (r == s)) := by simp [bin2, binA, strA]
@[go_sem] theorem b_sneq : bin2 T .neq t x y (.str r) (.str s) = some (.bool (!(r == s))) := by simp [bin2, binA, strA]
@[go_sem] theorem b_slss : bin2 T .lss t x y (.str r) (.str s) = some (.bool (Op.bytesLess r s)) := by simp [bin2, binA, strA]
@[go_sem] theorem u_neg : unA .neg (.int kk a) = some (.int kk (kk.wrap (0 - a))) := (rfl)
@[go_sem] theorem u_not {b : Bool} : unA .not (.bool b) = some (.bool !b) := (rfl)
@[go_sem] theorem dec_true {p : Prop} [Decidable p] (hp : p) : decide p = true := decide_eq_true hp
@[go_sem] theorem dec_false {p : Prop} [Decidable p] (hp : ¬ p) : decide p = false := decide_eq_false hp
attribute [go_sem] beq_self_eq_true decide_true decide_false Bool.not_true Bool.not_false
@[go_sem] theorem mx2 : mmA true (.int kk a) [.int kk b] = some (.int kk (if b > a then b else a)) := (rfl)
@[go_sem] theorem mn2 : mmA false (.int kk a) [.int kk b] = some (.int kk (if b < a then b else a)) := (rfl)

-- numbers within their bounds
theorem wrap_s {z : Int} (k : IntKind) (hs : k.signed = true) (h1 : -(2 ^ (k.bits - 1)) ≤ z) (h2 : z < 2 ^ (k.bits - 1)) : k.wrap z = z := by
  cases k <;> simp [IntKind.signed] at hs <;> simp only [IntKind.wrap, IntKind.bits, IntKind.signed] at * <;> (simp at *; split <;> omega)
@[go_sem] theorem wrap_i64 {z : Int} (h1 : -9223372036854775808 ≤ z) (h2 : z < 9223372036854775808) : IntKind.i64.wrap z = z := wrap_s .i64 rfl (by simpa [IntKind.bits] using h1) (by simpa [IntKind.bits] using h2)
@[go_sem] theorem wrap_i32 {z : Int} (h1 : -2147483648 ≤ z) (h2 : z < 2147483648) : IntKind.i32.wrap z = z := wrap_s .i32 rfl (by simpa [IntKind.bits] using h1) (by simpa [IntKind.bits] using h2)
@[go_sem] theorem wrap_u64 {z : Int} : IntKind.u64.wrap z = z % 18446744073709551616 := by simp [IntKind.wrap, IntKind.bits, IntKind.signed]
@[go_sem] theorem wrap_u32 {z : Int} : IntKind.u32.wrap z = z % 4294967296 := by simp [IntKind.wrap, IntKind.bits, IntKind.signed]
@[go_sem] theorem wrap_u8 {z : Int} : IntKind.u8.wrap z = z % 256 := by simp [IntKind.wrap, IntKind.bits, IntKind.signed]
@[go_sem] theorem mod_id {z c : Int} (h1 : 0 ≤ z) (h2 : z < c) : z % c = z := Int.emod_eq_of_lt h1 h2

-- conversions, cuts, indexes
@[go_sem] theorem cv_int {k k' : IntKind} {z : Int} : cvV h (.int k) (.int k' z) = some (.int k (k.wrap z)) := (rfl)
@[go_sem] theorem cv_str : cvV h .str (.str s) = some (.str s) := (rfl)
@[go_sem] theorem cv_sl {i off len : Nat} {cap : Option Nat} : cvV h .bytes (.sl i off len cap) = cvO off len (h i) := (rfl)
@[go_sem] theorem cv_imm {cs : List AV} {len : Nat} : cvV h .bytes (.imm cs len) = ((readN cs len).bind bytesOf).map .str := (rfl)
@[go_sem] theorem cv_nils : cvV h .bytes .nils = some (.str []) := (rfl)
@[go_sem] theorem cvO_cells {off len : Nat} {cs : List AV} {q : Option (Nat × TypeId)} : cvO off len (some (.cells cs q)) = ((readN (cs.drop off) len).bind bytesOf).map .str := (rfl)
variable {i j : Int} {off len sz : Nat} {cap : Option Nat} {bl : Nat} {cs : List AV} {e : Sk} {u v : AV}
attribute [go_sem] boundA lenV idxOf
@[go_sem] theorem slV_nn : slV e u none none = slV e u (some (.int .i64 0)) none := (rfl)
@[go_sem] theorem slV_sn_str {ki : IntKind} : slV .str u (some (.int ki i)) none = slM .str u i (lenV u) := (rfl)
@[go_sem] theorem slV_sn_sl {ki : IntKind} : slV (.sl sz) u (some (.int ki i)) none = slM (.sl sz) u i (lenV u) := (rfl)
@[go_sem] theorem slV_ns {kj : IntKind} : slV e u none (some (.int kj j)) = slM e u 0 j := (rfl)
@[go_sem] theorem slV_ss {ki kj : IntKind} : slV e u (some (.int ki i)) (some (.int kj j)) = slM e u i j := (rfl)
@[go_sem] theorem slM_str (hc : 0 ≤ i ∧ i ≤ j ∧ j ≤ (s.length : Int)) : slM .str (.str s) i j = some (.str ((s.drop i.toNat).take (j.toNat - i.toNat))) := by simp only [slM]; rw [if_pos hc]
@[go_sem] theorem slM_sl0 (hc : 0 ≤ j ∧ j ≤ (len : Int)) : slM (.sl sz) (.sl bl off len none) 0 j = some (.sl bl off j.toNat none) := by
  simp only [slM]
  rw [if_pos (by simp; omega)]; simp
@[go_sem] theorem slM_sl0c {c : Nat} (hc : 0 ≤ j ∧ j ≤ (c : Int)) : slM (.sl sz) (.sl bl off len (some c)) 0 j = some (.sl bl off j.toNat (some c)) := by
  simp only [slM]
  rw [if_pos (by simp; omega)]; simp
@[go_sem] theorem slM_slc {c : Nat} (hc : 0 < i ∧ i < j ∧ j ≤ (c : Int)) : slM (.sl sz) (.sl bl off len (some c)) i j = some (.sl bl (off + i.toNat * sz) (j.toNat - i.toNat) (some (c - i.toNat))) := by
  simp only [slM]
  rw [if_pos (by simp; omega), if_neg (by omega), if_pos (by omega)]
@[go_sem] theorem slM_imm (hc : 0 ≤ i ∧ i < j ∧ j ≤ (len : Int)) : slM (.sl sz) (.imm cs len) i j = some (.imm ((cs.drop (i.toNat * sz)).take ((j.toNat - i.toNat) * sz)) (j.toNat - i.toNat)) := by
  simp only [slM]
  rw [if_pos (by omega), if_pos (by omega)]
@[go_sem] theorem slM_imm0 (hc : 0 ≤ i ∧ i = j ∧ j ≤ (len : Int)) : slM (.sl sz) (.imm cs len) i j = some (.imm [] 0) := by
  simp only [slM]
  rw [if_pos (by omega), if_neg (by omega)]
@[go_sem] theorem fa_ptr {o b off : Nat} : faV o (.ptr b off) = some (.ptr b (off + o)) := (rfl)
@[go_sem] theorem fa_iptr {o : Nat} : faV o (.iptr cs) = some (.iptr (cs.drop o)) := (rfl)
@[go_sem] theorem fd_agg {o s : Nat} : fdV (o, some s) (.agg cs) = some (.agg ((cs.drop o).take s)) := (rfl)
@[go_sem] theorem fd_one {o : Nat} : fdV (o, none) (.agg cs) = cs[o]? := (rfl)
@[go_sem] theorem ixV_int {w : Option Nat × Nat} {ki : IntKind} : ixV w u (.int ki i) = ixM w u i := (rfl)
@[go_sem] theorem ix_sl (hc : 0 ≤ i ∧ i < (len : Int)) : ixM (none, sz) (.sl bl off len cap) i = some (.ptr bl (off + i.toNat * sz)) := by simp only [ixM]; rw [if_pos hc]
@[go_sem] theorem ix_imm (hc : 0 ≤ i ∧ i < (len : Int)) : ixM (none, sz) (.imm cs len) i = some (.iptr (cs.drop (i.toNat * sz))) := by simp only [ixM]; rw [if_pos hc]
@[go_sem] theorem ix_arr {c : Nat} (hc : 0 ≤ i ∧ i < (c : Int)) : ixM (some c, sz) (.ptr bl off) i = some (.ptr bl (off + i.toNat * sz)) := by simp only [ixM]; rw [if_pos hc]
@[go_sem] theorem ix_iarr {c : Nat} (hc : 0 ≤ i ∧ i < (c : Int)) : ixM (some c, sz) (.iptr cs) i = some (.iptr (cs.drop (i.toNat * sz))) := by simp only [ixM]; rw [if_pos hc]
@[go_sem] theorem inV_int {w : Option (Nat × Nat × Bool)} {ki : IntKind} : inV w u (.int ki i) = inM w u i := (rfl)
@[go_sem] theorem in_str (hc : 0 ≤ i ∧ i < (s.length : Int)) : inM none (.str s) i = some (.int .u8 ((s.getD i.toNat 0).toNat : Nat)) := by
  have hl : i.toNat < s.length := by omega
  simp only [inM]
  rw [if_pos hc.1, List.getElem?_eq_getElem hl]
  simp [List.getD, List.getElem?_eq_getElem hl]
@[go_sem] theorem ex_tup {vs : List AV} {q : Nat} : exV (.tup vs) q = vs[q]? := (rfl)
@[go_sem] theorem ln_arr {q : Nat} : lnV (.arr q) h u = some (.int .i64 (q : Nat)) := (rfl)
@[go_sem] theorem ln_str : lnV .str h (.str s) = some (.int .i64 (s.length : Nat)) := (rfl)
@[go_sem] theorem ln_sl : lnV .sl h (.sl bl off len cap) = some (.int .i64 (len : Nat)) := (rfl)
@[go_sem] theorem ln_imm : lnV .sl h (.imm cs len) = some (.int .i64 (len : Nat)) := (rfl)
@[go_sem] theorem ln_nils : lnV .sl h .nils = some (.int .i64 0) := (rfl)
@[go_sem] theorem ln_map : lnV .map h (.map bl) = lnO (h bl) := (rfl)
@[go_sem] theorem ln_mapO {es : List (AV × AV)} : lnO (some (.map es)) = some (.int .i64 (es.length : Nat)) := (rfl)
attribute [go_sem] Int.toNat_natCast
attribute [go_sem] List.getElem?_cons_zero List.getElem?_cons_succ
-- structures
@[go_sem] theorem bu_s {l : List (Nat × Nat)} {z : List AV} {ps : List (Nat × AV)} {c : Nat} : buV (some l, c, z) ps = (fillA (fun k => l[k]?) z ps).map .agg := (rfl)
@[go_sem] theorem bu_a {z : List AV} {ps : List (Nat × AV)} {c : Nat} : buV (none, c, z) ps = (fillA (fun k => some (k * c, c)) z ps).map .agg := (rfl)
attribute [go_sem] List.length_append List.length_set List.length_map List.length_replicate Int.natCast_add Int.natCast_one
attribute [go_sem] fillA setsA List.set_cons_zero List.set_cons_succ List.length_cons List.length_nil cellsA

end Go.Acx
