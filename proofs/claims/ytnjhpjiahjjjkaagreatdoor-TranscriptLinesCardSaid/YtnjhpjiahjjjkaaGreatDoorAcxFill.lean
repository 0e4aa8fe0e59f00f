/- Acx, part 24: a row that is filled cell by cell. -/
import Derived.Test.YtnjhpjiahjjjkaaGreatDoorAcxTxt
namespace Go.Acx

/-- i cells c, then zeros up to n. -/
def filled (c : AV) (z : AV) (i n : Nat) : List AV := List.replicate i c ++ List.replicate (n - i) z

theorem filled_zero (c z : AV) (n : Nat) : filled c z 0 n = List.replicate n z := by simp [filled]
theorem filled_all (c z : AV) (n : Nat) : filled c z n n = List.replicate n c := by simp [filled]
theorem filled_length (c z : AV) {i n : Nat} (h : i ≤ n) : (filled c z i n).length = n := by simp [filled]; omega

theorem filled_set (c z : AV) {i n : Nat} (h : i < n) : (filled c z i n).set i c = filled c z (i + 1) n := by
  unfold filled
  obtain ⟨k, hk⟩ : ∃ k, n - i = k + 1 := ⟨n - i - 1, by omega⟩
  have h2 : n - (i + 1) = k := by omega
  rw [hk, h2, List.set_append_right _ _ (by simp)]
  simp only [List.length_replicate, Nat.sub_self, List.replicate_succ, List.set_cons_zero]
  rw [← List.replicate_succ, List.replicate_succ' (n := i)]
  simp

end Go.Acx
