import Derived.Test.YtpcjbgfgimboiaaD
import Derived.Test.YtpcjbgfgimboiaaLw
namespace Go.AB
open Go

theorem m10_true : m10 5000 = some true := by kernel_rfl
theorem m12_nil {l : List R27} (h : l.length ≤ 100) : m12 5000 l = some () := by
  unfold m12 jn
  rw [show m18x1 5000 = some () from rfl, Option.bind_some]
  refine loopM_ind (fun i x => ∃ j : Nat, j ≤ l.length ∧ i = l.length - j ∧ x = (j : Int)) (fun o => o = some ()) ?_ 5000 l.length _ ⟨0, Nat.zero_le _, rfl, rfl⟩ (by omega)
  rintro i x ⟨j, hj, rfl, rfl⟩
  rcases Nat.lt_or_ge j l.length with h1 | h1
  · refine .inl ⟨l.length - (j + 1), ((j + 1 : Nat) : Int), by omega, ⟨j + 1, h1, rfl, rfl⟩, fun nx => ?_⟩
    rw [m12_L1, if_pos (by simp; omega), getIdx_at rfl h1, Option.bind_some]
    rw [show ∀ y, m19 5000 y = some () from fun _ => rfl]
    simp only [Option.bind_some, letM_eq]
    rw [wrap64 (by omega) (by omega)]
    rfl
  · refine .inr ⟨_, rfl, fun nx => ?_⟩
    rw [m12_L1, if_neg (by simp; omega)]
theorem m15_nil {l : List R27} (h : l.length ≤ 100) : m15 5000 l = some [] := by
  unfold m15
  rw [m12_nil h]
  rfl
theorem m9_true (l : List R27) : m9 5000 l = some true := by
  unfold m9
  rw [m10_true, Option.bind_some, if_neg (by simp)]
  by_cases h : l.length ≤ 100
  · rw [if_neg (by simp; omega), m12_nil h, Option.bind_some, show m18x1 5000 = some () from rfl, Option.bind_some, m15_nil h, Option.bind_some]
    kernel_rfl
  · rw [if_pos (by simp; omega)]
end Go.AB
