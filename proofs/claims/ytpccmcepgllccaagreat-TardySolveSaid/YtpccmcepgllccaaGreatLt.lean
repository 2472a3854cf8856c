import Derived.Test.YtpccmcepgllccaaGreatLq
set_option linter.unusedVariables false
namespace Go.AB
open Go
theorem m24_val {n : Nat} {l : List R63} (hn : 1000 < n) : m24 n l = some (if vld l = true then (par l 1,0) else (0,1)) := by
  unfold m24
  rw [m25_val (by omega),oB]
  by_cases hv : vld l = true
  · have := bd_vld hv
    rw [hv,if_neg (by simp),if_pos rfl,m46_val this.1 (by omega) (by omega) (by omega)]
    rfl
  · rw [(Bool.not_eq_true _).mp hv]; rfl
end Go.AB
