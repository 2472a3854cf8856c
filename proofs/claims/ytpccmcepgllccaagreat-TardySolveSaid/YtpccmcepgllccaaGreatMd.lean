import Derived.Test.YtpccmcepgllccaaGreatMc
import Derived.KernelRfl
set_option linter.unusedVariables false
namespace Go.AB
open Go
def exL : List R63 := ([(R63.mk (0 : Int) (5 : Int) (6 : Int)),(R63.mk (1 : Int) (2 : Int) (3 : Int))] : List R63)
theorem m5_gen {n : Nat} (hn : 6000 < n) : m5 n = some true := by
  have hv : vld exL = true := by kernel_rfl
  have e1 : srch exL false exL.length [] [] = [1,0] := by kernel_rfl
  have e2 : val exL [1,0] false = 2 := by kernel_rfl
  have e3 : val exL [0,1] false = 4 := by kernel_rfl
  have e4 : par exL 1 = 1 := by kernel_rfl
  have h23 := m23_val (n := n) (l := exL) (o := [0,1]) hv (by kernel_rfl) (by simp) (by omega)
  have h21 := m21_val (n := n) (l := exL) (most := false) (by omega)
  have h24 := m24_val (n := n) (l := exL) (by omega)
  have h25 := m25_val (n := n) (l := exL) (by omega)
  rw [hv,if_pos rfl,if_pos (show exL.length ≤ 7 from by decide),e1,e2] at h21
  rw [hv,if_pos rfl,e4] at h24
  rw [e3] at h23
  rw [hv] at h25
  have h11 : m11 n [1,0] [1,0] = some true := m11_self (by simp) (by simp; omega)
  unfold exL at h23 h21 h24 h25
  unfold m5
  rw [letM_eq,h23,Option.bind_some,h21,Option.bind_some,h24,Option.bind_some]
  dsimp only
  rw [show ((((((decide ((0 : Int) = (0 : Int))) && (decide ((0 : Int) = (0 : Int)))) && (decide ((0 : Int) = (0 : Int)))) && (decide ((4 : Int) = (4 : Int)))) && (decide ((2 : Int) = (2 : Int)))) && (decide ((1 : Int) = (1 : Int)))) = true from rfl,gdO_true,h11,Option.bind_some,show (true && true) = true from rfl,gdO_true,h25]
  rfl
end Go.AB
