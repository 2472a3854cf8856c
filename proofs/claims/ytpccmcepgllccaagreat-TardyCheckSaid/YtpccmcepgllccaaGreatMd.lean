import Derived.Test.YtpccmcepgllccaaGreatMc
import Derived.KernelRfl
set_option linter.unusedVariables false
namespace Go.AB
open Go
def exL : List R63 := ([(R63.mk (0 : Int) (5 : Int) (6 : Int)),(R63.mk (1 : Int) (2 : Int) (3 : Int))] : List R63)
theorem m5_gen {n : Nat} (hn : 6000 < n) : m5 n = some true := by
  have hv : vld exL = true := by kernel_rfl
  have e1 : srch exL false exL.length [] [] = [1,0] := by kernel_rfl
  have e2 : val exL [1,0] false = 2 := by kernel_rfl
  have e3 : val exL [0,1] false = 4 := by kernel_rfl
  have e4 : par exL 1 = 1 := by kernel_rfl
  have h23 := m23_val (n := n) (l := exL) (o := [0,1]) hv (by kernel_rfl) (by simp) (by omega)
  have h21 := m21_val (n := n) (l := exL) (most := false) (by omega)
  have h24 := m24_val (n := n) (l := exL) (by omega)
  have h25 := m25_val (n := n) (l := exL) (by omega)
  rw [hv,if_pos rfl,if_pos (show exL.length ≤ 7 from by decide),e1,e2] at h21
  rw [hv,if_pos rfl,e4] at h24
  rw [e3] at h23
  rw [hv] at h25
  have h11 : m11 n [1,0] [1,0] = some true := m11_self (by simp) (by simp; omega)
  unfold exL at h23 h21 h24 h25
  unfold m5
  rw [letM_eq,h23,Option.bind_some,h21,Option.bind_some,h24,Option.bind_some]
  dsimp only
  rw [show ((((((decide ((0 : Int) = (0 : Int))) && (decide ((0 : Int) = (0 : Int)))) && (decide ((0 : Int) = (0 : Int)))) && (decide ((4 : Int) = (4 : Int)))) && (decide ((2 : Int) = (2 : Int)))) && (decide ((1 : Int) = (1 : Int)))) = true from rfl,gdO_true,h11,Option.bind_some,show (true && true) = true from rfl,gdO_true,h25]
  rfl
theorem m3_true {n : Nat} (hn : 6000 < n) (g : R24) (y : R27) (ch : List UInt8) (hy : Fit n n y) : m3 n g y ch = some true := by
  obtain ⟨J,l,m,L⟩ := g
  unfold m3
  dsimp only
  rw [m5_gen hn,Option.bind_some,show (!true) = false from rfl,Bool.false_or]
  have h6 : m6 n y = some (decide (nodF n y ≤ 300)) := by
    unfold m6
    rw [eta27,show m26 n y = _ from m26F_val n y hy,Option.bind_some]
  by_cases hf : ((decide ((6 : Int) < (J.length : Int))) || (decide ((12 : Int) < (l.length : Int)))) = true
  · rw [hf,Bool.not_true,gdO_false,Option.bind_some,Bool.true_or,if_pos rfl,Option.bind_some]
  · have hf' := (Bool.not_eq_true _).mp hf
    rw [hf',Bool.not_false,gdO_true,eta27,h6,Option.bind_some,Bool.false_or]
    simp only [Bool.or_eq_true,not_or,decide_eq_true_eq] at hf
    obtain ⟨hJ,hl⟩ := hf
    by_cases hc : nodF n y ≤ 300
    · rw [decide_eq_true hc,if_neg (by simp)]
      have h9 : m9 n y = some (ownF n y) := m9F_val n y hy
      have h13 : m13 n J = some J := m13_val (by omega) (by omega)
      have h8 : m8 n ⟨J,l,m,L⟩ = some ⟨J,l,m,L⟩ := by
        unfold m8
        rw [h13]; rfl
      obtain ⟨w,e,q1,q2,q3,q4⟩ := chk (J := J) (l := l) (m := m) (L := L) hn (by omega) (by omega) hy
      obtain ⟨b,b1,b2⟩ := rightB (l := l) (m := m) (L := L) hn (J := J) (by omega) (by omega) hy
      rw [h8,Option.bind_some,h9,Option.bind_some]
      dsimp only
      rw [eta40,q1,Option.bind_some,q2,Option.bind_some,Option.bind_some]
      dsimp only
      rw [m11_self (by omega) (by omega),Option.bind_some]
      rw [decide_eq_true rfl]
      simp only [show (!((!true) || (!true))) = true from rfl,gdO_true,h13,Option.bind_some,eta40,b1,b2]
      rw [if_neg (by simp)]
      by_cases he : e = 0
      · obtain ⟨hpb,hsound⟩ := q4 he
        obtain ⟨hv,_,hor⟩ := poss_iff hpb
        have hdl := nodup_le _ _ (ord_iff.1 hor).1 (ord_iff.1 hor).2
        obtain ⟨o,eo,hco,t,rfl⟩ := m16_val (n := n) (ch := ch) hor (by omega) (by omega) hdl
        have hol := hco.2
        rw [he,show (!(!decide ((0 : Int) = 0))) = true from rfl,gdO_true,eo,Option.bind_some,gdO_true,m15_val (by omega) (by omega) (by omega) (by omega),if_pos ⟨hv,hco.1⟩,Option.bind_some,decide_eq_true (hsound _ hco (by simp))]
        rfl
      · rw [show (!decide (e = 0)) = true from by simp [he],Bool.not_true,gdO_false,Option.bind_some,gdO_false,Option.bind_some]
        rfl
    · rw [decide_eq_false hc,if_pos (by rfl),Option.bind_some]
end Go.AB
