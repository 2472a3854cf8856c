import Derived.Test.YtpcjbgfgimboiaaProg
import Derived.Test.YtpcjbgfgimboiaaAb37
import Derived.KernelRfl
set_option linter.unusedVariables false
namespace Go.AB
open Go Go.Proofs
structure R27 where
  Key : Int
  Tag : Int
  deriving DecidableEq, Inhabited
def encR27 (y : R27) : List AV := [.sc (.int .i64 y.Key), .sc (.int .i64 y.Tag)]
theorem encR27_len (y : R27) : (encR27 y).length = 2 := rfl
theorem encR27_one (y : R27) : ∀ c, c ∈ encR27 y → c.one = true := by simp [encR27, AV.one]
theorem encR27_still (y : R27) : ∀ c, c ∈ encR27 y → c.still = true := by simp [encR27, AV.still]
theorem encR27_scal (y : R27) : ∀ c, c ∈ encR27 y → c.scal = true := by simp [encR27, AV.scal]
theorem zero3 : zeroT Try.prog 3 [.int .i64 0] := zeroT.mk (by kernel_rfl)
theorem el3 : elT Try.prog 3 1 8 := elT.mk (by kernel_rfl)
theorem zero62 : zeroT Try.prog 62 [.slice none 0 0] := zeroT.mk (by kernel_rfl)
structure R91 where
  x : Int
  number : Int
  deriving DecidableEq, Inhabited
def encR91 (y : R91) : List AV := [.sc (.int .i64 y.x), .sc (.int .i64 y.number)]
theorem encR91_len (y : R91) : (encR91 y).length = 2 := rfl
theorem encR91_one (y : R91) : ∀ c, c ∈ encR91 y → c.one = true := by simp [encR91, AV.one]
theorem encR91_still (y : R91) : ∀ c, c ∈ encR91 y → c.still = true := by simp [encR91, AV.still]
theorem encR91_scal (y : R91) : ∀ c, c ∈ encR91 y → c.scal = true := by simp [encR91, AV.scal]
structure R89 where
  l : (List R91)
  pushed : Int
  deriving DecidableEq, Inhabited
theorem zero90 : zeroT Try.prog 90 [.nilFunc, .slice none 0 0, .int .i64 0] := zeroT.mk (by kernel_rfl)
theorem sz64 : szOf Try.prog 64 1 := szOf.mk (by kernel_rfl)
theorem sz88 : szOf Try.prog 88 1 := szOf.mk (by kernel_rfl)
theorem sz3 : szOf Try.prog 3 1 := szOf.mk (by kernel_rfl)
theorem offs90 : offsOf Try.prog 90 [(0, 1), (1, 1), (2, 1)] := ⟨_, Try.underlying90, rfl, .cons sz64 (.cons sz88 (.cons sz3 (.nil)))⟩
theorem one3 : oneT Try.prog 3 := ⟨_, Try.underlying3, trivial⟩
theorem fld90_1 : fldOf Try.prog 90 1 1 := ⟨_, _, Try.underlying90, rfl, rfl, 0, sz88⟩
theorem one88 : oneT Try.prog 88 := ⟨_, Try.underlying88, trivial⟩
theorem fld90_2 : fldOf Try.prog 90 2 2 := ⟨_, _, Try.underlying90, rfl, rfl, 0, sz3⟩
theorem zero92 : zeroT Try.prog 92 [.int .i64 0, .int .i64 0] := zeroT.mk (by kernel_rfl)
theorem offs92 : offsOf Try.prog 92 [(0, 1), (1, 1)] := ⟨_, Try.underlying92, rfl, .cons sz3 (.cons sz3 (.nil))⟩
theorem el92 : elT Try.prog 92 2 16 := elT.mk (by kernel_rfl)
theorem mixed : Try.prog.follows .mixedOrders = true := by kernel_rfl
theorem sz92 : szOf Try.prog 92 2 := szOf.mk (by kernel_rfl)
theorem agg92 : aggT Try.prog 92 2 := ⟨sz92, _, Try.underlying92, trivial⟩
theorem fld92_1 : fldOf Try.prog 92 1 1 := ⟨_, _, Try.underlying92, rfl, rfl, 0, sz3⟩
theorem fld90_0 : fldOf Try.prog 90 0 0 := ⟨_, _, Try.underlying90, rfl, rfl, 0, sz64⟩
theorem one64 : oneT Try.prog 64 := ⟨_, Try.underlying64, trivial⟩
theorem fld92_0 : fldOf Try.prog 92 0 0 := ⟨_, _, Try.underlying92, rfl, rfl, 0, sz3⟩
theorem one79 : oneT Try.prog 79 := ⟨_, Try.underlying79, trivial⟩
theorem one62 : oneT Try.prog 62 := ⟨_, Try.underlying62, trivial⟩
theorem sz62 : szOf Try.prog 62 1 := szOf.mk (by kernel_rfl)
structure R68 where
  x : R27
  number : Int
  deriving DecidableEq, Inhabited
def encR68 (y : R68) : List AV := [.sc (.int .i64 y.x.Key), .sc (.int .i64 y.x.Tag), .sc (.int .i64 y.number)]
theorem encR68_len (y : R68) : (encR68 y).length = 3 := rfl
theorem encR68_one (y : R68) : ∀ c, c ∈ encR68 y → c.one = true := by simp [encR68, AV.one]
theorem encR68_still (y : R68) : ∀ c, c ∈ encR68 y → c.still = true := by simp [encR68, AV.still]
theorem encR68_scal (y : R68) : ∀ c, c ∈ encR68 y → c.scal = true := by simp [encR68, AV.scal]
structure R66 where
  l : (List R68)
  pushed : Int
  deriving DecidableEq, Inhabited
theorem zero67 : zeroT Try.prog 67 [.nilFunc, .slice none 0 0, .int .i64 0] := zeroT.mk (by kernel_rfl)
theorem sz29 : szOf Try.prog 29 1 := szOf.mk (by kernel_rfl)
theorem sz65 : szOf Try.prog 65 1 := szOf.mk (by kernel_rfl)
theorem offs67 : offsOf Try.prog 67 [(0, 1), (1, 1), (2, 1)] := ⟨_, Try.underlying67, rfl, .cons sz29 (.cons sz65 (.cons sz3 (.nil)))⟩
theorem zero28 : zeroT Try.prog 28 [.int .i64 0, .int .i64 0] := zeroT.mk (by kernel_rfl)
theorem el28 : elT Try.prog 28 2 16 := elT.mk (by kernel_rfl)
theorem sz28 : szOf Try.prog 28 2 := szOf.mk (by kernel_rfl)
theorem agg28 : aggT Try.prog 28 2 := ⟨sz28, _, Try.underlying28, trivial⟩
theorem fld28_0 : fldOf Try.prog 28 0 0 := ⟨_, _, Try.underlying28, rfl, rfl, 0, sz3⟩
theorem fld67_1 : fldOf Try.prog 67 1 1 := ⟨_, _, Try.underlying67, rfl, rfl, 0, sz65⟩
theorem one65 : oneT Try.prog 65 := ⟨_, Try.underlying65, trivial⟩
theorem fld67_2 : fldOf Try.prog 67 2 2 := ⟨_, _, Try.underlying67, rfl, rfl, 0, sz3⟩
theorem zero69 : zeroT Try.prog 69 [.int .i64 0, .int .i64 0, .int .i64 0] := zeroT.mk (by kernel_rfl)
theorem offs69 : offsOf Try.prog 69 [(0, 2), (2, 1)] := ⟨_, Try.underlying69, rfl, .cons sz28 (.cons sz3 (.nil))⟩
theorem el69 : elT Try.prog 69 3 24 := elT.mk (by kernel_rfl)
theorem sz69 : szOf Try.prog 69 3 := szOf.mk (by kernel_rfl)
theorem agg69 : aggT Try.prog 69 3 := ⟨sz69, _, Try.underlying69, trivial⟩
theorem fld69_1 : fldOf Try.prog 69 1 2 := ⟨_, _, Try.underlying69, rfl, rfl, 0, sz3⟩
theorem fld67_0 : fldOf Try.prog 67 0 0 := ⟨_, _, Try.underlying67, rfl, rfl, 0, sz29⟩
theorem one29 : oneT Try.prog 29 := ⟨_, Try.underlying29, trivial⟩
theorem fld69_0 : fldOf Try.prog 69 0 0 := ⟨_, _, Try.underlying69, rfl, rfl, 1, sz28⟩
theorem zero22 : zeroT Try.prog 22 [.slice none 0 0] := zeroT.mk (by kernel_rfl)
theorem one25 : oneT Try.prog 25 := ⟨_, Try.underlying25, trivial⟩
theorem one22 : oneT Try.prog 22 := ⟨_, Try.underlying22, trivial⟩
theorem sz22 : szOf Try.prog 22 1 := szOf.mk (by kernel_rfl)
theorem gt28 : Try.prog.eqGuardType Try.prog.depth 28 = false := by kernel_rfl
theorem si28 : Try.prog.stoodInHeld 28 = false := by kernel_rfl
theorem sz5 : szOf Try.prog 5 1 := szOf.mk (by kernel_rfl)
theorem one5 : oneT Try.prog 5 := ⟨_, Try.underlying5, trivial⟩
theorem offs28 : offsOf Try.prog 28 [(0, 1), (1, 1)] := ⟨_, Try.underlying28, rfl, .cons sz3 (.cons sz3 (.nil))⟩
theorem zero4 : zeroT Try.prog 4 [.bool false] := zeroT.mk (by kernel_rfl)
theorem el4 : elT Try.prog 4 1 1 := elT.mk (by kernel_rfl)
theorem fld28_1 : fldOf Try.prog 28 1 1 := ⟨_, _, Try.underlying28, rfl, rfl, 0, sz3⟩
theorem sz4 : szOf Try.prog 4 1 := szOf.mk (by kernel_rfl)
theorem one4 : oneT Try.prog 4 := ⟨_, Try.underlying4, trivial⟩
structure R75 where
  x : Int
  number : Int
  deriving DecidableEq, Inhabited
def encR75 (y : R75) : List AV := [.sc (.int .u16 y.x), .sc (.int .i64 y.number)]
theorem encR75_len (y : R75) : (encR75 y).length = 2 := rfl
theorem encR75_one (y : R75) : ∀ c, c ∈ encR75 y → c.one = true := by simp [encR75, AV.one]
theorem encR75_still (y : R75) : ∀ c, c ∈ encR75 y → c.still = true := by simp [encR75, AV.still]
theorem encR75_scal (y : R75) : ∀ c, c ∈ encR75 y → c.scal = true := by simp [encR75, AV.scal]
structure R73 where
  l : (List R75)
  pushed : Int
  deriving DecidableEq, Inhabited
theorem zero74 : zeroT Try.prog 74 [.nilFunc, .slice none 0 0, .int .i64 0] := zeroT.mk (by kernel_rfl)
theorem sz53 : szOf Try.prog 53 1 := szOf.mk (by kernel_rfl)
theorem sz72 : szOf Try.prog 72 1 := szOf.mk (by kernel_rfl)
theorem offs74 : offsOf Try.prog 74 [(0, 1), (1, 1), (2, 1)] := ⟨_, Try.underlying74, rfl, .cons sz53 (.cons sz72 (.cons sz3 (.nil)))⟩
theorem sz52 : szOf Try.prog 52 1 := szOf.mk (by kernel_rfl)
theorem one52 : oneT Try.prog 52 := ⟨_, Try.underlying52, trivial⟩
theorem fld74_1 : fldOf Try.prog 74 1 1 := ⟨_, _, Try.underlying74, rfl, rfl, 0, sz72⟩
theorem one72 : oneT Try.prog 72 := ⟨_, Try.underlying72, trivial⟩
theorem fld74_2 : fldOf Try.prog 74 2 2 := ⟨_, _, Try.underlying74, rfl, rfl, 0, sz3⟩
theorem zero76 : zeroT Try.prog 76 [.int .u16 0, .int .i64 0] := zeroT.mk (by kernel_rfl)
theorem offs76 : offsOf Try.prog 76 [(0, 1), (1, 1)] := ⟨_, Try.underlying76, rfl, .cons sz52 (.cons sz3 (.nil))⟩
theorem el76 : elT Try.prog 76 2 16 := elT.mk (by kernel_rfl)
theorem sz76 : szOf Try.prog 76 2 := szOf.mk (by kernel_rfl)
theorem agg76 : aggT Try.prog 76 2 := ⟨sz76, _, Try.underlying76, trivial⟩
theorem fld76_1 : fldOf Try.prog 76 1 1 := ⟨_, _, Try.underlying76, rfl, rfl, 0, sz3⟩
theorem fld74_0 : fldOf Try.prog 74 0 0 := ⟨_, _, Try.underlying74, rfl, rfl, 0, sz53⟩
theorem one53 : oneT Try.prog 53 := ⟨_, Try.underlying53, trivial⟩
theorem fld76_0 : fldOf Try.prog 76 0 0 := ⟨_, _, Try.underlying76, rfl, rfl, 0, sz52⟩
structure R59 where
  Kind : Int
  Item : R27
  deriving DecidableEq, Inhabited
def encR59 (y : R59) : List AV := [.sc (.int .u8 y.Kind), .sc (.int .i64 y.Item.Key), .sc (.int .i64 y.Item.Tag)]
theorem encR59_len (y : R59) : (encR59 y).length = 3 := rfl
theorem encR59_one (y : R59) : ∀ c, c ∈ encR59 y → c.one = true := by simp [encR59, AV.one]
theorem encR59_still (y : R59) : ∀ c, c ∈ encR59 y → c.still = true := by simp [encR59, AV.still]
theorem encR59_scal (y : R59) : ∀ c, c ∈ encR59 y → c.scal = true := by simp [encR59, AV.scal]
theorem sz60 : szOf Try.prog 60 3 := szOf.mk (by kernel_rfl)
theorem agg60 : aggT Try.prog 60 3 := ⟨sz60, _, Try.underlying60, trivial⟩
theorem zero60 : zeroT Try.prog 60 [.int .u8 0, .int .i64 0, .int .i64 0] := zeroT.mk (by kernel_rfl)
theorem fld60_0 : fldOf Try.prog 60 0 0 := ⟨_, _, Try.underlying60, rfl, rfl, 0, sz5⟩
theorem fld60_1 : fldOf Try.prog 60 1 1 := ⟨_, _, Try.underlying60, rfl, rfl, 1, sz28⟩
def m38 (n : Nat) : Option R89 :=
  (some (R89.mk ([] : List R91) (0 : Int)))
def m31 (n : Nat) (a0 : Int) (a1 : Int) : Option Bool :=
  (some (decide ((IntKind.wrap .i64 (a0.tdiv (10 : Int))) < (IntKind.wrap .i64 (a1.tdiv (10 : Int))))))
def m43 (n : Nat) (a0_b1_b : (List R91)) (a0_b2 : Int) (a1 : Int) (a2 : Int) : Option Bool :=
  ((getIdx a0_b1_b a1).bind fun y_1 => ((getIdx a0_b1_b a2).bind fun y_2 => (if (decide (y_1.number < y_2.number)) = true then ((m31 n y_2.x y_1.x).bind fun y_3 => (some (!y_3))) else ((m31 n y_1.x y_2.x).bind fun y_4 => (some y_4)))))
def m39_L1 (n : Nat) (c_2 : Int) (k_33 : (List R91) → Option (Int × (List R91))) (nx_23 : (Int × (List R91)) → Option (Int × (List R91))) (x_22 : (Int × (List R91))) : Option (Int × (List R91)) :=
  (if (decide ((0 : Int) < x_22.1)) = true then (letM ((IntKind.wrap .i64 ((IntKind.wrap .i64 (x_22.1 - (1 : Int))).tdiv (2 : Int)))) fun t5_24 => ((m43 n x_22.2 c_2 x_22.1 t5_24).bind fun y_25 => (if (!y_25) = true then (some (c_2, x_22.2)) else ((getIdx x_22.2 t5_24).bind fun y_26 => ((getIdx x_22.2 x_22.1).bind fun y_27 => ((getIdx x_22.2 x_22.1).bind fun y_28 => ((setIdx x_22.2 x_22.1 (R91.mk y_26.x y_26.number)).bind fun l2_29 => ((getIdx l2_29 t5_24).bind fun y_30 => ((setIdx l2_29 t5_24 (R91.mk y_27.x y_27.number)).bind fun l2_31 => (nx_23 (t5_24, l2_31))))))))))) else (k_33 x_22.2))
def m39 (n : Nat) (a0_b1_b : (List R91)) (a0_b2 : Int) (a1 : Int) : Option (Int × (List R91)) :=
  ((apd a0_b1_b ([(R91.mk a1 a0_b2)] : List R91)).bind fun l2_1 => (letM ((IntKind.wrap .i64 (a0_b2 + (1 : Int)))) fun c_2 => (letM ((IntKind.wrap .i64 ((l2_1.length : Int) - (1 : Int)))) fun t4_3 => (jn (fun p_32 : (List R91) => (some (c_2, p_32))) fun k_33 => (loopM (m39_L1 n c_2 k_33) n (t4_3, l2_1))))))
def m36_L1 (n : Nat) (a1 : (List Int)) (k_16 : (Int × (List R91)) → Option R89) (nx_11 : (Int × Int × (List R91)) → Option R89) (x_10 : (Int × Int × (List R91))) : Option R89 :=
  (if (decide (x_10.1 < (a1.length : Int))) = true then ((getIdx a1 x_10.1).bind fun y_12 => ((m39 n x_10.2.2 x_10.2.1 y_12).bind fun y_13 => (letM ((IntKind.wrap .i64 (x_10.1 + (1 : Int)))) fun t12_14 => (nx_11 (t12_14, y_13.1, y_13.2))))) else (k_16 (x_10.2.1, x_10.2.2)))
def m36 (n : Nat) (a1 : (List Int)) : Option R89 :=
  ((m38 n).bind fun y_1 => (jn (fun p_15 : Int × (List R91) => (some (R89.mk p_15.2 p_15.1))) fun k_16 => (loopM (m36_L1 n a1 k_16) n ((0 : Int), y_1.pushed, y_1.l))))
def m37 (n : Nat) (a0_b1_b : (List R91)) (a0_b2 : Int) : Option Unit :=
  (some ())
def m44 (n : Nat) (a0 : (List R91)) : Option (List R91) :=
  ((apd ([] : List R91) a0).bind fun l1_2 => (some l1_2))
def m41 (n : Nat) (a0_b1_b : (List R91)) (a0_b2 : Int) : Option R89 :=
  ((m44 n a0_b1_b).bind fun y_1 => (some (R89.mk y_1 a0_b2)))
def m45 (n : Nat) (a0_b1_b : (List R91)) (a0_b2 : Int) : Option Int :=
  (some (a0_b1_b.length : Int))
def m42_L1 (n : Nat) (a0_b2 : Int) (y_2 : R91) (t4_3 : Int) (nx_41 : (Int × (List R91)) → Option (Int × Bool × Int × (List R91))) (x_40 : (Int × (List R91))) : Option (Int × Bool × Int × (List R91)) :=
  (letM ((IntKind.wrap .i64 ((IntKind.wrap .i64 ((2 : Int) * x_40.1)) + (1 : Int)))) fun t7_42 => ((gdO (decide (t7_42 < t4_3)) (m43 n x_40.2 a0_b2 t7_42 x_40.1) default).bind fun y_43 => (jn (fun p_44 : Int => (letM ((IntKind.wrap .i64 ((IntKind.wrap .i64 ((2 : Int) * x_40.1)) + (2 : Int)))) fun t8_46 => ((gdO (decide (t8_46 < t4_3)) (m43 n x_40.2 a0_b2 t8_46 p_44) default).bind fun y_47 => (jn (fun p_48 : Int => (if (decide (p_48 = x_40.1)) = true then (some (y_2.x, true, a0_b2, x_40.2)) else ((getIdx x_40.2 p_48).bind fun y_50 => ((getIdx x_40.2 x_40.1).bind fun y_51 => ((getIdx x_40.2 x_40.1).bind fun y_52 => ((setIdx x_40.2 x_40.1 (R91.mk y_50.x y_50.number)).bind fun l2_53 => ((getIdx l2_53 p_48).bind fun y_54 => ((setIdx l2_53 p_48 (R91.mk y_51.x y_51.number)).bind fun l2_55 => (nx_41 (p_48, l2_55)))))))))) fun k_49 => (if ((decide (t8_46 < t4_3)) && y_47) = true then (k_49 t8_46) else (k_49 p_44)))))) fun k_45 => (if ((decide (t7_42 < t4_3)) && y_43) = true then (k_45 t7_42) else (k_45 x_40.1)))))
def m42 (n : Nat) (a0_b1_b : (List R91)) (a0_b2 : Int) : Option (Int × Bool × Int × (List R91)) :=
  ((m45 n a0_b1_b a0_b2).bind fun y_1 => (if (decide (y_1 = (0 : Int))) = true then (some ((0 : Int), false, a0_b2, a0_b1_b)) else ((getIdx a0_b1_b (0 : Int)).bind fun y_2 => (letM ((IntKind.wrap .i64 ((a0_b1_b.length : Int) - (1 : Int)))) fun t4_3 => ((getIdx a0_b1_b t4_3).bind fun y_4 => ((getIdx a0_b1_b (0 : Int)).bind fun y_5 => ((setIdx a0_b1_b (0 : Int) (R91.mk y_4.x y_4.number)).bind fun l2_6 => ((getIdx l2_6 t4_3).bind fun y_7 => ((setIdx l2_6 t4_3 (R91.mk (0 : Int) (0 : Int))).bind fun l2_8 => ((slc l2_8 (0 : Int) t4_3).bind fun l2_9 => (loopM (m42_L1 n a0_b2 y_2 t4_3) n ((0 : Int), l2_9))))))))))))
def m40_L1 (n : Nat) (k_20 : Unit → Option (List Int)) (nx_14 : (Int × Bool × Int × (List R91)) → Option (List Int)) (x_13 : (Int × Bool × Int × (List R91))) : Option (List Int) :=
  (if x_13.2.1 = true then (yldM false x_13.1 ((m42 n x_13.2.2.2 x_13.2.2.1).bind fun y_18 => (nx_14 (y_18.1, y_18.2.1, y_18.2.2.1, y_18.2.2.2)))) else (k_20 ()))
def m40 (n : Nat) (a1_b0_b1_b : (List R91)) (a1_b0_b2 : Int) : Option (List Int) :=
  ((m41 n a1_b0_b1_b a1_b0_b2).bind fun y_1 => ((m42 n y_1.l y_1.pushed).bind fun y_2 => (jn (fun p_19 : Unit => (some [])) fun k_20 => (loopM (m40_L1 n k_20) n (y_2.1, y_2.2.1, y_2.2.2.1, y_2.2.2.2)))))
def m30_R1 (n : Nat) (nx_10 : (List Int) → Option (List Int)) (e_4 : Int) (x_9 : (List Int)) : Option (List Int) :=
  ((apd x_9 ([e_4] : List Int)).bind fun l5_11 => (nx_10 l5_11))
def m30 (n : Nat) (a1 : (List Int)) : Option (List Int) :=
  ((m36 n a1).bind fun y_1 => ((m37 n y_1.l y_1.pushed).bind fun y_2 => ((m40 n y_1.l y_1.pushed).bind fun y_3 => (rangeL (m30_R1 n) y_3 (fun p_12 : (List Int) => (some p_12)) ([] : List Int)))))
def m18 (n : Nat) : Option R66 :=
  (some (R66.mk ([] : List R68) (0 : Int)))
def m10 (n : Nat) : Option Bool :=
  ((m30 n ([(25 : Int), (13 : Int), (21 : Int), (11 : Int)] : List Int)).bind fun y_1 => ((gdO (decide ((y_1.length : Int) = (4 : Int))) (getIdx y_1 (0 : Int)) default).bind fun y_2 => ((gdO ((decide ((y_1.length : Int) = (4 : Int))) && (decide (y_2 = (13 : Int)))) (getIdx y_1 (1 : Int)) default).bind fun y_3 => ((gdO (((decide ((y_1.length : Int) = (4 : Int))) && (decide (y_2 = (13 : Int)))) && (decide (y_3 = (11 : Int)))) (getIdx y_1 (2 : Int)) default).bind fun y_4 => ((gdO ((((decide ((y_1.length : Int) = (4 : Int))) && (decide (y_2 = (13 : Int)))) && (decide (y_3 = (11 : Int)))) && (decide (y_4 = (25 : Int)))) (getIdx y_1 (3 : Int)) default).bind fun y_5 => (jn (fun p_8 : Bool => (some p_8)) fun k_9 => (if (((((decide ((y_1.length : Int) = (4 : Int))) && (decide (y_2 = (13 : Int)))) && (decide (y_3 = (11 : Int)))) && (decide (y_4 = (25 : Int)))) && (decide (y_5 = (21 : Int)))) = true then ((m18 n).bind fun y_7 => (k_9 true)) else (k_9 false))))))))
def m22_L1 (n : Nat) (a0 : (List R27)) (a1 : R27) (k_9 : Int → Option (List R27)) (nx_5 : Int → Option (List R27)) (x_4 : Int) : Option (List R27) :=
  ((gdO (decide (x_4 < (a0.length : Int))) (getIdx a0 x_4) default).bind fun y_6 => (if ((decide (x_4 < (a0.length : Int))) && (decide (y_6.Key ≤ a1.Key))) = true then (letM ((IntKind.wrap .i64 (x_4 + (1 : Int)))) fun t5_7 => (nx_5 t5_7)) else (k_9 x_4)))
def m22 (n : Nat) (a0 : (List R27)) (a1 : R27) : Option (List R27) :=
  (jn (fun p_8 : Int => ((slc a0 (0 : Int) p_8).bind fun s_10 => ((apd ([] : List R27) s_10).bind fun l2_11 => ((apd l2_11 ([(R27.mk a1.Key a1.Tag)] : List R27)).bind fun l2_12 => ((slc a0 p_8 (a0.length : Int)).bind fun s_13 => ((apd l2_12 s_13).bind fun l2_14 => (some l2_14))))))) fun k_9 => (loopM (m22_L1 n a0 a1 k_9) n (0 : Int)))
def m11_L1 (n : Nat) (a0 : (List R27)) (k_15 : (List R27) → Option (List R27)) (nx_10 : ((List R27) × Int) → Option (List R27)) (x_9 : ((List R27) × Int)) : Option (List R27) :=
  (if (decide (x_9.2 < (a0.length : Int))) = true then ((getIdx a0 x_9.2).bind fun y_11 => ((m22 n x_9.1 (R27.mk y_11.Key y_11.Tag)).bind fun y_12 => (letM ((IntKind.wrap .i64 (x_9.2 + (1 : Int)))) fun t4_13 => (nx_10 (y_12, t4_13))))) else (k_15 x_9.1))
def m11 (n : Nat) (a0 : (List R27)) : Option (List R27) :=
  (jn (fun p_14 : (List R27) => (some p_14)) fun k_15 => (loopM (m11_L1 n a0 k_15) n (([] : List R27), (0 : Int))))
def m13 (n : Nat) (a0 : R27) (a1 : R27) : Option Bool :=
  (some (decide (a0.Key < a1.Key)))
def m32 (n : Nat) (a0_b1_b : (List R68)) (a0_b2 : Int) (a1 : Int) (a2 : Int) : Option Bool :=
  ((getIdx a0_b1_b a1).bind fun y_1 => ((getIdx a0_b1_b a2).bind fun y_2 => (if (decide (y_1.number < y_2.number)) = true then ((m13 n (R27.mk y_2.x.Key y_2.x.Tag) (R27.mk y_1.x.Key y_1.x.Tag)).bind fun y_3 => (some (!y_3))) else ((m13 n (R27.mk y_1.x.Key y_1.x.Tag) (R27.mk y_2.x.Key y_2.x.Tag)).bind fun y_4 => (some y_4)))))
def m19_L1 (n : Nat) (c_2 : Int) (k_33 : (List R68) → Option (Int × (List R68))) (nx_23 : (Int × (List R68)) → Option (Int × (List R68))) (x_22 : (Int × (List R68))) : Option (Int × (List R68)) :=
  (if (decide ((0 : Int) < x_22.1)) = true then (letM ((IntKind.wrap .i64 ((IntKind.wrap .i64 (x_22.1 - (1 : Int))).tdiv (2 : Int)))) fun t5_24 => ((m32 n x_22.2 c_2 x_22.1 t5_24).bind fun y_25 => (if (!y_25) = true then (some (c_2, x_22.2)) else ((getIdx x_22.2 t5_24).bind fun y_26 => ((getIdx x_22.2 x_22.1).bind fun y_27 => ((getIdx x_22.2 x_22.1).bind fun y_28 => ((setIdx x_22.2 x_22.1 (R68.mk (R27.mk y_26.x.Key y_26.x.Tag) y_26.number)).bind fun l2_29 => ((getIdx l2_29 t5_24).bind fun y_30 => ((setIdx l2_29 t5_24 (R68.mk (R27.mk y_27.x.Key y_27.x.Tag) y_27.number)).bind fun l2_31 => (nx_23 (t5_24, l2_31))))))))))) else (k_33 x_22.2))
def m19 (n : Nat) (a0_b1_b : (List R68)) (a0_b2 : Int) (a1 : R27) : Option (Int × (List R68)) :=
  ((apd a0_b1_b ([(R68.mk (R27.mk a1.Key a1.Tag) a0_b2)] : List R68)).bind fun l2_1 => (letM ((IntKind.wrap .i64 (a0_b2 + (1 : Int)))) fun c_2 => (letM ((IntKind.wrap .i64 ((l2_1.length : Int) - (1 : Int)))) fun t4_3 => (jn (fun p_32 : (List R68) => (some (c_2, p_32))) fun k_33 => (loopM (m19_L1 n c_2 k_33) n (t4_3, l2_1))))))
def m12_L1 (n : Nat) (a1 : (List R27)) (k_16 : (Int × (List R68)) → Option R66) (nx_11 : (Int × Int × (List R68)) → Option R66) (x_10 : (Int × Int × (List R68))) : Option R66 :=
  (if (decide (x_10.1 < (a1.length : Int))) = true then ((getIdx a1 x_10.1).bind fun y_12 => ((m19 n x_10.2.2 x_10.2.1 (R27.mk y_12.Key y_12.Tag)).bind fun y_13 => (letM ((IntKind.wrap .i64 (x_10.1 + (1 : Int)))) fun t12_14 => (nx_11 (t12_14, y_13.1, y_13.2))))) else (k_16 (x_10.2.1, x_10.2.2)))
def m12 (n : Nat) (a1 : (List R27)) : Option R66 :=
  ((m18 n).bind fun y_1 => (jn (fun p_15 : Int × (List R68) => (some (R66.mk p_15.2 p_15.1))) fun k_16 => (loopM (m12_L1 n a1 k_16) n ((0 : Int), y_1.pushed, y_1.l))))
def m20 (n : Nat) (a0_b1_b : (List R68)) (a0_b2 : Int) : Option Unit :=
  (some ())
def m34 (n : Nat) (a0 : (List R68)) : Option (List R68) :=
  ((apd ([] : List R68) a0).bind fun l1_2 => (some l1_2))
def m23 (n : Nat) (a0_b1_b : (List R68)) (a0_b2 : Int) : Option R66 :=
  ((m34 n a0_b1_b).bind fun y_1 => (some (R66.mk y_1 a0_b2)))
def m16 (n : Nat) (a0_b1_b : (List R68)) (a0_b2 : Int) : Option Int :=
  (some (a0_b1_b.length : Int))
def m21_L1 (n : Nat) (a0_b2 : Int) (y_2 : R68) (t4_3 : Int) (nx_41 : (Int × (List R68)) → Option (R27 × Bool × Int × (List R68))) (x_40 : (Int × (List R68))) : Option (R27 × Bool × Int × (List R68)) :=
  (letM ((IntKind.wrap .i64 ((IntKind.wrap .i64 ((2 : Int) * x_40.1)) + (1 : Int)))) fun t7_42 => ((gdO (decide (t7_42 < t4_3)) (m32 n x_40.2 a0_b2 t7_42 x_40.1) default).bind fun y_43 => (jn (fun p_44 : Int => (letM ((IntKind.wrap .i64 ((IntKind.wrap .i64 ((2 : Int) * x_40.1)) + (2 : Int)))) fun t8_46 => ((gdO (decide (t8_46 < t4_3)) (m32 n x_40.2 a0_b2 t8_46 p_44) default).bind fun y_47 => (jn (fun p_48 : Int => (if (decide (p_48 = x_40.1)) = true then (some ((R27.mk y_2.x.Key y_2.x.Tag), true, a0_b2, x_40.2)) else ((getIdx x_40.2 p_48).bind fun y_50 => ((getIdx x_40.2 x_40.1).bind fun y_51 => ((getIdx x_40.2 x_40.1).bind fun y_52 => ((setIdx x_40.2 x_40.1 (R68.mk (R27.mk y_50.x.Key y_50.x.Tag) y_50.number)).bind fun l2_53 => ((getIdx l2_53 p_48).bind fun y_54 => ((setIdx l2_53 p_48 (R68.mk (R27.mk y_51.x.Key y_51.x.Tag) y_51.number)).bind fun l2_55 => (nx_41 (p_48, l2_55)))))))))) fun k_49 => (if ((decide (t8_46 < t4_3)) && y_47) = true then (k_49 t8_46) else (k_49 p_44)))))) fun k_45 => (if ((decide (t7_42 < t4_3)) && y_43) = true then (k_45 t7_42) else (k_45 x_40.1)))))
def m21 (n : Nat) (a0_b1_b : (List R68)) (a0_b2 : Int) : Option (R27 × Bool × Int × (List R68)) :=
  ((m16 n a0_b1_b a0_b2).bind fun y_1 => (if (decide (y_1 = (0 : Int))) = true then (some ((R27.mk (0 : Int) (0 : Int)), false, a0_b2, a0_b1_b)) else ((getIdx a0_b1_b (0 : Int)).bind fun y_2 => (letM ((IntKind.wrap .i64 ((a0_b1_b.length : Int) - (1 : Int)))) fun t4_3 => ((getIdx a0_b1_b t4_3).bind fun y_4 => ((getIdx a0_b1_b (0 : Int)).bind fun y_5 => ((setIdx a0_b1_b (0 : Int) (R68.mk (R27.mk y_4.x.Key y_4.x.Tag) y_4.number)).bind fun l2_6 => ((getIdx l2_6 t4_3).bind fun y_7 => ((setIdx l2_6 t4_3 (R68.mk (R27.mk (0 : Int) (0 : Int)) (0 : Int))).bind fun l2_8 => ((slc l2_8 (0 : Int) t4_3).bind fun l2_9 => (loopM (m21_L1 n a0_b2 y_2 t4_3) n ((0 : Int), l2_9))))))))))))
def m33_L1 (n : Nat) (k_20 : Unit → Option (List R27)) (nx_14 : (Bool × Int × Int × Int × (List R68)) → Option (List R27)) (x_13 : (Bool × Int × Int × Int × (List R68))) : Option (List R27) :=
  (if x_13.1 = true then (yldM false (R27.mk x_13.2.2.1 x_13.2.2.2.1) ((m21 n x_13.2.2.2.2 x_13.2.1).bind fun y_18 => (nx_14 (y_18.2.1, y_18.2.2.1, y_18.1.Key, y_18.1.Tag, y_18.2.2.2)))) else (k_20 ()))
def m33 (n : Nat) (a1_b0_b1_b : (List R68)) (a1_b0_b2 : Int) : Option (List R27) :=
  ((m23 n a1_b0_b1_b a1_b0_b2).bind fun y_1 => ((m21 n y_1.l y_1.pushed).bind fun y_2 => (jn (fun p_19 : Unit => (some [])) fun k_20 => (loopM (m33_L1 n k_20) n (y_2.2.1, y_2.2.2.1, y_2.1.Key, y_2.1.Tag, y_2.2.2.2)))))
def m15_R1 (n : Nat) (nx_10 : (List R27) → Option (List R27)) (e_4 : R27) (x_9 : (List R27)) : Option (List R27) :=
  ((apd x_9 ([(R27.mk e_4.Key e_4.Tag)] : List R27)).bind fun l5_11 => (nx_10 l5_11))
def m15 (n : Nat) (a1 : (List R27)) : Option (List R27) :=
  ((m12 n a1).bind fun y_1 => ((m20 n y_1.l y_1.pushed).bind fun y_2 => ((m33 n y_1.l y_1.pushed).bind fun y_3 => (rangeL (m15_R1 n) y_3 (fun p_12 : (List R27) => (some p_12)) ([] : List R27)))))
def m14_L1 (n : Nat) (a0 : (List R27)) (a1 : (List R27)) (k_11 : Unit → Option Bool) (nx_6 : Int → Option Bool) (x_5 : Int) : Option Bool :=
  (if (decide (x_5 < (a0.length : Int))) = true then ((getIdx a0 x_5).bind fun y_7 => ((getIdx a1 x_5).bind fun y_8 => (if (!(([y_7.Key, y_7.Tag] : List Int) == [y_8.Key, y_8.Tag])) = true then (some false) else (letM ((IntKind.wrap .i64 (x_5 + (1 : Int)))) fun t5_9 => (nx_6 t5_9))))) else (k_11 ()))
def m14 (n : Nat) (a0 : (List R27)) (a1 : (List R27)) : Option Bool :=
  (if (!decide ((a0.length : Int) = (a1.length : Int))) = true then (some false) else (jn (fun p_10 : Unit => (some true)) fun k_11 => (loopM (m14_L1 n a0 a1 k_11) n (0 : Int))))
def m17_L1 (n : Nat) (k_16 : (Int × (List R68) × (List R27)) → Option ((List R27) × Int × (List R68))) (nx_11 : (Int × Int × (List R68) × (List R27)) → Option ((List R27) × Int × (List R68))) (x_10 : (Int × Int × (List R68) × (List R27))) : Option ((List R27) × Int × (List R68)) :=
  (if (decide ((0 : Int) < x_10.1)) = true then ((m21 n x_10.2.2.1 x_10.2.1).bind fun y_12 => (if (!y_12.2.1) = true then (some (([] : List R27), y_12.2.2.1, y_12.2.2.2)) else ((apd x_10.2.2.2 ([(R27.mk y_12.1.Key y_12.1.Tag)] : List R27)).bind fun l3_13 => (letM ((IntKind.wrap .i64 (x_10.1 - (1 : Int)))) fun t4_14 => (nx_11 (t4_14, y_12.2.2.1, y_12.2.2.2, l3_13)))))) else (k_16 (x_10.2.1, x_10.2.2.1, x_10.2.2.2)))
def m17 (n : Nat) (a0_b1_b : (List R68)) (a0_b2 : Int) : Option ((List R27) × Int × (List R68)) :=
  ((m16 n a0_b1_b a0_b2).bind fun y_1 => (jn (fun p_15 : Int × (List R68) × (List R27) => (some (p_15.2.2, p_15.1, p_15.2.1))) fun k_16 => (loopM (m17_L1 n k_16) n (y_1, a0_b2, a0_b1_b, ([] : List R27)))))
def m3 (n : Nat) (a0 : (List R27)) : Option Bool :=
  ((m10 n).bind fun y_1 => (if (!y_1) = true then (some false) else (if (decide ((300 : Int) < (a0.length : Int))) = true then (some true) else ((apd ([] : List R27) a0).bind fun l1_2 => ((m11 n a0).bind fun y_3 => ((m12 n l1_2).bind fun y_4 => ((m15 n l1_2).bind fun y_5 => ((m14 n y_5 y_3).bind fun y_6 => ((gdO y_6 (m16 n y_4.l y_4.pushed) default).bind fun y_7 => (jn (fun p_12 : Bool => (some p_12)) fun k_13 => (if (y_6 && (decide (y_7 = (a0.length : Int)))) = true then ((m17 n y_4.l y_4.pushed).bind fun y_9 => ((m14 n y_9.1 y_3).bind fun y_10 => ((gdO y_10 (m14 n l1_2 a0) default).bind fun y_11 => (k_13 (y_10 && y_11))))) else (k_13 false))))))))))))
def m4_L2 (n : Nat) (a0 : (List UInt8)) (y_18 : ((List R27) × Int × (List R68))) (k_52 : Unit → Option Bool) (nx_41 : (Int × (List Bool)) → Option Bool) (x_40 : (Int × (List Bool))) : Option Bool :=
  (if (decide (x_40.1 < (y_18.1.length : Int))) = true then ((getIdx y_18.1 x_40.1).bind fun y_42 => ((gdO (!((decide (y_42.Tag < (0 : Int))) || (decide ((a0.length : Int) ≤ y_42.Tag)))) (getIdx x_40.2 y_42.Tag) default).bind fun y_43 => ((gdO (!(((decide (y_42.Tag < (0 : Int))) || (decide ((a0.length : Int) ≤ y_42.Tag))) || y_43)) (getIdx a0 y_42.Tag) default).bind fun y_44 => (if ((((decide (y_42.Tag < (0 : Int))) || (decide ((a0.length : Int) ≤ y_42.Tag))) || y_43) || (!decide (y_42.Key = (IntKind.wrap .i64 (y_44.toNat : Int))))) = true then (some false) else ((getIdx x_40.2 y_42.Tag).bind fun y_45 => ((setIdx x_40.2 y_42.Tag true).bind fun l3_46 => ((gdO (decide ((0 : Int) < x_40.1)) (getIdx y_18.1 (IntKind.wrap .i64 (x_40.1 - (1 : Int)))) default).bind fun y_47 => ((gdO ((decide ((0 : Int) < x_40.1)) && (!(decide (y_42.Key < y_47.Key)))) (getIdx y_18.1 (IntKind.wrap .i64 (x_40.1 - (1 : Int)))) default).bind fun y_48 => ((gdO (((decide ((0 : Int) < x_40.1)) && (!(decide (y_42.Key < y_47.Key)))) && (decide (y_48.Key = y_42.Key))) (getIdx y_18.1 (IntKind.wrap .i64 (x_40.1 - (1 : Int)))) default).bind fun y_49 => (if ((decide ((0 : Int) < x_40.1)) && ((decide (y_42.Key < y_47.Key)) || ((decide (y_48.Key = y_42.Key)) && (decide (y_42.Tag < y_49.Tag))))) = true then (some false) else (letM ((IntKind.wrap .i64 (x_40.1 + (1 : Int)))) fun t37_50 => (nx_41 (t37_50, l3_46))))))))))))) else (k_52 ()))
def m4_L1 (n : Nat) (a0 : (List UInt8)) (k_17 : (Int × (List R68)) → Option Bool) (nx_12 : (Int × Int × (List R68)) → Option Bool) (x_11 : (Int × Int × (List R68))) : Option Bool :=
  (if (decide (x_11.1 < (a0.length : Int))) = true then ((getIdx a0 x_11.1).bind fun y_13 => ((m19 n x_11.2.2 x_11.2.1 (R27.mk (IntKind.wrap .i64 (y_13.toNat : Int)) x_11.1)).bind fun y_14 => (letM ((IntKind.wrap .i64 (x_11.1 + (1 : Int)))) fun t18_15 => (nx_12 (t18_15, y_14.1, y_14.2))))) else (k_17 (x_11.2.1, x_11.2.2)))
def m4 (n : Nat) (a0 : (List UInt8)) : Option Bool :=
  ((m10 n).bind fun y_1 => (if (!y_1) = true then (some false) else (if (decide ((300 : Int) < (a0.length : Int))) = true then (some true) else ((m18 n).bind fun y_2 => (jn (fun p_16 : Int × (List R68) => ((m17 n p_16.2 p_16.1).bind fun y_18 => ((mk false (a0.length : Int) (a0.length : Int)).bind fun l3_19 => (jn (fun p_51 : Unit => (some (decide ((y_18.1.length : Int) = (a0.length : Int))))) fun k_52 => (loopM (m4_L2 n a0 y_18 k_52) n ((0 : Int), l3_19)))))) fun k_17 => (loopM (m4_L1 n a0 k_17) n ((0 : Int), y_2.pushed, y_2.l)))))))
def m6_L3 (n : Nat) (t50_33 : Int) (k_45 : (Int × (List R68)) → Option Bool) (nx_41 : (Int × Int × (List R68)) → Option Bool) (x_40 : (Int × Int × (List R68))) : Option Bool :=
  (if (decide (x_40.1 < t50_33)) = true then ((m21 n x_40.2.2 x_40.2.1).bind fun y_42 => (letM ((IntKind.wrap .i64 (x_40.1 + (1 : Int)))) fun t51_43 => (nx_41 (t51_43, y_42.2.2.1, y_42.2.2.2)))) else (k_45 (x_40.2.1, x_40.2.2)))
def m6_L2 (n : Nat) (t40_19 : Int) (k_31 : (Int × (List R68)) → Option Bool) (nx_27 : (Int × Int × (List R68)) → Option Bool) (x_26 : (Int × Int × (List R68))) : Option Bool :=
  (if (decide (x_26.1 < t40_19)) = true then ((m21 n x_26.2.2 x_26.2.1).bind fun y_28 => (letM ((IntKind.wrap .i64 (x_26.1 + (1 : Int)))) fun t41_29 => (nx_27 (t41_29, y_28.2.2.1, y_28.2.2.2)))) else (k_31 (x_26.2.1, x_26.2.2)))
def m6_L1 (n : Nat) (a1 : (List R27)) (k_18 : (Int × (List R68)) → Option Bool) (nx_13 : (Int × Int × (List R68)) → Option Bool) (x_12 : (Int × Int × (List R68))) : Option Bool :=
  (if (decide (x_12.1 < (a1.length : Int))) = true then ((getIdx a1 x_12.1).bind fun y_14 => ((m19 n x_12.2.2 x_12.2.1 (R27.mk y_14.Key y_14.Tag)).bind fun y_15 => (letM ((IntKind.wrap .i64 (x_12.1 + (1 : Int)))) fun t30_16 => (nx_13 (t30_16, y_15.1, y_15.2))))) else (k_18 (x_12.2.1, x_12.2.2)))
def m6 (n : Nat) (a0 : (List R27)) (a1 : (List R27)) (a2 : Int) : Option Bool :=
  ((m10 n).bind fun y_1 => (if (!y_1) = true then (some false) else (if ((decide ((100 : Int) < (a0.length : Int))) || (decide ((100 : Int) < (a1.length : Int)))) = true then (some true) else ((m12 n a0).bind fun y_2 => ((m23 n y_2.l y_2.pushed).bind fun y_3 => (jn (fun p_17 : Int × (List R68) => (letM (((IntKind.wrap .i64 a2).tmod (50 : Int))) fun t40_19 => (jn (fun p_30 : Int × (List R68) => ((m23 n p_17.2 p_17.1).bind fun y_32 => (letM (((IntKind.wrap .i64 a2).tmod (50 : Int))) fun t50_33 => (jn (fun p_44 : Int × (List R68) => ((apd ([] : List R27) a0).bind fun l8_46 => ((apd l8_46 a1).bind fun l8_47 => ((m11 n l8_47).bind fun y_48 => (letM (((IntKind.wrap .i64 a2).tmod (50 : Int))) fun t13_49 => ((m17 n p_30.2 p_30.1).bind fun y_50 => ((m11 n a0).bind fun y_51 => ((slc y_51 (if (a0.length : Int) < t13_49 then (a0.length : Int) else t13_49) (y_51.length : Int)).bind fun s_52 => ((m14 n y_50.1 s_52).bind fun y_53 => (jn (fun p_63 : Bool => (some p_63)) fun k_64 => (if y_53 = true then ((m17 n y_32.l y_32.pushed).bind fun y_55 => ((m14 n y_55.1 y_48).bind fun y_56 => (jn (fun p_61 : Bool => (k_64 p_61)) fun k_62 => (if y_56 = true then ((m17 n p_44.2 p_44.1).bind fun y_58 => ((slc y_48 (if (y_48.length : Int) < t13_49 then (y_48.length : Int) else t13_49) (y_48.length : Int)).bind fun s_59 => ((m14 n y_58.1 s_59).bind fun y_60 => (k_62 y_60)))) else (k_62 false))))) else (k_64 false)))))))))))) fun k_45 => (loopM (m6_L3 n t50_33 k_45) n ((0 : Int), p_17.1, p_17.2)))))) fun k_31 => (loopM (m6_L2 n t40_19 k_31) n ((0 : Int), y_3.pushed, y_3.l))))) fun k_18 => (loopM (m6_L1 n a1 k_18) n ((0 : Int), y_2.pushed, y_2.l))))))))
def m24 (n : Nat) (a0_0_b0 : Int) : Option R73 :=
  (some (R73.mk ([] : List R75) (0 : Int)))
def m25 (n : Nat) (a0 : Int) (a1 : Int) (a2_b0 : Int) : Option (Bool × Int) :=
  (letM ((IntKind.wrap .i64 (a2_b0 + (1 : Int)))) fun c_1 => (some ((decide (a0 < a1)), c_1)))
def m35 (n : Nat) (a0_b0_0_b0 : Int) (a0_b1_b : (List R75)) (a0_b2 : Int) (a1 : Int) (a2 : Int) : Option (Bool × Int) :=
  ((getIdx a0_b1_b a1).bind fun y_1 => ((getIdx a0_b1_b a2).bind fun y_2 => (if (decide (y_1.number < y_2.number)) = true then ((m25 n y_2.x y_1.x a0_b0_0_b0).bind fun y_3 => (some ((!y_3.1), y_3.2))) else ((m25 n y_1.x y_2.x a0_b0_0_b0).bind fun y_4 => (some (y_4.1, y_4.2))))))
def m26_L1 (n : Nat) (c_2 : Int) (k_33 : (Int × (List R75)) → Option (Int × Int × (List R75))) (nx_23 : (Int × Int × (List R75)) → Option (Int × Int × (List R75))) (x_22 : (Int × Int × (List R75))) : Option (Int × Int × (List R75)) :=
  (if (decide ((0 : Int) < x_22.1)) = true then (letM ((IntKind.wrap .i64 ((IntKind.wrap .i64 (x_22.1 - (1 : Int))).tdiv (2 : Int)))) fun t5_24 => ((m35 n x_22.2.1 x_22.2.2 c_2 x_22.1 t5_24).bind fun y_25 => (if (!y_25.1) = true then (some (c_2, y_25.2, x_22.2.2)) else ((getIdx x_22.2.2 t5_24).bind fun y_26 => ((getIdx x_22.2.2 x_22.1).bind fun y_27 => ((getIdx x_22.2.2 x_22.1).bind fun y_28 => ((setIdx x_22.2.2 x_22.1 (R75.mk y_26.x y_26.number)).bind fun l3_29 => ((getIdx l3_29 t5_24).bind fun y_30 => ((setIdx l3_29 t5_24 (R75.mk y_27.x y_27.number)).bind fun l3_31 => (nx_23 (t5_24, y_25.2, l3_31))))))))))) else (k_33 (x_22.2.1, x_22.2.2)))
def m26 (n : Nat) (a0_b0_0_b0 : Int) (a0_b1_b : (List R75)) (a0_b2 : Int) (a1 : Int) : Option (Int × Int × (List R75)) :=
  ((apd a0_b1_b ([(R75.mk a1 a0_b2)] : List R75)).bind fun l3_1 => (letM ((IntKind.wrap .i64 (a0_b2 + (1 : Int)))) fun c_2 => (letM ((IntKind.wrap .i64 ((l3_1.length : Int) - (1 : Int)))) fun t4_3 => (jn (fun p_32 : Int × (List R75) => (some (c_2, p_32.1, p_32.2))) fun k_33 => (loopM (m26_L1 n c_2 k_33) n (t4_3, a0_b0_0_b0, l3_1))))))
def m28 (n : Nat) (a0_b0_0_b0 : Int) (a0_b1_b : (List R75)) (a0_b2 : Int) : Option Int :=
  (some (a0_b1_b.length : Int))
def m27_L1 (n : Nat) (a0_b2 : Int) (y_2 : R75) (t4_3 : Int) (nx_53 : (Int × Int × (List R75)) → Option (Int × Bool × Int × Int × (List R75))) (x_52 : (Int × Int × (List R75))) : Option (Int × Bool × Int × Int × (List R75)) :=
  (letM ((IntKind.wrap .i64 ((IntKind.wrap .i64 ((2 : Int) * x_52.1)) + (1 : Int)))) fun t7_54 => (jn (fun p_57 : Bool × Int => (jn (fun p_59 : Int => (letM ((IntKind.wrap .i64 ((IntKind.wrap .i64 ((2 : Int) * x_52.1)) + (2 : Int)))) fun t8_61 => (jn (fun p_64 : Bool × Int => (jn (fun p_66 : Int => (if (decide (p_66 = x_52.1)) = true then (some (y_2.x, true, a0_b2, p_64.2, x_52.2.2)) else ((getIdx x_52.2.2 p_66).bind fun y_68 => ((getIdx x_52.2.2 x_52.1).bind fun y_69 => ((getIdx x_52.2.2 x_52.1).bind fun y_70 => ((setIdx x_52.2.2 x_52.1 (R75.mk y_68.x y_68.number)).bind fun l3_71 => ((getIdx l3_71 p_66).bind fun y_72 => ((setIdx l3_71 p_66 (R75.mk y_69.x y_69.number)).bind fun l3_73 => (nx_53 (p_66, p_64.2, l3_73)))))))))) fun k_67 => (if p_64.1 = true then (k_67 t8_61) else (k_67 p_59)))) fun k_65 => (if (decide (t8_61 < t4_3)) = true then ((m35 n p_57.2 x_52.2.2 a0_b2 t8_61 p_59).bind fun y_63 => (k_65 (y_63.1, y_63.2))) else (k_65 (false, p_57.2)))))) fun k_60 => (if p_57.1 = true then (k_60 t7_54) else (k_60 x_52.1)))) fun k_58 => (if (decide (t7_54 < t4_3)) = true then ((m35 n x_52.2.1 x_52.2.2 a0_b2 t7_54 x_52.1).bind fun y_56 => (k_58 (y_56.1, y_56.2))) else (k_58 (false, x_52.2.1)))))
def m27 (n : Nat) (a0_b0_0_b0 : Int) (a0_b1_b : (List R75)) (a0_b2 : Int) : Option (Int × Bool × Int × Int × (List R75)) :=
  ((m28 n a0_b0_0_b0 a0_b1_b a0_b2).bind fun y_1 => (if (decide (y_1 = (0 : Int))) = true then (some ((0 : Int), false, a0_b2, a0_b0_0_b0, a0_b1_b)) else ((getIdx a0_b1_b (0 : Int)).bind fun y_2 => (letM ((IntKind.wrap .i64 ((a0_b1_b.length : Int) - (1 : Int)))) fun t4_3 => ((getIdx a0_b1_b t4_3).bind fun y_4 => ((getIdx a0_b1_b (0 : Int)).bind fun y_5 => ((setIdx a0_b1_b (0 : Int) (R75.mk y_4.x y_4.number)).bind fun l3_6 => ((getIdx l3_6 t4_3).bind fun y_7 => ((setIdx l3_6 t4_3 (R75.mk (0 : Int) (0 : Int))).bind fun l3_8 => ((slc l3_8 (0 : Int) t4_3).bind fun l3_9 => (loopM (m27_L1 n a0_b2 y_2 t4_3) n ((0 : Int), a0_b0_0_b0, l3_9))))))))))))
def m7_L2 (n : Nat) (a0 : (List Int)) (k_29 : (Int × Int × (List R75)) → Option Bool) (nx_25 : (Int × Int × Int × Int × (List R75)) → Option Bool) (x_24 : (Int × Int × Int × Int × (List R75))) : Option Bool :=
  (if (decide (x_24.2.1 < (a0.length : Int))) = true then ((m27 n x_24.2.2.1 x_24.2.2.2.2 x_24.2.2.2.1).bind fun y_26 => (if ((!y_26.2.1) || (decide (y_26.1 < x_24.1))) = true then (some false) else (letM ((IntKind.wrap .i64 (x_24.2.1 + (1 : Int)))) fun t29_27 => (nx_25 (y_26.1, t29_27, y_26.2.2.2.1, y_26.2.2.1, y_26.2.2.2.2))))) else (k_29 (x_24.2.2.1, x_24.2.2.2.1, x_24.2.2.2.2)))
def m7_L1 (n : Nat) (a0 : (List Int)) (k_17 : (Int × Int × (List R75)) → Option Bool) (nx_12 : (Int × Int × Int × (List R75)) → Option Bool) (x_11 : (Int × Int × Int × (List R75))) : Option Bool :=
  (if (decide (x_11.1 < (a0.length : Int))) = true then ((getIdx a0 x_11.1).bind fun y_13 => ((m26 n x_11.2.1 x_11.2.2.2 x_11.2.2.1 y_13).bind fun y_14 => (letM ((IntKind.wrap .i64 (x_11.1 + (1 : Int)))) fun t19_15 => (nx_12 (t19_15, y_14.2.1, y_14.1, y_14.2.2))))) else (k_17 (x_11.2.1, x_11.2.2.1, x_11.2.2.2)))
def m7 (n : Nat) (a0 : (List Int)) : Option Bool :=
  ((m10 n).bind fun y_1 => (if (!y_1) = true then (some false) else (if (decide ((1000 : Int) < (a0.length : Int))) = true then (some true) else ((m24 n (0 : Int)).bind fun y_2 => (jn (fun p_16 : Int × Int × (List R75) => (jn (fun p_28 : Int × Int × (List R75) => ((gdO (decide (p_28.1 ≤ (IntKind.wrap .i64 ((IntKind.wrap .i64 ((40 : Int) * (a0.length : Int))) + (40 : Int))))) (m28 n p_28.1 p_28.2.2 p_28.2.1) default).bind fun y_30 => (some ((decide (p_28.1 ≤ (IntKind.wrap .i64 ((IntKind.wrap .i64 ((40 : Int) * (a0.length : Int))) + (40 : Int))))) && (decide (y_30 = (0 : Int))))))) fun k_29 => (loopM (m7_L2 n a0 k_29) n ((0 : Int), (0 : Int), p_16.1, p_16.2.1, p_16.2.2)))) fun k_17 => (loopM (m7_L1 n a0 k_17) n ((0 : Int), (0 : Int), y_2.pushed, y_2.l)))))))
def m29 (n : Nat) (a0_b1_b : (List R68)) (a0_b2 : Int) : Option (R27 × Bool) :=
  ((m16 n a0_b1_b a0_b2).bind fun y_1 => (if (decide (y_1 = (0 : Int))) = true then (some ((R27.mk (0 : Int) (0 : Int)), false)) else ((getIdx a0_b1_b (0 : Int)).bind fun y_2 => (some ((R27.mk y_2.x.Key y_2.x.Tag), true)))))
def m8_L1 (n : Nat) (a0 : (List R59)) (k_72 : ((List R27) × Int × (List R68)) → Option Bool) (nx_49 : ((List R27) × Int × Int × (List R68)) → Option Bool) (x_48 : ((List R27) × Int × Int × (List R68))) : Option Bool :=
  (if (decide (x_48.2.1 < (a0.length : Int))) = true then ((getIdx a0 x_48.2.1).bind fun y_50 => (jn (fun p_67 : (List R27) × Int × (List R68) => ((m16 n p_67.2.2 p_67.2.1).bind fun y_69 => (if (!decide (y_69 = (p_67.1.length : Int))) = true then (some false) else (letM ((IntKind.wrap .i64 (x_48.2.1 + (1 : Int)))) fun t19_70 => (nx_49 (p_67.1, t19_70, p_67.2.1, p_67.2.2)))))) fun k_68 => (if (decide ((y_50.Kind.tmod (6 : Int)) = (3 : Int))) = true then ((m21 n x_48.2.2.2 x_48.2.2.1).bind fun y_51 => ((gdO ((!(y_51.2.1 != (decide ((0 : Int) < (x_48.1.length : Int))))) && y_51.2.1) (getIdx x_48.1 (0 : Int)) default).bind fun y_52 => (letM ((((y_51.2.1 != (decide ((0 : Int) < (x_48.1.length : Int)))) || (y_51.2.1 && (!(([y_51.1.Key, y_51.1.Tag] : List Int) == [y_52.Key, y_52.Tag])))) || ((!y_51.2.1) && (!(([y_51.1.Key, y_51.1.Tag] : List Int) == [(0 : Int), (0 : Int)]))))) fun t64_53 => (if t64_53 = true then (some false) else (jn (fun p_55 : (List R27) => (k_68 (p_55, y_51.2.2.1, y_51.2.2.2))) fun k_56 => (if y_51.2.1 = true then ((slc x_48.1 (1 : Int) (x_48.1.length : Int)).bind fun s_54 => (k_56 s_54)) else (k_56 x_48.1))))))) else (jn (fun p_65 : (List R27) × Int × (List R68) => (k_68 (p_65.1, p_65.2.1, p_65.2.2))) fun k_66 => (if (decide ((y_50.Kind.tmod (6 : Int)) = (4 : Int))) = true then ((m29 n x_48.2.2.2 x_48.2.2.1).bind fun y_57 => ((gdO ((!(y_57.2 != (decide ((0 : Int) < (x_48.1.length : Int))))) && y_57.2) (getIdx x_48.1 (0 : Int)) default).bind fun y_58 => (letM ((((y_57.2 != (decide ((0 : Int) < (x_48.1.length : Int)))) || (y_57.2 && (!(([y_57.1.Key, y_57.1.Tag] : List Int) == [y_58.Key, y_58.Tag])))) || ((!y_57.2) && (!(([y_57.1.Key, y_57.1.Tag] : List Int) == [(0 : Int), (0 : Int)]))))) fun t98_59 => (if t98_59 = true then (some false) else (k_66 (x_48.1, x_48.2.2.1, x_48.2.2.2)))))) else (jn (fun p_63 : (List R27) × Int × (List R68) => (k_66 (p_63.1, p_63.2.1, p_63.2.2))) fun k_64 => (if (decide ((y_50.Kind.tmod (6 : Int)) = (5 : Int))) = true then ((m23 n x_48.2.2.2 x_48.2.2.1).bind fun y_60 => (k_64 (x_48.1, y_60.pushed, y_60.l))) else ((m19 n x_48.2.2.2 x_48.2.2.1 (R27.mk y_50.Item.Key y_50.Item.Tag)).bind fun y_61 => ((m22 n x_48.1 (R27.mk y_50.Item.Key y_50.Item.Tag)).bind fun y_62 => (k_64 (y_62, y_61.1, y_61.2))))))))))) else (k_72 (x_48.1, x_48.2.2.1, x_48.2.2.2)))
def m8 (n : Nat) (a0 : (List R59)) : Option Bool :=
  ((m10 n).bind fun y_1 => (if (!y_1) = true then (some false) else (if (decide ((200 : Int) < (a0.length : Int))) = true then (some true) else ((m18 n).bind fun y_2 => (jn (fun p_71 : (List R27) × Int × (List R68) => ((m17 n p_71.2.2 p_71.2.1).bind fun y_73 => ((m14 n y_73.1 p_71.1).bind fun y_74 => (some y_74)))) fun k_72 => (loopM (m8_L1 n a0 k_72) n (([] : List R27), (0 : Int), y_2.pushed, y_2.l)))))))
def m18x1 (n : Nat) : Option Unit :=
  (some ())
def m19x1 (n : Nat) (a1 : R27) : Option Unit :=
  (some ())
def m12x1_L1 (n : Nat) (a1 : (List R27)) (k_12 : Unit → Option Unit) (nx_7 : Int → Option Unit) (x_6 : Int) : Option Unit :=
  (if (decide (x_6 < (a1.length : Int))) = true then ((getIdx a1 x_6).bind fun y_8 => ((m19x1 n (R27.mk y_8.Key y_8.Tag)).bind fun y_9 => (letM ((IntKind.wrap .i64 (x_6 + (1 : Int)))) fun t12_10 => (nx_7 t12_10)))) else (k_12 ()))
def m12x1 (n : Nat) (a1 : (List R27)) : Option Unit :=
  ((m18x1 n).bind fun y_1 => (jn (fun p_11 : Unit => (some ())) fun k_12 => (loopM (m12x1_L1 n a1 k_12) n (0 : Int))))
def m20x1 (n : Nat) : Option Unit :=
  (some ())
def m23x1 (n : Nat) : Option Unit :=
  (some ())
def m16x1 (n : Nat) : Option Int :=
  (some (0 : Int))
def m21x1 (n : Nat) : Option (R27 × Bool) :=
  ((m16x1 n).bind fun y_1 => (some ((R27.mk (0 : Int) (0 : Int)), false)))
def m33x1_L1 (n : Nat) (k_20 : Unit → Option (List R27)) (nx_14 : (Bool × Int × Int) → Option (List R27)) (x_13 : (Bool × Int × Int)) : Option (List R27) :=
  (if x_13.1 = true then (yldM false (R27.mk x_13.2.1 x_13.2.2) ((m21x1 n).bind fun y_18 => (nx_14 (y_18.2, y_18.1.Key, y_18.1.Tag)))) else (k_20 ()))
def m33x1 (n : Nat) : Option (List R27) :=
  ((m23x1 n).bind fun y_1 => ((m21x1 n).bind fun y_2 => (jn (fun p_19 : Unit => (some [])) fun k_20 => (loopM (m33x1_L1 n k_20) n (y_2.2, y_2.1.Key, y_2.1.Tag)))))
def m15x1_R1 (n : Nat) (nx_10 : (List R27) → Option (List R27)) (e_4 : R27) (x_9 : (List R27)) : Option (List R27) :=
  ((apd x_9 ([(R27.mk e_4.Key e_4.Tag)] : List R27)).bind fun l3_11 => (nx_10 l3_11))
def m15x1 (n : Nat) (a1 : (List R27)) : Option (List R27) :=
  ((m12x1 n a1).bind fun y_1 => ((m20x1 n).bind fun y_2 => ((m33x1 n).bind fun y_3 => (rangeL (m15x1_R1 n) y_3 (fun p_12 : (List R27) => (some p_12)) ([] : List R27)))))
def m29x1 (n : Nat) : Option (R27 × Bool) :=
  ((m16x1 n).bind fun y_1 => (some ((R27.mk (0 : Int) (0 : Int)), false)))
def m9_R1 (n : Nat) (nx_16 : Int → Option Bool) (e_10 : R27) (x_15 : Int) : Option Bool :=
  (letM ((IntKind.wrap .i64 (x_15 + (1 : Int)))) fun c_17 => (nx_16 c_17))
def m9 (n : Nat) (a0 : (List R27)) : Option Bool :=
  ((m10 n).bind fun y_1 => (if (!y_1) = true then (some false) else (if (decide ((100 : Int) < (a0.length : Int))) = true then (some true) else ((m12x1 n a0).bind fun y_2 => ((m18x1 n).bind fun y_3 => ((m15x1 n a0).bind fun y_4 => (if (!decide ((y_4.length : Int) = (0 : Int))) = true then (some false) else ((m19x1 n (R27.mk (1 : Int) (0 : Int))).bind fun y_5 => ((m21x1 n).bind fun y_6 => ((m29x1 n).bind fun y_7 => ((m20x1 n).bind fun y_8 => ((m33x1 n).bind fun y_9 => (rangeL (m9_R1 n) y_9 (fun p_18 : Int => ((gdO ((((!y_6.2) && (!y_7.2)) && (([y_6.1.Key, y_6.1.Tag] : List Int) == [(0 : Int), (0 : Int)])) && (([y_7.1.Key, y_7.1.Tag] : List Int) == [(0 : Int), (0 : Int)])) (m16x1 n) default).bind fun y_19 => ((gdO ((((((!y_6.2) && (!y_7.2)) && (([y_6.1.Key, y_6.1.Tag] : List Int) == [(0 : Int), (0 : Int)])) && (([y_7.1.Key, y_7.1.Tag] : List Int) == [(0 : Int), (0 : Int)])) && (decide (y_19 = (0 : Int)))) && (decide (p_18 = (0 : Int)))) (m23x1 n) default).bind fun y_20 => (letM ((((((((!y_6.2) && (!y_7.2)) && (([y_6.1.Key, y_6.1.Tag] : List Int) == [(0 : Int), (0 : Int)])) && (([y_7.1.Key, y_7.1.Tag] : List Int) == [(0 : Int), (0 : Int)])) && (decide (y_19 = (0 : Int)))) && (decide (p_18 = (0 : Int)))) && true)) fun t2_21 => (some t2_21))))) (0 : Int))))))))))))))
end Go.AB
