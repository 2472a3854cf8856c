import Derived.Test.YtpcjbgfgimboiaaProg
import Derived.Test.YtpcjbgfgimboiaaBf
import Derived.KernelRfl
set_option linter.unusedVariables false
set_option maxRecDepth 20000
namespace Go.AB
open Go Go.Proofs
structure R27 where
  Key : Int
  Tag : Int
  deriving DecidableEq,Inhabited
def encR27 (y : R27) : List AV := [.sc (.int .i64 y.Key),.sc (.int .i64 y.Tag)]
theorem encR27_len (y : R27) : (encR27 y).length = 2 := rfl
theorem encR27_one (y : R27) : ∀ c,c ∈ encR27 y → c.one = true := by simp [encR27,AV.one]
theorem encR27_still (y : R27) : ∀ c,c ∈ encR27 y → c.still = true := by simp [encR27,AV.still]
theorem encR27_scal (y : R27) : ∀ c,c ∈ encR27 y → c.scal = true := by simp [encR27,AV.scal]
theorem zero3 : zeroT Try.prog 3 [.int .i64 0] := zeroT.mk (by kernel_rfl)
theorem el3 : elT Try.prog 3 1 8 := elT.mk (by kernel_rfl)
theorem zero62 : zeroT Try.prog 62 [.slice none 0 0] := zeroT.mk (by kernel_rfl)
structure R91 where
  x : Int
  number : Int
  deriving DecidableEq,Inhabited
def encR91 (y : R91) : List AV := [.sc (.int .i64 y.x),.sc (.int .i64 y.number)]
theorem encR91_len (y : R91) : (encR91 y).length = 2 := rfl
theorem encR91_one (y : R91) : ∀ c,c ∈ encR91 y → c.one = true := by simp [encR91,AV.one]
theorem encR91_still (y : R91) : ∀ c,c ∈ encR91 y → c.still = true := by simp [encR91,AV.still]
theorem encR91_scal (y : R91) : ∀ c,c ∈ encR91 y → c.scal = true := by simp [encR91,AV.scal]
structure R89 where
  l : (List R91)
  pushed : Int
  deriving DecidableEq,Inhabited
theorem zero90 : zeroT Try.prog 90 [.nilFunc,.slice none 0 0,.int .i64 0] := zeroT.mk (by kernel_rfl)
theorem sz64 : szOf Try.prog 64 1 := szOf.mk (by kernel_rfl)
theorem sz88 : szOf Try.prog 88 1 := szOf.mk (by kernel_rfl)
theorem sz3 : szOf Try.prog 3 1 := szOf.mk (by kernel_rfl)
theorem offs90 : offsOf Try.prog 90 [(0,1),(1,1),(2,1)] := ⟨_,Try.underlying90,rfl,.cons sz64 (.cons sz88 (.cons sz3 (.nil)))⟩
theorem one3 : oneT Try.prog 3 := ⟨_,Try.underlying3,trivial⟩
theorem fld90_1 : fldOf Try.prog 90 1 1 := ⟨_,_,Try.underlying90,rfl,rfl,0,sz88⟩
theorem one88 : oneT Try.prog 88 := ⟨_,Try.underlying88,trivial⟩
theorem fld90_2 : fldOf Try.prog 90 2 2 := ⟨_,_,Try.underlying90,rfl,rfl,0,sz3⟩
theorem zero92 : zeroT Try.prog 92 [.int .i64 0,.int .i64 0] := zeroT.mk (by kernel_rfl)
theorem offs92 : offsOf Try.prog 92 [(0,1),(1,1)] := ⟨_,Try.underlying92,rfl,.cons sz3 (.cons sz3 (.nil))⟩
theorem el92 : elT Try.prog 92 2 16 := elT.mk (by kernel_rfl)
theorem mixed : Try.prog.follows .mixedOrders = true := by kernel_rfl
theorem sz92 : szOf Try.prog 92 2 := szOf.mk (by kernel_rfl)
theorem agg92 : aggT Try.prog 92 2 := ⟨sz92,_,Try.underlying92,trivial⟩
theorem fld92_1 : fldOf Try.prog 92 1 1 := ⟨_,_,Try.underlying92,rfl,rfl,0,sz3⟩
theorem fld90_0 : fldOf Try.prog 90 0 0 := ⟨_,_,Try.underlying90,rfl,rfl,0,sz64⟩
theorem one64 : oneT Try.prog 64 := ⟨_,Try.underlying64,trivial⟩
theorem fld92_0 : fldOf Try.prog 92 0 0 := ⟨_,_,Try.underlying92,rfl,rfl,0,sz3⟩
theorem one79 : oneT Try.prog 79 := ⟨_,Try.underlying79,trivial⟩
theorem one62 : oneT Try.prog 62 := ⟨_,Try.underlying62,trivial⟩
theorem sz62 : szOf Try.prog 62 1 := szOf.mk (by kernel_rfl)
structure R68 where
  x : R27
  number : Int
  deriving DecidableEq,Inhabited
def encR68 (y : R68) : List AV := [.sc (.int .i64 y.x.Key),.sc (.int .i64 y.x.Tag),.sc (.int .i64 y.number)]
theorem encR68_len (y : R68) : (encR68 y).length = 3 := rfl
theorem encR68_one (y : R68) : ∀ c,c ∈ encR68 y → c.one = true := by simp [encR68,AV.one]
theorem encR68_still (y : R68) : ∀ c,c ∈ encR68 y → c.still = true := by simp [encR68,AV.still]
theorem encR68_scal (y : R68) : ∀ c,c ∈ encR68 y → c.scal = true := by simp [encR68,AV.scal]
structure R66 where
  l : (List R68)
  pushed : Int
  deriving DecidableEq,Inhabited
theorem zero67 : zeroT Try.prog 67 [.nilFunc,.slice none 0 0,.int .i64 0] := zeroT.mk (by kernel_rfl)
theorem sz29 : szOf Try.prog 29 1 := szOf.mk (by kernel_rfl)
theorem sz65 : szOf Try.prog 65 1 := szOf.mk (by kernel_rfl)
theorem offs67 : offsOf Try.prog 67 [(0,1),(1,1),(2,1)] := ⟨_,Try.underlying67,rfl,.cons sz29 (.cons sz65 (.cons sz3 (.nil)))⟩
theorem sz28 : szOf Try.prog 28 2 := szOf.mk (by kernel_rfl)
theorem agg28 : aggT Try.prog 28 2 := ⟨sz28,_,Try.underlying28,trivial⟩
theorem zero28 : zeroT Try.prog 28 [.int .i64 0,.int .i64 0] := zeroT.mk (by kernel_rfl)
theorem fld67_1 : fldOf Try.prog 67 1 1 := ⟨_,_,Try.underlying67,rfl,rfl,0,sz65⟩
theorem one65 : oneT Try.prog 65 := ⟨_,Try.underlying65,trivial⟩
theorem fld67_2 : fldOf Try.prog 67 2 2 := ⟨_,_,Try.underlying67,rfl,rfl,0,sz3⟩
theorem zero69 : zeroT Try.prog 69 [.int .i64 0,.int .i64 0,.int .i64 0] := zeroT.mk (by kernel_rfl)
theorem offs69 : offsOf Try.prog 69 [(0,2),(2,1)] := ⟨_,Try.underlying69,rfl,.cons sz28 (.cons sz3 (.nil))⟩
theorem el69 : elT Try.prog 69 3 24 := elT.mk (by kernel_rfl)
theorem sz69 : szOf Try.prog 69 3 := szOf.mk (by kernel_rfl)
theorem agg69 : aggT Try.prog 69 3 := ⟨sz69,_,Try.underlying69,trivial⟩
theorem fld69_1 : fldOf Try.prog 69 1 2 := ⟨_,_,Try.underlying69,rfl,rfl,0,sz3⟩
theorem fld67_0 : fldOf Try.prog 67 0 0 := ⟨_,_,Try.underlying67,rfl,rfl,0,sz29⟩
theorem one29 : oneT Try.prog 29 := ⟨_,Try.underlying29,trivial⟩
theorem fld69_0 : fldOf Try.prog 69 0 0 := ⟨_,_,Try.underlying69,rfl,rfl,1,sz28⟩
theorem fld28_0 : fldOf Try.prog 28 0 0 := ⟨_,_,Try.underlying28,rfl,rfl,0,sz3⟩
theorem zero25 : zeroT Try.prog 25 [.pointer none] := zeroT.mk (by kernel_rfl)
theorem sz25 : szOf Try.prog 25 1 := szOf.mk (by kernel_rfl)
theorem el28 : elT Try.prog 28 2 16 := elT.mk (by kernel_rfl)
theorem zero22 : zeroT Try.prog 22 [.slice none 0 0] := zeroT.mk (by kernel_rfl)
theorem one25 : oneT Try.prog 25 := ⟨_,Try.underlying25,trivial⟩
theorem one22 : oneT Try.prog 22 := ⟨_,Try.underlying22,trivial⟩
theorem sz22 : szOf Try.prog 22 1 := szOf.mk (by kernel_rfl)
theorem one5 : oneT Try.prog 5 := ⟨_,Try.underlying5,trivial⟩
theorem gt28 : Try.prog.eqGuardType Try.prog.depth 28 = false := by kernel_rfl
theorem si28 : Try.prog.stoodInHeld 28 = false := by kernel_rfl
theorem offs28 : offsOf Try.prog 28 [(0,1),(1,1)] := ⟨_,Try.underlying28,rfl,.cons sz3 (.cons sz3 (.nil))⟩
def m38 (n : Nat) : Option R89 :=
  (some (R89.mk ([] : List R91) (0 : Int)))
def m31 (n : Nat) (a0 : Int) (a1 : Int) : Option Bool :=
  (some (decide ((IntKind.wrap .i64 (a0.tdiv (10 : Int))) < (IntKind.wrap .i64 (a1.tdiv (10 : Int))))))
def m43 (n : Nat) (a0_b1_b : (List R91)) (a0_b2 : Int) (a1 : Int) (a2 : Int) : Option Bool :=
  ((getIdx a0_b1_b a1).bind fun y_1 => ((getIdx a0_b1_b a2).bind fun y_2 => (if (decide (y_1.number < y_2.number)) = true then ((m31 n y_2.x y_1.x).bind fun y_3 => (some (!y_3))) else ((m31 n y_1.x y_2.x).bind fun y_4 => (some y_4)))))
def m39_L1 (n : Nat) (c_2 : Int) (k_33 : (List R91) → Option (Int × (List R91))) (nx_23 : (Int × (List R91)) → Option (Int × (List R91))) (x_22 : (Int × (List R91))) : Option (Int × (List R91)) :=
  (if (decide ((0 : Int) < x_22.1)) = true then (letM ((IntKind.wrap .i64 ((IntKind.wrap .i64 (x_22.1 - (1 : Int))).tdiv (2 : Int)))) fun t5_24 => ((m43 n x_22.2 c_2 x_22.1 t5_24).bind fun y_25 => (if (!y_25) = true then (some (c_2,x_22.2)) else ((getIdx x_22.2 t5_24).bind fun y_26 => ((getIdx x_22.2 x_22.1).bind fun y_27 => ((getIdx x_22.2 x_22.1).bind fun y_28 => ((setIdx x_22.2 x_22.1 (R91.mk y_26.x y_26.number)).bind fun l2_29 => ((getIdx l2_29 t5_24).bind fun y_30 => ((setIdx l2_29 t5_24 (R91.mk y_27.x y_27.number)).bind fun l2_31 => (nx_23 (t5_24,l2_31))))))))))) else (k_33 x_22.2))
def m39 (n : Nat) (a0_b1_b : (List R91)) (a0_b2 : Int) (a1 : Int) : Option (Int × (List R91)) :=
  ((apd a0_b1_b ([(R91.mk a1 a0_b2)] : List R91)).bind fun l2_1 => (letM ((IntKind.wrap .i64 (a0_b2 + (1 : Int)))) fun c_2 => (letM ((IntKind.wrap .i64 ((l2_1.length : Int) - (1 : Int)))) fun t4_3 => (jn (fun p_32 : (List R91) => (some (c_2,p_32))) fun k_33 => (loopM (m39_L1 n c_2 k_33) n (t4_3,l2_1))))))
def m36_L1 (n : Nat) (a1 : (List Int)) (k_16 : (Int × (List R91)) → Option R89) (nx_11 : (Int × Int × (List R91)) → Option R89) (x_10 : (Int × Int × (List R91))) : Option R89 :=
  (if (decide (x_10.1 < (a1.length : Int))) = true then ((getIdx a1 x_10.1).bind fun y_12 => ((m39 n x_10.2.2 x_10.2.1 y_12).bind fun y_13 => (letM ((IntKind.wrap .i64 (x_10.1 + (1 : Int)))) fun t12_14 => (nx_11 (t12_14,y_13.1,y_13.2))))) else (k_16 (x_10.2.1,x_10.2.2)))
def m36 (n : Nat) (a1 : (List Int)) : Option R89 :=
  ((m38 n).bind fun y_1 => (jn (fun p_15 : Int × (List R91) => (some (R89.mk p_15.2 p_15.1))) fun k_16 => (loopM (m36_L1 n a1 k_16) n ((0 : Int),y_1.pushed,y_1.l))))
def m37 (n : Nat) (a0_b1_b : (List R91)) (a0_b2 : Int) : Option Unit :=
  (some ())
def m44 (n : Nat) (a0 : (List R91)) : Option (List R91) :=
  ((apd ([] : List R91) a0).bind fun l1_2 => (some l1_2))
def m41 (n : Nat) (a0_b1_b : (List R91)) (a0_b2 : Int) : Option R89 :=
  ((m44 n a0_b1_b).bind fun y_1 => (some (R89.mk y_1 a0_b2)))
def m45 (n : Nat) (a0_b1_b : (List R91)) (a0_b2 : Int) : Option Int :=
  (some (a0_b1_b.length : Int))
def m42_L1 (n : Nat) (a0_b2 : Int) (y_2 : R91) (t4_3 : Int) (nx_41 : (Int × (List R91)) → Option (Int × Bool × Int × (List R91))) (x_40 : (Int × (List R91))) : Option (Int × Bool × Int × (List R91)) :=
  (letM ((IntKind.wrap .i64 ((IntKind.wrap .i64 ((2 : Int) * x_40.1)) + (1 : Int)))) fun t7_42 => ((gdO (decide (t7_42 < t4_3)) (m43 n x_40.2 a0_b2 t7_42 x_40.1) default).bind fun y_43 => (jn (fun p_44 : Int => (letM ((IntKind.wrap .i64 ((IntKind.wrap .i64 ((2 : Int) * x_40.1)) + (2 : Int)))) fun t8_46 => ((gdO (decide (t8_46 < t4_3)) (m43 n x_40.2 a0_b2 t8_46 p_44) default).bind fun y_47 => (jn (fun p_48 : Int => (if (decide (p_48 = x_40.1)) = true then (some (y_2.x,true,a0_b2,x_40.2)) else ((getIdx x_40.2 p_48).bind fun y_50 => ((getIdx x_40.2 x_40.1).bind fun y_51 => ((getIdx x_40.2 x_40.1).bind fun y_52 => ((setIdx x_40.2 x_40.1 (R91.mk y_50.x y_50.number)).bind fun l2_53 => ((getIdx l2_53 p_48).bind fun y_54 => ((setIdx l2_53 p_48 (R91.mk y_51.x y_51.number)).bind fun l2_55 => (nx_41 (p_48,l2_55)))))))))) fun k_49 => (if ((decide (t8_46 < t4_3)) && y_47) = true then (k_49 t8_46) else (k_49 p_44)))))) fun k_45 => (if ((decide (t7_42 < t4_3)) && y_43) = true then (k_45 t7_42) else (k_45 x_40.1)))))
def m42 (n : Nat) (a0_b1_b : (List R91)) (a0_b2 : Int) : Option (Int × Bool × Int × (List R91)) :=
  ((m45 n a0_b1_b a0_b2).bind fun y_1 => (if (decide (y_1 = (0 : Int))) = true then (some ((0 : Int),false,a0_b2,a0_b1_b)) else ((getIdx a0_b1_b (0 : Int)).bind fun y_2 => (letM ((IntKind.wrap .i64 ((a0_b1_b.length : Int) - (1 : Int)))) fun t4_3 => ((getIdx a0_b1_b t4_3).bind fun y_4 => ((getIdx a0_b1_b (0 : Int)).bind fun y_5 => ((setIdx a0_b1_b (0 : Int) (R91.mk y_4.x y_4.number)).bind fun l2_6 => ((getIdx l2_6 t4_3).bind fun y_7 => ((setIdx l2_6 t4_3 (R91.mk (0 : Int) (0 : Int))).bind fun l2_8 => ((slc l2_8 (0 : Int) t4_3).bind fun l2_9 => (loopM (m42_L1 n a0_b2 y_2 t4_3) n ((0 : Int),l2_9))))))))))))
def m40_L1 (n : Nat) (k_20 : Unit → Option (List Int)) (nx_14 : (Int × Bool × Int × (List R91)) → Option (List Int)) (x_13 : (Int × Bool × Int × (List R91))) : Option (List Int) :=
  (if x_13.2.1 = true then (yldM false x_13.1 ((m42 n x_13.2.2.2 x_13.2.2.1).bind fun y_18 => (nx_14 (y_18.1,y_18.2.1,y_18.2.2.1,y_18.2.2.2)))) else (k_20 ()))
def m40 (n : Nat) (a1_b0_b1_b : (List R91)) (a1_b0_b2 : Int) : Option (List Int) :=
  ((m41 n a1_b0_b1_b a1_b0_b2).bind fun y_1 => ((m42 n y_1.l y_1.pushed).bind fun y_2 => (jn (fun p_19 : Unit => (some [])) fun k_20 => (loopM (m40_L1 n k_20) n (y_2.1,y_2.2.1,y_2.2.2.1,y_2.2.2.2)))))
def m30_R1 (n : Nat) (nx_10 : (List Int) → Option (List Int)) (e_4 : Int) (x_9 : (List Int)) : Option (List Int) :=
  ((apd x_9 ([e_4] : List Int)).bind fun l5_11 => (nx_10 l5_11))
def m30 (n : Nat) (a1 : (List Int)) : Option (List Int) :=
  ((m36 n a1).bind fun y_1 => ((m37 n y_1.l y_1.pushed).bind fun y_2 => ((m40 n y_1.l y_1.pushed).bind fun y_3 => (rangeL (m30_R1 n) y_3 (fun p_12 : (List Int) => (some p_12)) ([] : List Int)))))
def m18 (n : Nat) : Option R66 :=
  (some (R66.mk ([] : List R68) (0 : Int)))
def m10 (n : Nat) : Option Bool :=
  ((m30 n ([(25 : Int),(13 : Int),(21 : Int),(11 : Int)] : List Int)).bind fun y_1 => ((gdO (decide ((y_1.length : Int) = (4 : Int))) (getIdx y_1 (0 : Int)) default).bind fun y_2 => ((gdO ((decide ((y_1.length : Int) = (4 : Int))) && (decide (y_2 = (13 : Int)))) (getIdx y_1 (1 : Int)) default).bind fun y_3 => ((gdO (((decide ((y_1.length : Int) = (4 : Int))) && (decide (y_2 = (13 : Int)))) && (decide (y_3 = (11 : Int)))) (getIdx y_1 (2 : Int)) default).bind fun y_4 => ((gdO ((((decide ((y_1.length : Int) = (4 : Int))) && (decide (y_2 = (13 : Int)))) && (decide (y_3 = (11 : Int)))) && (decide (y_4 = (25 : Int)))) (getIdx y_1 (3 : Int)) default).bind fun y_5 => (jn (fun p_8 : Bool => (some p_8)) fun k_9 => (if (((((decide ((y_1.length : Int) = (4 : Int))) && (decide (y_2 = (13 : Int)))) && (decide (y_3 = (11 : Int)))) && (decide (y_4 = (25 : Int)))) && (decide (y_5 = (21 : Int)))) = true then ((m18 n).bind fun y_7 => (k_9 true)) else (k_9 false))))))))
def m13 (n : Nat) (a0 : R27) (a1 : R27) : Option Bool :=
  (some (decide (a0.Key < a1.Key)))
def m32 (n : Nat) (a0_b1_b : (List R68)) (a0_b2 : Int) (a1 : Int) (a2 : Int) : Option Bool :=
  ((getIdx a0_b1_b a1).bind fun y_1 => ((getIdx a0_b1_b a2).bind fun y_2 => (if (decide (y_1.number < y_2.number)) = true then ((m13 n (R27.mk y_2.x.Key y_2.x.Tag) (R27.mk y_1.x.Key y_1.x.Tag)).bind fun y_3 => (some (!y_3))) else ((m13 n (R27.mk y_1.x.Key y_1.x.Tag) (R27.mk y_2.x.Key y_2.x.Tag)).bind fun y_4 => (some y_4)))))
def m19_L1 (n : Nat) (c_2 : Int) (k_33 : (List R68) → Option (Int × (List R68))) (nx_23 : (Int × (List R68)) → Option (Int × (List R68))) (x_22 : (Int × (List R68))) : Option (Int × (List R68)) :=
  (if (decide ((0 : Int) < x_22.1)) = true then (letM ((IntKind.wrap .i64 ((IntKind.wrap .i64 (x_22.1 - (1 : Int))).tdiv (2 : Int)))) fun t5_24 => ((m32 n x_22.2 c_2 x_22.1 t5_24).bind fun y_25 => (if (!y_25) = true then (some (c_2,x_22.2)) else ((getIdx x_22.2 t5_24).bind fun y_26 => ((getIdx x_22.2 x_22.1).bind fun y_27 => ((getIdx x_22.2 x_22.1).bind fun y_28 => ((setIdx x_22.2 x_22.1 (R68.mk (R27.mk y_26.x.Key y_26.x.Tag) y_26.number)).bind fun l2_29 => ((getIdx l2_29 t5_24).bind fun y_30 => ((setIdx l2_29 t5_24 (R68.mk (R27.mk y_27.x.Key y_27.x.Tag) y_27.number)).bind fun l2_31 => (nx_23 (t5_24,l2_31))))))))))) else (k_33 x_22.2))
def m19 (n : Nat) (a0_b1_b : (List R68)) (a0_b2 : Int) (a1 : R27) : Option (Int × (List R68)) :=
  ((apd a0_b1_b ([(R68.mk (R27.mk a1.Key a1.Tag) a0_b2)] : List R68)).bind fun l2_1 => (letM ((IntKind.wrap .i64 (a0_b2 + (1 : Int)))) fun c_2 => (letM ((IntKind.wrap .i64 ((l2_1.length : Int) - (1 : Int)))) fun t4_3 => (jn (fun p_32 : (List R68) => (some (c_2,p_32))) fun k_33 => (loopM (m19_L1 n c_2 k_33) n (t4_3,l2_1))))))
def m12_L1 (n : Nat) (a1 : (List R27)) (k_16 : (Int × (List R68)) → Option R66) (nx_11 : (Int × Int × (List R68)) → Option R66) (x_10 : (Int × Int × (List R68))) : Option R66 :=
  (if (decide (x_10.1 < (a1.length : Int))) = true then ((getIdx a1 x_10.1).bind fun y_12 => ((m19 n x_10.2.2 x_10.2.1 (R27.mk y_12.Key y_12.Tag)).bind fun y_13 => (letM ((IntKind.wrap .i64 (x_10.1 + (1 : Int)))) fun t12_14 => (nx_11 (t12_14,y_13.1,y_13.2))))) else (k_16 (x_10.2.1,x_10.2.2)))
def m12 (n : Nat) (a1 : (List R27)) : Option R66 :=
  ((m18 n).bind fun y_1 => (jn (fun p_15 : Int × (List R68) => (some (R66.mk p_15.2 p_15.1))) fun k_16 => (loopM (m12_L1 n a1 k_16) n ((0 : Int),y_1.pushed,y_1.l))))
def m22_L1 (n : Nat) (a0 : (List R27)) (a1 : R27) (k_9 : Int → Option (List R27)) (nx_5 : Int → Option (List R27)) (x_4 : Int) : Option (List R27) :=
  ((gdO (decide (x_4 < (a0.length : Int))) (getIdx a0 x_4) default).bind fun y_6 => (if ((decide (x_4 < (a0.length : Int))) && (decide (y_6.Key ≤ a1.Key))) = true then (letM ((IntKind.wrap .i64 (x_4 + (1 : Int)))) fun t5_7 => (nx_5 t5_7)) else (k_9 x_4)))
def m22 (n : Nat) (a0 : (List R27)) (a1 : R27) : Option (List R27) :=
  (jn (fun p_8 : Int => ((slc a0 (0 : Int) p_8).bind fun s_10 => ((apd ([] : List R27) s_10).bind fun l2_11 => ((apd l2_11 ([(R27.mk a1.Key a1.Tag)] : List R27)).bind fun l2_12 => ((slc a0 p_8 (a0.length : Int)).bind fun s_13 => ((apd l2_12 s_13).bind fun l2_14 => (some l2_14))))))) fun k_9 => (loopM (m22_L1 n a0 a1 k_9) n (0 : Int)))
def m11_L1 (n : Nat) (a0 : (List R27)) (k_15 : (List R27) → Option (List R27)) (nx_10 : ((List R27) × Int) → Option (List R27)) (x_9 : ((List R27) × Int)) : Option (List R27) :=
  (if (decide (x_9.2 < (a0.length : Int))) = true then ((getIdx a0 x_9.2).bind fun y_11 => ((m22 n x_9.1 (R27.mk y_11.Key y_11.Tag)).bind fun y_12 => (letM ((IntKind.wrap .i64 (x_9.2 + (1 : Int)))) fun t4_13 => (nx_10 (y_12,t4_13))))) else (k_15 x_9.1))
def m11 (n : Nat) (a0 : (List R27)) : Option (List R27) :=
  (jn (fun p_14 : (List R27) => (some p_14)) fun k_15 => (loopM (m11_L1 n a0 k_15) n (([] : List R27),(0 : Int))))
def m20 (n : Nat) (a0_b1_b : (List R68)) (a0_b2 : Int) : Option Unit :=
  (some ())
def m34 (n : Nat) (a0 : (List R68)) : Option (List R68) :=
  ((apd ([] : List R68) a0).bind fun l1_2 => (some l1_2))
def m23 (n : Nat) (a0_r1 : (List R68)) (a0_r2 : Int) : Option R66 :=
  ((m34 n a0_r1).bind fun y_1 => (some (R66.mk y_1 a0_r2)))
def m16 (n : Nat) (a0_b1_b : (List R68)) (a0_b2 : Int) : Option Int :=
  (some (a0_b1_b.length : Int))
def m21_L1 (n : Nat) (a0_b2 : Int) (y_2 : R68) (t4_3 : Int) (nx_41 : (Int × (List R68)) → Option (R27 × Bool × Int × (List R68))) (x_40 : (Int × (List R68))) : Option (R27 × Bool × Int × (List R68)) :=
  (letM ((IntKind.wrap .i64 ((IntKind.wrap .i64 ((2 : Int) * x_40.1)) + (1 : Int)))) fun t7_42 => ((gdO (decide (t7_42 < t4_3)) (m32 n x_40.2 a0_b2 t7_42 x_40.1) default).bind fun y_43 => (jn (fun p_44 : Int => (letM ((IntKind.wrap .i64 ((IntKind.wrap .i64 ((2 : Int) * x_40.1)) + (2 : Int)))) fun t8_46 => ((gdO (decide (t8_46 < t4_3)) (m32 n x_40.2 a0_b2 t8_46 p_44) default).bind fun y_47 => (jn (fun p_48 : Int => (if (decide (p_48 = x_40.1)) = true then (some ((R27.mk y_2.x.Key y_2.x.Tag),true,a0_b2,x_40.2)) else ((getIdx x_40.2 p_48).bind fun y_50 => ((getIdx x_40.2 x_40.1).bind fun y_51 => ((getIdx x_40.2 x_40.1).bind fun y_52 => ((setIdx x_40.2 x_40.1 (R68.mk (R27.mk y_50.x.Key y_50.x.Tag) y_50.number)).bind fun l2_53 => ((getIdx l2_53 p_48).bind fun y_54 => ((setIdx l2_53 p_48 (R68.mk (R27.mk y_51.x.Key y_51.x.Tag) y_51.number)).bind fun l2_55 => (nx_41 (p_48,l2_55)))))))))) fun k_49 => (if ((decide (t8_46 < t4_3)) && y_47) = true then (k_49 t8_46) else (k_49 p_44)))))) fun k_45 => (if ((decide (t7_42 < t4_3)) && y_43) = true then (k_45 t7_42) else (k_45 x_40.1)))))
def m21 (n : Nat) (a0_b1_b : (List R68)) (a0_b2 : Int) : Option (R27 × Bool × Int × (List R68)) :=
  ((m16 n a0_b1_b a0_b2).bind fun y_1 => (if (decide (y_1 = (0 : Int))) = true then (some ((R27.mk (0 : Int) (0 : Int)),false,a0_b2,a0_b1_b)) else ((getIdx a0_b1_b (0 : Int)).bind fun y_2 => (letM ((IntKind.wrap .i64 ((a0_b1_b.length : Int) - (1 : Int)))) fun t4_3 => ((getIdx a0_b1_b t4_3).bind fun y_4 => ((getIdx a0_b1_b (0 : Int)).bind fun y_5 => ((setIdx a0_b1_b (0 : Int) (R68.mk (R27.mk y_4.x.Key y_4.x.Tag) y_4.number)).bind fun l2_6 => ((getIdx l2_6 t4_3).bind fun y_7 => ((setIdx l2_6 t4_3 (R68.mk (R27.mk (0 : Int) (0 : Int)) (0 : Int))).bind fun l2_8 => ((slc l2_8 (0 : Int) t4_3).bind fun l2_9 => (loopM (m21_L1 n a0_b2 y_2 t4_3) n ((0 : Int),l2_9))))))))))))
def m33_L1 (n : Nat) (k_20 : Unit → Option (List R27)) (nx_14 : (Bool × Int × Int × Int × (List R68)) → Option (List R27)) (x_13 : (Bool × Int × Int × Int × (List R68))) : Option (List R27) :=
  (if x_13.1 = true then (yldM false (R27.mk x_13.2.2.1 x_13.2.2.2.1) ((m21 n x_13.2.2.2.2 x_13.2.1).bind fun y_18 => (nx_14 (y_18.2.1,y_18.2.2.1,y_18.1.Key,y_18.1.Tag,y_18.2.2.2)))) else (k_20 ()))
def m33 (n : Nat) (a1_r0_r1 : (List R68)) (a1_r0_r2 : Int) : Option (List R27) :=
  ((m23 n a1_r0_r1 a1_r0_r2).bind fun y_1 => ((m21 n y_1.l y_1.pushed).bind fun y_2 => (jn (fun p_19 : Unit => (some [])) fun k_20 => (loopM (m33_L1 n k_20) n (y_2.2.1,y_2.2.2.1,y_2.1.Key,y_2.1.Tag,y_2.2.2.2)))))
def m14_L1 (n : Nat) (a0 : (List R27)) (a1 : (List R27)) (k_11 : Unit → Option Bool) (nx_6 : Int → Option Bool) (x_5 : Int) : Option Bool :=
  (if (decide (x_5 < (a0.length : Int))) = true then ((getIdx a0 x_5).bind fun y_7 => ((getIdx a1 x_5).bind fun y_8 => (if (!(([y_7.Key,y_7.Tag] : List Int) == [y_8.Key,y_8.Tag])) = true then (some false) else (letM ((IntKind.wrap .i64 (x_5 + (1 : Int)))) fun t5_9 => (nx_6 t5_9))))) else (k_11 ()))
def m14 (n : Nat) (a0 : (List R27)) (a1 : (List R27)) : Option Bool :=
  (if (!decide ((a0.length : Int) = (a1.length : Int))) = true then (some false) else (jn (fun p_10 : Unit => (some true)) fun k_11 => (loopM (m14_L1 n a0 a1 k_11) n (0 : Int))))
def m5_R1 (n : Nat) (nx_12 : (List R27) → Option Bool) (e_6 : R27) (x_11 : (List R27)) : Option Bool :=
  ((apd x_11 ([(R27.mk e_6.Key e_6.Tag)] : List R27)).bind fun l8_13 => (nx_12 l8_13))
def m5_R3 (n : Nat) (nx_48 : (Int × (List R27) × (List R68)) → Option Bool) (e_36 : R27) (x_47 : (Int × (List R27) × (List R68))) : Option Bool :=
  (jn (fun p_50 : Int × (List R68) => ((apd x_47.2.1 ([(R27.mk e_36.Key e_36.Tag)] : List R27)).bind fun l17_52 => (nx_48 (p_50.1,l17_52,p_50.2)))) fun k_51 => (if (decide ((x_47.2.1.length : Int) = (0 : Int))) = true then ((m19 n x_47.2.2 x_47.1 (R27.mk (-4611686018427387904 : Int) (0 : Int))).bind fun y_49 => (k_51 (y_49.1,y_49.2))) else (k_51 (x_47.1,x_47.2.2))))
def m5_R2 (n : Nat) (a1 : Int) (k_25 : (List R27) → Option Bool) (nx_23 : (List R27) → Option Bool) (e_17 : R27) (x_22 : (List R27)) : Option Bool :=
  (if (decide ((x_22.length : Int) = (IntKind.wrap .i64 a1))) = true then (k_25 x_22) else ((apd x_22 ([(R27.mk e_17.Key e_17.Tag)] : List R27)).bind fun l12_26 => (nx_23 l12_26)))
def m5 (n : Nat) (a0 : (List R27)) (a1 : Int) : Option Bool :=
  ((m10 n).bind fun y_1 => (if (!y_1) = true then (some false) else (if (decide ((200 : Int) < (a0.length : Int))) = true then (some true) else ((m12 n a0).bind fun y_2 => ((m11 n a0).bind fun y_3 => ((m20 n y_2.l y_2.pushed).bind fun y_4 => ((m33 n y_2.l y_2.pushed).bind fun y_5 => (rangeL (m5_R1 n) y_5 (fun p_14 : (List R27) => ((m20 n y_2.l y_2.pushed).bind fun y_15 => (jn (fun p_28 : (List R27) => ((m14 n p_14 y_3).bind fun y_30 => ((gdO (!(!y_30)) (slc y_3 (0 : Int) (if (IntKind.wrap .i64 a1) < (y_3.length : Int) then (IntKind.wrap .i64 a1) else (y_3.length : Int))) default).bind fun s_31 => ((gdO (!(!y_30)) (m14 n p_28 s_31) default).bind fun y_32 => ((gdO (!((!y_30) || (!y_32))) (m16 n y_2.l y_2.pushed) default).bind fun y_33 => (if (((!y_30) || (!y_32)) || (!decide (y_33 = (a0.length : Int)))) = true then (some false) else ((m20 n y_2.l y_2.pushed).bind fun y_34 => ((m33 n y_2.l y_2.pushed).bind fun y_35 => (rangeL (m5_R3 n) y_35 (fun p_53 : Int × (List R27) × (List R68) => (if (decide ((a0.length : Int) = (0 : Int))) = true then (some (decide ((p_53.2.1.length : Int) = (0 : Int)))) else ((m21 n p_53.2.2 p_53.1).bind fun y_54 => ((m14 n p_53.2.1 y_3).bind fun y_55 => ((gdO (y_55 && y_54.2.1) (m22 n y_3 (R27.mk (-4611686018427387904 : Int) (0 : Int))) default).bind fun y_56 => ((gdO (y_55 && y_54.2.1) (getIdx y_56 (0 : Int)) default).bind fun y_57 => ((gdO ((y_55 && y_54.2.1) && (([y_54.1.Key,y_54.1.Tag] : List Int) == [y_57.Key,y_57.Tag])) (m16 n y_54.2.2.2 y_54.2.2.1) default).bind fun y_58 => (some (((y_55 && y_54.2.1) && (([y_54.1.Key,y_54.1.Tag] : List Int) == [y_57.Key,y_57.Tag])) && (decide (y_58 = (a0.length : Int)))))))))))) (y_2.pushed,([] : List R27),y_2.l)))))))))) fun k_29 => ((m33 n y_2.l y_2.pushed).bind fun y_16 => (jn (fun p_24 : (List R27) => (k_29 p_24)) fun k_25 => (rangeL (m5_R2 n a1 k_25) y_16 (fun p_27 : (List R27) => (k_29 p_27)) ([] : List R27))))))) ([] : List R27)))))))))
end Go.AB
