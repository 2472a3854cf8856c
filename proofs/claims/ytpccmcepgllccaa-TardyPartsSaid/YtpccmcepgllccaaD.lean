import Derived.Test.YtpccmcepgllccaaProg
import Derived.Test.YtpccmcepgllccaaBd
import Derived.KernelRfl
set_option linter.unusedVariables false
set_option maxRecDepth 20000
namespace Go.AB
open Go Go.Proofs
theorem zero40 : zeroT Try.prog 40 [.int .i64 0,.int .i64 0,.int .i64 0] := zeroT.mk (by kernel_rfl)
theorem sz3 : szOf Try.prog 3 1 := szOf.mk (by kernel_rfl)
theorem offs40 : offsOf Try.prog 40 [(0,1),(1,1),(2,1)] := ⟨_,Try.underlying40,rfl,.cons sz3 (.cons sz3 (.cons sz3 (.nil)))⟩
theorem el40 : elT Try.prog 40 3 24 := elT.mk (by kernel_rfl)
structure R38 where
  Release : Int
  Length : Int
  Due : Int
  deriving DecidableEq,Inhabited
def encR38 (y : R38) : List AV := [.sc (.int .i64 y.Release),.sc (.int .i64 y.Length),.sc (.int .i64 y.Due)]
theorem encR38_len (y : R38) : (encR38 y).length = 3 := rfl
theorem encR38_one (y : R38) : ∀ c,c ∈ encR38 y → c.one = true := by simp [encR38,AV.one]
theorem encR38_still (y : R38) : ∀ c,c ∈ encR38 y → c.still = true := by simp [encR38,AV.still]
theorem zero3 : zeroT Try.prog 3 [.int .i64 0] := zeroT.mk (by kernel_rfl)
theorem el3 : elT Try.prog 3 1 8 := elT.mk (by kernel_rfl)
theorem sz40 : szOf Try.prog 40 3 := szOf.mk (by kernel_rfl)
theorem agg40 : aggT Try.prog 40 3 := ⟨sz40,_,Try.underlying40,trivial⟩
theorem fld40_0 : fldOf Try.prog 40 0 0 := ⟨_,_,Try.underlying40,rfl,rfl,0,sz3⟩
theorem one3 : oneT Try.prog 3 := ⟨_,Try.underlying3,trivial⟩
theorem fld40_1 : fldOf Try.prog 40 1 1 := ⟨_,_,Try.underlying40,rfl,rfl,0,sz3⟩
theorem fld40_2 : fldOf Try.prog 40 2 2 := ⟨_,_,Try.underlying40,rfl,rfl,0,sz3⟩
theorem zero4 : zeroT Try.prog 4 [.bool false] := zeroT.mk (by kernel_rfl)
theorem el4 : elT Try.prog 4 1 1 := elT.mk (by kernel_rfl)
theorem sz4 : szOf Try.prog 4 1 := szOf.mk (by kernel_rfl)
theorem one4 : oneT Try.prog 4 := ⟨_,Try.underlying4,trivial⟩
theorem mixed : Try.prog.follows .mixedOrders = true := by kernel_rfl
theorem zero26 : zeroT Try.prog 26 [.slice none 0 0] := zeroT.mk (by kernel_rfl)
theorem zero1 : zeroT Try.prog 1 [.nilFunc] := zeroT.mk (by kernel_rfl)
theorem sz1 : szOf Try.prog 1 1 := szOf.mk (by kernel_rfl)
theorem one1 : oneT Try.prog 1 := ⟨_,Try.underlying1,trivial⟩
theorem one26 : oneT Try.prog 26 := ⟨_,Try.underlying26,trivial⟩
theorem one30 : oneT Try.prog 30 := ⟨_,Try.underlying30,trivial⟩
theorem sz26 : szOf Try.prog 26 1 := szOf.mk (by kernel_rfl)
theorem sz39 : szOf Try.prog 39 3 := szOf.mk (by kernel_rfl)
theorem agg39 : aggT Try.prog 39 3 := ⟨sz39,_,Try.underlying39,trivial⟩
theorem zero39 : zeroT Try.prog 39 [.int .i64 0,.int .i64 0,.int .i64 0] := zeroT.mk (by kernel_rfl)
theorem fld39_0 : fldOf Try.prog 39 0 0 := ⟨_,_,Try.underlying39,rfl,rfl,0,sz3⟩
theorem fld39_1 : fldOf Try.prog 39 1 1 := ⟨_,_,Try.underlying39,rfl,rfl,0,sz3⟩
theorem fld39_2 : fldOf Try.prog 39 2 2 := ⟨_,_,Try.underlying39,rfl,rfl,0,sz3⟩
theorem el39 : elT Try.prog 39 3 24 := elT.mk (by kernel_rfl)
def m47 (n : Nat) (a0 : R38) : Option Bool :=
  (letM (((((((decide (a0.Release < (0 : Int))) || (decide ((100000 : Int) < a0.Release))) || (decide (a0.Length < (1 : Int)))) || (decide ((10000 : Int) < a0.Length))) || (decide (a0.Due < (0 : Int)))) || (decide ((1000000 : Int) < a0.Due)))) fun t2_1 => (some t2_1))
def m60_L1 (n : Nat) (a0 : (List R38)) (k_15 : Unit → Option Int) (nx_10 : Int → Option Int) (x_9 : Int) : Option Int :=
  (if (decide (x_9 < (a0.length : Int))) = true then ((getIdx a0 x_9).bind fun y_11 => ((m47 n (R38.mk y_11.Release y_11.Length y_11.Due)).bind fun y_12 => (if y_12 = true then (some x_9) else (letM ((IntKind.wrap .i64 (x_9 + (1 : Int)))) fun t8_13 => (nx_10 t8_13))))) else (k_15 ()))
def m60 (n : Nat) (a0 : (List R38)) : Option Int :=
  (jn (fun p_14 : Unit => (some (-1 : Int))) fun k_15 => (loopM (m60_L1 n a0 k_15) n (0 : Int)))
def m48 (n : Nat) (a0 : (List R38)) : Option Bool :=
  ((m60 n a0).bind fun y_1 => (some (decide ((0 : Int) ≤ y_1))))
def m28 (n : Nat) (a0 : (List R38)) : Option Bool :=
  ((gdO (decide ((a0.length : Int) ≤ (40 : Int))) (m48 n a0) default).bind fun y_1 => (some ((decide ((a0.length : Int) ≤ (40 : Int))) && (!y_1))))
def m59_L1 (n : Nat) (a0 : (List R38)) (a1 : (List Int)) (k_22 : Unit → Option Bool) (nx_15 : (Int × (List Bool)) → Option Bool) (x_14 : (Int × (List Bool))) : Option Bool :=
  (if (decide (x_14.1 < (a1.length : Int))) = true then ((getIdx a1 x_14.1).bind fun y_16 => ((gdO (!((decide (y_16 < (0 : Int))) || (decide ((a0.length : Int) ≤ y_16)))) (getIdx x_14.2 y_16) default).bind fun y_17 => (if (((decide (y_16 < (0 : Int))) || (decide ((a0.length : Int) ≤ y_16))) || y_17) = true then (some false) else ((getIdx x_14.2 y_16).bind fun y_18 => ((setIdx x_14.2 y_16 true).bind fun l1_19 => (letM ((IntKind.wrap .i64 (x_14.1 + (1 : Int)))) fun t13_20 => (nx_15 (t13_20,l1_19)))))))) else (k_22 ()))
def m59 (n : Nat) (a0 : (List R38)) (a1 : (List Int)) : Option Bool :=
  ((mk false (a0.length : Int) (a0.length : Int)).bind fun l1_1 => (jn (fun p_21 : Unit => (some true)) fun k_22 => (loopM (m59_L1 n a0 a1 k_22) n ((0 : Int),l1_1))))
def m44 (n : Nat) (a0 : (List R38)) (a1 : (List Int)) : Option Int :=
  ((m28 n a0).bind fun y_1 => (if (!y_1) = true then (some (1 : Int)) else ((m59 n a0 a1).bind fun y_2 => (if (!y_2) = true then (some (22 : Int)) else (some (0 : Int))))))
def m45_L1 (n : Nat) (a0 : (List R38)) (a1 : (List Int)) (k_24 : (List Int) → Option (List Int)) (nx_16 : (Int × Int × (List Int)) → Option (List Int)) (x_15 : (Int × Int × (List Int))) : Option (List Int) :=
  (if (decide (x_15.2.1 < (a1.length : Int))) = true then ((getIdx a1 x_15.2.1).bind fun y_17 => ((getIdx a0 y_17).bind fun y_18 => ((getIdx a0 y_17).bind fun y_19 => (letM ((IntKind.wrap .i64 ((if y_18.Release > x_15.1 then y_18.Release else x_15.1) + y_19.Length))) fun t6_20 => ((apd x_15.2.2 ([t6_20] : List Int)).bind fun l1_21 => (letM ((IntKind.wrap .i64 (x_15.2.1 + (1 : Int)))) fun t11_22 => (nx_16 (t6_20,t11_22,l1_21)))))))) else (k_24 x_15.2.2))
def m45 (n : Nat) (a0 : (List R38)) (a1 : (List Int)) : Option (List Int) :=
  (jn (fun p_23 : (List Int) => (some p_23)) fun k_24 => (loopM (m45_L1 n a0 a1 k_24) n ((0 : Int),(0 : Int),([] : List Int))))
def m46_L1 (n : Nat) (a0 : (List R38)) (a1 : (List Int)) (a2 : Bool) (y_1 : (List Int)) (k_37 : Int → Option Int) (nx_25 : (Int × Int) → Option Int) (x_24 : (Int × Int)) : Option Int :=
  (if (decide (x_24.2 < (y_1.length : Int))) = true then ((getIdx y_1 x_24.2).bind fun y_26 => ((getIdx a1 x_24.2).bind fun y_27 => ((getIdx a0 y_27).bind fun y_28 => (letM ((IntKind.wrap .i64 (y_26 - y_28.Due))) fun t10_29 => (jn (fun p_33 : Int => (letM ((IntKind.wrap .i64 (x_24.2 + (1 : Int)))) fun t15_35 => (nx_25 (p_33,t15_35)))) fun k_34 => (if (!a2) = true then (letM ((IntKind.wrap .i64 (x_24.1 + (if t10_29 > (0 : Int) then t10_29 else (0 : Int))))) fun t7_30 => (k_34 t7_30)) else (jn (fun p_31 : Int => (k_34 p_31)) fun k_32 => (if ((decide (x_24.2 = (0 : Int))) || (decide (x_24.1 < t10_29))) = true then (k_32 t10_29) else (k_32 x_24.1))))))))) else (k_37 x_24.1))
def m46 (n : Nat) (a0 : (List R38)) (a1 : (List Int)) (a2 : Bool) : Option Int :=
  ((m45 n a0 a1).bind fun y_1 => (jn (fun p_36 : Int => (some p_36)) fun k_37 => (loopM (m46_L1 n a0 a1 a2 y_1 k_37) n ((0 : Int),(0 : Int)))))
def m26 (n : Nat) (a0 : (List R38)) (a1 : (List Int)) : Option (Int × Int) :=
  ((m44 n a0 a1).bind fun y_1 => (if (!decide (y_1 = (0 : Int))) = true then (some ((0 : Int),y_1)) else ((m46 n a0 a1 false).bind fun y_2 => (some (y_2,(0 : Int))))))
def m54 (n : Nat) (a0 : (List Int)) : Option (List Int) :=
  ((apd ([] : List Int) a0).bind fun l1_2 => (some l1_2))
def m70_L1 (n : Nat) (a0 : (List Int)) (a1 : Int) (k_12 : Unit → Option Int) (nx_8 : Int → Option Int) (x_7 : Int) : Option Int :=
  (if (decide (x_7 < (a0.length : Int))) = true then ((getIdx a0 x_7).bind fun y_9 => (if (decide (a1 = y_9)) = true then (some x_7) else (letM ((IntKind.wrap .i64 (x_7 + (1 : Int)))) fun t8_10 => (nx_8 t8_10)))) else (k_12 ()))
def m70 (n : Nat) (a0 : (List Int)) (a1 : Int) : Option Int :=
  (jn (fun p_11 : Unit => (some (-1 : Int))) fun k_12 => (loopM (m70_L1 n a0 a1 k_12) n (0 : Int)))
def m53 (n : Nat) (a0 : (List Int)) (a1 : Int) : Option Bool :=
  ((m70 n a0 a1).bind fun y_1 => (some (decide ((0 : Int) ≤ y_1))))
def m58_L1 (n : Nat) (a1_b0 : (List R38)) (a2_b0 : Bool) (rc_0 : (List Int) → (List R38) → Bool → Bool → Int → (List Int) → Option ((List Int) × Bool × Int × (List Int))) (k_31 : ((List Int) × Bool × Int × (List Int)) → Option ((List Int) × Bool × Int × (List Int))) (nx_22 : (Int × (List Int) × Bool × Int × (List Int)) → Option ((List Int) × Bool × Int × (List Int))) (x_21 : (Int × (List Int) × Bool × Int × (List Int))) : Option ((List Int) × Bool × Int × (List Int)) :=
  (if (decide (x_21.1 < (a1_b0.length : Int))) = true then ((m53 n x_21.2.1 x_21.1).bind fun y_23 => (jn (fun p_27 : (List Int) × Bool × Int × (List Int) => (letM ((IntKind.wrap .i64 (x_21.1 + (1 : Int)))) fun t30_29 => (nx_22 (t30_29,p_27.1,p_27.2.1,p_27.2.2.1,p_27.2.2.2)))) fun k_28 => (if (!y_23) = true then ((apd x_21.2.1 ([x_21.1] : List Int)).bind fun l2_24 => ((rc_0 l2_24 a1_b0 a2_b0 x_21.2.2.1 x_21.2.2.2.1 x_21.2.2.2.2).bind fun y_25 => ((slc y_25.1 (0 : Int) (IntKind.wrap .i64 ((y_25.1.length : Int) - (1 : Int)))).bind fun l2_26 => (k_28 (l2_26,y_25.2.1,y_25.2.2.1,y_25.2.2.2))))) else (k_28 (x_21.2.1,x_21.2.2.1,x_21.2.2.2.1,x_21.2.2.2.2))))) else (k_31 (x_21.2.1,x_21.2.2.1,x_21.2.2.2.1,x_21.2.2.2.2)))
def m58B (n : Nat) (rc_0 : (List Int) → (List R38) → Bool → Bool → Int → (List Int) → Option ((List Int) × Bool × Int × (List Int))) (a0_b0_b : (List Int)) (a1_b0 : (List R38)) (a2_b0 : Bool) (a3_b0 : Bool) (a4_b0 : Int) (a5_b0 : (List Int)) : Option ((List Int) × Bool × Int × (List Int)) :=
  (if (decide ((a0_b0_b.length : Int) = (a1_b0.length : Int))) = true then ((m46 n a1_b0 a0_b0_b a2_b0).bind fun y_1 => (jn (fun p_3 : Bool × Int × (List Int) => (some (a0_b0_b,p_3.1,p_3.2.1,p_3.2.2))) fun k_4 => (if ((!a3_b0) || (decide (y_1 < a4_b0))) = true then ((m54 n a0_b0_b).bind fun y_2 => (k_4 (true,y_1,y_2))) else (k_4 (a3_b0,a4_b0,a5_b0))))) else (jn (fun p_30 : (List Int) × Bool × Int × (List Int) => (some (p_30.1,p_30.2.1,p_30.2.2.1,p_30.2.2.2))) fun k_31 => (loopM (m58_L1 n a1_b0 a2_b0 rc_0 k_31) n ((0 : Int),a0_b0_b,a3_b0,a4_b0,a5_b0))))
def m58F (n : Nat) : Nat → (List Int) → (List R38) → Bool → Bool → Int → (List Int) → Option ((List Int) × Bool × Int × (List Int))
  | 0 => fun _ _ _ _ _ _ => none
  | f + 1 => m58B n (m58F n f)
def m58 (n : Nat) (a0_b0_b : (List Int)) (a1_b0 : (List R38)) (a2_b0 : Bool) (a3_b0 : Bool) (a4_b0 : Int) (a5_b0 : (List Int)) : Option ((List Int) × Bool × Int × (List Int)) := m58F n n a0_b0_b a1_b0 a2_b0 a3_b0 a4_b0 a5_b0
def m40 (n : Nat) (a0 : (List R38)) (a1 : Bool) : Option ((List Int) × Int) :=
  ((m58 n ([] : List Int) a0 a1 false (0 : Int) ([] : List Int)).bind fun y_1 => (some (y_1.2.2.2,y_1.2.2.1)))
def m12 (n : Nat) (a0 : (List R38)) (a1 : Bool) : Option ((List Int) × Int × Int) :=
  ((m28 n a0).bind fun y_1 => (if (!y_1) = true then (some (([] : List Int),(0 : Int),(1 : Int))) else (if (decide ((7 : Int) < (a0.length : Int))) = true then (some (([] : List Int),(0 : Int),(9 : Int))) else ((m40 n a0 a1).bind fun y_2 => (some (y_2.1,y_2.2,(0 : Int)))))))
def m43_L13 (n : Nat) (a0 : (List R38)) (y_183 : R38) (y_242 : R38) (k_263 : Int → Option Int) (nx_256 : (Int × Int) → Option Int) (x_255 : (Int × Int)) : Option Int :=
  (if (decide (x_255.2 < (a0.length : Int))) = true then ((getIdx a0 x_255.2).bind fun y_257 => (jn (fun p_259 : Int => (letM ((IntKind.wrap .i64 (x_255.2 + (1 : Int)))) fun t29_261 => (nx_256 (p_259,t29_261)))) fun k_260 => (if ((decide (y_183.Release ≤ y_257.Release)) && (decide (y_257.Due ≤ y_242.Due))) = true then (letM ((IntKind.wrap .i64 (x_255.1 + y_257.Length))) fun t11_258 => (k_260 t11_258)) else (k_260 x_255.1)))) else (k_263 x_255.1))
def m43_L12 (n : Nat) (a0 : (List R38)) (a1 : Int) (y_183 : R38) (k_270 : (Int × Bool) → Option Int) (nx_241 : (Int × Bool × Int) → Option Int) (x_240 : (Int × Bool × Int)) : Option Int :=
  (if (decide (x_240.2.2 < (a0.length : Int))) = true then ((getIdx a0 x_240.2.2).bind fun y_242 => (jn (fun p_262 : Int => (asrt (a1 ≠ 0) (letM ((IntKind.wrap .i64 ((IntKind.wrap .i64 (y_183.Release + (IntKind.wrap .i64 ((IntKind.wrap .i64 ((IntKind.wrap .i64 (p_262 + a1)) - (1 : Int))).tdiv a1)))) - y_242.Due))) fun t14_265 => (jn (fun p_266 : Int × Bool => (letM ((IntKind.wrap .i64 (x_240.2.2 + (1 : Int)))) fun t23_268 => (nx_241 (p_266.1,p_266.2,t23_268)))) fun k_267 => (if ((decide ((0 : Int) < p_262)) && ((!x_240.2.1) || (decide (x_240.1 < t14_265)))) = true then (k_267 (t14_265,true)) else (k_267 (x_240.1,x_240.2.1))))))) fun k_263 => (loopM (m43_L13 n a0 y_183 y_242 k_263) n ((0 : Int),(0 : Int))))) else (k_270 (x_240.1,x_240.2.1)))
def m43_L9 (n : Nat) (a0 : (List R38)) (a1 : Int) (k_273 : Int → Option Int) (nx_182 : (Int × Bool × Int) → Option Int) (x_181 : (Int × Bool × Int)) : Option Int :=
  (if (decide (x_181.2.2 < (a0.length : Int))) = true then ((getIdx a0 x_181.2.2).bind fun y_183 => (jn (fun p_269 : Int × Bool => (letM ((IntKind.wrap .i64 (x_181.2.2 + (1 : Int)))) fun t17_271 => (nx_182 (p_269.1,p_269.2,t17_271)))) fun k_270 => (loopM (m43_L12 n a0 a1 y_183 k_270) n (x_181.1,x_181.2.1,(0 : Int))))) else (k_273 x_181.1))
def m43 (n : Nat) (a0 : (List R38)) (a1 : Int) : Option Int :=
  (jn (fun p_272 : Int => (some p_272)) fun k_273 => (loopM (m43_L9 n a0 a1 k_273) n ((0 : Int),false,(0 : Int))))
def m20 (n : Nat) (a0 : (List R38)) : Option (Int × Int) :=
  ((m28 n a0).bind fun y_1 => (if (!y_1) = true then (some ((0 : Int),(1 : Int))) else ((m43 n a0 (1 : Int)).bind fun y_2 => (some (y_2,(0 : Int))))))
def m19_L1 (n : Nat) (a0 : (List Int)) (a1 : (List Int)) (k_15 : Unit → Option Bool) (nx_10 : Int → Option Bool) (x_9 : Int) : Option Bool :=
  (if (decide (x_9 < (a0.length : Int))) = true then ((getIdx a0 x_9).bind fun y_11 => ((getIdx a1 x_9).bind fun y_12 => (if (!decide (y_11 = y_12)) = true then (some false) else (letM ((IntKind.wrap .i64 (x_9 + (1 : Int)))) fun t5_13 => (nx_10 t5_13))))) else (k_15 ()))
def m19 (n : Nat) (a0 : (List Int)) (a1 : (List Int)) : Option Bool :=
  (if (!decide ((a0.length : Int) = (a1.length : Int))) = true then (some false) else (jn (fun p_14 : Unit => (some true)) fun k_15 => (loopM (m19_L1 n a0 a1 k_15) n (0 : Int))))
def m10 (n : Nat) : Option Bool :=
  (letM (([(R38.mk (0 : Int) (5 : Int) (6 : Int)),(R38.mk (1 : Int) (2 : Int) (3 : Int))] : List R38)) fun l1_1 => ((m26 n l1_1 ([(0 : Int),(1 : Int)] : List Int)).bind fun y_2 => ((m12 n l1_1 false).bind fun y_3 => ((m20 n l1_1).bind fun y_4 => ((gdO ((((((decide (y_2.2 = (0 : Int))) && (decide (y_3.2.2 = (0 : Int)))) && (decide (y_4.2 = (0 : Int)))) && (decide (y_2.1 = (4 : Int)))) && (decide (y_3.2.1 = (2 : Int)))) && (decide (y_4.1 = (1 : Int)))) (m19 n y_3.1 ([(1 : Int),(0 : Int)] : List Int)) default).bind fun y_5 => ((gdO (((((((decide (y_2.2 = (0 : Int))) && (decide (y_3.2.2 = (0 : Int)))) && (decide (y_4.2 = (0 : Int)))) && (decide (y_2.1 = (4 : Int)))) && (decide (y_3.2.1 = (2 : Int)))) && (decide (y_4.1 = (1 : Int)))) && y_5) (m28 n l1_1) default).bind fun y_6 => (letM (((((((((decide (y_2.2 = (0 : Int))) && (decide (y_3.2.2 = (0 : Int)))) && (decide (y_4.2 = (0 : Int)))) && (decide (y_2.1 = (4 : Int)))) && (decide (y_3.2.1 = (2 : Int)))) && (decide (y_4.1 = (1 : Int)))) && y_5) && y_6)) fun t0_7 => (some t0_7))))))))
def m11 (n : Nat) (a0 : (List R38)) : Option Bool :=
  (some (decide ((a0.length : Int) ≤ (10 : Int))))
def m13_L1 (n : Nat) (a0 : (List R38)) (k_15 : (List R38) → Option (List R38)) (nx_10 : (Int × (List R38)) → Option (List R38)) (x_9 : (Int × (List R38))) : Option (List R38) :=
  (if (decide (x_9.1 < (a0.length : Int))) = true then ((getIdx a0 x_9.1).bind fun y_11 => ((apd x_9.2 ([(R38.mk y_11.Release y_11.Length y_11.Due)] : List R38)).bind fun l1_12 => (letM ((IntKind.wrap .i64 (x_9.1 + (1 : Int)))) fun t8_13 => (nx_10 (t8_13,l1_12))))) else (k_15 x_9.2))
def m13 (n : Nat) (a0 : (List R38)) : Option (List R38) :=
  (jn (fun p_14 : (List R38) => (some p_14)) fun k_15 => (loopM (m13_L1 n a0 k_15) n ((0 : Int),([] : List R38))))
def m14_L1 (n : Nat) (a0 : (List R38)) (k_15 : Unit → Option Bool) (nx_10 : Int → Option Bool) (x_9 : Int) : Option Bool :=
  (if (decide (x_9 < (a0.length : Int))) = true then ((getIdx a0 x_9).bind fun y_11 => (letM (((((((decide (y_11.Release < (0 : Int))) || (decide ((100000 : Int) < y_11.Release))) || (decide (y_11.Length < (1 : Int)))) || (decide ((10000 : Int) < y_11.Length))) || (decide (y_11.Due < (0 : Int)))) || (decide ((1000000 : Int) < y_11.Due)))) fun t42_12 => (if t42_12 = true then (some false) else (letM ((IntKind.wrap .i64 (x_9 + (1 : Int)))) fun t3_13 => (nx_10 t3_13))))) else (k_15 ()))
def m14 (n : Nat) (a0 : (List R38)) : Option Bool :=
  (jn (fun p_14 : Unit => (some (decide ((a0.length : Int) ≤ (40 : Int))))) fun k_15 => (loopM (m14_L1 n a0 k_15) n (0 : Int)))
def m41_L1 (n : Nat) (a0 : (List Int)) (a1 : Int) (k_12 : Unit → Option Bool) (nx_8 : Int → Option Bool) (x_7 : Int) : Option Bool :=
  (if (decide (x_7 < (a0.length : Int))) = true then ((getIdx a0 x_7).bind fun y_9 => (if (decide (y_9 = a1)) = true then (some true) else (letM ((IntKind.wrap .i64 (x_7 + (1 : Int)))) fun t5_10 => (nx_8 t5_10)))) else (k_12 ()))
def m41 (n : Nat) (a0 : (List Int)) (a1 : Int) : Option Bool :=
  (jn (fun p_11 : Unit => (some false)) fun k_12 => (loopM (m41_L1 n a0 a1 k_12) n (0 : Int)))
def m15_L1 (n : Nat) (a0 : (List R38)) (a1 : (List Int)) (k_24 : Unit → Option Bool) (nx_16 : Int → Option Bool) (x_15 : Int) : Option Bool :=
  (if (decide (x_15 < (a1.length : Int))) = true then ((getIdx a1 x_15).bind fun y_17 => ((gdO (!(decide (y_17 < (0 : Int)))) (getIdx a1 x_15) default).bind fun y_18 => ((gdO (!((decide (y_17 < (0 : Int))) || (decide ((a0.length : Int) ≤ y_18)))) (slc a1 (0 : Int) x_15) default).bind fun s_19 => ((gdO (!((decide (y_17 < (0 : Int))) || (decide ((a0.length : Int) ≤ y_18)))) (getIdx a1 x_15) default).bind fun y_20 => ((gdO (!((decide (y_17 < (0 : Int))) || (decide ((a0.length : Int) ≤ y_18)))) (m41 n s_19 y_20) default).bind fun y_21 => (if (((decide (y_17 < (0 : Int))) || (decide ((a0.length : Int) ≤ y_18))) || y_21) = true then (some false) else (letM ((IntKind.wrap .i64 (x_15 + (1 : Int)))) fun t5_22 => (nx_16 t5_22)))))))) else (k_24 ()))
def m15 (n : Nat) (a0 : (List R38)) (a1 : (List Int)) : Option Bool :=
  (jn (fun p_23 : Unit => (some true)) fun k_24 => (loopM (m15_L1 n a0 a1 k_24) n (0 : Int)))
def m23_L1 (n : Nat) (a0 : (List R38)) (a1 : (List Int)) (k_29 : (List Int) → Option ((List Int) × Int)) (nx_20 : (Int × Int × (List Int)) → Option ((List Int) × Int)) (x_19 : (Int × Int × (List Int))) : Option ((List Int) × Int) :=
  (if (decide (x_19.2.1 < (a1.length : Int))) = true then ((getIdx a1 x_19.2.1).bind fun y_21 => ((getIdx a0 y_21).bind fun y_22 => ((getIdx a1 x_19.2.1).bind fun y_23 => ((getIdx a0 y_23).bind fun y_24 => (letM ((IntKind.wrap .i64 ((if y_22.Release > x_19.1 then y_22.Release else x_19.1) + y_24.Length))) fun t7_25 => ((apd x_19.2.2 ([t7_25] : List Int)).bind fun l1_26 => (letM ((IntKind.wrap .i64 (x_19.2.1 + (1 : Int)))) fun t8_27 => (nx_20 (t7_25,t8_27,l1_26))))))))) else (k_29 x_19.2.2))
def m23 (n : Nat) (a0 : (List R38)) (a1 : (List Int)) : Option ((List Int) × Int) :=
  ((m14 n a0).bind fun y_1 => (if (!y_1) = true then (some (([] : List Int),(1 : Int))) else ((m15 n a0 a1).bind fun y_2 => (if (!y_2) = true then (some (([] : List Int),(22 : Int))) else (jn (fun p_28 : (List Int) => (some (p_28,(0 : Int)))) fun k_29 => (loopM (m23_L1 n a0 a1 k_29) n ((0 : Int),(0 : Int),([] : List Int))))))))
def m27_L1 (n : Nat) (a0 : (List R38)) (a1 : (List Int)) (y_1 : ((List Int) × Int)) (k_22 : Int → Option (Int × Int)) (nx_15 : (Int × Int) → Option (Int × Int)) (x_14 : (Int × Int)) : Option (Int × Int) :=
  (if (decide (x_14.2 < (y_1.1.length : Int))) = true then ((getIdx y_1.1 x_14.2).bind fun y_16 => ((getIdx a1 x_14.2).bind fun y_17 => ((getIdx a0 y_17).bind fun y_18 => (letM ((IntKind.wrap .i64 (x_14.1 + (if (IntKind.wrap .i64 (y_16 - y_18.Due)) > (0 : Int) then (IntKind.wrap .i64 (y_16 - y_18.Due)) else (0 : Int))))) fun t8_19 => (letM ((IntKind.wrap .i64 (x_14.2 + (1 : Int)))) fun t9_20 => (nx_15 (t8_19,t9_20))))))) else (k_22 x_14.1))
def m27 (n : Nat) (a0 : (List R38)) (a1 : (List Int)) : Option (Int × Int) :=
  ((m23 n a0 a1).bind fun y_1 => (jn (fun p_21 : Int => (some (p_21,y_1.2))) fun k_22 => (loopM (m27_L1 n a0 a1 y_1 k_22) n ((0 : Int),(0 : Int)))))
def m25_L1 (n : Nat) (a0 : (List R38)) (a1 : (List Int)) (y_1 : ((List Int) × Int)) (k_28 : Int → Option (Int × Int)) (nx_19 : (Int × Int) → Option (Int × Int)) (x_18 : (Int × Int)) : Option (Int × Int) :=
  (if (decide (x_18.2 < (y_1.1.length : Int))) = true then ((getIdx y_1.1 x_18.2).bind fun y_20 => ((getIdx a1 x_18.2).bind fun y_21 => ((getIdx a0 y_21).bind fun y_22 => (letM ((IntKind.wrap .i64 (y_20 - y_22.Due))) fun t10_23 => (jn (fun p_24 : Int => (letM ((IntKind.wrap .i64 (x_18.2 + (1 : Int)))) fun t9_26 => (nx_19 (p_24,t9_26)))) fun k_25 => (if ((decide (x_18.2 = (0 : Int))) || (decide (x_18.1 < t10_23))) = true then (k_25 t10_23) else (k_25 x_18.1))))))) else (k_28 x_18.1))
def m25 (n : Nat) (a0 : (List R38)) (a1 : (List Int)) : Option (Int × Int) :=
  ((m23 n a0 a1).bind fun y_1 => (jn (fun p_27 : Int => (some (p_27,y_1.2))) fun k_28 => (loopM (m25_L1 n a0 a1 y_1 k_28) n ((0 : Int),(0 : Int)))))
def m16 (n : Nat) (a0 : (List R38)) (a1 : (List Int)) (a2 : Bool) : Option Int :=
  ((m27 n a0 a1).bind fun y_1 => (jn (fun p_3 : Int => (some p_3)) fun k_4 => (if a2 = true then ((m25 n a0 a1).bind fun y_2 => (k_4 y_2.1)) else (k_4 y_1.1))))
def m17_L13 (n : Nat) (x_122 : Int × (List Int)) (t11_165 : Int) (k_177 : Bool → Option (List Int)) (nx_173 : (Bool × Int) → Option (List Int)) (x_172 : (Bool × Int)) : Option (List Int) :=
  (if (decide (x_172.2 < (x_122.2.length : Int))) = true then ((getIdx x_122.2 x_172.2).bind fun y_174 => (letM ((IntKind.wrap .i64 (x_172.2 + (1 : Int)))) fun t48_175 => (nx_173 ((x_172.1 && (!decide (y_174 = t11_165))),t48_175)))) else (k_177 x_172.1))
def m17_L12 (n : Nat) (a0 : (List R38)) (x_122 : Int × (List Int)) (p_126 : Int) (k_181 : (List Int) → Option (List Int)) (nx_163 : Int → Option (List Int)) (x_162 : Int) : Option (List Int) :=
  (if (decide (x_162 < (a0.length : Int))) = true then (asrt ((a0.length : Int) ≠ 0) (letM (((IntKind.wrap .i64 (p_126 + x_162)).tmod (a0.length : Int))) fun t11_165 => (jn (fun p_176 : Bool => (if p_176 = true then ((apd x_122.2 ([t11_165] : List Int)).bind fun l1_178 => (k_181 l1_178)) else (letM ((IntKind.wrap .i64 (x_162 + (1 : Int)))) fun t10_179 => (nx_163 t10_179)))) fun k_177 => (loopM (m17_L13 n x_122 t11_165 k_177) n (true,(0 : Int)))))) else (k_181 x_122.2))
def m17_L9 (n : Nat) (a0 : (List R38)) (a2 : (List UInt8)) (k_184 : (List Int) → Option (List Int)) (nx_123 : (Int × (List Int)) → Option (List Int)) (x_122 : (Int × (List Int))) : Option (List Int) :=
  (if (decide ((x_122.2.length : Int) < (a0.length : Int))) = true then (jn (fun p_126 : Int => (jn (fun p_180 : (List Int) => (letM ((IntKind.wrap .i64 (x_122.1 + (1 : Int)))) fun t8_182 => (nx_123 (t8_182,p_180)))) fun k_181 => (loopM (m17_L12 n a0 x_122 p_126 k_181) n (0 : Int)))) fun k_127 => (if (decide (x_122.1 < (a2.length : Int))) = true then ((getIdx a2 x_122.1).bind fun y_124 => (letM ((IntKind.wrap .i64 (y_124.toNat : Int))) fun t9_125 => (k_127 t9_125))) else (k_127 (0 : Int)))) else (k_184 x_122.2))
def m17 (n : Nat) (a0 : (List R38)) (a1 : (List Int)) (a2 : (List UInt8)) : Option (List Int) :=
  ((apd ([] : List Int) a1).bind fun l1_1 => (jn (fun p_183 : (List Int) => (some p_183)) fun k_184 => (loopM (m17_L9 n a0 a2 k_184) n ((0 : Int),l1_1))))
def m42_L1 (n : Nat) (a0 : (List R38)) (a1 : (List Int)) (a3 : Bool) (rc_0 : (List R38) → (List Int) → (List Int) → Bool → Option (List Int)) (k_30 : (List Int) → Option (List Int)) (nx_21 : ((List Int) × Int) → Option (List Int)) (x_20 : ((List Int) × Int)) : Option (List Int) :=
  (if (decide (x_20.2 < (a0.length : Int))) = true then ((m41 n a1 x_20.2).bind fun y_22 => (jn (fun p_26 : (List Int) => (letM ((IntKind.wrap .i64 (x_20.2 + (1 : Int)))) fun t9_28 => (nx_21 (p_26,t9_28)))) fun k_27 => (if (!y_22) = true then ((apd ([] : List Int) a1).bind fun l2_23 => ((apd l2_23 ([x_20.2] : List Int)).bind fun l2_24 => ((rc_0 a0 l2_24 x_20.1 a3).bind fun y_25 => (k_27 y_25)))) else (k_27 x_20.1)))) else (k_30 x_20.1))
def m42B (n : Nat) (rc_0 : (List R38) → (List Int) → (List Int) → Bool → Option (List Int)) (a0 : (List R38)) (a1 : (List Int)) (a2 : (List Int)) (a3 : Bool) : Option (List Int) :=
  (if (decide ((a1.length : Int) = (a0.length : Int))) = true then ((gdO (!(decide ((a2.length : Int) = (0 : Int)))) (m16 n a0 a1 a3) default).bind fun y_1 => ((gdO (!(decide ((a2.length : Int) = (0 : Int)))) (m16 n a0 a2 a3) default).bind fun y_2 => (if ((decide ((a2.length : Int) = (0 : Int))) || (decide (y_1 < y_2))) = true then ((apd ([] : List Int) a1).bind fun l1_3 => (some l1_3)) else (some a2)))) else (jn (fun p_29 : (List Int) => (some p_29)) fun k_30 => (loopM (m42_L1 n a0 a1 a3 rc_0 k_30) n (a2,(0 : Int)))))
def m42F (n : Nat) : Nat → (List R38) → (List Int) → (List Int) → Bool → Option (List Int)
  | 0 => fun _ _ _ _ => none
  | f + 1 => m42B n (m42F n f)
def m42 (n : Nat) (a0 : (List R38)) (a1 : (List Int)) (a2 : (List Int)) (a3 : Bool) : Option (List Int) := m42F n n a0 a1 a2 a3
def m18 (n : Nat) (a0 : (List R38)) (a1 : Bool) : Option ((List Int) × Int × Int) :=
  ((m14 n a0).bind fun y_1 => (if (!y_1) = true then (some (([] : List Int),(0 : Int),(1 : Int))) else (if (decide ((7 : Int) < (a0.length : Int))) = true then (some (([] : List Int),(0 : Int),(9 : Int))) else ((m42 n a0 ([] : List Int) ([] : List Int) a1).bind fun y_2 => ((m16 n a0 y_2 a1).bind fun y_3 => (some (y_2,y_3,(0 : Int))))))))
def m3 (n : Nat) (a0 : (List R38)) (a1 : Bool) (a2 : (List UInt8)) : Option Bool :=
  ((m10 n).bind fun y_1 => ((gdO (!(!y_1)) (m11 n a0) default).bind fun y_2 => (if ((!y_1) || (!y_2)) = true then ((m10 n).bind fun y_3 => (some y_3)) else ((m13 n a0).bind fun y_4 => ((m12 n y_4 a1).bind fun y_5 => ((m14 n a0).bind fun y_6 => (if (!y_6) = true then (some ((decide (y_5.2.2 = (1 : Int))) && (decide ((y_5.1.length : Int) = (0 : Int))))) else (if (decide ((7 : Int) < (a0.length : Int))) = true then (some ((decide (y_5.2.2 = (9 : Int))) && (decide ((y_5.1.length : Int) = (0 : Int))))) else ((gdO (!((!decide (y_5.2.2 = (0 : Int))) || (!decide ((y_5.1.length : Int) = (a0.length : Int))))) (m15 n a0 y_5.1) default).bind fun y_7 => ((gdO (!(((!decide (y_5.2.2 = (0 : Int))) || (!decide ((y_5.1.length : Int) = (a0.length : Int)))) || (!y_7))) (m16 n a0 y_5.1 a1) default).bind fun y_8 => ((gdO (!((((!decide (y_5.2.2 = (0 : Int))) || (!decide ((y_5.1.length : Int) = (a0.length : Int)))) || (!y_7)) || (!decide (y_8 = y_5.2.1)))) (m17 n a0 ([] : List Int) a2) default).bind fun y_9 => ((gdO (!((((!decide (y_5.2.2 = (0 : Int))) || (!decide ((y_5.1.length : Int) = (a0.length : Int)))) || (!y_7)) || (!decide (y_8 = y_5.2.1)))) (m16 n a0 y_9 a1) default).bind fun y_10 => (letM ((((((!decide (y_5.2.2 = (0 : Int))) || (!decide ((y_5.1.length : Int) = (a0.length : Int)))) || (!y_7)) || (!decide (y_8 = y_5.2.1))) || (decide (y_10 < y_5.2.1)))) fun t81_11 => (if t81_11 = true then (some false) else (if (decide ((5 : Int) < (a0.length : Int))) = true then (some true) else ((m18 n a0 a1).bind fun y_12 => ((gdO ((decide (y_12.2.2 = (0 : Int))) && (decide (y_5.2.1 = y_12.2.1))) (m19 n y_5.1 y_12.1) default).bind fun y_13 => (some (((decide (y_12.2.2 = (0 : Int))) && (decide (y_5.2.1 = y_12.2.1))) && y_13)))))))))))))))))))
def m13o_L1 (n : Nat) (a0 : (List R38)) (k_15 : (List R38) → Option (List R38)) (nx_10 : (Int × (List R38)) → Option (List R38)) (x_9 : (Int × (List R38))) : Option (List R38) :=
  (if (decide (x_9.1 < (a0.length : Int))) = true then ((getIdx a0 x_9.1).bind fun y_11 => ((apd x_9.2 ([(R38.mk y_11.Release y_11.Length y_11.Due)] : List R38)).bind fun l1_12 => (letM ((IntKind.wrap .i64 (x_9.1 + (1 : Int)))) fun t8_13 => (nx_10 (t8_13,l1_12))))) else (k_15 x_9.2))
def m13o (n : Nat) (a0 : (List R38)) : Option (List R38) :=
  (jn (fun p_14 : (List R38) => (some p_14)) fun k_15 => (loopM (m13o_L1 n a0 k_15) n ((0 : Int),([] : List R38))))
def m21 (n : Nat) (a0 : (List R38)) (a1 : Int) : Option (Int × Int) :=
  ((m28 n a0).bind fun y_1 => (if (!y_1) = true then (some ((0 : Int),(1 : Int))) else (if ((decide (a1 < (1 : Int))) || (decide ((6 : Int) < a1))) = true then (some ((0 : Int),(2 : Int))) else ((m43 n a0 a1).bind fun y_2 => (some (y_2,(0 : Int)))))))
def m4 (n : Nat) (a0 : (List R38)) (a1 : R38) : Option Bool :=
  ((m10 n).bind fun y_1 => ((gdO (!(((!y_1) || (decide ((9 : Int) < (a0.length : Int)))) || (decide ((a0.length : Int) = (0 : Int))))) (m14 n a0) default).bind fun y_2 => ((gdO (!((((!y_1) || (decide ((9 : Int) < (a0.length : Int)))) || (decide ((a0.length : Int) = (0 : Int)))) || (!y_2))) (m14 n ([(R38.mk a1.Release a1.Length a1.Due)] : List R38)) default).bind fun y_3 => (if (((((!y_1) || (decide ((9 : Int) < (a0.length : Int)))) || (decide ((a0.length : Int) = (0 : Int)))) || (!y_2)) || (!y_3)) = true then ((m10 n).bind fun y_4 => (some y_4)) else ((m13o n a0).bind fun y_5 => ((apd y_5 ([(R38.mk a1.Release a1.Length a1.Due)] : List R38)).bind fun l3_6 => ((m13 n a0).bind fun y_7 => ((m20 n y_7).bind fun y_8 => ((m20 n l3_6).bind fun y_9 => ((m13 n a0).bind fun y_10 => ((m21 n y_10 (2 : Int)).bind fun y_11 => ((m21 n l3_6 (2 : Int)).bind fun y_12 => (letM (((((((decide (y_8.2 = (0 : Int))) && (decide (y_9.2 = (0 : Int)))) && (decide (y_11.2 = (0 : Int)))) && (decide (y_12.2 = (0 : Int)))) && (decide (y_8.1 ≤ y_9.1))) && (decide (y_11.1 ≤ y_12.1)))) fun t4_13 => (some t4_13))))))))))))))
def m22 (n : Nat) (a0 : (List R38)) (a1 : (List Int)) : Option ((List Int) × Int) :=
  ((m44 n a0 a1).bind fun y_1 => (if (!decide (y_1 = (0 : Int))) = true then (some (([] : List Int),y_1)) else ((m45 n a0 a1).bind fun y_2 => (some (y_2,(0 : Int))))))
def m24 (n : Nat) (a0 : (List R38)) (a1 : (List Int)) : Option (Int × Int) :=
  ((m44 n a0 a1).bind fun y_1 => (if (!decide (y_1 = (0 : Int))) = true then (some ((0 : Int),y_1)) else ((m46 n a0 a1 true).bind fun y_2 => (some (y_2,(0 : Int))))))
def m5 (n : Nat) (a0 : (List R38)) (a1 : (List Int)) : Option Bool :=
  ((m10 n).bind fun y_1 => ((gdO (!(!y_1)) (m11 n a0) default).bind fun y_2 => (if (((!y_1) || (!y_2)) || (decide ((20 : Int) < (a1.length : Int)))) = true then ((m10 n).bind fun y_3 => (some y_3)) else ((m13 n a0).bind fun y_4 => ((m22 n y_4 a1).bind fun y_5 => ((m23 n a0 a1).bind fun y_6 => ((m24 n y_4 a1).bind fun y_7 => ((m25 n a0 a1).bind fun y_8 => ((m26 n y_4 a1).bind fun y_9 => ((m27 n a0 a1).bind fun y_10 => ((m28 n y_4).bind fun y_11 => ((m14 n a0).bind fun y_12 => ((gdO (y_11 == y_12) (m19 n y_5.1 y_6.1) default).bind fun y_13 => (letM ((((((((y_11 == y_12) && y_13) && (decide (y_5.2 = y_6.2))) && (decide (y_7.1 = y_8.1))) && (decide (y_7.2 = y_8.2))) && (decide (y_9.1 = y_10.1))) && (decide (y_9.2 = y_10.2)))) fun t4_14 => (some t4_14)))))))))))))))
end Go.AB
