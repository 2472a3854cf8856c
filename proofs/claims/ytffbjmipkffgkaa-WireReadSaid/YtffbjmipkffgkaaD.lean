import Derived.Test.YtffbjmipkffgkaaProg
import Derived.Test.YtffbjmipkffgkaaAb36
import Derived.KernelRfl
set_option linter.unusedVariables false
namespace Go.AB
open Go Go.Proofs
structure R59 where
  X : Int
  Y : Int
  deriving DecidableEq, Inhabited
def encR59 (y : R59) : List AV := [.sc (.int .i64 y.X), .sc (.int .i64 y.Y)]
theorem encR59_len (y : R59) : (encR59 y).length = 2 := rfl
theorem encR59_one (y : R59) : ∀ c, c ∈ encR59 y → c.one = true := by simp [encR59, AV.one]
theorem encR59_still (y : R59) : ∀ c, c ∈ encR59 y → c.still = true := by simp [encR59, AV.still]
theorem encR59_scal (y : R59) : ∀ c, c ∈ encR59 y → c.scal = true := by simp [encR59, AV.scal]
def encL59 (y : List R59) : List AV := [.rd false y.length (y.flatMap encR59)]
theorem encL59_len (y : List R59) : (encL59 y).length = 1 := rfl
theorem encL59_one (y : List R59) : ∀ c, c ∈ encL59 y → c.one = true := by simp [encL59, AV.one]
theorem encL59_still (y : List R59) : ∀ c, c ∈ encL59 y → c.still = true := by simp [encL59, AV.still]
structure R27 where
  Outer : (List R59)
  Holes : (List (List R59))
  deriving DecidableEq, Inhabited
def encR27 (y : R27) : List AV := [.rd false y.Outer.length (y.Outer.flatMap encR59), .rd false y.Holes.length (y.Holes.flatMap encL59)]
theorem encR27_len (y : R27) : (encR27 y).length = 2 := rfl
theorem encR27_one (y : R27) : ∀ c, c ∈ encR27 y → c.one = true := by simp [encR27, AV.one]
theorem encR27_still (y : R27) : ∀ c, c ∈ encR27 y → c.still = true := by simp [encR27, AV.still]
theorem zero5 : zeroT Try.prog 5 [.int .u8 0] := zeroT.mk (by kernel_rfl)
theorem el5 : elT Try.prog 5 1 1 := elT.mk (by kernel_rfl)
structure R81 where
  b : (List UInt8)
  at_ : Int
  failed : Bool
  deriving DecidableEq, Inhabited
def encR81 (y : R81) : List AV := [.rd false y.b.length (y.b.flatMap enc8), .sc (.int .i64 y.at_), .sc (.bool y.failed)]
theorem encR81_len (y : R81) : (encR81 y).length = 3 := rfl
theorem encR81_one (y : R81) : ∀ c, c ∈ encR81 y → c.one = true := by simp [encR81, AV.one]
theorem encR81_still (y : R81) : ∀ c, c ∈ encR81 y → c.still = true := by simp [encR81, AV.still]
theorem zero82 : zeroT Try.prog 82 [.slice none 0 0, .int .i64 0, .bool false] := zeroT.mk (by kernel_rfl)
theorem sz33 : szOf Try.prog 33 1 := szOf.mk (by kernel_rfl)
theorem sz3 : szOf Try.prog 3 1 := szOf.mk (by kernel_rfl)
theorem sz4 : szOf Try.prog 4 1 := szOf.mk (by kernel_rfl)
theorem offs82 : offsOf Try.prog 82 [(0, 1), (1, 1), (2, 1)] := ⟨_, Try.underlying82, rfl, .cons sz33 (.cons sz3 (.cons sz4 (.nil)))⟩
theorem zero60 : zeroT Try.prog 60 [.int .i64 0, .int .i64 0] := zeroT.mk (by kernel_rfl)
theorem offs60 : offsOf Try.prog 60 [(0, 1), (1, 1)] := ⟨_, Try.underlying60, rfl, .cons sz3 (.cons sz3 (.nil))⟩
theorem fld60_0 : fldOf Try.prog 60 0 0 := ⟨_, _, Try.underlying60, rfl, rfl, 0, sz3⟩
theorem one3 : oneT Try.prog 3 := ⟨_, Try.underlying3, trivial⟩
theorem fld60_1 : fldOf Try.prog 60 1 1 := ⟨_, _, Try.underlying60, rfl, rfl, 0, sz3⟩
theorem mixed : Try.prog.follows .mixedOrders = true := by kernel_rfl
theorem one39 : oneT Try.prog 39 := ⟨_, Try.underlying39, trivial⟩
theorem fld82_2 : fldOf Try.prog 82 2 2 := ⟨_, _, Try.underlying82, rfl, rfl, 0, sz4⟩
theorem one4 : oneT Try.prog 4 := ⟨_, Try.underlying4, trivial⟩
theorem fld82_1 : fldOf Try.prog 82 1 1 := ⟨_, _, Try.underlying82, rfl, rfl, 0, sz3⟩
theorem fld82_0 : fldOf Try.prog 82 0 0 := ⟨_, _, Try.underlying82, rfl, rfl, 0, sz33⟩
theorem one33 : oneT Try.prog 33 := ⟨_, Try.underlying33, trivial⟩
theorem sz5 : szOf Try.prog 5 1 := szOf.mk (by kernel_rfl)
theorem one5 : oneT Try.prog 5 := ⟨_, Try.underlying5, trivial⟩
theorem sz9 : szOf Try.prog 9 1 := szOf.mk (by kernel_rfl)
theorem one9 : oneT Try.prog 9 := ⟨_, Try.underlying9, trivial⟩
theorem sz28 : szOf Try.prog 28 2 := szOf.mk (by kernel_rfl)
theorem agg28 : aggT Try.prog 28 2 := ⟨sz28, _, Try.underlying28, trivial⟩
theorem sz26 : szOf Try.prog 26 1 := szOf.mk (by kernel_rfl)
theorem fld28_1 : fldOf Try.prog 28 1 1 := ⟨_, _, Try.underlying28, rfl, rfl, 0, sz26⟩
theorem one26 : oneT Try.prog 26 := ⟨_, Try.underlying26, trivial⟩
theorem sz25 : szOf Try.prog 25 1 := szOf.mk (by kernel_rfl)
theorem one25 : oneT Try.prog 25 := ⟨_, Try.underlying25, trivial⟩
theorem fld28_0 : fldOf Try.prog 28 0 0 := ⟨_, _, Try.underlying28, rfl, rfl, 0, sz25⟩
theorem sz60 : szOf Try.prog 60 2 := szOf.mk (by kernel_rfl)
theorem agg60 : aggT Try.prog 60 2 := ⟨sz60, _, Try.underlying60, trivial⟩
theorem gt60 : Try.prog.eqGuardType Try.prog.depth 60 = false := by kernel_rfl
theorem si60 : Try.prog.stoodInHeld 60 = false := by kernel_rfl
theorem zero28 : zeroT Try.prog 28 [.slice none 0 0, .slice none 0 0] := zeroT.mk (by kernel_rfl)
theorem one61 : oneT Try.prog 61 := ⟨_, Try.underlying61, trivial⟩
theorem el60 : elT Try.prog 60 2 16 := elT.mk (by kernel_rfl)
theorem offs28 : offsOf Try.prog 28 [(0, 1), (1, 1)] := ⟨_, Try.underlying28, rfl, .cons sz25 (.cons sz26 (.nil))⟩
theorem one87 : oneT Try.prog 87 := ⟨_, Try.underlying87, trivial⟩
theorem zero25 : zeroT Try.prog 25 [.slice none 0 0] := zeroT.mk (by kernel_rfl)
theorem el25 : elT Try.prog 25 1 24 := elT.mk (by kernel_rfl)
structure R52 where
  Kind : Int
  Lo : Int
  Hi : Int
  deriving DecidableEq, Inhabited
def encR52 (y : R52) : List AV := [.sc (.int .i64 y.Kind), .sc (.int .i64 y.Lo), .sc (.int .i64 y.Hi)]
theorem encR52_len (y : R52) : (encR52 y).length = 3 := rfl
theorem encR52_one (y : R52) : ∀ c, c ∈ encR52 y → c.one = true := by simp [encR52, AV.one]
theorem encR52_still (y : R52) : ∀ c, c ∈ encR52 y → c.still = true := by simp [encR52, AV.still]
theorem encR52_scal (y : R52) : ∀ c, c ∈ encR52 y → c.scal = true := by simp [encR52, AV.scal]
theorem zero50 : zeroT Try.prog 50 [.slice none 0 0, .int .i64 0, .bool false] := zeroT.mk (by kernel_rfl)
theorem offs50 : offsOf Try.prog 50 [(0, 1), (1, 1), (2, 1)] := ⟨_, Try.underlying50, rfl, .cons sz33 (.cons sz3 (.cons sz4 (.nil)))⟩
theorem sz53 : szOf Try.prog 53 3 := szOf.mk (by kernel_rfl)
theorem agg53 : aggT Try.prog 53 3 := ⟨sz53, _, Try.underlying53, trivial⟩
theorem fld53_0 : fldOf Try.prog 53 0 0 := ⟨_, _, Try.underlying53, rfl, rfl, 0, sz3⟩
theorem fld50_2 : fldOf Try.prog 50 2 2 := ⟨_, _, Try.underlying50, rfl, rfl, 0, sz4⟩
theorem fld50_1 : fldOf Try.prog 50 1 1 := ⟨_, _, Try.underlying50, rfl, rfl, 0, sz3⟩
theorem fld50_0 : fldOf Try.prog 50 0 0 := ⟨_, _, Try.underlying50, rfl, rfl, 0, sz33⟩
theorem fld53_1 : fldOf Try.prog 53 1 1 := ⟨_, _, Try.underlying53, rfl, rfl, 0, sz3⟩
theorem fld53_2 : fldOf Try.prog 53 2 2 := ⟨_, _, Try.underlying53, rfl, rfl, 0, sz3⟩
theorem one41 : oneT Try.prog 41 := ⟨_, Try.underlying41, trivial⟩
theorem zero3 : zeroT Try.prog 3 [.int .i64 0] := zeroT.mk (by kernel_rfl)
theorem el3 : elT Try.prog 3 1 8 := elT.mk (by kernel_rfl)
structure R63 where
  Num : Int
  Den : Int
  deriving DecidableEq, Inhabited
def encR63 (y : R63) : List AV := [.sc (.int .i64 y.Num), .sc (.int .i64 y.Den)]
theorem encR63_len (y : R63) : (encR63 y).length = 2 := rfl
theorem encR63_one (y : R63) : ∀ c, c ∈ encR63 y → c.one = true := by simp [encR63, AV.one]
theorem encR63_still (y : R63) : ∀ c, c ∈ encR63 y → c.still = true := by simp [encR63, AV.still]
theorem encR63_scal (y : R63) : ∀ c, c ∈ encR63 y → c.scal = true := by simp [encR63, AV.scal]
theorem zero64 : zeroT Try.prog 64 [.int .i64 0, .int .i64 0] := zeroT.mk (by kernel_rfl)
theorem sz64 : szOf Try.prog 64 2 := szOf.mk (by kernel_rfl)
theorem agg64 : aggT Try.prog 64 2 := ⟨sz64, _, Try.underlying64, trivial⟩
theorem offs64 : offsOf Try.prog 64 [(0, 1), (1, 1)] := ⟨_, Try.underlying64, rfl, .cons sz3 (.cons sz3 (.nil))⟩
theorem fld64_1 : fldOf Try.prog 64 1 1 := ⟨_, _, Try.underlying64, rfl, rfl, 0, sz3⟩
theorem gt64 : Try.prog.eqGuardType Try.prog.depth 64 = false := by kernel_rfl
theorem si64 : Try.prog.stoodInHeld 64 = false := by kernel_rfl
def m42 (n : Nat) (a0 : (List UInt8)) : Option (List UInt8) :=
  ((apd ([] : List UInt8) a0).bind fun l1_2 => (some l1_2))
def m16 (n : Nat) (a0 : (List UInt8)) : Option R81 :=
  ((m42 n a0).bind fun y_1 => (some (R81.mk y_1 (0 : Int) false)))
def m12o_L2 (n : Nat) (a1 : Int) (k_34 : (List UInt8) → Option (List UInt8)) (nx_29 : (Int × (List UInt8)) → Option (List UInt8)) (x_28 : (Int × (List UInt8))) : Option (List UInt8) :=
  (if (decide ((0 : Int) ≤ x_28.1)) = true then (asrt (0 ≤ (IntKind.wrap .i64 ((8 : Int) * x_28.1))) ((apd x_28.2 ([(b8 (IntKind.wrap .u8 (shrI .i64 a1 (IntKind.wrap .i64 ((8 : Int) * x_28.1)))))] : List UInt8)).bind fun l1_31 => (letM ((IntKind.wrap .i64 (x_28.1 - (1 : Int)))) fun t6_32 => (nx_29 (t6_32, l1_31))))) else (k_34 x_28.2))
def m12o_L1 (n : Nat) (a1 : Int) (k_17 : Int → Option (List UInt8)) (nx_12 : Int → Option (List UInt8)) (x_11 : Int) : Option (List UInt8) :=
  (asrtG ((decide ((0 : Int) < x_11)) && (decide (x_11 < (8 : Int)))) (0 ≤ (IntKind.wrap .i64 ((IntKind.wrap .i64 ((8 : Int) * x_11)) - (1 : Int)))) (letM ((((decide ((0 : Int) < x_11)) && (decide (x_11 < (8 : Int)))) && (!decide ((shrI .i64 a1 (IntKind.wrap .i64 ((IntKind.wrap .i64 ((8 : Int) * x_11)) - (1 : Int)))) = (shrI .i64 a1 (63 : Int)))))) fun t24_14 => (if t24_14 = true then (letM ((IntKind.wrap .i64 (x_11 + (1 : Int)))) fun t5_15 => (nx_12 t5_15)) else (k_17 x_11))))
def m12o (n : Nat) (a0_b : (List UInt8)) (a1 : Int) : Option (List UInt8) :=
  (jn (fun p_1 : Int => (jn (fun p_16 : Int => ((apd a0_b ([(b8 (IntKind.wrap .u8 p_16))] : List UInt8)).bind fun l1_18 => (letM ((IntKind.wrap .i64 (p_16 - (1 : Int)))) fun t6_19 => (jn (fun p_33 : (List UInt8) => (some p_33)) fun k_34 => (loopM (m12o_L2 n a1 k_34) n (t6_19, l1_18)))))) fun k_17 => (loopM (m12o_L1 n a1 k_17) n p_1))) fun k_2 => (if (!decide (a1 = (0 : Int))) = true then (k_2 (1 : Int)) else (k_2 (0 : Int))))
def m11 (n : Nat) (a0 : (List UInt8)) (a1 : (List UInt8)) : Option Bool :=
  (some (a0 == a1))
def m12ox1_L2 (n : Nat) (a1 : Int) (k_34 : (List UInt8) → Option (List UInt8)) (nx_29 : (Int × (List UInt8)) → Option (List UInt8)) (x_28 : (Int × (List UInt8))) : Option (List UInt8) :=
  (if (decide ((0 : Int) ≤ x_28.1)) = true then (asrt (0 ≤ (IntKind.wrap .i64 ((8 : Int) * x_28.1))) ((apd x_28.2 ([(b8 (IntKind.wrap .u8 (shrI .i64 a1 (IntKind.wrap .i64 ((8 : Int) * x_28.1)))))] : List UInt8)).bind fun l2_31 => (letM ((IntKind.wrap .i64 (x_28.1 - (1 : Int)))) fun t6_32 => (nx_29 (t6_32, l2_31))))) else (k_34 x_28.2))
def m12ox1_L1 (n : Nat) (a1 : Int) (k_17 : Int → Option (List UInt8)) (nx_12 : Int → Option (List UInt8)) (x_11 : Int) : Option (List UInt8) :=
  (asrtG ((decide ((0 : Int) < x_11)) && (decide (x_11 < (8 : Int)))) (0 ≤ (IntKind.wrap .i64 ((IntKind.wrap .i64 ((8 : Int) * x_11)) - (1 : Int)))) (letM ((((decide ((0 : Int) < x_11)) && (decide (x_11 < (8 : Int)))) && (!decide ((shrI .i64 a1 (IntKind.wrap .i64 ((IntKind.wrap .i64 ((8 : Int) * x_11)) - (1 : Int)))) = (shrI .i64 a1 (63 : Int)))))) fun t24_14 => (if t24_14 = true then (letM ((IntKind.wrap .i64 (x_11 + (1 : Int)))) fun t5_15 => (nx_12 t5_15)) else (k_17 x_11))))
def m12ox1 (n : Nat) (a1 : Int) : Option (List UInt8) :=
  (jn (fun p_1 : Int => (jn (fun p_16 : Int => ((apd ([] : List UInt8) ([(b8 (IntKind.wrap .u8 p_16))] : List UInt8)).bind fun l2_18 => (letM ((IntKind.wrap .i64 (p_16 - (1 : Int)))) fun t6_19 => (jn (fun p_33 : (List UInt8) => (some p_33)) fun k_34 => (loopM (m12ox1_L2 n a1 k_34) n (t6_19, l2_18)))))) fun k_17 => (loopM (m12ox1_L1 n a1 k_17) n p_1))) fun k_2 => (if (!decide (a1 = (0 : Int))) = true then (k_2 (1 : Int)) else (k_2 (0 : Int))))
def m40 (n : Nat) (a1 : R59) : Option (List UInt8) :=
  ((m12ox1 n a1.X).bind fun y_1 => ((m12o n y_1 a1.Y).bind fun y_2 => (some y_2)))
def m45 (n : Nat) (a0_b0 : (List UInt8)) (a0_b1 : Int) (a0_b2 : Bool) : Option (Int × (List UInt8) × Int × Bool) :=
  (if (decide ((a0_b0.length : Int) ≤ a0_b1)) = true then (some ((0 : Int), a0_b0, a0_b1, true)) else (letM ((IntKind.wrap .i64 (a0_b1 + (1 : Int)))) fun c_1 => ((getIdx a0_b0 (IntKind.wrap .i64 (c_1 - (1 : Int)))).bind fun y_2 => (some ((y_2.toNat : Int), a0_b0, c_1, a0_b2)))))
def m12x2_L2 (n : Nat) (a1 : Int) (k_34 : (List UInt8) → Option (List UInt8)) (nx_29 : (Int × (List UInt8)) → Option (List UInt8)) (x_28 : (Int × (List UInt8))) : Option (List UInt8) :=
  (if (decide ((0 : Int) ≤ x_28.1)) = true then (asrt (0 ≤ (IntKind.wrap .i64 ((8 : Int) * x_28.1))) ((apd x_28.2 ([(b8 (IntKind.wrap .u8 (shrI .i64 a1 (IntKind.wrap .i64 ((8 : Int) * x_28.1)))))] : List UInt8)).bind fun l2_31 => (letM ((IntKind.wrap .i64 (x_28.1 - (1 : Int)))) fun t6_32 => (nx_29 (t6_32, l2_31))))) else (k_34 x_28.2))
def m12x2_L1 (n : Nat) (a1 : Int) (k_17 : Int → Option (List UInt8)) (nx_12 : Int → Option (List UInt8)) (x_11 : Int) : Option (List UInt8) :=
  (asrtG ((decide ((0 : Int) < x_11)) && (decide (x_11 < (8 : Int)))) (0 ≤ (IntKind.wrap .i64 ((IntKind.wrap .i64 ((8 : Int) * x_11)) - (1 : Int)))) (letM ((((decide ((0 : Int) < x_11)) && (decide (x_11 < (8 : Int)))) && (!decide ((shrI .i64 a1 (IntKind.wrap .i64 ((IntKind.wrap .i64 ((8 : Int) * x_11)) - (1 : Int)))) = (shrI .i64 a1 (63 : Int)))))) fun t24_14 => (if t24_14 = true then (letM ((IntKind.wrap .i64 (x_11 + (1 : Int)))) fun t5_15 => (nx_12 t5_15)) else (k_17 x_11))))
def m12x2 (n : Nat) (a1 : Int) : Option (List UInt8) :=
  (jn (fun p_1 : Int => (jn (fun p_16 : Int => ((apd ([] : List UInt8) ([(b8 (IntKind.wrap .u8 p_16))] : List UInt8)).bind fun l2_18 => (letM ((IntKind.wrap .i64 (p_16 - (1 : Int)))) fun t6_19 => (jn (fun p_33 : (List UInt8) => (some p_33)) fun k_34 => (loopM (m12x2_L2 n a1 k_34) n (t6_19, l2_18)))))) fun k_17 => (loopM (m12x2_L1 n a1 k_17) n p_1))) fun k_2 => (if (!decide (a1 = (0 : Int))) = true then (k_2 (1 : Int)) else (k_2 (0 : Int))))
def m44_L1 (n : Nat) (y_1 : (Int × (List UInt8) × Int × Bool)) (k_25 : (Int × (List UInt8) × Int × Bool) → Option (Int × (List UInt8) × Int × Bool)) (nx_17 : (Int × Int × (List UInt8) × Int × Bool) → Option (Int × (List UInt8) × Int × Bool)) (x_16 : (Int × Int × (List UInt8) × Int × Bool)) : Option (Int × (List UInt8) × Int × Bool) :=
  (if (decide (x_16.2.1 < (IntKind.wrap .i64 y_1.1))) = true then ((m45 n x_16.2.2.1 x_16.2.2.2.1 x_16.2.2.2.2).bind fun y_18 => (jn (fun p_21 : Int => (letM ((IntKind.wrap .i64 (x_16.2.1 + (1 : Int)))) fun t21_23 => (nx_17 (p_21, t21_23, y_18.2.1, y_18.2.2.1, y_18.2.2.2)))) fun k_22 => (if (decide (x_16.2.1 = (0 : Int))) = true then (letM ((IntKind.wrap .i64 (IntKind.wrap .i8 y_18.1))) fun t3_19 => (k_22 t3_19)) else (letM ((orI .i64 (shlI .i64 x_16.1 (8 : Int)) (IntKind.wrap .i64 y_18.1))) fun t3_20 => (k_22 t3_20))))) else (k_25 (x_16.1, x_16.2.2.1, x_16.2.2.2.1, x_16.2.2.2.2)))
def m44 (n : Nat) (a0_b0_b0 : (List UInt8)) (a0_b0_b1 : Int) (a0_b0_b2 : Bool) : Option (Int × (List UInt8) × Int × Bool) :=
  ((m45 n a0_b0_b0 a0_b0_b1 a0_b0_b2).bind fun y_1 => (if (y_1.2.2.2 || (decide ((8 : Int) < (IntKind.wrap .i64 y_1.1)))) = true then (some ((0 : Int), y_1.2.1, y_1.2.2.1, true)) else (jn (fun p_24 : Int × (List UInt8) × Int × Bool => ((gdO (!p_24.2.2.2) (m12x2 n p_24.1) default).bind fun y_26 => (jn (fun p_27 : Bool => (some (p_24.1, p_24.2.1, p_24.2.2.1, p_27))) fun k_28 => (if ((!p_24.2.2.2) && (!decide ((y_26.length : Int) = (IntKind.wrap .i64 ((IntKind.wrap .i64 y_1.1) + (1 : Int)))))) = true then (k_28 true) else (k_28 p_24.2.2.2))))) fun k_25 => (loopM (m44_L1 n y_1 k_25) n ((0 : Int), (0 : Int), y_1.2.1, y_1.2.2.1, y_1.2.2.2)))))
def m43 (n : Nat) (a0_b0 : (List UInt8)) (a0_b1 : Int) (a0_b2 : Bool) : Option (Int × (List UInt8) × Int × Bool) :=
  (if a0_b2 = true then (some ((0 : Int), a0_b0, a0_b1, a0_b2)) else ((m44 n a0_b0 a0_b1 a0_b2).bind fun y_1 => (if y_1.2.2.2 = true then (some ((0 : Int), y_1.2.1, a0_b1, y_1.2.2.2)) else (some (y_1.1, y_1.2.1, y_1.2.2.1, y_1.2.2.2)))))
def m17 (n : Nat) (a0_b0 : (List UInt8)) (a0_b1 : Int) (a0_b2 : Bool) : Option (Int × (List UInt8) × Int × Bool) :=
  ((m43 n a0_b0 a0_b1 a0_b2).bind fun y_1 => (some (y_1.1, y_1.2.1, y_1.2.2.1, y_1.2.2.2)))
def m18 (n : Nat) (a0_b0 : (List UInt8)) (a0_b1 : Int) (a0_b2 : Bool) : Option Int :=
  (if (a0_b2 || (decide (a0_b1 < (a0_b0.length : Int)))) = true then (some (4 : Int)) else (some (0 : Int)))
def m9 (n : Nat) : Option Bool :=
  ((m16 n ([(2 : UInt8), (0 : UInt8), (127 : UInt8)] : List UInt8)).bind fun y_1 => ((m12o n ([(9 : UInt8)] : List UInt8) (128 : Int)).bind fun y_2 => ((m11 n y_2 ([(9 : UInt8), (2 : UInt8), (0 : UInt8), (128 : UInt8)] : List UInt8)).bind fun y_3 => ((gdO y_3 (m40 n (R59.mk (3 : Int) (0 : Int))) default).bind fun y_4 => ((gdO y_3 (m11 n y_4 ([(1 : UInt8), (3 : UInt8), (0 : UInt8)] : List UInt8)) default).bind fun y_5 => (jn (fun p_9 : Bool => (some p_9)) fun k_10 => (if ((y_3 && y_5) && true) = true then ((m17 n y_1.b y_1.at_ y_1.failed).bind fun y_7 => ((gdO (decide (y_7.1 = (0 : Int))) (m18 n y_7.2.1 y_7.2.2.1 y_7.2.2.2) default).bind fun y_8 => (k_10 ((decide (y_7.1 = (0 : Int))) && (decide (y_8 = (4 : Int))))))) else (k_10 false))))))))
def m10_L1 (n : Nat) (a0 : R27) (k_12 : Unit → Option Bool) (nx_8 : Int → Option Bool) (x_7 : Int) : Option Bool :=
  (if (decide (x_7 < (a0.Holes.length : Int))) = true then ((getIdx a0.Holes x_7).bind fun y_9 => (if (decide ((50 : Int) < (y_9.length : Int))) = true then (some false) else (letM ((IntKind.wrap .i64 (x_7 + (1 : Int)))) fun t3_10 => (nx_8 t3_10)))) else (k_12 ()))
def m10 (n : Nat) (a0 : R27) : Option Bool :=
  (jn (fun p_11 : Unit => (some ((decide ((a0.Outer.length : Int) ≤ (50 : Int))) && (decide ((a0.Holes.length : Int) ≤ (8 : Int)))))) fun k_12 => (loopM (m10_L1 n a0 k_12) n (0 : Int)))
def m13 (n : Nat) (a1 : (List UInt8)) : Option (List UInt8) :=
  ((m12ox1 n (a1.length : Int)).bind fun y_1 => ((apd y_1 a1).bind fun l1_2 => (some l1_2)))
def m40ox1 (n : Nat) (a0_b : (List UInt8)) (a1 : R59) : Option (List UInt8) :=
  ((m12o n a0_b a1.X).bind fun y_1 => ((m12o n y_1 a1.Y).bind fun y_2 => (some y_2)))
def m37o_L1 (n : Nat) (a1 : (List R59)) (k_16 : (List UInt8) → Option (List UInt8)) (nx_11 : (Int × (List UInt8)) → Option (List UInt8)) (x_10 : (Int × (List UInt8))) : Option (List UInt8) :=
  (if (decide (x_10.1 < (a1.length : Int))) = true then ((getIdx a1 x_10.1).bind fun y_12 => ((m40ox1 n x_10.2 (R59.mk y_12.X y_12.Y)).bind fun y_13 => (letM ((IntKind.wrap .i64 (x_10.1 + (1 : Int)))) fun t13_14 => (nx_11 (t13_14, y_13))))) else (k_16 x_10.2))
def m37o (n : Nat) (a1 : (List R59)) : Option (List UInt8) :=
  ((m12ox1 n (a1.length : Int)).bind fun y_1 => (jn (fun p_15 : (List UInt8) => (some p_15)) fun k_16 => (loopM (m37o_L1 n a1 k_16) n ((0 : Int), y_1))))
def m37ox1_L1 (n : Nat) (a1 : (List R59)) (k_16 : (List UInt8) → Option (List UInt8)) (nx_11 : (Int × (List UInt8)) → Option (List UInt8)) (x_10 : (Int × (List UInt8))) : Option (List UInt8) :=
  (if (decide (x_10.1 < (a1.length : Int))) = true then ((getIdx a1 x_10.1).bind fun y_12 => ((m40ox1 n x_10.2 (R59.mk y_12.X y_12.Y)).bind fun y_13 => (letM ((IntKind.wrap .i64 (x_10.1 + (1 : Int)))) fun t13_14 => (nx_11 (t13_14, y_13))))) else (k_16 x_10.2))
def m37ox1 (n : Nat) (a0_b : (List UInt8)) (a1 : (List R59)) : Option (List UInt8) :=
  ((m12o n a0_b (a1.length : Int)).bind fun y_1 => (jn (fun p_15 : (List UInt8) => (some p_15)) fun k_16 => (loopM (m37ox1_L1 n a1 k_16) n ((0 : Int), y_1))))
def m14_L1 (n : Nat) (a1 : R27) (k_17 : (List UInt8) → Option (List UInt8)) (nx_12 : (Int × (List UInt8)) → Option (List UInt8)) (x_11 : (Int × (List UInt8))) : Option (List UInt8) :=
  (if (decide (x_11.1 < (a1.Holes.length : Int))) = true then ((getIdx a1.Holes x_11.1).bind fun y_13 => ((m37ox1 n x_11.2 y_13).bind fun y_14 => (letM ((IntKind.wrap .i64 (x_11.1 + (1 : Int)))) fun t18_15 => (nx_12 (t18_15, y_14))))) else (k_17 x_11.2))
def m14 (n : Nat) (a1 : R27) : Option (List UInt8) :=
  ((m37o n a1.Outer).bind fun y_1 => ((m12o n y_1 (a1.Holes.length : Int)).bind fun y_2 => (jn (fun p_16 : (List UInt8) => (some p_16)) fun k_17 => (loopM (m14_L1 n a1 k_17) n ((0 : Int), y_2)))))
def m39_L1 (n : Nat) (a0 : (List R59)) (a1 : (List R59)) (k_15 : Unit → Option Bool) (nx_10 : Int → Option Bool) (x_9 : Int) : Option Bool :=
  (if (decide (x_9 < (a0.length : Int))) = true then ((getIdx a0 x_9).bind fun y_11 => ((getIdx a1 x_9).bind fun y_12 => (if (!(([y_11.X, y_11.Y] : List Int) == [y_12.X, y_12.Y])) = true then (some false) else (letM ((IntKind.wrap .i64 (x_9 + (1 : Int)))) fun t5_13 => (nx_10 t5_13))))) else (k_15 ()))
def m39 (n : Nat) (a0 : (List R59)) (a1 : (List R59)) : Option Bool :=
  (if (!decide ((a0.length : Int) = (a1.length : Int))) = true then (some false) else (jn (fun p_14 : Unit => (some true)) fun k_15 => (loopM (m39_L1 n a0 a1 k_15) n (0 : Int))))
def m41_L1 (n : Nat) (a0 : (List (List R59))) (a1 : (List (List R59))) (k_18 : Unit → Option Bool) (nx_12 : Int → Option Bool) (x_11 : Int) : Option Bool :=
  (if (decide (x_11 < (a0.length : Int))) = true then ((getIdx a0 x_11).bind fun y_13 => ((getIdx a1 x_11).bind fun y_14 => ((m39 n y_13 y_14).bind fun y_15 => (if (!y_15) = true then (some false) else (letM ((IntKind.wrap .i64 (x_11 + (1 : Int)))) fun t5_16 => (nx_12 t5_16)))))) else (k_18 ()))
def m41 (n : Nat) (a0 : (List (List R59))) (a1 : (List (List R59))) : Option Bool :=
  (if (!decide ((a0.length : Int) = (a1.length : Int))) = true then (some false) else (jn (fun p_17 : Unit => (some true)) fun k_18 => (loopM (m41_L1 n a0 a1 k_18) n (0 : Int))))
def m15 (n : Nat) (a0 : R27) (a1 : R27) : Option Bool :=
  ((m39 n a0.Outer a1.Outer).bind fun y_1 => ((gdO y_1 (m41 n a0.Holes a1.Holes) default).bind fun y_2 => (some (y_1 && y_2))))
def m3 (n : Nat) (a0 : (List Int)) (a1 : (List (List UInt8))) (a2 : (List R27)) : Option Bool :=
  ((m9 n).bind fun y_1 => (if (!y_1) = true then (some false) else (asrt (a1.length = 2) ((getIdx a1 (0 : Int)).bind fun y_3 => (asrtG (!(decide ((200 : Int) < (y_3.length : Int)))) (a1.length = 2) ((gdO (!(decide ((200 : Int) < (y_3.length : Int)))) (getIdx a1 (1 : Int)) default).bind fun y_5 => (asrtG (!((decide ((200 : Int) < (y_3.length : Int))) || (decide ((200 : Int) < (y_5.length : Int))))) (a2.length = 2) ((gdO (!((decide ((200 : Int) < (y_3.length : Int))) || (decide ((200 : Int) < (y_5.length : Int))))) (getIdx a2 (0 : Int)) default).bind fun y_7 => ((gdO (!((decide ((200 : Int) < (y_3.length : Int))) || (decide ((200 : Int) < (y_5.length : Int))))) (m10 n (R27.mk y_7.Outer y_7.Holes)) default).bind fun y_8 => (asrtG (!(((decide ((200 : Int) < (y_3.length : Int))) || (decide ((200 : Int) < (y_5.length : Int)))) || (!y_8))) (a2.length = 2) ((gdO (!(((decide ((200 : Int) < (y_3.length : Int))) || (decide ((200 : Int) < (y_5.length : Int)))) || (!y_8))) (getIdx a2 (1 : Int)) default).bind fun y_10 => ((gdO (!(((decide ((200 : Int) < (y_3.length : Int))) || (decide ((200 : Int) < (y_5.length : Int)))) || (!y_8))) (m10 n (R27.mk y_10.Outer y_10.Holes)) default).bind fun y_11 => (if ((((decide ((200 : Int) < (y_3.length : Int))) || (decide ((200 : Int) < (y_5.length : Int)))) || (!y_8)) || (!y_11)) = true then (some true) else (asrt (a0.length = 2) ((getIdx a0 (0 : Int)).bind fun y_13 => ((m12x2 n y_13).bind fun y_14 => (asrt (a0.length = 2) ((getIdx a0 (1 : Int)).bind fun y_16 => ((m12x2 n y_16).bind fun y_17 => ((m11 n y_14 y_17).bind fun y_18 => (asrt (a0.length = 2) ((getIdx a0 (0 : Int)).bind fun y_20 => (asrt (a0.length = 2) ((getIdx a0 (1 : Int)).bind fun y_22 => (asrtG (y_18 == (decide (y_20 = y_22))) (a1.length = 2) ((gdO (y_18 == (decide (y_20 = y_22))) (getIdx a1 (0 : Int)) default).bind fun y_24 => ((gdO (y_18 == (decide (y_20 = y_22))) (m13 n y_24) default).bind fun y_25 => (asrtG (y_18 == (decide (y_20 = y_22))) (a1.length = 2) ((gdO (y_18 == (decide (y_20 = y_22))) (getIdx a1 (1 : Int)) default).bind fun y_27 => ((gdO (y_18 == (decide (y_20 = y_22))) (m13 n y_27) default).bind fun y_28 => ((gdO (y_18 == (decide (y_20 = y_22))) (m11 n y_25 y_28) default).bind fun y_29 => (asrtG (y_18 == (decide (y_20 = y_22))) (a1.length = 2) ((gdO (y_18 == (decide (y_20 = y_22))) (getIdx a1 (0 : Int)) default).bind fun y_31 => (asrtG (y_18 == (decide (y_20 = y_22))) (a1.length = 2) ((gdO (y_18 == (decide (y_20 = y_22))) (getIdx a1 (1 : Int)) default).bind fun y_33 => (asrtG ((y_18 == (decide (y_20 = y_22))) && (y_29 == (y_31 == y_33))) (a2.length = 2) ((gdO ((y_18 == (decide (y_20 = y_22))) && (y_29 == (y_31 == y_33))) (getIdx a2 (0 : Int)) default).bind fun y_35 => ((gdO ((y_18 == (decide (y_20 = y_22))) && (y_29 == (y_31 == y_33))) (m14 n (R27.mk y_35.Outer y_35.Holes)) default).bind fun y_36 => (asrtG ((y_18 == (decide (y_20 = y_22))) && (y_29 == (y_31 == y_33))) (a2.length = 2) ((gdO ((y_18 == (decide (y_20 = y_22))) && (y_29 == (y_31 == y_33))) (getIdx a2 (1 : Int)) default).bind fun y_38 => ((gdO ((y_18 == (decide (y_20 = y_22))) && (y_29 == (y_31 == y_33))) (m14 n (R27.mk y_38.Outer y_38.Holes)) default).bind fun y_39 => ((gdO ((y_18 == (decide (y_20 = y_22))) && (y_29 == (y_31 == y_33))) (m11 n y_36 y_39) default).bind fun y_40 => (asrtG ((y_18 == (decide (y_20 = y_22))) && (y_29 == (y_31 == y_33))) (a2.length = 2) ((gdO ((y_18 == (decide (y_20 = y_22))) && (y_29 == (y_31 == y_33))) (getIdx a2 (0 : Int)) default).bind fun y_42 => (asrtG ((y_18 == (decide (y_20 = y_22))) && (y_29 == (y_31 == y_33))) (a2.length = 2) ((gdO ((y_18 == (decide (y_20 = y_22))) && (y_29 == (y_31 == y_33))) (getIdx a2 (1 : Int)) default).bind fun y_44 => ((gdO ((y_18 == (decide (y_20 = y_22))) && (y_29 == (y_31 == y_33))) (m15 n (R27.mk y_42.Outer y_42.Holes) (R27.mk y_44.Outer y_44.Holes)) default).bind fun y_45 => (some (((y_18 == (decide (y_20 = y_22))) && (y_29 == (y_31 == y_33))) && (y_40 == y_45))))))))))))))))))))))))))))))))))))))))))))))))))
def m60 (n : Nat) (a0_b0_b0 : (List UInt8)) (a0_b0_b1 : Int) (a0_b0_b2 : Bool) (a1_b0 : Int) (a2_b0 : Int) : Option (Int × (List UInt8) × Int × Bool) :=
  ((m17 n a0_b0_b0 a0_b0_b1 a0_b0_b2).bind fun y_1 => (some (y_1.1, y_1.2.1, y_1.2.2.1, ((y_1.2.2.2 || (decide (y_1.1 < a1_b0))) || (decide (a2_b0 < y_1.1))))))
def m43x1 (n : Nat) (a0_b0 : (List UInt8)) (a0_b1 : Int) (a0_b2 : Bool) (a1_1_b0 : Int) (a1_2_b0 : Int) : Option (Int × (List UInt8) × Int × Bool) :=
  (if a0_b2 = true then (some ((0 : Int), a0_b0, a0_b1, a0_b2)) else ((m60 n a0_b0 a0_b1 a0_b2 a1_1_b0 a1_2_b0).bind fun y_1 => (if y_1.2.2.2 = true then (some ((0 : Int), y_1.2.1, a0_b1, y_1.2.2.2)) else (some (y_1.1, y_1.2.1, y_1.2.2.1, y_1.2.2.2)))))
def m25 (n : Nat) (a0_b0 : (List UInt8)) (a0_b1 : Int) (a0_b2 : Bool) (a1 : Int) (a2 : Int) : Option (Int × (List UInt8) × Int × Bool) :=
  ((m43x1 n a0_b0 a0_b1 a0_b2 a1 a2).bind fun y_1 => (some (y_1.1, y_1.2.1, y_1.2.2.1, y_1.2.2.2)))
def m64 (n : Nat) (a0_b0_b0 : (List UInt8)) (a0_b0_b1 : Int) (a0_b0_b2 : Bool) (a1_b0 : Int) : Option ((List UInt8) × (List UInt8) × Int × Bool) :=
  ((m25 n a0_b0_b0 a0_b0_b1 a0_b0_b2 (0 : Int) a1_b0).bind fun y_1 => (if (y_1.2.2.2 || (decide ((IntKind.wrap .i64 ((y_1.2.1.length : Int) - y_1.2.2.1)) < y_1.1))) = true then (some (([] : List UInt8), y_1.2.1, y_1.2.2.1, true)) else (letM ((IntKind.wrap .i64 (y_1.2.2.1 + y_1.1))) fun c_2 => ((slc y_1.2.1 (IntKind.wrap .i64 (c_2 - y_1.1)) c_2).bind fun s_3 => ((m42 n s_3).bind fun y_4 => (some (y_4, y_1.2.1, c_2, y_1.2.2.2)))))))
def m63 (n : Nat) (a0_b0 : (List UInt8)) (a0_b1 : Int) (a0_b2 : Bool) (a1_1_b0 : Int) : Option ((List UInt8) × (List UInt8) × Int × Bool) :=
  (if a0_b2 = true then (some (([] : List UInt8), a0_b0, a0_b1, a0_b2)) else ((m64 n a0_b0 a0_b1 a0_b2 a1_1_b0).bind fun y_1 => (if y_1.2.2.2 = true then (some (([] : List UInt8), y_1.2.1, a0_b1, y_1.2.2.2)) else (some (y_1.1, y_1.2.1, y_1.2.2.1, y_1.2.2.2)))))
def m27 (n : Nat) (a0_b0 : (List UInt8)) (a0_b1 : Int) (a0_b2 : Bool) (a1 : Int) : Option ((List UInt8) × (List UInt8) × Int × Bool) :=
  ((m63 n a0_b0 a0_b1 a0_b2 a1).bind fun y_1 => (some (y_1.1, y_1.2.1, y_1.2.2.1, y_1.2.2.2)))
def m19 (n : Nat) (a0_b0 : (List UInt8)) (a0_b1 : Int) (a0_b2 : Bool) (a1 : Int) : Option ((List UInt8) × (List UInt8) × Int × Bool) :=
  ((m27 n a0_b0 a0_b1 a0_b2 a1).bind fun y_1 => (some (y_1.1, y_1.2.1, y_1.2.2.1, y_1.2.2.2)))
def m67 (n : Nat) (a0_b0_b0 : (List UInt8)) (a0_b0_b1 : Int) (a0_b0_b2 : Bool) : Option (R59 × (List UInt8) × Int × Bool) :=
  ((m17 n a0_b0_b0 a0_b0_b1 a0_b0_b2).bind fun y_1 => ((m17 n y_1.2.1 y_1.2.2.1 y_1.2.2.2).bind fun y_2 => (some ((R59.mk y_1.1 y_2.1), y_2.2.1, y_2.2.2.1, y_2.2.2.2))))
def m66 (n : Nat) (a0_b0 : (List UInt8)) (a0_b1 : Int) (a0_b2 : Bool) : Option (R59 × (List UInt8) × Int × Bool) :=
  (if a0_b2 = true then (some ((R59.mk (0 : Int) (0 : Int)), a0_b0, a0_b1, a0_b2)) else ((m67 n a0_b0 a0_b1 a0_b2).bind fun y_1 => (if y_1.2.2.2 = true then (some ((R59.mk (0 : Int) (0 : Int)), y_1.2.1, a0_b1, y_1.2.2.2)) else (some ((R59.mk y_1.1.X y_1.1.Y), y_1.2.1, y_1.2.2.1, y_1.2.2.2)))))
def m29 (n : Nat) (a0_b0 : (List UInt8)) (a0_b1 : Int) (a0_b2 : Bool) : Option (R59 × (List UInt8) × Int × Bool) :=
  ((m66 n a0_b0 a0_b1 a0_b2).bind fun y_1 => (some ((R59.mk y_1.1.X y_1.1.Y), y_1.2.1, y_1.2.2.1, y_1.2.2.2)))
def m78_L1 (n : Nat) (k_16 : ((List UInt8) × Int × Bool × (List R59)) → Option ((List R59) × (List UInt8) × Int × Bool)) (nx_11 : (Int × (List UInt8) × Int × Bool × (List R59)) → Option ((List R59) × (List UInt8) × Int × Bool)) (x_10 : (Int × (List UInt8) × Int × Bool × (List R59))) : Option ((List R59) × (List UInt8) × Int × Bool) :=
  (if ((decide ((0 : Int) < x_10.1)) && (!x_10.2.2.2.1)) = true then ((m29 n x_10.2.1 x_10.2.2.1 x_10.2.2.2.1).bind fun y_12 => ((apd x_10.2.2.2.2 ([y_12.1] : List R59)).bind fun l5_13 => (letM ((IntKind.wrap .i64 (x_10.1 - (1 : Int)))) fun t5_14 => (nx_11 (t5_14, y_12.2.1, y_12.2.2.1, y_12.2.2.2, l5_13))))) else (k_16 (x_10.2.1, x_10.2.2.1, x_10.2.2.2.1, x_10.2.2.2.2)))
def m78 (n : Nat) (a0_b0_b0 : (List UInt8)) (a0_b0_b1 : Int) (a0_b0_b2 : Bool) (a1_b0 : Int) : Option ((List R59) × (List UInt8) × Int × Bool) :=
  ((m25 n a0_b0_b0 a0_b0_b1 a0_b0_b2 (0 : Int) a1_b0).bind fun y_1 => (jn (fun p_15 : (List UInt8) × Int × Bool × (List R59) => (some (p_15.2.2.2, p_15.1, p_15.2.1, p_15.2.2.1))) fun k_16 => (loopM (m78_L1 n k_16) n (y_1.1, y_1.2.1, y_1.2.2.1, y_1.2.2.2, ([] : List R59)))))
def m77 (n : Nat) (a0_b0 : (List UInt8)) (a0_b1 : Int) (a0_b2 : Bool) (a1_1_b0 : Int) : Option ((List R59) × (List UInt8) × Int × Bool) :=
  (if a0_b2 = true then (some (([] : List R59), a0_b0, a0_b1, a0_b2)) else ((m78 n a0_b0 a0_b1 a0_b2 a1_1_b0).bind fun y_1 => (if y_1.2.2.2 = true then (some (([] : List R59), y_1.2.1, a0_b1, y_1.2.2.2)) else (some (y_1.1, y_1.2.1, y_1.2.2.1, y_1.2.2.2)))))
def m68 (n : Nat) (a0_b0 : (List UInt8)) (a0_b1 : Int) (a0_b2 : Bool) (a1 : Int) : Option ((List R59) × (List UInt8) × Int × Bool) :=
  ((m77 n a0_b0 a0_b1 a0_b2 a1).bind fun y_1 => (some (y_1.1, y_1.2.1, y_1.2.2.1, y_1.2.2.2)))
def m30 (n : Nat) (a0_b0 : (List UInt8)) (a0_b1 : Int) (a0_b2 : Bool) (a1 : Int) : Option ((List R59) × (List UInt8) × Int × Bool) :=
  ((m68 n a0_b0 a0_b1 a0_b2 a1).bind fun y_1 => (some (y_1.1, y_1.2.1, y_1.2.2.1, y_1.2.2.2)))
def m48 (n : Nat) (a0_b0_b0 : (List UInt8)) (a0_b0_b1 : Int) (a0_b0_b2 : Bool) : Option ((List R59) × (List UInt8) × Int × Bool) :=
  ((m30 n a0_b0_b0 a0_b0_b1 a0_b0_b2 (40 : Int)).bind fun y_1 => (some (y_1.1, y_1.2.1, y_1.2.2.1, y_1.2.2.2)))
def m72_L1 (n : Nat) (k_16 : ((List UInt8) × Int × Bool × (List (List R59))) → Option ((List (List R59)) × (List UInt8) × Int × Bool)) (nx_11 : (Int × (List UInt8) × Int × Bool × (List (List R59))) → Option ((List (List R59)) × (List UInt8) × Int × Bool)) (x_10 : (Int × (List UInt8) × Int × Bool × (List (List R59)))) : Option ((List (List R59)) × (List UInt8) × Int × Bool) :=
  (if ((decide ((0 : Int) < x_10.1)) && (!x_10.2.2.2.1)) = true then ((m48 n x_10.2.1 x_10.2.2.1 x_10.2.2.2.1).bind fun y_12 => ((apd x_10.2.2.2.2 ([y_12.1] : List (List R59))).bind fun l6_13 => (letM ((IntKind.wrap .i64 (x_10.1 - (1 : Int)))) fun t5_14 => (nx_11 (t5_14, y_12.2.1, y_12.2.2.1, y_12.2.2.2, l6_13))))) else (k_16 (x_10.2.1, x_10.2.2.1, x_10.2.2.2.1, x_10.2.2.2.2)))
def m72 (n : Nat) (a0_b0_b0 : (List UInt8)) (a0_b0_b1 : Int) (a0_b0_b2 : Bool) (a1_b0 : Int) : Option ((List (List R59)) × (List UInt8) × Int × Bool) :=
  ((m25 n a0_b0_b0 a0_b0_b1 a0_b0_b2 (0 : Int) a1_b0).bind fun y_1 => (jn (fun p_15 : (List UInt8) × Int × Bool × (List (List R59)) => (some (p_15.2.2.2, p_15.1, p_15.2.1, p_15.2.2.1))) fun k_16 => (loopM (m72_L1 n k_16) n (y_1.1, y_1.2.1, y_1.2.2.1, y_1.2.2.2, ([] : List (List R59))))))
def m71 (n : Nat) (a0_b0 : (List UInt8)) (a0_b1 : Int) (a0_b2 : Bool) (a1_1_b0 : Int) : Option ((List (List R59)) × (List UInt8) × Int × Bool) :=
  (if a0_b2 = true then (some (([] : List (List R59)), a0_b0, a0_b1, a0_b2)) else ((m72 n a0_b0 a0_b1 a0_b2 a1_1_b0).bind fun y_1 => (if y_1.2.2.2 = true then (some (([] : List (List R59)), y_1.2.1, a0_b1, y_1.2.2.2)) else (some (y_1.1, y_1.2.1, y_1.2.2.1, y_1.2.2.2)))))
def m49 (n : Nat) (a0_b0 : (List UInt8)) (a0_b1 : Int) (a0_b2 : Bool) (a1 : Int) : Option ((List (List R59)) × (List UInt8) × Int × Bool) :=
  ((m71 n a0_b0 a0_b1 a0_b2 a1).bind fun y_1 => (some (y_1.1, y_1.2.1, y_1.2.2.1, y_1.2.2.2)))
def m47 (n : Nat) (a0_b0_b0 : (List UInt8)) (a0_b0_b1 : Int) (a0_b0_b2 : Bool) : Option (R27 × (List UInt8) × Int × Bool) :=
  ((m48 n a0_b0_b0 a0_b0_b1 a0_b0_b2).bind fun y_1 => ((m49 n y_1.2.1 y_1.2.2.1 y_1.2.2.2 (6 : Int)).bind fun y_2 => (some ((R27.mk y_1.1 y_2.1), y_2.2.1, y_2.2.2.1, y_2.2.2.2))))
def m46 (n : Nat) (a0_b0 : (List UInt8)) (a0_b1 : Int) (a0_b2 : Bool) : Option (R27 × (List UInt8) × Int × Bool) :=
  (if a0_b2 = true then (some ((R27.mk ([] : List R59) ([] : List (List R59))), a0_b0, a0_b1, a0_b2)) else ((m47 n a0_b0 a0_b1 a0_b2).bind fun y_1 => (if y_1.2.2.2 = true then (some ((R27.mk ([] : List R59) ([] : List (List R59))), y_1.2.1, a0_b1, y_1.2.2.2)) else (some ((R27.mk y_1.1.Outer y_1.1.Holes), y_1.2.1, y_1.2.2.1, y_1.2.2.2)))))
def m20 (n : Nat) (a0_b0 : (List UInt8)) (a0_b1 : Int) (a0_b2 : Bool) : Option (R27 × (List UInt8) × Int × Bool) :=
  ((m46 n a0_b0 a0_b1 a0_b2).bind fun y_1 => (some ((R27.mk y_1.1.Outer y_1.1.Holes), y_1.2.1, y_1.2.2.1, y_1.2.2.2)))
def m4_L3 (n : Nat) (y_5 : (List UInt8)) (k_71 : Unit → Option Bool) (nx_63 : Int → Option Bool) (x_62 : Int) : Option Bool :=
  (if ((decide (x_62 < (y_5.length : Int))) && (decide (x_62 < (100 : Int)))) = true then ((slc y_5 (0 : Int) x_62).bind fun s_64 => ((m16 n s_64).bind fun y_65 => ((m20 n y_65.b y_65.at_ y_65.failed).bind fun y_66 => ((m15 n y_66.1 (R27.mk ([] : List R59) ([] : List (List R59)))).bind fun y_67 => ((gdO (!(!y_67)) (m18 n y_66.2.1 y_66.2.2.1 y_66.2.2.2) default).bind fun y_68 => (if ((!y_67) || (!decide (y_68 = (4 : Int)))) = true then (some false) else (letM ((IntKind.wrap .i64 (x_62 + (1 : Int)))) fun t14_69 => (nx_63 t14_69)))))))) else (k_71 ()))
def m4_L2 (n : Nat) (y_4 : (List UInt8)) (k_47 : Unit → Option Bool) (nx_40 : Int → Option Bool) (x_39 : Int) : Option Bool :=
  (if (decide (x_39 < (y_4.length : Int))) = true then ((slc y_4 (0 : Int) x_39).bind fun s_41 => ((m16 n s_41).bind fun y_42 => ((m19 n y_42.b y_42.at_ y_42.failed (200 : Int)).bind fun y_43 => ((gdO (!(!(y_43.1 == ([] : List UInt8)))) (m18 n y_43.2.1 y_43.2.2.1 y_43.2.2.2) default).bind fun y_44 => (if ((!(y_43.1 == ([] : List UInt8))) || (!decide (y_44 = (4 : Int)))) = true then (some false) else (letM ((IntKind.wrap .i64 (x_39 + (1 : Int)))) fun t12_45 => (nx_40 t12_45))))))) else (k_47 ()))
def m4_L1 (n : Nat) (y_3 : (List UInt8)) (k_26 : Unit → Option Bool) (nx_19 : Int → Option Bool) (x_18 : Int) : Option Bool :=
  (if (decide (x_18 < (y_3.length : Int))) = true then ((slc y_3 (0 : Int) x_18).bind fun s_20 => ((m16 n s_20).bind fun y_21 => ((m17 n y_21.b y_21.at_ y_21.failed).bind fun y_22 => ((gdO (!(!decide (y_22.1 = (0 : Int)))) (m18 n y_22.2.1 y_22.2.2.1 y_22.2.2.2) default).bind fun y_23 => (if ((!decide (y_22.1 = (0 : Int))) || (!decide (y_23 = (4 : Int)))) = true then (some false) else (letM ((IntKind.wrap .i64 (x_18 + (1 : Int)))) fun t10_24 => (nx_19 t10_24))))))) else (k_26 ()))
def m4 (n : Nat) (a0 : Int) (a1 : (List UInt8)) (a2 : R27) : Option Bool :=
  ((m9 n).bind fun y_1 => (if (!y_1) = true then (some false) else ((gdO (!(decide ((200 : Int) < (a1.length : Int)))) (m10 n (R27.mk a2.Outer a2.Holes)) default).bind fun y_2 => (if (((decide ((200 : Int) < (a1.length : Int))) || (!y_2)) || (decide ((20 : Int) < (a2.Outer.length : Int)))) = true then (some true) else ((m12x2 n a0).bind fun y_3 => ((m13 n a1).bind fun y_4 => ((m14 n (R27.mk a2.Outer a2.Holes)).bind fun y_5 => (jn (fun p_25 : Unit => (jn (fun p_46 : Unit => (jn (fun p_70 : Unit => (some (((decide ((0 : Int) < (y_3.length : Int))) && (decide ((0 : Int) < (y_4.length : Int)))) && (decide ((0 : Int) < (y_5.length : Int)))))) fun k_71 => (loopM (m4_L3 n y_5 k_71) n (0 : Int)))) fun k_47 => (loopM (m4_L2 n y_4 k_47) n (0 : Int)))) fun k_26 => (loopM (m4_L1 n y_3 k_26) n (0 : Int))))))))))
def m73_L4 (n : Nat) (x_29 : Int) (k_42 : Int → Option Int) (nx_38 : (Int × Int) → Option Int) (x_37 : (Int × Int)) : Option Int :=
  (if (decide (x_37.2 < (IntKind.wrap .i64 ((IntKind.wrap .i64 ((8 : Int) * x_29)) - (1 : Int))))) = true then (letM ((IntKind.wrap .i64 ((2 : Int) * x_37.1))) fun t4_39 => (letM ((IntKind.wrap .i64 (x_37.2 + (1 : Int)))) fun t5_40 => (nx_38 (t4_39, t5_40)))) else (k_42 x_37.1))
def m73_L3 (n : Nat) (a0 : Int) (k_45 : Unit → Option Int) (nx_30 : Int → Option Int) (x_29 : Int) : Option Int :=
  (if (decide (x_29 < (8 : Int))) = true then (jn (fun p_41 : Int => (if ((decide ((IntKind.wrap .i64 (0 - p_41)) ≤ a0)) && (decide (a0 < p_41))) = true then (some x_29) else (letM ((IntKind.wrap .i64 (x_29 + (1 : Int)))) fun t3_43 => (nx_30 t3_43)))) fun k_42 => (loopM (m73_L4 n x_29 k_42) n ((1 : Int), (0 : Int)))) else (k_45 ()))
def m73 (n : Nat) (a0 : Int) : Option Int :=
  (if (decide (a0 = (0 : Int))) = true then (some (0 : Int)) else (jn (fun p_44 : Unit => (some (8 : Int))) fun k_45 => (loopM (m73_L3 n a0 k_45) n (1 : Int))))
def m50_L1 (n : Nat) (a0_b0 : (List UInt8)) (a0_b1 : Int) (t3_5 : Int) (k_23 : Int → Option (Int × (List UInt8) × Int × Bool)) (nx_18 : (Int × Int) → Option (Int × (List UInt8) × Int × Bool)) (x_17 : (Int × Int)) : Option (Int × (List UInt8) × Int × Bool) :=
  (if (decide (x_17.2 ≤ t3_5)) = true then ((getIdx a0_b0 (IntKind.wrap .i64 (a0_b1 + x_17.2))).bind fun y_19 => (letM ((IntKind.wrap .u64 ((IntKind.wrap .u64 (x_17.1 * (256 : Int))) + (IntKind.wrap .u64 (y_19.toNat : Int))))) fun t4_20 => (letM ((IntKind.wrap .i64 (x_17.2 + (1 : Int)))) fun t5_21 => (nx_18 (t4_20, t5_21))))) else (k_23 x_17.1))
def m50 (n : Nat) (a0_b0 : (List UInt8)) (a0_b1 : Int) (a0_b2 : Bool) : Option (Int × (List UInt8) × Int × Bool) :=
  ((gdO (!(a0_b2 || (decide ((a0_b0.length : Int) ≤ a0_b1)))) (getIdx a0_b0 a0_b1) default).bind fun y_1 => ((gdO (!((a0_b2 || (decide ((a0_b0.length : Int) ≤ a0_b1))) || (decide ((8 : Int) < (y_1.toNat : Int))))) (getIdx a0_b0 a0_b1) default).bind fun y_2 => (letM ((((a0_b2 || (decide ((a0_b0.length : Int) ≤ a0_b1))) || (decide ((8 : Int) < (y_1.toNat : Int)))) || (decide ((IntKind.wrap .i64 ((IntKind.wrap .i64 ((a0_b0.length : Int) - a0_b1)) - (1 : Int))) < (IntKind.wrap .i64 (y_2.toNat : Int)))))) fun t59_3 => (if t59_3 = true then (some ((0 : Int), a0_b0, a0_b1, true)) else ((getIdx a0_b0 a0_b1).bind fun y_4 => (letM ((IntKind.wrap .i64 (y_4.toNat : Int))) fun t3_5 => ((gdO (decide ((0 : Int) < t3_5)) (getIdx a0_b0 (IntKind.wrap .i64 (a0_b1 + (1 : Int)))) default).bind fun y_6 => (jn (fun p_7 : Int => (jn (fun p_22 : Int => ((m73 n (IntKind.wrap .i64 p_22)).bind fun y_24 => (if (!decide (y_24 = t3_5)) = true then (some ((0 : Int), a0_b0, a0_b1, true)) else (letM ((IntKind.wrap .i64 (a0_b1 + (IntKind.wrap .i64 (t3_5 + (1 : Int)))))) fun c_25 => (some ((IntKind.wrap .i64 p_22), a0_b0, c_25, a0_b2)))))) fun k_23 => (loopM (m50_L1 n a0_b0 a0_b1 t3_5 k_23) n (p_7, (1 : Int))))) fun k_8 => (if ((decide ((0 : Int) < t3_5)) && (decide ((128 : Int) ≤ (y_6.toNat : Int)))) = true then (k_8 (18446744073709551615 : Int)) else (k_8 (0 : Int)))))))))))
def m74 (n : Nat) (a0_b0 : (List UInt8)) (a0_b1 : Int) (a0_b2 : Bool) (a1 : Int) : Option ((List UInt8) × Int × Bool) :=
  (some (a0_b0, a1, true))
def m51 (n : Nat) (a0_b0 : (List UInt8)) (a0_b1 : Int) (a0_b2 : Bool) (a1 : Int) (a2 : Int) : Option (Int × (List UInt8) × Int × Bool) :=
  ((m50 n a0_b0 a0_b1 a0_b2).bind fun y_1 => (if y_1.2.2.2 = true then (some ((0 : Int), y_1.2.1, y_1.2.2.1, y_1.2.2.2)) else (if ((decide (y_1.1 < a1)) || (decide (a2 < y_1.1))) = true then ((m74 n y_1.2.1 y_1.2.2.1 y_1.2.2.2 a0_b1).bind fun y_2 => (some ((0 : Int), y_2.1, y_2.2.1, y_2.2.2))) else (some (y_1.1, y_1.2.1, y_1.2.2.1, y_1.2.2.2)))))
def m62 (n : Nat) (a0_b0_b0 : (List UInt8)) (a0_b0_b1 : Int) (a0_b0_b2 : Bool) : Option (Bool × (List UInt8) × Int × Bool) :=
  ((m45 n a0_b0_b0 a0_b0_b1 a0_b0_b2).bind fun y_1 => (some ((decide (y_1.1 = (1 : Int))), y_1.2.1, y_1.2.2.1, (y_1.2.2.2 || (decide ((1 : Int) < y_1.1))))))
def m61 (n : Nat) (a0_b0 : (List UInt8)) (a0_b1 : Int) (a0_b2 : Bool) : Option (Bool × (List UInt8) × Int × Bool) :=
  (if a0_b2 = true then (some (false, a0_b0, a0_b1, a0_b2)) else ((m62 n a0_b0 a0_b1 a0_b2).bind fun y_1 => (if y_1.2.2.2 = true then (some (false, y_1.2.1, a0_b1, y_1.2.2.2)) else (some (y_1.1, y_1.2.1, y_1.2.2.1, y_1.2.2.2)))))
def m26 (n : Nat) (a0_b0 : (List UInt8)) (a0_b1 : Int) (a0_b2 : Bool) : Option (Bool × (List UInt8) × Int × Bool) :=
  ((m61 n a0_b0 a0_b1 a0_b2).bind fun y_1 => (some (y_1.1, y_1.2.1, y_1.2.2.1, y_1.2.2.2)))
def m52 (n : Nat) (a0_b0 : (List UInt8)) (a0_b1 : Int) (a0_b2 : Bool) : Option (Bool × (List UInt8) × Int × Bool) :=
  ((gdO (!(a0_b2 || (decide ((a0_b0.length : Int) ≤ a0_b1)))) (getIdx a0_b0 a0_b1) default).bind fun y_1 => (if ((a0_b2 || (decide ((a0_b0.length : Int) ≤ a0_b1))) || (decide ((1 : Int) < (y_1.toNat : Int)))) = true then (some (false, a0_b0, a0_b1, true)) else (letM ((IntKind.wrap .i64 (a0_b1 + (1 : Int)))) fun c_2 => ((getIdx a0_b0 (IntKind.wrap .i64 (c_2 - (1 : Int)))).bind fun y_3 => (some ((decide ((y_3.toNat : Int) = (1 : Int))), a0_b0, c_2, a0_b2))))))
def m54 (n : Nat) (a0_b0 : (List UInt8)) (a0_b1 : Int) (a0_b2 : Bool) (a1 : Int) : Option ((List UInt8) × (List UInt8) × Int × Bool) :=
  ((m51 n a0_b0 a0_b1 a0_b2 (0 : Int) a1).bind fun y_1 => (if (y_1.2.2.2 || (decide ((IntKind.wrap .i64 ((y_1.2.1.length : Int) - y_1.2.2.1)) < y_1.1))) = true then ((m74 n y_1.2.1 y_1.2.2.1 y_1.2.2.2 a0_b1).bind fun y_2 => (some (([] : List UInt8), y_2.1, y_2.2.1, y_2.2.2))) else (letM ((IntKind.wrap .i64 (y_1.2.2.1 + y_1.1))) fun c_3 => ((slc y_1.2.1 (IntKind.wrap .i64 (c_3 - y_1.1)) c_3).bind fun s_4 => ((apd ([] : List UInt8) s_4).bind fun l2_5 => (some (l2_5, y_1.2.1, c_3, y_1.2.2.2)))))))
def m53 (n : Nat) (a0_b0 : (List UInt8)) (a0_b1 : Int) (a0_b2 : Bool) (a1 : Int) : Option ((List UInt8) × (List UInt8) × Int × Bool) :=
  ((m54 n a0_b0 a0_b1 a0_b2 a1).bind fun y_1 => (some (y_1.1, y_1.2.1, y_1.2.2.1, y_1.2.2.2)))
def m76_L1 (n : Nat) (k_16 : ((List UInt8) × Int × Bool × (List Int)) → Option ((List Int) × (List UInt8) × Int × Bool)) (nx_11 : (Int × (List UInt8) × Int × Bool × (List Int)) → Option ((List Int) × (List UInt8) × Int × Bool)) (x_10 : (Int × (List UInt8) × Int × Bool × (List Int))) : Option ((List Int) × (List UInt8) × Int × Bool) :=
  (if ((decide ((0 : Int) < x_10.1)) && (!x_10.2.2.2.1)) = true then ((m17 n x_10.2.1 x_10.2.2.1 x_10.2.2.2.1).bind fun y_12 => ((apd x_10.2.2.2.2 ([y_12.1] : List Int)).bind fun l5_13 => (letM ((IntKind.wrap .i64 (x_10.1 - (1 : Int)))) fun t5_14 => (nx_11 (t5_14, y_12.2.1, y_12.2.2.1, y_12.2.2.2, l5_13))))) else (k_16 (x_10.2.1, x_10.2.2.1, x_10.2.2.2.1, x_10.2.2.2.2)))
def m76 (n : Nat) (a0_b0_b0 : (List UInt8)) (a0_b0_b1 : Int) (a0_b0_b2 : Bool) (a1_b0 : Int) : Option ((List Int) × (List UInt8) × Int × Bool) :=
  ((m25 n a0_b0_b0 a0_b0_b1 a0_b0_b2 (0 : Int) a1_b0).bind fun y_1 => (jn (fun p_15 : (List UInt8) × Int × Bool × (List Int) => (some (p_15.2.2.2, p_15.1, p_15.2.1, p_15.2.2.1))) fun k_16 => (loopM (m76_L1 n k_16) n (y_1.1, y_1.2.1, y_1.2.2.1, y_1.2.2.2, ([] : List Int)))))
def m75 (n : Nat) (a0_b0 : (List UInt8)) (a0_b1 : Int) (a0_b2 : Bool) (a1_1_b0 : Int) : Option ((List Int) × (List UInt8) × Int × Bool) :=
  (if a0_b2 = true then (some (([] : List Int), a0_b0, a0_b1, a0_b2)) else ((m76 n a0_b0 a0_b1 a0_b2 a1_1_b0).bind fun y_1 => (if y_1.2.2.2 = true then (some (([] : List Int), y_1.2.1, a0_b1, y_1.2.2.2)) else (some (y_1.1, y_1.2.1, y_1.2.2.1, y_1.2.2.2)))))
def m65 (n : Nat) (a0_b0 : (List UInt8)) (a0_b1 : Int) (a0_b2 : Bool) (a1 : Int) : Option ((List Int) × (List UInt8) × Int × Bool) :=
  ((m75 n a0_b0 a0_b1 a0_b2 a1).bind fun y_1 => (some (y_1.1, y_1.2.1, y_1.2.2.1, y_1.2.2.2)))
def m28 (n : Nat) (a0_b0 : (List UInt8)) (a0_b1 : Int) (a0_b2 : Bool) (a1 : Int) : Option ((List Int) × (List UInt8) × Int × Bool) :=
  ((m65 n a0_b0 a0_b1 a0_b2 a1).bind fun y_1 => (some (y_1.1, y_1.2.1, y_1.2.2.1, y_1.2.2.2)))
def m55_L1 (n : Nat) (y_1 : (Int × (List UInt8) × Int × Bool)) (k_16 : ((List UInt8) × Int × Bool × (List Int)) → Option ((List Int) × (List UInt8) × Int × Bool)) (nx_11 : (Int × (List UInt8) × Int × Bool × (List Int)) → Option ((List Int) × (List UInt8) × Int × Bool)) (x_10 : (Int × (List UInt8) × Int × Bool × (List Int))) : Option ((List Int) × (List UInt8) × Int × Bool) :=
  (if ((decide (x_10.1 < y_1.1)) && (!x_10.2.2.2.1)) = true then ((m50 n x_10.2.1 x_10.2.2.1 x_10.2.2.2.1).bind fun y_12 => ((apd x_10.2.2.2.2 ([y_12.1] : List Int)).bind fun l2_13 => (letM ((IntKind.wrap .i64 (x_10.1 + (1 : Int)))) fun t8_14 => (nx_11 (t8_14, y_12.2.1, y_12.2.2.1, y_12.2.2.2, l2_13))))) else (k_16 (x_10.2.1, x_10.2.2.1, x_10.2.2.2.1, x_10.2.2.2.2)))
def m55 (n : Nat) (a0_b0 : (List UInt8)) (a0_b1 : Int) (a0_b2 : Bool) (a1 : Int) : Option ((List Int) × (List UInt8) × Int × Bool) :=
  ((m51 n a0_b0 a0_b1 a0_b2 (0 : Int) a1).bind fun y_1 => (jn (fun p_15 : (List UInt8) × Int × Bool × (List Int) => (if p_15.2.2.1 = true then ((m74 n p_15.1 p_15.2.1 p_15.2.2.1 a0_b1).bind fun y_17 => (some (([] : List Int), y_17.1, y_17.2.1, y_17.2.2))) else (some (p_15.2.2.2, p_15.1, p_15.2.1, p_15.2.2.1)))) fun k_16 => (loopM (m55_L1 n y_1 k_16) n ((0 : Int), y_1.2.1, y_1.2.2.1, y_1.2.2.2, ([] : List Int)))))
def m38_L1 (n : Nat) (a0 : (List Int)) (a1 : (List Int)) (k_15 : Unit → Option Bool) (nx_10 : Int → Option Bool) (x_9 : Int) : Option Bool :=
  (if (decide (x_9 < (a0.length : Int))) = true then ((getIdx a0 x_9).bind fun y_11 => ((getIdx a1 x_9).bind fun y_12 => (if (!decide (y_11 = y_12)) = true then (some false) else (letM ((IntKind.wrap .i64 (x_9 + (1 : Int)))) fun t5_13 => (nx_10 t5_13))))) else (k_15 ()))
def m38 (n : Nat) (a0 : (List Int)) (a1 : (List Int)) : Option Bool :=
  (if (!decide ((a0.length : Int) = (a1.length : Int))) = true then (some false) else (jn (fun p_14 : Unit => (some true)) fun k_15 => (loopM (m38_L1 n a0 a1 k_15) n (0 : Int))))
def m56 (n : Nat) (a0_b0 : (List UInt8)) (a0_b1 : Int) (a0_b2 : Bool) : Option (R59 × (List UInt8) × Int × Bool) :=
  ((m50 n a0_b0 a0_b1 a0_b2).bind fun y_1 => ((m50 n y_1.2.1 y_1.2.2.1 y_1.2.2.2).bind fun y_2 => (if y_2.2.2.2 = true then ((m74 n y_2.2.1 y_2.2.2.1 y_2.2.2.2 a0_b1).bind fun y_3 => (some ((R59.mk (0 : Int) (0 : Int)), y_3.1, y_3.2.1, y_3.2.2))) else (some ((R59.mk y_1.1 y_2.1), y_2.2.1, y_2.2.2.1, y_2.2.2.2)))))
def m57_L1 (n : Nat) (y_1 : (Int × (List UInt8) × Int × Bool)) (k_16 : ((List UInt8) × Int × Bool × (List R59)) → Option ((List R59) × (List UInt8) × Int × Bool)) (nx_11 : (Int × (List UInt8) × Int × Bool × (List R59)) → Option ((List R59) × (List UInt8) × Int × Bool)) (x_10 : (Int × (List UInt8) × Int × Bool × (List R59))) : Option ((List R59) × (List UInt8) × Int × Bool) :=
  (if ((decide (x_10.1 < y_1.1)) && (!x_10.2.2.2.1)) = true then ((m56 n x_10.2.1 x_10.2.2.1 x_10.2.2.2.1).bind fun y_12 => ((apd x_10.2.2.2.2 ([y_12.1] : List R59)).bind fun l2_13 => (letM ((IntKind.wrap .i64 (x_10.1 + (1 : Int)))) fun t8_14 => (nx_11 (t8_14, y_12.2.1, y_12.2.2.1, y_12.2.2.2, l2_13))))) else (k_16 (x_10.2.1, x_10.2.2.1, x_10.2.2.2.1, x_10.2.2.2.2)))
def m57 (n : Nat) (a0_b0 : (List UInt8)) (a0_b1 : Int) (a0_b2 : Bool) (a1 : Int) : Option ((List R59) × (List UInt8) × Int × Bool) :=
  ((m51 n a0_b0 a0_b1 a0_b2 (0 : Int) a1).bind fun y_1 => (jn (fun p_15 : (List UInt8) × Int × Bool × (List R59) => (if p_15.2.2.1 = true then ((m74 n p_15.1 p_15.2.1 p_15.2.2.1 a0_b1).bind fun y_17 => (some (([] : List R59), y_17.1, y_17.2.1, y_17.2.2))) else (some (p_15.2.2.2, p_15.1, p_15.2.1, p_15.2.2.1)))) fun k_16 => (loopM (m57_L1 n y_1 k_16) n ((0 : Int), y_1.2.1, y_1.2.2.1, y_1.2.2.2, ([] : List R59)))))
def m58_L1 (n : Nat) (y_2 : (Int × (List UInt8) × Int × Bool)) (k_17 : ((List UInt8) × Int × Bool × (List (List R59))) → Option (R27 × (List UInt8) × Int × Bool)) (nx_12 : (Int × (List UInt8) × Int × Bool × (List (List R59))) → Option (R27 × (List UInt8) × Int × Bool)) (x_11 : (Int × (List UInt8) × Int × Bool × (List (List R59)))) : Option (R27 × (List UInt8) × Int × Bool) :=
  (if ((decide (x_11.1 < y_2.1)) && (!x_11.2.2.2.1)) = true then ((m57 n x_11.2.1 x_11.2.2.1 x_11.2.2.2.1 (40 : Int)).bind fun y_13 => ((apd x_11.2.2.2.2 ([y_13.1] : List (List R59))).bind fun l4_14 => (letM ((IntKind.wrap .i64 (x_11.1 + (1 : Int)))) fun t6_15 => (nx_12 (t6_15, y_13.2.1, y_13.2.2.1, y_13.2.2.2, l4_14))))) else (k_17 (x_11.2.1, x_11.2.2.1, x_11.2.2.2.1, x_11.2.2.2.2)))
def m58 (n : Nat) (a0_b0 : (List UInt8)) (a0_b1 : Int) (a0_b2 : Bool) : Option (R27 × (List UInt8) × Int × Bool) :=
  ((m57 n a0_b0 a0_b1 a0_b2 (40 : Int)).bind fun y_1 => ((m51 n y_1.2.1 y_1.2.2.1 y_1.2.2.2 (0 : Int) (6 : Int)).bind fun y_2 => (jn (fun p_16 : (List UInt8) × Int × Bool × (List (List R59)) => (if p_16.2.2.1 = true then ((m74 n p_16.1 p_16.2.1 p_16.2.2.1 a0_b1).bind fun y_18 => (some ((R27.mk ([] : List R59) ([] : List (List R59))), y_18.1, y_18.2.1, y_18.2.2))) else (some ((R27.mk y_1.1 p_16.2.2.2), p_16.1, p_16.2.1, p_16.2.2.1)))) fun k_17 => (loopM (m58_L1 n y_2 k_17) n ((0 : Int), y_2.2.1, y_2.2.2.1, y_2.2.2.2, ([] : List (List R59)))))))
def m70 (n : Nat) (a0_b0_b0 : (List UInt8)) (a0_b0_b1 : Int) (a0_b0_b2 : Bool) : Option (R63 × (List UInt8) × Int × Bool) :=
  ((m17 n a0_b0_b0 a0_b0_b1 a0_b0_b2).bind fun y_1 => ((m17 n y_1.2.1 y_1.2.2.1 y_1.2.2.2).bind fun y_2 => (some ((R63.mk y_1.1 y_2.1), y_2.2.1, y_2.2.2.1, y_2.2.2.2))))
def m69 (n : Nat) (a0_b0 : (List UInt8)) (a0_b1 : Int) (a0_b2 : Bool) : Option (R63 × (List UInt8) × Int × Bool) :=
  (if a0_b2 = true then (some ((R63.mk (0 : Int) (0 : Int)), a0_b0, a0_b1, a0_b2)) else ((m70 n a0_b0 a0_b1 a0_b2).bind fun y_1 => (if y_1.2.2.2 = true then (some ((R63.mk (0 : Int) (0 : Int)), y_1.2.1, a0_b1, y_1.2.2.2)) else (some ((R63.mk y_1.1.Num y_1.1.Den), y_1.2.1, y_1.2.2.1, y_1.2.2.2)))))
def m31 (n : Nat) (a0_b0 : (List UInt8)) (a0_b1 : Int) (a0_b2 : Bool) : Option (R63 × (List UInt8) × Int × Bool) :=
  ((m69 n a0_b0 a0_b1 a0_b2).bind fun y_1 => (some ((R63.mk y_1.1.Num y_1.1.Den), y_1.2.1, y_1.2.2.1, y_1.2.2.2)))
def m59 (n : Nat) (a0_b0 : (List UInt8)) (a0_b1 : Int) (a0_b2 : Bool) : Option (R63 × (List UInt8) × Int × Bool) :=
  ((m50 n a0_b0 a0_b1 a0_b2).bind fun y_1 => ((m50 n y_1.2.1 y_1.2.2.1 y_1.2.2.2).bind fun y_2 => (if y_2.2.2.2 = true then ((m74 n y_2.2.1 y_2.2.2.1 y_2.2.2.2 a0_b1).bind fun y_3 => (some ((R63.mk (0 : Int) (0 : Int)), y_3.1, y_3.2.1, y_3.2.2))) else (some ((R63.mk y_1.1 y_2.1), y_2.2.1, y_2.2.2.1, y_2.2.2.2)))))
def m21 (n : Nat) (a0_b0 : (List UInt8)) (a0_b1 : Int) (a0_b2 : Bool) (a1_b0 : (List UInt8)) (a1_b1 : Int) (a1_b2 : Bool) (a2 : R52) : Option (Bool × (List UInt8) × Int × Bool × (List UInt8) × Int × Bool) :=
  (if (decide (a2.Kind = (0 : Int))) = true then ((m17 n a0_b0 a0_b1 a0_b2).bind fun y_1 => ((m50 n a1_b0 a1_b1 a1_b2).bind fun y_2 => (some ((decide (y_1.1 = y_2.1)), y_1.2.1, y_1.2.2.1, y_1.2.2.2, y_2.2.1, y_2.2.2.1, y_2.2.2.2)))) else (if (decide (a2.Kind = (1 : Int))) = true then ((m25 n a0_b0 a0_b1 a0_b2 a2.Lo a2.Hi).bind fun y_3 => ((m51 n a1_b0 a1_b1 a1_b2 a2.Lo a2.Hi).bind fun y_4 => (some ((decide (y_3.1 = y_4.1)), y_3.2.1, y_3.2.2.1, y_3.2.2.2, y_4.2.1, y_4.2.2.1, y_4.2.2.2)))) else (if (decide (a2.Kind = (2 : Int))) = true then ((m26 n a0_b0 a0_b1 a0_b2).bind fun y_5 => ((m52 n a1_b0 a1_b1 a1_b2).bind fun y_6 => (some ((y_5.1 == y_6.1), y_5.2.1, y_5.2.2.1, y_5.2.2.2, y_6.2.1, y_6.2.2.1, y_6.2.2.2)))) else (if (decide (a2.Kind = (3 : Int))) = true then ((m19 n a0_b0 a0_b1 a0_b2 a2.Hi).bind fun y_7 => ((m53 n a1_b0 a1_b1 a1_b2 a2.Hi).bind fun y_8 => (some ((y_7.1 == y_8.1), y_7.2.1, y_7.2.2.1, y_7.2.2.2, y_8.2.1, y_8.2.2.1, y_8.2.2.2)))) else (if (decide (a2.Kind = (4 : Int))) = true then ((m27 n a0_b0 a0_b1 a0_b2 a2.Hi).bind fun y_9 => ((m54 n a1_b0 a1_b1 a1_b2 a2.Hi).bind fun y_10 => ((m11 n y_9.1 y_10.1).bind fun y_11 => (some (y_11, y_9.2.1, y_9.2.2.1, y_9.2.2.2, y_10.2.1, y_10.2.2.1, y_10.2.2.2))))) else (if (decide (a2.Kind = (5 : Int))) = true then ((m28 n a0_b0 a0_b1 a0_b2 a2.Hi).bind fun y_12 => ((m55 n a1_b0 a1_b1 a1_b2 a2.Hi).bind fun y_13 => ((m38 n y_12.1 y_13.1).bind fun y_14 => (some (y_14, y_12.2.1, y_12.2.2.1, y_12.2.2.2, y_13.2.1, y_13.2.2.1, y_13.2.2.2))))) else (if (decide (a2.Kind = (6 : Int))) = true then ((m29 n a0_b0 a0_b1 a0_b2).bind fun y_15 => ((m56 n a1_b0 a1_b1 a1_b2).bind fun y_16 => (some ((([y_15.1.X, y_15.1.Y] : List Int) == [y_16.1.X, y_16.1.Y]), y_15.2.1, y_15.2.2.1, y_15.2.2.2, y_16.2.1, y_16.2.2.1, y_16.2.2.2)))) else (if (decide (a2.Kind = (7 : Int))) = true then ((m30 n a0_b0 a0_b1 a0_b2 a2.Hi).bind fun y_17 => ((m57 n a1_b0 a1_b1 a1_b2 a2.Hi).bind fun y_18 => ((m39 n y_17.1 y_18.1).bind fun y_19 => (some (y_19, y_17.2.1, y_17.2.2.1, y_17.2.2.2, y_18.2.1, y_18.2.2.1, y_18.2.2.2))))) else (if (decide (a2.Kind = (8 : Int))) = true then ((m20 n a0_b0 a0_b1 a0_b2).bind fun y_20 => ((m58 n a1_b0 a1_b1 a1_b2).bind fun y_21 => ((m15 n y_20.1 y_21.1).bind fun y_22 => (some (y_22, y_20.2.1, y_20.2.2.1, y_20.2.2.2, y_21.2.1, y_21.2.2.1, y_21.2.2.2))))) else ((m31 n a0_b0 a0_b1 a0_b2).bind fun y_23 => ((m59 n a1_b0 a1_b1 a1_b2).bind fun y_24 => (some ((([y_23.1.Num, y_23.1.Den] : List Int) == [y_24.1.Num, y_24.1.Den]), y_23.2.1, y_23.2.2.1, y_23.2.2.2, y_24.2.1, y_24.2.2.1, y_24.2.2.2)))))))))))))
def m22 (n : Nat) (a0_b0 : (List UInt8)) (a0_b1 : Int) (a0_b2 : Bool) : Option Int :=
  (letM ((IntKind.wrap .i64 ((a0_b0.length : Int) - a0_b1))) fun t2_1 => (some t2_1))
def m23 (n : Nat) (a0_b0 : (List UInt8)) (a0_b1 : Int) (a0_b2 : Bool) : Option Int :=
  (letM ((IntKind.wrap .i64 ((a0_b0.length : Int) - a0_b1))) fun t2_1 => (some t2_1))
def m24 (n : Nat) (a0_b0 : (List UInt8)) (a0_b1 : Int) (a0_b2 : Bool) : Option Int :=
  (if (a0_b2 || (!decide (a0_b1 = (a0_b0.length : Int)))) = true then (some (4 : Int)) else (some (0 : Int)))
def m5_L2 (n : Nat) (a1 : (List R52)) (k_48 : Unit → Option Bool) (nx_39 : (Int × (List UInt8) × Int × Bool × (List UInt8) × Int × Bool) → Option Bool) (x_38 : (Int × (List UInt8) × Int × Bool × (List UInt8) × Int × Bool)) : Option Bool :=
  (if (decide (x_38.1 < (a1.length : Int))) = true then ((getIdx a1 x_38.1).bind fun y_40 => ((m21 n x_38.2.1 x_38.2.2.1 x_38.2.2.2.1 x_38.2.2.2.2.1 x_38.2.2.2.2.2.1 x_38.2.2.2.2.2.2 (R52.mk y_40.Kind y_40.Lo y_40.Hi)).bind fun y_41 => ((gdO (!(!y_41.1)) (m22 n y_41.2.1 y_41.2.2.1 y_41.2.2.2.1) default).bind fun y_42 => ((gdO (!(!y_41.1)) (m23 n y_41.2.2.2.2.1 y_41.2.2.2.2.2.1 y_41.2.2.2.2.2.2) default).bind fun y_43 => ((gdO (!((!y_41.1) || (!decide (y_42 = y_43)))) (m18 n y_41.2.1 y_41.2.2.1 y_41.2.2.2.1) default).bind fun y_44 => ((gdO (!((!y_41.1) || (!decide (y_42 = y_43)))) (m24 n y_41.2.2.2.2.1 y_41.2.2.2.2.2.1 y_41.2.2.2.2.2.2) default).bind fun y_45 => (if (((!y_41.1) || (!decide (y_42 = y_43))) || (!decide (y_44 = y_45))) = true then (some false) else (letM ((IntKind.wrap .i64 (x_38.1 + (1 : Int)))) fun t9_46 => (nx_39 (t9_46, y_41.2.1, y_41.2.2.1, y_41.2.2.2.1, y_41.2.2.2.2.1, y_41.2.2.2.2.2.1, y_41.2.2.2.2.2.2)))))))))) else (k_48 ()))
def m5_L1 (n : Nat) (k_21 : Unit → Option Bool) (nx_15 : (Int × (List UInt8)) → Option Bool) (x_14 : (Int × (List UInt8))) : Option Bool :=
  (if (decide (x_14.1 < (x_14.2.length : Int))) = true then ((getIdx x_14.2 x_14.1).bind fun y_16 => ((getIdx x_14.2 x_14.1).bind fun y_17 => ((setIdx x_14.2 x_14.1 (b8 (IntKind.wrap .u8 ((y_16.toNat : Int) + (1 : Int))))).bind fun l1_18 => (letM ((IntKind.wrap .i64 (x_14.1 + (1 : Int)))) fun t8_19 => (nx_15 (t8_19, l1_18)))))) else (k_21 ()))
def m5 (n : Nat) (a0 : (List UInt8)) (a1 : (List R52)) : Option Bool :=
  ((m9 n).bind fun y_1 => (if (!y_1) = true then (some false) else (if ((decide ((900 : Int) < (a0.length : Int))) || (decide ((20 : Int) < (a1.length : Int)))) = true then (some true) else ((apd ([] : List UInt8) a0).bind fun l1_2 => ((m16 n l1_2).bind fun y_3 => (jn (fun p_20 : Unit => (jn (fun p_47 : Unit => (some true)) fun k_48 => (loopM (m5_L2 n a1 k_48) n ((0 : Int), y_3.b, y_3.at_, y_3.failed, a0, (0 : Int), false)))) fun k_21 => (loopM (m5_L1 n k_21) n ((0 : Int), l1_2))))))))
def m43x2 (n : Nat) : Option Int :=
  (some (0 : Int))
def m17x1 (n : Nat) : Option Int :=
  ((m43x2 n).bind fun y_1 => (some y_1))
def m43x3 (n : Nat) (a1_1_b0 : Int) (a1_2_b0 : Int) : Option Int :=
  (some (0 : Int))
def m25x1 (n : Nat) (a1 : Int) (a2 : Int) : Option Int :=
  ((m43x3 n a1 a2).bind fun y_1 => (some y_1))
def m61x1 (n : Nat) : Option Bool :=
  (some false)
def m26x1 (n : Nat) : Option Bool :=
  ((m61x1 n).bind fun y_1 => (some y_1))
def m63x1 (n : Nat) (a1_1_b0 : Int) : Option (List UInt8) :=
  (some ([] : List UInt8))
def m27x1 (n : Nat) (a1 : Int) : Option (List UInt8) :=
  ((m63x1 n a1).bind fun y_1 => (some y_1))
def m19x1 (n : Nat) (a1 : Int) : Option (List UInt8) :=
  ((m27x1 n a1).bind fun y_1 => (some y_1))
def m75x1 (n : Nat) (a1_1_b0 : Int) : Option (List Int) :=
  (some ([] : List Int))
def m65x1 (n : Nat) (a1 : Int) : Option (List Int) :=
  ((m75x1 n a1).bind fun y_1 => (some y_1))
def m28x1 (n : Nat) (a1 : Int) : Option (List Int) :=
  ((m65x1 n a1).bind fun y_1 => (some y_1))
def m66x1 (n : Nat) : Option R59 :=
  (some (R59.mk (0 : Int) (0 : Int)))
def m29x1 (n : Nat) : Option R59 :=
  ((m66x1 n).bind fun y_1 => (some (R59.mk y_1.X y_1.Y)))
def m77x1 (n : Nat) (a1_1_b0 : Int) : Option (List R59) :=
  (some ([] : List R59))
def m68x1 (n : Nat) (a1 : Int) : Option (List R59) :=
  ((m77x1 n a1).bind fun y_1 => (some y_1))
def m30x1 (n : Nat) (a1 : Int) : Option (List R59) :=
  ((m68x1 n a1).bind fun y_1 => (some y_1))
def m46x1 (n : Nat) : Option R27 :=
  (some (R27.mk ([] : List R59) ([] : List (List R59))))
def m20x1 (n : Nat) : Option R27 :=
  ((m46x1 n).bind fun y_1 => (some (R27.mk y_1.Outer y_1.Holes)))
def m69x1 (n : Nat) : Option R63 :=
  (some (R63.mk (0 : Int) (0 : Int)))
def m31x1 (n : Nat) : Option R63 :=
  ((m69x1 n).bind fun y_1 => (some (R63.mk y_1.Num y_1.Den)))
def m22x1 (n : Nat) : Option Int :=
  (some (0 : Int))
def m18x1 (n : Nat) : Option Int :=
  (some (10 : Int))
def m6 (n : Nat) (a0 : R52) : Option Bool :=
  ((m9 n).bind fun y_1 => (if (!y_1) = true then (some false) else ((m17x1 n).bind fun y_2 => ((gdO (decide (y_2 = (0 : Int))) (m25x1 n a0.Lo a0.Hi) default).bind fun y_3 => ((gdO ((decide (y_2 = (0 : Int))) && (decide (y_3 = (0 : Int)))) (m26x1 n) default).bind fun y_4 => ((gdO (((decide (y_2 = (0 : Int))) && (decide (y_3 = (0 : Int)))) && (!y_4)) (m19x1 n a0.Hi) default).bind fun y_5 => ((gdO ((((decide (y_2 = (0 : Int))) && (decide (y_3 = (0 : Int)))) && (!y_4)) && (y_5 == ([] : List UInt8))) (m27x1 n a0.Hi) default).bind fun y_6 => ((gdO (((((decide (y_2 = (0 : Int))) && (decide (y_3 = (0 : Int)))) && (!y_4)) && (y_5 == ([] : List UInt8))) && (decide ((y_6.length : Int) = (0 : Int)))) (m28x1 n a0.Hi) default).bind fun y_7 => ((gdO ((((((decide (y_2 = (0 : Int))) && (decide (y_3 = (0 : Int)))) && (!y_4)) && (y_5 == ([] : List UInt8))) && (decide ((y_6.length : Int) = (0 : Int)))) && (decide ((y_7.length : Int) = (0 : Int)))) (m29x1 n) default).bind fun y_8 => ((gdO (((((((decide (y_2 = (0 : Int))) && (decide (y_3 = (0 : Int)))) && (!y_4)) && (y_5 == ([] : List UInt8))) && (decide ((y_6.length : Int) = (0 : Int)))) && (decide ((y_7.length : Int) = (0 : Int)))) && (([y_8.X, y_8.Y] : List Int) == [(0 : Int), (0 : Int)])) (m30x1 n a0.Hi) default).bind fun y_9 => ((gdO ((((((((decide (y_2 = (0 : Int))) && (decide (y_3 = (0 : Int)))) && (!y_4)) && (y_5 == ([] : List UInt8))) && (decide ((y_6.length : Int) = (0 : Int)))) && (decide ((y_7.length : Int) = (0 : Int)))) && (([y_8.X, y_8.Y] : List Int) == [(0 : Int), (0 : Int)])) && (decide ((y_9.length : Int) = (0 : Int)))) (m20x1 n) default).bind fun y_10 => ((gdO ((((((((decide (y_2 = (0 : Int))) && (decide (y_3 = (0 : Int)))) && (!y_4)) && (y_5 == ([] : List UInt8))) && (decide ((y_6.length : Int) = (0 : Int)))) && (decide ((y_7.length : Int) = (0 : Int)))) && (([y_8.X, y_8.Y] : List Int) == [(0 : Int), (0 : Int)])) && (decide ((y_9.length : Int) = (0 : Int)))) (m15 n y_10 (R27.mk ([] : List R59) ([] : List (List R59)))) default).bind fun y_11 => ((gdO (((((((((decide (y_2 = (0 : Int))) && (decide (y_3 = (0 : Int)))) && (!y_4)) && (y_5 == ([] : List UInt8))) && (decide ((y_6.length : Int) = (0 : Int)))) && (decide ((y_7.length : Int) = (0 : Int)))) && (([y_8.X, y_8.Y] : List Int) == [(0 : Int), (0 : Int)])) && (decide ((y_9.length : Int) = (0 : Int)))) && y_11) (m31x1 n) default).bind fun y_12 => ((gdO ((((((((((decide (y_2 = (0 : Int))) && (decide (y_3 = (0 : Int)))) && (!y_4)) && (y_5 == ([] : List UInt8))) && (decide ((y_6.length : Int) = (0 : Int)))) && (decide ((y_7.length : Int) = (0 : Int)))) && (([y_8.X, y_8.Y] : List Int) == [(0 : Int), (0 : Int)])) && (decide ((y_9.length : Int) = (0 : Int)))) && y_11) && (([y_12.Num, y_12.Den] : List Int) == [(0 : Int), (0 : Int)])) (m22x1 n) default).bind fun y_13 => ((gdO (((((((((((decide (y_2 = (0 : Int))) && (decide (y_3 = (0 : Int)))) && (!y_4)) && (y_5 == ([] : List UInt8))) && (decide ((y_6.length : Int) = (0 : Int)))) && (decide ((y_7.length : Int) = (0 : Int)))) && (([y_8.X, y_8.Y] : List Int) == [(0 : Int), (0 : Int)])) && (decide ((y_9.length : Int) = (0 : Int)))) && y_11) && (([y_12.Num, y_12.Den] : List Int) == [(0 : Int), (0 : Int)])) && (decide (y_13 = (0 : Int)))) (m18x1 n) default).bind fun y_14 => (letM (((((((((((((decide (y_2 = (0 : Int))) && (decide (y_3 = (0 : Int)))) && (!y_4)) && (y_5 == ([] : List UInt8))) && (decide ((y_6.length : Int) = (0 : Int)))) && (decide ((y_7.length : Int) = (0 : Int)))) && (([y_8.X, y_8.Y] : List Int) == [(0 : Int), (0 : Int)])) && (decide ((y_9.length : Int) = (0 : Int)))) && y_11) && (([y_12.Num, y_12.Den] : List Int) == [(0 : Int), (0 : Int)])) && (decide (y_13 = (0 : Int)))) && (decide (y_14 = (10 : Int))))) fun t2_15 => (some t2_15)))))))))))))))))
def m32_L1 (n : Nat) (a1 : (List Int)) (k_16 : (List UInt8) → Option (List UInt8)) (nx_11 : (Int × (List UInt8)) → Option (List UInt8)) (x_10 : (Int × (List UInt8))) : Option (List UInt8) :=
  (if (decide (x_10.1 < (a1.length : Int))) = true then ((getIdx a1 x_10.1).bind fun y_12 => ((m12o n x_10.2 y_12).bind fun y_13 => (letM ((IntKind.wrap .i64 (x_10.1 + (1 : Int)))) fun t13_14 => (nx_11 (t13_14, y_13))))) else (k_16 x_10.2))
def m32 (n : Nat) (a1 : (List Int)) : Option (List UInt8) :=
  ((m12ox1 n (a1.length : Int)).bind fun y_1 => (jn (fun p_15 : (List UInt8) => (some p_15)) fun k_16 => (loopM (m32_L1 n a1 k_16) n ((0 : Int), y_1))))
def m7 (n : Nat) (a0 : (List UInt8)) : Option Bool :=
  ((m9 n).bind fun y_1 => (if (!y_1) = true then (some false) else (if (decide ((900 : Int) < (a0.length : Int))) = true then (some true) else ((m16 n a0).bind fun y_2 => ((m16 n a0).bind fun y_3 => ((m16 n a0).bind fun y_4 => ((m20 n y_2.b y_2.at_ y_2.failed).bind fun y_5 => ((m28 n y_3.b y_3.at_ y_3.failed (900 : Int)).bind fun y_6 => ((m19 n y_4.b y_4.at_ y_4.failed (900 : Int)).bind fun y_7 => ((m18 n y_5.2.1 y_5.2.2.1 y_5.2.2.2).bind fun y_8 => ((gdO (decide (y_8 = (0 : Int))) (m14 n (R27.mk y_5.1.Outer y_5.1.Holes)) default).bind fun y_9 => ((gdO (decide (y_8 = (0 : Int))) (m11 n y_9 a0) default).bind fun y_10 => (if ((decide (y_8 = (0 : Int))) && (!y_10)) = true then (some false) else ((m18 n y_6.2.1 y_6.2.2.1 y_6.2.2.2).bind fun y_11 => ((gdO (!(!decide (y_11 = (0 : Int)))) (m32 n y_6.1) default).bind fun y_12 => ((gdO (!(!decide (y_11 = (0 : Int)))) (m11 n y_12 a0) default).bind fun y_13 => ((gdO ((!decide (y_11 = (0 : Int))) || y_13) (m18 n y_7.2.1 y_7.2.2.1 y_7.2.2.2) default).bind fun y_14 => ((gdO (((!decide (y_11 = (0 : Int))) || y_13) && (!(!decide (y_14 = (0 : Int))))) (m13 n y_7.1) default).bind fun y_15 => ((gdO (((!decide (y_11 = (0 : Int))) || y_13) && (!(!decide (y_14 = (0 : Int))))) (m11 n y_15 a0) default).bind fun y_16 => (some (((!decide (y_11 = (0 : Int))) || y_13) && ((!decide (y_14 = (0 : Int))) || y_16))))))))))))))))))))))
def m33_L1 (n : Nat) (a0 : (List (List UInt8))) (k_12 : Unit → Option Bool) (nx_8 : Int → Option Bool) (x_7 : Int) : Option Bool :=
  (if (decide (x_7 < (a0.length : Int))) = true then ((getIdx a0 x_7).bind fun y_9 => (if (decide ((200 : Int) < (y_9.length : Int))) = true then (some false) else (letM ((IntKind.wrap .i64 (x_7 + (1 : Int)))) fun t3_10 => (nx_8 t3_10)))) else (k_12 ()))
def m33 (n : Nat) (a0 : (List (List UInt8))) : Option Bool :=
  (jn (fun p_11 : Unit => (some (decide ((a0.length : Int) ≤ (40 : Int))))) fun k_12 => (loopM (m33_L1 n a0 k_12) n (0 : Int)))
def m32ox1_L1 (n : Nat) (a1 : (List Int)) (k_16 : (List UInt8) → Option (List UInt8)) (nx_11 : (Int × (List UInt8)) → Option (List UInt8)) (x_10 : (Int × (List UInt8))) : Option (List UInt8) :=
  (if (decide (x_10.1 < (a1.length : Int))) = true then ((getIdx a1 x_10.1).bind fun y_12 => ((m12o n x_10.2 y_12).bind fun y_13 => (letM ((IntKind.wrap .i64 (x_10.1 + (1 : Int)))) fun t13_14 => (nx_11 (t13_14, y_13))))) else (k_16 x_10.2))
def m32ox1 (n : Nat) (a1 : (List Int)) : Option (List UInt8) :=
  ((m12ox1 n (a1.length : Int)).bind fun y_1 => (jn (fun p_15 : (List UInt8) => (some p_15)) fun k_16 => (loopM (m32ox1_L1 n a1 k_16) n ((0 : Int), y_1))))
def m34o (n : Nat) (a0_b : (List UInt8)) (a1 : Bool) : Option (List UInt8) :=
  (if a1 = true then ((apd a0_b ([(1 : UInt8)] : List UInt8)).bind fun l1_1 => (some l1_1)) else ((apd a0_b ([(0 : UInt8)] : List UInt8)).bind fun l1_2 => (some l1_2)))
def m13ox1 (n : Nat) (a0_b : (List UInt8)) (a1 : (List UInt8)) : Option (List UInt8) :=
  ((m12o n a0_b (a1.length : Int)).bind fun y_1 => ((apd y_1 a1).bind fun l1_2 => (some l1_2)))
def m35o (n : Nat) (a0_b : (List UInt8)) (a1 : (List UInt8)) : Option (List UInt8) :=
  ((m12o n a0_b (a1.length : Int)).bind fun y_1 => ((apd y_1 a1).bind fun l1_2 => (some l1_2)))
def m36 (n : Nat) (a0 : (List UInt8)) (a1 : (List UInt8)) : Option (List UInt8) :=
  ((apd ([] : List UInt8) a0).bind fun l1_1 => ((apd l1_1 a1).bind fun l1_2 => (some l1_2)))
def m8_L4 (n : Nat) (a1 : (List (List UInt8))) (k_128 : ((List UInt8) × Int × Bool) → Option Bool) (nx_117 : (Int × (List UInt8) × Int × Bool) → Option Bool) (x_116 : (Int × (List UInt8) × Int × Bool)) : Option Bool :=
  (if (decide (x_116.1 < (a1.length : Int))) = true then ((getIdx a1 x_116.1).bind fun y_118 => ((m19 n x_116.2.1 x_116.2.2.1 x_116.2.2.2 (y_118.length : Int)).bind fun y_119 => ((getIdx a1 x_116.1).bind fun y_120 => (jn (fun p_124 : Bool × (List UInt8) × Int × Bool => (if p_124.1 = true then (some false) else (letM ((IntKind.wrap .i64 (x_116.1 + (1 : Int)))) fun t13_126 => (nx_117 (t13_126, p_124.2.1, p_124.2.2.1, p_124.2.2.2))))) fun k_125 => (if (!(!(y_119.1 == y_120))) = true then ((m27 n y_119.2.1 y_119.2.2.1 y_119.2.2.2 (200 : Int)).bind fun y_122 => ((getIdx a1 x_116.1).bind fun y_123 => (k_125 ((!(y_122.1 == y_123)), y_122.2.1, y_122.2.2.1, y_122.2.2.2)))) else (k_125 (true, y_119.2.1, y_119.2.2.1, y_119.2.2.2))))))) else (k_128 (x_116.2.1, x_116.2.2.1, x_116.2.2.2)))
def m8_L3 (n : Nat) (a0 : (List Int)) (k_95 : ((List UInt8) × Int × Bool) → Option Bool) (nx_83 : (Int × (List UInt8) × Int × Bool) → Option Bool) (x_82 : (Int × (List UInt8) × Int × Bool)) : Option Bool :=
  (if (decide (x_82.1 < (a0.length : Int))) = true then ((getIdx a0 x_82.1).bind fun y_84 => ((getIdx a0 x_82.1).bind fun y_85 => ((m25 n x_82.2.1 x_82.2.2.1 x_82.2.2.2 y_84 y_85).bind fun y_86 => ((getIdx a0 x_82.1).bind fun y_87 => (jn (fun p_91 : Bool × (List UInt8) × Int × Bool => (if p_91.1 = true then (some false) else (letM ((IntKind.wrap .i64 (x_82.1 + (1 : Int)))) fun t12_93 => (nx_83 (t12_93, p_91.2.1, p_91.2.2.1, p_91.2.2.2))))) fun k_92 => (if (!(!decide (y_86.1 = y_87))) = true then ((m26 n y_86.2.1 y_86.2.2.1 y_86.2.2.2).bind fun y_89 => ((getIdx a0 x_82.1).bind fun y_90 => (k_92 ((y_89.1 != (decide ((y_90.tmod (2 : Int)) = (0 : Int)))), y_89.2.1, y_89.2.2.1, y_89.2.2.2)))) else (k_92 (true, y_86.2.1, y_86.2.2.1, y_86.2.2.2)))))))) else (k_95 (x_82.2.1, x_82.2.2.1, x_82.2.2.2)))
def m8_L2 (n : Nat) (a1 : (List (List UInt8))) (k_54 : (List UInt8) → Option Bool) (nx_46 : (Int × (List UInt8)) → Option Bool) (x_45 : (Int × (List UInt8))) : Option Bool :=
  (if (decide (x_45.1 < (a1.length : Int))) = true then ((getIdx a1 x_45.1).bind fun y_47 => ((m13ox1 n x_45.2 y_47).bind fun y_48 => ((getIdx a1 x_45.1).bind fun y_49 => (asrt (y_49.length ≤ 1099511627776) ((m35o n y_48 y_49).bind fun y_51 => (letM ((IntKind.wrap .i64 (x_45.1 + (1 : Int)))) fun t10_52 => (nx_46 (t10_52, y_51)))))))) else (k_54 x_45.2))
def m8_L1 (n : Nat) (a0 : (List Int)) (k_30 : ((List UInt8) × (List R59)) → Option Bool) (nx_21 : (Int × (List UInt8) × (List R59)) → Option Bool) (x_20 : (Int × (List UInt8) × (List R59))) : Option Bool :=
  (if (decide (x_20.1 < (a0.length : Int))) = true then ((getIdx a0 x_20.1).bind fun y_22 => ((m12o n x_20.2.1 y_22).bind fun y_23 => ((getIdx a0 x_20.1).bind fun y_24 => ((m34o n y_23 (decide ((y_24.tmod (2 : Int)) = (0 : Int)))).bind fun y_25 => ((getIdx a0 x_20.1).bind fun y_26 => ((apd x_20.2.2 ([(R59.mk y_26 x_20.1)] : List R59)).bind fun l2_27 => (letM ((IntKind.wrap .i64 (x_20.1 + (1 : Int)))) fun t9_28 => (nx_21 (t9_28, y_25, l2_27))))))))) else (k_30 (x_20.2.1, x_20.2.2)))
def m8 (n : Nat) (a0 : (List Int)) (a1 : (List (List UInt8))) (a2 : (List UInt8)) : Option Bool :=
  ((m9 n).bind fun y_1 => (if (!y_1) = true then (some false) else ((gdO (!(decide ((60 : Int) < (a0.length : Int)))) (m33 n a1) default).bind fun y_2 => (if (((decide ((60 : Int) < (a0.length : Int))) || (!y_2)) || (decide ((300 : Int) < (a2.length : Int)))) = true then (some true) else ((m32ox1 n a0).bind fun y_3 => (jn (fun p_29 : (List UInt8) × (List R59) => (jn (fun p_53 : (List UInt8) => ((m37ox1 n p_53 p_29.2).bind fun y_55 => ((m36 n y_55 a2).bind fun y_56 => ((m16 n y_56).bind fun y_57 => ((m28 n y_57.b y_57.at_ y_57.failed (60 : Int)).bind fun y_58 => ((m38 n y_58.1 a0).bind fun y_59 => (if (!y_59) = true then (some false) else (jn (fun p_94 : (List UInt8) × Int × Bool => (jn (fun p_127 : (List UInt8) × Int × Bool => ((m30 n p_127.1 p_127.2.1 p_127.2.2 (60 : Int)).bind fun y_129 => ((m39 n y_129.1 p_29.2).bind fun y_130 => ((gdO y_130 (m22 n y_129.2.1 y_129.2.2.1 y_129.2.2.2) default).bind fun y_131 => ((gdO (y_130 && (decide (y_131 = (a2.length : Int)))) (m18 n y_129.2.1 y_129.2.2.1 y_129.2.2.2) default).bind fun y_132 => (some ((y_130 && (decide (y_131 = (a2.length : Int)))) && ((decide (y_132 = (0 : Int))) == (decide ((a2.length : Int) = (0 : Int))))))))))) fun k_128 => (loopM (m8_L4 n a1 k_128) n ((0 : Int), p_94.1, p_94.2.1, p_94.2.2)))) fun k_95 => (loopM (m8_L3 n a0 k_95) n ((0 : Int), y_58.2.1, y_58.2.2.1, y_58.2.2.2)))))))))) fun k_54 => (loopM (m8_L2 n a1 k_54) n ((0 : Int), p_29.1)))) fun k_30 => (loopM (m8_L1 n a0 k_30) n ((0 : Int), y_3, ([] : List R59)))))))))
end Go.AB
