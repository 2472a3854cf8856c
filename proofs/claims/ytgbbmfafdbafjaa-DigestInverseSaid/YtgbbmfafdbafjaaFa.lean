import Derived.Test.YtgbbmfafdbafjaaProg
import Derived.Test.YtgbbmfafdbafjaaAb19
import Derived.KernelRfl
set_option linter.unusedVariables false
namespace Go.AB
open Go Go.Proofs
theorem sz5 : szOf Try.prog 5 1 := szOf.mk (by kernel_rfl)
theorem one5 : oneT Try.prog 5 := ⟨_, Try.underlying5, trivial⟩
theorem zero48 : zeroT Try.prog 48 (List.replicate 16 (.int .u8 0)) := zeroT.mk (by kernel_rfl)
theorem zero45 : zeroT Try.prog 45 (List.replicate 8 (.int .u8 0)) := zeroT.mk (by kernel_rfl)
theorem sz45 : szOf Try.prog 45 8 := szOf.mk (by kernel_rfl)
theorem agg45 : aggT Try.prog 45 8 := ⟨sz45, _, Try.underlying45, trivial⟩
theorem zero5 : zeroT Try.prog 5 [.int .u8 0] := zeroT.mk (by kernel_rfl)
theorem el5 : elT Try.prog 5 1 1 := elT.mk (by kernel_rfl)
theorem mixed : Try.prog.follows .mixedOrders = true := by kernel_rfl
theorem gt45 : Try.prog.eqGuardType Try.prog.depth 45 = false := by kernel_rfl
def m14_L1 (n : Nat) (a1 : (List UInt8)) (k_18 : Int → Option Int) (nx_12 : (Int × Int) → Option Int) (x_11 : (Int × Int)) : Option Int :=
  (if (decide (x_11.2 < (a1.length : Int))) = true then ((getIdx a1 x_11.2).bind fun y_13 => (letM ((IntKind.wrap .u64 ((xorI .u64 x_11.1 (IntKind.wrap .u64 (y_13.toNat : Int))) * (11400714819323198485 : Int)))) fun t5_14 => (letM ((xorI .u64 t5_14 (shrI .u64 t5_14 (29 : Int)))) fun t5_15 => (letM ((IntKind.wrap .i64 (x_11.2 + (1 : Int)))) fun t11_16 => (nx_12 (t5_15, t11_16)))))) else (k_18 x_11.1))
def m14 (n : Nat) (a0 : Int) (a1 : (List UInt8)) : Option Int :=
  (jn (fun p_17 : Int => (some p_17)) fun k_18 => (loopM (m14_L1 n a1 k_18) n (a0, (0 : Int))))
theorem c14 {β1 : Bool} (n : Nat) (a0 : Int) (a1 : (List UInt8)) {r : Int} (h : m14 n a0 a1 = some r) : Spec Try.prog 14 [] [.sc (.int .u64 a0), .rd β1 a1.length (a1.flatMap enc8)] [] (.sc (.int .u64 r)) [] := by
  refine Spec.of (fn := Try.f14) Try.func14 Try.ntmps14 rfl rfl (le1 rfl) (fun w0 Zs Zb T0 ι0 => ?_)
  unfold m14 at h
  refine AWP.seq ?_
  refine AWP.region (.cons (.assign (lt1 rfl) (.const _ _ _)) <| ARun.nil _ _ _) ?_
  refine AWP.vc (s' := ⟨[(0, .sc (.int .u64 a0)), (1, .rd β1 a1.length (a1.flatMap enc8))], []⟩) (VC.sub (.c rfl <| .c rfl <| .n _) (.n _)) ?_
  refine AWP.seq ?_
  refine AWP.region (.cons (.move (lt1 rfl) (.tmp rfl)) <| .cons (.assign (lt1 rfl) (.tmp rfl)) <| ARun.nil _ _ _) ?_
  refine AWP.vc (s' := ⟨[(1, .rd β1 a1.length (a1.flatMap enc8)), (5, .sc (.int .u64 a0))], []⟩) (VC.sub (.c rfl <| .c rfl <| .n _) (.n _)) ?_
  refine AWP.seq ?_
  refine AWP.seq ?_
  refine AWP.region (.cons (.move (lt1 rfl) (.tmp rfl)) <| .cons (.lenRd (lt1 rfl) (.tmp rfl) Try.underlying22) <| .cons (.move (lt1 rfl) (.const _ _ _)) <| ARun.nil _ _ _) ?_
  refine AWP.vc (s' := ⟨[(5, .sc (.int .u64 a0)), (9, .rd β1 a1.length (a1.flatMap enc8)), (10, .sc (.int .i64 (a1.length : Int))), (11, .sc (.int .i64 (0 : Int)))], []⟩) (VC.sub (.c rfl <| .c rfl <| .c rfl <| .c rfl <| .n _) (.n _)) ?_
  refine AWP.joinB' (S := fun p_17 : Int => ⟨[(5, .sc (.int .u64 p_17))], []⟩) h (fun p_17 h => ?_) (fun k_18 h => ?_)
  · refine AWP.seq ?_
    refine AWP.region (.cons (.move (lt1 rfl) (.tmp rfl)) <| .cons (.assign (lt1 rfl) (.tmp rfl)) <| ARun.nil _ _ _) ?_
    refine AWP.ret ?_
    obtain rfl := Option.some.inj h
    exact retJ (Res.vc (s' := ⟨[(4, .sc (.int .u64 p_17))], []⟩) (VC.sub (.c rfl <| .n _) (.n _)) (Res.drop rfl (Res.of rfl (.cons (.tmp rfl) (.nil)) rfl rfl)))
  · refine AWP.vc (s' := ⟨[(5, .sc (.int .u64 a0)), (9, .rd β1 a1.length (a1.flatMap enc8)), (10, .sc (.int .i64 (a1.length : Int))), (11, .sc (.int .i64 (0 : Int)))], []⟩) (VC.sub (.c rfl <| .c rfl <| .c rfl <| .c rfl <| .n _) (.n _)) ?_
    refine AWP.loopM (S := fun x_11 : Int × Int => ⟨[(5, .sc (.int .u64 x_11.1)), (9, .rd β1 a1.length (a1.flatMap enc8)), (10, .sc (.int .i64 (a1.length : Int))), (11, .sc (.int .i64 x_11.2))], []⟩) (x := (a0, (0 : Int))) (fun nx_12 x_11 h => ?_) h
    unfold m14_L1 at h
    refine AWP.seq ?_
    refine AWP.region (.cons (.lss (lt1 rfl) (.tmp rfl) (.tmp rfl)) <| ARun.nil _ _ _) ?_
    refine AWP.vc (s' := ⟨[(5, .sc (.int .u64 x_11.1)), (9, .rd β1 a1.length (a1.flatMap enc8)), (10, .sc (.int .i64 (a1.length : Int))), (11, .sc (.int .i64 x_11.2)), (12, .sc (.bool (decide (x_11.2 < (a1.length : Int)))))], []⟩) (VC.sub (.c rfl <| .c rfl <| .c rfl <| .c rfl <| .c rfl <| .n _) (.n _)) ?_
    refine AWP.seq ?_
    refine AWP.cond (.tmp rfl) (fun hc => ?_) (fun hc => ?_)
    · have h := iteT hc h
      refine AWP.skip ?_
      refine AWP.seq ?_
      refine AWP.block ?_
      refine AWP.seq ?_
      obtain ⟨y_13, hy_13, h⟩ := bindS h
      refine AWP.region (.cons (.indexRd (enc := enc8) (lt1 rfl) (.tmp rfl) (.tmp rfl) Try.underlying22 sz5 enc8_len rfl hy_13) <| .cons (.loadR (lt1 rfl) (.tmp rfl) one5 rfl) <| .cons (.assign (lt1 rfl) (.tmp rfl)) <| ARun.nil _ _ _) ?_
      refine AWP.vc (s' := ⟨[(5, .sc (.int .u64 x_11.1)), (9, .rd β1 a1.length (a1.flatMap enc8)), (10, .sc (.int .i64 (a1.length : Int))), (11, .sc (.int .i64 x_11.2)), (7, .sc (.int .u8 (y_13.toNat : Int)))], []⟩) (VC.sub (.c rfl <| .c rfl <| .c rfl <| .c rfl <| .c rfl <| .n _) (.n _)) ?_
      refine AWP.seq ?_
      obtain ⟨t5_14, ht5_14, h⟩ := letS h
      refine AWP.region (.cons (.move (lt1 rfl) (.tmp rfl)) <| .cons (.move (lt1 rfl) (.tmp rfl)) <| .cons (.conv (lt1 rfl) (.tmp rfl) Try.underlying5 Try.underlying23) <| .cons (.bxor (lt1 rfl) (.tmp rfl) (.tmp rfl)) <| .cons (.mul (lt1 rfl) (.tmp rfl) (.const _ _ _)) <| .cons (.assign (lt1 rfl) (.tmp rfl)) <| ARun.nil _ _ _) ?_
      refine AWP.vc (s' := ⟨[(5, .sc (.int .u64 t5_14)), (9, .rd β1 a1.length (a1.flatMap enc8)), (10, .sc (.int .i64 (a1.length : Int))), (11, .sc (.int .i64 x_11.2))], []⟩) (by subst ht5_14; exact VC.sub (.c rfl <| .c rfl <| .c rfl <| .c rfl <| .n _) (.n _)) ?_
      obtain ⟨t5_15, ht5_15, h⟩ := letS h
      refine AWP.region (.cons (.move (lt1 rfl) (.tmp rfl)) <| .cons (.move (lt1 rfl) (.tmp rfl)) <| .cons (.shr (lt1 rfl) (.tmp rfl) (.const _ _ _) (by decide)) <| .cons (.bxor (lt1 rfl) (.tmp rfl) (.tmp rfl)) <| .cons (.assign (lt1 rfl) (.tmp rfl)) <| ARun.nil _ _ _) ?_
      refine AWP.vc (s' := ⟨[(5, .sc (.int .u64 t5_15)), (9, .rd β1 a1.length (a1.flatMap enc8)), (10, .sc (.int .i64 (a1.length : Int))), (11, .sc (.int .i64 x_11.2))], []⟩) (by subst ht5_15; exact VC.sub (.c rfl <| .c rfl <| .c rfl <| .c rfl <| .n _) (.n _)) ?_
      obtain ⟨t11_16, ht11_16, h⟩ := letS h
      refine AWP.region (.cons (.add (lt1 rfl) (.tmp rfl) (.const _ _ _)) <| .cons (.move (lt1 rfl) (.tmp rfl)) <| ARun.nil _ _ _) ?_
      exact endJ (t5_15, t11_16) h (by subst ht11_16; exact VC.sub (.c rfl <| .c rfl <| .c rfl <| .c rfl <| .n _) (.n _))
    · have h := iteF hc h
      refine AWP.exit ?_
      exact endJ x_11.1 h (VC.sub (.c rfl <| .n _) (.n _))
def m12 (n : Nat) (a0 : (List UInt8)) : Option Int :=
  ((m14 n (1 : Int) a0).bind fun y_1 => (some y_1))
theorem c12 {β1 : Bool} (n : Nat) (a0 : (List UInt8)) {r : Int} (h : m12 n a0 = some r) : Spec Try.prog 12 [] [.rd β1 a0.length (a0.flatMap enc8)] [] (.sc (.int .u64 r)) [] := by
  refine Spec.of (fn := Try.f12) Try.func12 Try.ntmps12 rfl rfl (le1 rfl) (fun w0 Zs Zb T0 ι0 => ?_)
  unfold m12 at h
  refine AWP.seq ?_
  refine AWP.region (.cons (.assign (lt1 rfl) (.const _ _ _)) <| ARun.nil _ _ _) ?_
  refine AWP.vc (s' := ⟨[(0, .rd β1 a0.length (a0.flatMap enc8))], []⟩) (VC.sub (.c rfl <| .n _) (.n _)) ?_
  refine AWP.seq ?_
  obtain ⟨y_1, hy_1, h⟩ := bindS h
  refine AWP.region (.cons (.move (lt1 rfl) (.tmp rfl)) <| .cons (.call0 (bw := false) (lt1 rfl) (c14 (β1 := β1) n (1 : Int) a0 hy_1) (.cons (.const _ _ _) (.ren rfl) (.cons (.tmp rfl) (.ren rfl) (.nil))) rfl) <| .cons (.assign (lt1 rfl) (.tmp rfl)) <| ARun.nil _ _ _) ?_
  refine AWP.ret ?_
  obtain rfl := Option.some.inj h
  exact retJ (Res.vc (s' := ⟨[(2, .sc (.int .u64 y_1))], []⟩) (VC.sub (.c rfl <| .n _) (.n _)) (Res.drop rfl (Res.of rfl (.cons (.tmp rfl) (.nil)) rfl rfl)))
def m23_L1 (n : Nat) (a0 : Int) (k_25 : (List UInt8) → Option (List UInt8)) (nx_17 : (Int × (List UInt8)) → Option (List UInt8)) (x_16 : (Int × (List UInt8))) : Option (List UInt8) :=
  (if (decide (x_16.1 < (16 : Int))) = true then (asrt (0 ≤ (IntKind.wrap .i64 ((60 : Int) - (IntKind.wrap .i64 ((4 : Int) * x_16.1))))) ((getIdx ([48, 49, 50, 51, 52, 53, 54, 55, 56, 57, 97, 98, 99, 100, 101, 102] : List UInt8) (andI .u64 (shrI .u64 a0 (IntKind.wrap .i64 ((60 : Int) - (IntKind.wrap .i64 ((4 : Int) * x_16.1))))) (15 : Int))).bind fun c_19 => (asrt (x_16.2.length = 16) ((getIdx x_16.2 x_16.1).bind fun y_21 => ((setIdx x_16.2 x_16.1 c_19).bind fun l1_22 => (letM ((IntKind.wrap .i64 (x_16.1 + (1 : Int)))) fun t5_23 => (nx_17 (t5_23, l1_22)))))))) else (k_25 x_16.2))
def m23 (n : Nat) (a0 : Int) : Option (List UInt8) :=
  (letM ((List.replicate 16 (0 : UInt8))) fun l1_1 => (jn (fun p_24 : (List UInt8) => (asrt (p_24.length = 16) (some p_24))) fun k_25 => (loopM (m23_L1 n a0 k_25) n ((0 : Int), l1_1))))
theorem c23 (n : Nat) (a0 : Int) {r : (List UInt8)} (h : m23 n a0 = some r) : Spec Try.prog 23 [] [.sc (.int .u64 a0)] [] (.sc (.string (mkS r))) [] := by
  refine Spec.of (fn := Try.f23) Try.func23 Try.ntmps23 rfl rfl (le1 rfl) (fun w0 Zs Zb T0 ι0 => ?_)
  unfold m23 at h
  refine AWP.seq ?_
  refine AWP.region (.cons (.assign (lt1 rfl) (.const _ _ _)) <| ARun.nil _ _ _) ?_
  refine AWP.vc (s' := ⟨[(0, .sc (.int .u64 a0))], []⟩) (VC.sub (.c rfl <| .n _) (.n _)) ?_
  refine AWP.seq ?_
  obtain ⟨l1_1, hl1_1, h⟩ := letS h
  refine AWP.region (.cons (.alloc (t := 1) (k := ⟨48, true, (List.replicate 16 (0 : UInt8)).flatMap enc8⟩) (lt1 rfl) (nm rfl) zero48 rfl rfl) <| ARun.nil _ _ _) ?_
  refine AWP.vc (s' := ⟨[(0, .sc (.int .u64 a0)), (3, .ptr 1 0)], [(1, ⟨48, true, l1_1.flatMap enc8⟩)]⟩) (by subst hl1_1; exact VC.sub (.c rfl <| .c rfl <| .n _) (.c rfl <| .n _)) ?_
  refine AWP.seq ?_
  refine AWP.seq ?_
  refine AWP.region (.cons (.move (lt1 rfl) (.const _ _ _)) <| ARun.nil _ _ _) ?_
  refine AWP.vc (s' := ⟨[(0, .sc (.int .u64 a0)), (3, .ptr 1 0), (5, .sc (.int .i64 (0 : Int)))], [(1, ⟨48, true, l1_1.flatMap enc8⟩)]⟩) (VC.sub (.c rfl <| .c rfl <| .c rfl <| .n _) (.c rfl <| .n _)) ?_
  refine AWP.joinB' (S := fun p_24 : (List UInt8) => ⟨[(3, .ptr 1 0)], [(1, ⟨48, true, p_24.flatMap enc8⟩)]⟩) h (fun p_24 h => ?_) (fun k_25 h => ?_)
  · refine AWP.seq ?_
    obtain ⟨ha_26, h⟩ := asrtS h
    refine AWP.region (.cons (.slArr (lt1 rfl) (.tmp rfl) Try.underlying48 sz5 rfl enc8_len ha_26 (by decide)) <| .cons (.bytesStrOwn (lt1 rfl) (.tmp rfl) rfl rfl rfl Try.underlying22 Try.underlying5 Try.underlying9 rfl) <| .cons (.assign (lt1 rfl) (.tmp rfl)) <| ARun.nil _ _ _) ?_
    refine AWP.ret ?_
    obtain rfl := Option.some.inj h
    exact retJ (Res.vc (s' := ⟨[(2, .sc (.string (mkS p_24)))], []⟩) (VC.sub (.c rfl <| .n _) (.n _)) (Res.drop rfl (Res.of rfl (.cons (.tmp rfl) (.nil)) rfl rfl)))
  · refine AWP.vc (s' := ⟨[(0, .sc (.int .u64 a0)), (3, .ptr 1 0), (5, .sc (.int .i64 (0 : Int)))], [(1, ⟨48, true, l1_1.flatMap enc8⟩)]⟩) (VC.sub (.c rfl <| .c rfl <| .c rfl <| .n _) (.c rfl <| .n _)) ?_
    refine AWP.loopM (S := fun x_16 : Int × (List UInt8) => ⟨[(0, .sc (.int .u64 a0)), (3, .ptr 1 0), (5, .sc (.int .i64 x_16.1))], [(1, ⟨48, true, x_16.2.flatMap enc8⟩)]⟩) (x := ((0 : Int), l1_1)) (fun nx_17 x_16 h => ?_) h
    unfold m23_L1 at h
    refine AWP.seq ?_
    refine AWP.region (.cons (.lss (lt1 rfl) (.tmp rfl) (.const _ _ _)) <| ARun.nil _ _ _) ?_
    refine AWP.vc (s' := ⟨[(0, .sc (.int .u64 a0)), (3, .ptr 1 0), (5, .sc (.int .i64 x_16.1)), (6, .sc (.bool (decide (x_16.1 < (16 : Int)))))], [(1, ⟨48, true, x_16.2.flatMap enc8⟩)]⟩) (VC.sub (.c rfl <| .c rfl <| .c rfl <| .c rfl <| .n _) (.c rfl <| .n _)) ?_
    refine AWP.seq ?_
    refine AWP.cond (.tmp rfl) (fun hc => ?_) (fun hc => ?_)
    · have h := iteT hc h
      refine AWP.skip ?_
      refine AWP.seq ?_
      refine AWP.block ?_
      refine AWP.seq ?_
      refine AWP.region (.cons (.move (lt1 rfl) (.tmp rfl)) <| .cons (.assign (lt1 rfl) (.tmp rfl)) <| ARun.nil _ _ _) ?_
      refine AWP.vc (s' := ⟨[(0, .sc (.int .u64 a0)), (3, .ptr 1 0), (5, .sc (.int .i64 x_16.1)), (4, .sc (.int .i64 x_16.1))], [(1, ⟨48, true, x_16.2.flatMap enc8⟩)]⟩) (VC.sub (.c rfl <| .c rfl <| .c rfl <| .c rfl <| .n _) (.c rfl <| .n _)) ?_
      obtain ⟨ha_18, h⟩ := asrtS h
      obtain ⟨c_19, hc_19, h⟩ := bindS h
      obtain ⟨ha_20, h⟩ := asrtS h
      obtain ⟨y_21, hy_21, h⟩ := bindS h
      obtain ⟨l1_22, hl1_22, h⟩ := bindS h
      refine AWP.region (.cons (.move (lt1 rfl) (.tmp rfl)) <| .cons (.move (lt1 rfl) (.tmp rfl)) <| .cons (.move (lt1 rfl) (.tmp rfl)) <| .cons (.mul (lt1 rfl) (.const _ _ _) (.tmp rfl)) <| .cons (.sub (lt1 rfl) (.const _ _ _) (.tmp rfl)) <| .cons (.shr (lt1 rfl) (.tmp rfl) (.tmp rfl) ha_18) <| .cons (.band (lt1 rfl) (.tmp rfl) (.const _ _ _)) <| .cons (.indexS (lt1 rfl) (.const _ _ _) (.tmp rfl) Try.underlying9 hc_19) <| .cons (.idxArr (lt1 rfl) (.tmp rfl) (.tmp rfl) Try.underlying48 sz5 ha_20 hy_21) <| .cons (.storeP (.tmp rfl) (.tmp rfl) sz5 rfl (lt_at1 enc8_len hy_21) rfl (fun _ => rfl) (set_at1 enc8_len hl1_22 rfl)) <| ARun.nil _ _ _) ?_
      refine AWP.vc (s' := ⟨[(0, .sc (.int .u64 a0)), (3, .ptr 1 0), (5, .sc (.int .i64 x_16.1))], [(1, ⟨48, true, l1_22.flatMap enc8⟩)]⟩) (VC.sub (.c rfl <| .c rfl <| .c rfl <| .n _) (.c rfl <| .n _)) ?_
      obtain ⟨t5_23, ht5_23, h⟩ := letS h
      refine AWP.region (.cons (.add (lt1 rfl) (.tmp rfl) (.const _ _ _)) <| .cons (.move (lt1 rfl) (.tmp rfl)) <| ARun.nil _ _ _) ?_
      exact endJ (t5_23, l1_22) h (by subst ht5_23; exact VC.sub (.c rfl <| .c rfl <| .c rfl <| .n _) (.c rfl <| .n _))
    · have h := iteF hc h
      refine AWP.exit ?_
      exact endJ x_16.2 h (VC.sub (.c rfl <| .n _) (.c rfl <| .n _))
def m25_L1 (n : Nat) (a0 : Int) (k_23 : (List UInt8) → Option (List UInt8)) (nx_16 : (Int × (List UInt8)) → Option (List UInt8)) (x_15 : (Int × (List UInt8))) : Option (List UInt8) :=
  (if (decide (x_15.1 < (8 : Int))) = true then (asrt (0 ≤ (IntKind.wrap .i64 ((56 : Int) - (IntKind.wrap .i64 ((8 : Int) * x_15.1))))) (asrt (x_15.2.length = 8) ((getIdx x_15.2 x_15.1).bind fun y_19 => ((setIdx x_15.2 x_15.1 (b8 (IntKind.wrap .u8 (shrI .u64 a0 (IntKind.wrap .i64 ((56 : Int) - (IntKind.wrap .i64 ((8 : Int) * x_15.1)))))))).bind fun l2_20 => (letM ((IntKind.wrap .i64 (x_15.1 + (1 : Int)))) fun t5_21 => (nx_16 (t5_21, l2_20))))))) else (k_23 x_15.2))
def m25 (n : Nat) (a0 : Int) : Option (List UInt8) :=
  (letM ((List.replicate 8 (0 : UInt8))) fun l1_1 => (letM ((List.replicate 8 (0 : UInt8))) fun l2_2 => (jn (fun p_22 : (List UInt8) => (asrt (p_22.length = 8) (asrt (l1_1.length = 8) (asrt (p_22.length = 8) (asrt (p_22.length = 8) (some p_22)))))) fun k_23 => (loopM (m25_L1 n a0 k_23) n ((0 : Int), l2_2)))))
theorem c25 (n : Nat) (a0 : Int) {r : (List UInt8)} (h : m25 n a0 = some r) : Spec Try.prog 25 [] [.sc (.int .u64 a0)] [] (.agg (r.flatMap enc8)) [] := by
  refine Spec.of (fn := Try.f25) Try.func25 Try.ntmps25 rfl rfl (le1 rfl) (fun w0 Zs Zb T0 ι0 => ?_)
  unfold m25 at h
  refine AWP.seq ?_
  obtain ⟨l1_1, hl1_1, h⟩ := letS h
  refine AWP.region (.cons (.alloc (t := 1) (k := ⟨45, true, (List.replicate 8 (0 : UInt8)).flatMap enc8⟩) (lt1 rfl) (nm rfl) zero45 rfl rfl) <| ARun.nil _ _ _) ?_
  refine AWP.vc (s' := ⟨[(0, .sc (.int .u64 a0)), (2, .ptr 1 0)], [(1, ⟨45, true, l1_1.flatMap enc8⟩)]⟩) (by subst hl1_1; exact VC.sub (.c rfl <| .c rfl <| .n _) (.c rfl <| .n _)) ?_
  refine AWP.seq ?_
  obtain ⟨l2_2, hl2_2, h⟩ := letS h
  refine AWP.region (.cons (.alloc (t := 2) (k := ⟨45, true, (List.replicate 8 (0 : UInt8)).flatMap enc8⟩) (lt1 rfl) (nm rfl) zero45 rfl rfl) <| ARun.nil _ _ _) ?_
  refine AWP.vc (s' := ⟨[(0, .sc (.int .u64 a0)), (2, .ptr 1 0), (3, .ptr 2 0)], [(2, ⟨45, true, l2_2.flatMap enc8⟩), (1, ⟨45, true, l1_1.flatMap enc8⟩)]⟩) (by subst hl2_2; exact VC.sub (.c rfl <| .c rfl <| .c rfl <| .n _) (.c rfl <| .c rfl <| .n _)) ?_
  refine AWP.seq ?_
  refine AWP.seq ?_
  refine AWP.region (.cons (.move (lt1 rfl) (.const _ _ _)) <| ARun.nil _ _ _) ?_
  refine AWP.vc (s' := ⟨[(0, .sc (.int .u64 a0)), (2, .ptr 1 0), (3, .ptr 2 0), (5, .sc (.int .i64 (0 : Int)))], [(2, ⟨45, true, l2_2.flatMap enc8⟩), (1, ⟨45, true, l1_1.flatMap enc8⟩)]⟩) (VC.sub (.c rfl <| .c rfl <| .c rfl <| .c rfl <| .n _) (.c rfl <| .c rfl <| .n _)) ?_
  refine AWP.joinB' (S := fun p_22 : (List UInt8) => ⟨[(2, .ptr 1 0), (3, .ptr 2 0)], [(1, ⟨45, true, l1_1.flatMap enc8⟩), (2, ⟨45, true, p_22.flatMap enc8⟩)]⟩) h (fun p_22 h => ?_) (fun k_23 h => ?_)
  · refine AWP.seq ?_
    obtain ⟨ha_24, h⟩ := asrtS h
    obtain ⟨ha_25, h⟩ := asrtS h
    obtain ⟨ha_26, h⟩ := asrtS h
    refine AWP.region (.cons (.loadPA (lt1 rfl) (.tmp rfl) agg45 rfl (take_all (n := 8) enc8_len ha_24) (len_all (n := 8) enc8_len ha_24) (out_all enc8_still _)) <| .cons (.storePA (.tmp rfl) (.tmp rfl) sz45 (len_all (n := 8) enc8_len ha_26) rfl (len_le (n := 8) enc8_len ha_25) (one_all enc8_one _) (fun _ => still_all enc8_still _) (splL_all enc8_len ha_25 ha_26)) <| ARun.nil _ _ _) ?_
    refine AWP.ret ?_
    obtain ⟨ha_27, h⟩ := asrtS h
    obtain rfl := Option.some.inj h
    exact retJ (Res.vc (s' := ⟨[(2, .ptr 1 0)], [(1, ⟨45, true, p_22.flatMap enc8⟩)]⟩) (VC.sub (.c rfl <| .n _) (.c rfl <| .n _)) (Res.drop (tag_all enc8_still _) (Res.of rfl (.cons (.cell rfl agg45 rfl (take_all (n := 8) enc8_len ha_27) (len_all (n := 8) enc8_len ha_27) (out_all enc8_still _)) (.nil)) rfl rfl)))
  · refine AWP.vc (s' := ⟨[(0, .sc (.int .u64 a0)), (2, .ptr 1 0), (3, .ptr 2 0), (5, .sc (.int .i64 (0 : Int)))], [(1, ⟨45, true, l1_1.flatMap enc8⟩), (2, ⟨45, true, l2_2.flatMap enc8⟩)]⟩) (VC.sub (.c rfl <| .c rfl <| .c rfl <| .c rfl <| .n _) (.c rfl <| .c rfl <| .n _)) ?_
    refine AWP.loopM (S := fun x_15 : Int × (List UInt8) => ⟨[(0, .sc (.int .u64 a0)), (2, .ptr 1 0), (3, .ptr 2 0), (5, .sc (.int .i64 x_15.1))], [(1, ⟨45, true, l1_1.flatMap enc8⟩), (2, ⟨45, true, x_15.2.flatMap enc8⟩)]⟩) (x := ((0 : Int), l2_2)) (fun nx_16 x_15 h => ?_) h
    unfold m25_L1 at h
    refine AWP.seq ?_
    refine AWP.region (.cons (.lss (lt1 rfl) (.tmp rfl) (.const _ _ _)) <| ARun.nil _ _ _) ?_
    refine AWP.vc (s' := ⟨[(0, .sc (.int .u64 a0)), (2, .ptr 1 0), (3, .ptr 2 0), (5, .sc (.int .i64 x_15.1)), (6, .sc (.bool (decide (x_15.1 < (8 : Int)))))], [(1, ⟨45, true, l1_1.flatMap enc8⟩), (2, ⟨45, true, x_15.2.flatMap enc8⟩)]⟩) (VC.sub (.c rfl <| .c rfl <| .c rfl <| .c rfl <| .c rfl <| .n _) (.c rfl <| .c rfl <| .n _)) ?_
    refine AWP.seq ?_
    refine AWP.cond (.tmp rfl) (fun hc => ?_) (fun hc => ?_)
    · have h := iteT hc h
      refine AWP.skip ?_
      refine AWP.seq ?_
      refine AWP.block ?_
      refine AWP.seq ?_
      refine AWP.region (.cons (.move (lt1 rfl) (.tmp rfl)) <| .cons (.assign (lt1 rfl) (.tmp rfl)) <| ARun.nil _ _ _) ?_
      refine AWP.vc (s' := ⟨[(0, .sc (.int .u64 a0)), (2, .ptr 1 0), (3, .ptr 2 0), (5, .sc (.int .i64 x_15.1)), (4, .sc (.int .i64 x_15.1))], [(1, ⟨45, true, l1_1.flatMap enc8⟩), (2, ⟨45, true, x_15.2.flatMap enc8⟩)]⟩) (VC.sub (.c rfl <| .c rfl <| .c rfl <| .c rfl <| .c rfl <| .n _) (.c rfl <| .c rfl <| .n _)) ?_
      obtain ⟨ha_17, h⟩ := asrtS h
      obtain ⟨ha_18, h⟩ := asrtS h
      obtain ⟨y_19, hy_19, h⟩ := bindS h
      obtain ⟨l2_20, hl2_20, h⟩ := bindS h
      refine AWP.region (.cons (.move (lt1 rfl) (.tmp rfl)) <| .cons (.move (lt1 rfl) (.tmp rfl)) <| .cons (.move (lt1 rfl) (.tmp rfl)) <| .cons (.mul (lt1 rfl) (.const _ _ _) (.tmp rfl)) <| .cons (.sub (lt1 rfl) (.const _ _ _) (.tmp rfl)) <| .cons (.shr (lt1 rfl) (.tmp rfl) (.tmp rfl) ha_17) <| .cons (.conv (lt1 rfl) (.tmp rfl) Try.underlying23 Try.underlying5) <| .cons (.idxArr (lt1 rfl) (.tmp rfl) (.tmp rfl) Try.underlying45 sz5 ha_18 hy_19) <| .cons (.storeP (.tmp rfl) (.tmp rfl) sz5 rfl (lt_at1 enc8_len hy_19) rfl (fun _ => rfl) (set_at1 enc8_len hl2_20 (enc8_wrap _))) <| ARun.nil _ _ _) ?_
      refine AWP.vc (s' := ⟨[(0, .sc (.int .u64 a0)), (2, .ptr 1 0), (3, .ptr 2 0), (5, .sc (.int .i64 x_15.1))], [(1, ⟨45, true, l1_1.flatMap enc8⟩), (2, ⟨45, true, l2_20.flatMap enc8⟩)]⟩) (VC.sub (.c rfl <| .c rfl <| .c rfl <| .c rfl <| .n _) (.c rfl <| .c rfl <| .n _)) ?_
      obtain ⟨t5_21, ht5_21, h⟩ := letS h
      refine AWP.region (.cons (.add (lt1 rfl) (.tmp rfl) (.const _ _ _)) <| .cons (.move (lt1 rfl) (.tmp rfl)) <| ARun.nil _ _ _) ?_
      exact endJ (t5_21, l2_20) h (by subst ht5_21; exact VC.sub (.c rfl <| .c rfl <| .c rfl <| .c rfl <| .n _) (.c rfl <| .c rfl <| .n _))
    · have h := iteF hc h
      refine AWP.exit ?_
      exact endJ x_15.2 h (VC.sub (.c rfl <| .c rfl <| .n _) (.c rfl <| .c rfl <| .n _))
def m19 (n : Nat) (a0 : (List UInt8)) : Option (List UInt8) :=
  ((m12 n a0).bind fun y_1 => ((m25 n y_1).bind fun y_2 => (asrt (y_2.length = 8) ((mk (0 : UInt8) (0 : Int) (IntKind.wrap .i64 ((a0.length : Int) + (8 : Int)))).bind fun l2_4 => ((apd l2_4 a0).bind fun l2_5 => (asrt (y_2.length = 8) ((apd l2_5 y_2).bind fun l2_7 => (some l2_7))))))))
theorem c19 {β1 : Bool} (n : Nat) (a0 : (List UInt8)) {r : (List UInt8)} (h : m19 n a0 = some r) : Spec Try.prog 19 [] [.rd β1 a0.length (a0.flatMap enc8)] [] (.rd false r.length (r.flatMap enc8)) [] := by
  refine Spec.of (fn := Try.f19) Try.func19 Try.ntmps19 rfl rfl (le1 rfl) (fun w0 Zs Zb T0 ι0 => ?_)
  unfold m19 at h
  refine AWP.seq ?_
  refine AWP.region (.cons (.assign (lt1 rfl) (.const _ _ _)) <| ARun.nil _ _ _) ?_
  refine AWP.vc (s' := ⟨[(0, .rd β1 a0.length (a0.flatMap enc8))], []⟩) (VC.sub (.c rfl <| .n _) (.n _)) ?_
  refine AWP.seq ?_
  obtain ⟨y_1, hy_1, h⟩ := bindS h
  obtain ⟨y_2, hy_2, h⟩ := bindS h
  obtain ⟨ha_3, h⟩ := asrtS h
  refine AWP.region (.cons (.move (lt1 rfl) (.tmp rfl)) <| .cons (.call0 (bw := false) (lt1 rfl) (c12 (β1 := β1) n a0 hy_1) (.cons (.tmp rfl) (.ren rfl) (.nil)) rfl) <| .cons (.call0 (bw := false) (lt1 rfl) (c25 n y_1 hy_2) (.cons (.tmp rfl) (.ren rfl) (.nil)) (tagc_all enc8_still _ _)) <| .cons (.alloc (t := 1) (k := ⟨45, true, (List.replicate 8 (0 : UInt8)).flatMap enc8⟩) (lt1 rfl) (nm rfl) zero45 rfl rfl) <| .cons (.storePA (.tmp rfl) (.tmp (lkNew rfl enc8_still rfl)) sz45 (len_all (n := 8) enc8_len ha_3) rfl (len_le (n := 8) enc8_len List.length_replicate) (one_all enc8_one _) (fun _ => still_all enc8_still _) (splL_all enc8_len List.length_replicate ha_3)) <| ARun.nil _ _ _) ?_
  refine AWP.vc (s' := ⟨[(0, .rd β1 a0.length (a0.flatMap enc8)), (3, .ptr 1 0)], [(1, ⟨45, true, y_2.flatMap enc8⟩)]⟩) (VC.sub (.c rfl <| .c rfl <| .n _) (.c rfl <| .n _)) ?_
  refine AWP.seq ?_
  obtain ⟨l2_4, hl2_4, h⟩ := bindS h
  obtain ⟨l2_5, hl2_5, h⟩ := bindS h
  obtain ⟨ha_6, h⟩ := asrtS h
  obtain ⟨l2_7, hl2_7, h⟩ := bindS h
  refine AWP.draw (s' := ⟨[(2, .own 2 1 0 l2_7.length)], [(2, ⟨5, true, l2_7.flatMap enc8⟩), (1, ⟨45, true, y_2.flatMap enc8⟩)]⟩) mixed [⟨0, .rd β1 a0.length (a0.flatMap enc8), none, []⟩, ⟨3, .ptr 1 0, none, []⟩, ⟨7, .rd β1 a0.length (a0.flatMap enc8), some 0, []⟩, ⟨8, .sc (.int .i64 (a0.length : Int)), some 1, []⟩, ⟨9, .sc (.int .i64 (IntKind.wrap .i64 ((a0.length : Int) + (8 : Int)))), some 2, []⟩, ⟨10, .own 2 1 0 l2_4.length, some 3, [5, 7]⟩, ⟨11, .rd β1 a0.length (a0.flatMap enc8), some 4, []⟩, ⟨12, .own 2 1 0 l2_5.length, some 5, [7]⟩, ⟨13, .own 1 1 0 y_2.length, some 6, []⟩, ⟨14, .own 2 1 0 l2_7.length, some 7, []⟩, ⟨2, .own 2 1 0 l2_7.length, some 8, []⟩] [⟨[0], 0, 3, some (7, .rd β1 a0.length (a0.flatMap enc8)), []⟩, ⟨[2], 0, 3, some (8, .sc (.int .i64 (a0.length : Int))), []⟩, ⟨[3], 0, 3, some (9, .sc (.int .i64 (IntKind.wrap .i64 ((a0.length : Int) + (8 : Int))))), []⟩, ⟨[4], 0, 0, some (10, .own 2 1 0 l2_4.length), [2]⟩, ⟨[0], 0, 3, some (11, .rd β1 a0.length (a0.flatMap enc8)), []⟩, ⟨[5, 6], 1, 1, some (12, .own 2 1 0 l2_5.length), [2]⟩, ⟨[1], 0, 2, some (13, .own 1 1 0 y_2.length), []⟩, ⟨[7, 8], 2, 2, some (14, .own 2 1 0 l2_7.length), [2]⟩, ⟨[9], 3, 3, some (2, .own 2 1 0 l2_7.length), []⟩] [3, 5, 7] [[(1, ⟨45, true, y_2.flatMap enc8⟩)], [(2, ⟨5, true, l2_4.flatMap enc8⟩), (1, ⟨45, true, y_2.flatMap enc8⟩)], [(2, ⟨5, true, l2_5.flatMap enc8⟩), (1, ⟨45, true, y_2.flatMap enc8⟩)], [(2, ⟨5, true, l2_7.flatMap enc8⟩), (1, ⟨45, true, y_2.flatMap enc8⟩)]] [[], [0], [0, 1], [0, 1, 2], [], [0, 1, 2, 3, 4], [], [0, 1, 2, 3, 4, 5, 6], [0, 1, 2, 3, 4, 5, 6, 7]] (by kernel_rfl) (by kernel_rfl) (And.intro trivial (And.intro trivial (And.intro (Exists.intro _ (And.intro rfl rfl)) (And.intro (Exists.intro _ (And.intro rfl rfl)) (And.intro (Exists.intro _ (And.intro rfl rfl)) (And.intro (Exists.intro _ (And.intro rfl rfl)) (And.intro (Exists.intro _ (And.intro rfl rfl)) (And.intro (Exists.intro _ (And.intro rfl rfl)) (And.intro (Exists.intro _ (And.intro rfl rfl)) (And.intro (Exists.intro _ (And.intro rfl rfl)) (And.intro (Exists.intro _ (And.intro rfl rfl)) (trivial)))))))))))) (And.intro rfl (And.intro rfl (And.intro trivial (And.intro trivial (And.intro trivial (And.intro trivial (And.intro trivial (And.intro trivial (And.intro trivial (And.intro trivial (And.intro trivial (trivial)))))))))))) rfl (by decide) (allLt rfl) (.pure rfl (fun H => .put (fun E hE => .move (lt1 rfl) (.tmp (hE.at (k := 0) rfl)))) <| .pure rfl (fun H => .put (fun E hE => .lenRd (lt1 rfl) (.tmp (hE.at (k := 0) rfl)) Try.underlying22)) <| .pure rfl (fun H => .put (fun E hE => .add (lt1 rfl) (.tmp (hE.at (k := 0) rfl)) (.const _ _ _))) <| .turn rfl rfl rfl rfl rfl (.new (fun E hE => .mkS (enc := enc8) (t := 2) (lt1 rfl) (nm rfl) (.const _ _ _) (.tmp (hE.at (k := 0) rfl)) Try.underlying22 zero5 el5 rfl enc8_len (by decide) hl2_4) rfl) <| .pure rfl (fun H => .put (fun E hE => .move (lt1 rfl) (.tmp (hE.at (k := 0) rfl)))) <| .turn rfl rfl rfl rfl rfl (.new (fun E hE => .app (enc := enc8) (lt1 rfl) (nm rfl) (.tmp (hE.at (k := 0) rfl)) (Src.rd (.tmp (hE.at (k := 1) rfl)) (flatMap_length enc8_len _) (one_all enc8_one _) (.inr (scal_all enc8_scal _))) Try.underlying22 ⟨_, Try.underlying22, by intro k hk; cases hk⟩ el5 rfl enc8_len rfl rfl (by decide) hl2_5) rfl) <| .read rfl (.c (.put (fun E hE => .slArr (lt1 rfl) (.tmp (hE.at (k := 0) rfl)) Try.underlying45 sz5 rfl enc8_len ha_6 (by decide))) (.c (.put (fun E hE => .slArr (lt1 rfl) (.tmp (hE.at (k := 0) rfl)) Try.underlying45 sz5 rfl enc8_len ha_6 (by decide))) (.c (.put (fun E hE => .slArr (lt1 rfl) (.tmp (hE.at (k := 0) rfl)) Try.underlying45 sz5 rfl enc8_len ha_6 (by decide))) (.n)))) <| .turn rfl rfl rfl rfl rfl (.new (fun E hE => .app (enc := enc8) (lt1 rfl) (nm rfl) (.tmp (hE.at (k := 0) rfl)) (Src.own (.tmp (hE.at (k := 1) rfl)) rfl (lendAll enc8_len _) (flatMap_length enc8_len _) (one_all enc8_one _) (.inl rfl)) Try.underlying22 ⟨_, Try.underlying22, by intro k hk; cases hk⟩ el5 rfl enc8_len rfl rfl (by decide) hl2_7) rfl) <| .read rfl (.c (.put (fun E hE => .assign (lt1 rfl) (.tmp (hE.at (k := 0) rfl)))) (.n)) <| .nil _) (fun E hE => .c (DInv.at hE (k := 10) rfl rfl rfl) <| .n _) rfl ?_
  refine AWP.ret ?_
  obtain rfl := Option.some.inj h
  exact retJ (Res.vc (s' := ⟨[(2, .rd false l2_7.length (l2_7.flatMap enc8))], []⟩) (VC.trans (VC.frz (d := 2) (t := 2) rfl rfl enc8_len) (VC.sub (.c rfl <| .n _) (.n _))) (Res.drop rfl (Res.of rfl (.cons (.tmp rfl) (.nil)) rfl rfl)))
def m18 (n : Nat) (a0 : (List UInt8)) (a1 : (List UInt8)) : Option Bool :=
  (some (a0 == a1))
theorem c18 {β1 : Bool} {β2 : Bool} (n : Nat) (a0 : (List UInt8)) (a1 : (List UInt8)) {r : Bool} (h : m18 n a0 a1 = some r) : Spec Try.prog 18 [] [.rd β1 a0.length (a0.flatMap enc8), .rd β2 a1.length (a1.flatMap enc8)] [] (.sc (.bool r)) [] := by
  refine Spec.of (fn := Try.f18) Try.func18 Try.ntmps18 rfl rfl (le1 rfl) (fun w0 Zs Zb T0 ι0 => ?_)
  unfold m18 at h
  refine AWP.seq ?_
  refine AWP.region (.cons (.assign (lt1 rfl) (.const _ _ _)) <| ARun.nil _ _ _) ?_
  refine AWP.vc (s' := ⟨[(0, .rd β1 a0.length (a0.flatMap enc8)), (1, .rd β2 a1.length (a1.flatMap enc8))], []⟩) (VC.sub (.c rfl <| .c rfl <| .n _) (.n _)) ?_
  refine AWP.seq ?_
  refine AWP.region (.cons (.move (lt1 rfl) (.tmp rfl)) <| .cons (.bytesStr (lt1 rfl) (.tmp rfl) Try.underlying22 Try.underlying5 Try.underlying9 rfl) <| .cons (.move (lt1 rfl) (.tmp rfl)) <| .cons (.bytesStr (lt1 rfl) (.tmp rfl) Try.underlying22 Try.underlying5 Try.underlying9 rfl) <| .cons (.eqlS (lt1 rfl) (.tmp rfl) (.tmp rfl)) <| .cons (.assign (lt1 rfl) (.tmp rfl)) <| ARun.nil _ _ _) ?_
  refine AWP.ret ?_
  obtain rfl := Option.some.inj h
  exact retJ (Res.vc (s' := ⟨[(4, .sc (.bool (a0 == a1)))], []⟩) (VC.sub (.c rfl <| .n _) (.n _)) (Res.drop rfl (Res.of rfl (.cons (.tmp rfl) (.nil)) rfl rfl)))
def m10 (n : Nat) : Option Bool :=
  ((m12 n []).bind fun y_1 => ((gdO (decide (y_1 = (1 : Int))) (m23 n (1 : Int)) default).bind fun y_2 => ((gdO ((decide (y_1 = (1 : Int))) && (y_2 == ([48, 48, 48, 48, 48, 48, 48, 48, 48, 48, 48, 48, 48, 48, 48, 49] : List UInt8))) (m19 n []) default).bind fun y_3 => ((gdO ((decide (y_1 = (1 : Int))) && (y_2 == ([48, 48, 48, 48, 48, 48, 48, 48, 48, 48, 48, 48, 48, 48, 48, 49] : List UInt8))) (m18 n y_3 ([(0 : UInt8), (0 : UInt8), (0 : UInt8), (0 : UInt8), (0 : UInt8), (0 : UInt8), (0 : UInt8), (1 : UInt8)] : List UInt8)) default).bind fun y_4 => (some (((decide (y_1 = (1 : Int))) && (y_2 == ([48, 48, 48, 48, 48, 48, 48, 48, 48, 48, 48, 48, 48, 48, 48, 49] : List UInt8))) && y_4))))))
theorem c10 (n : Nat) {r : Bool} (h : m10 n = some r) : Spec Try.prog 10 [] [] [] (.sc (.bool r)) [] := by
  refine Spec.of (fn := Try.f10) Try.func10 Try.ntmps10 rfl rfl (le1 rfl) (fun w0 Zs Zb T0 ι0 => ?_)
  unfold m10 at h
  refine AWP.seq ?_
  refine AWP.region (.cons (.assign (lt1 rfl) (.const _ _ _)) <| ARun.nil _ _ _) ?_
  refine AWP.vc (s' := ⟨[], []⟩) (VC.sub (.n _) (.n _)) ?_
  refine AWP.seq ?_
  obtain ⟨y_1, hy_1, h⟩ := bindS h
  obtain ⟨y_2, hy_2, h⟩ := bindS h
  obtain ⟨y_3, hy_3, h⟩ := bindS h
  obtain ⟨y_4, hy_4, h⟩ := bindS h
  refine AWP.region (.cons (.call0 (bw := false) (lt1 rfl) (c12 (β1 := false) n [] hy_1) (.cons (.const _ _ _) (.nil) (.nil)) rfl) <| .cons (.eql (lt1 rfl) (.tmp rfl) (.const _ _ _)) <| .cons (.move (lt1 rfl) (.tmp rfl)) <| .guard (j := 2) (dj := 3) rfl (lt1 rfl) rfl (lt1 rfl) (fun hg => .call0 (bw := false) (lt1 rfl) (c23 n (1 : Int) (gdB hy_2 hg)) (.cons (.const _ _ _) (.ren rfl) (.nil)) rfl) <| .guard (j := 2) (dj := 3) rfl (lt1 rfl) rfl (lt1 rfl) (fun hg => .eqlS (lt1 rfl) (.gd hg (.tmp rfl)) (.const _ _ _)) <| .cons (.pickAnd (lt1 rfl) (.tmp rfl) (.tmp rfl) (.const _ _ _)) <| .cons (.move (lt1 rfl) (.tmp rfl)) <| .guard (j := 6) (dj := 7) rfl (lt1 rfl) rfl (lt1 rfl) (fun hg => .call0 (bw := false) (lt1 rfl) (c19 (β1 := false) n [] (gdB hy_3 hg)) (.cons (.const _ _ _) (.nil) (.nil)) rfl) <| .guard (j := 6) (dj := 7) rfl (lt1 rfl) rfl (lt1 rfl) (fun hg => .frzAny (fun t ht => AStep.buildSlice (t := t) (out := ([(0 : UInt8), (0 : UInt8), (0 : UInt8), (0 : UInt8), (0 : UInt8), (0 : UInt8), (0 : UInt8), (1 : UInt8)] : List UInt8).flatMap enc8) (lt1 rfl) ht (.cons (.const _ _ _) (by first | exact ⟨rfl, rfl⟩ | rfl) (.cons (.const _ _ _) (by first | exact ⟨rfl, rfl⟩ | rfl) (.cons (.const _ _ _) (by first | exact ⟨rfl, rfl⟩ | rfl) (.cons (.const _ _ _) (by first | exact ⟨rfl, rfl⟩ | rfl) (.cons (.const _ _ _) (by first | exact ⟨rfl, rfl⟩ | rfl) (.cons (.const _ _ _) (by first | exact ⟨rfl, rfl⟩ | rfl) (.cons (.const _ _ _) (by first | exact ⟨rfl, rfl⟩ | rfl) (.cons (.const _ _ _) (by first | exact ⟨rfl, rfl⟩ | rfl) (.nil))))))))) Try.underlying22 zero5 el5 (by decide) (by decide) rfl (still_all enc8_still _)) rfl enc8_len) <| .guard (j := 6) (dj := 7) rfl (lt1 rfl) rfl (lt1 rfl) (fun hg => .call0 (bw := false) (lt1 rfl) (c18 (β1 := false) (β2 := false) n y_3 ([(0 : UInt8), (0 : UInt8), (0 : UInt8), (0 : UInt8), (0 : UInt8), (0 : UInt8), (0 : UInt8), (1 : UInt8)] : List UInt8) (gdB hy_4 hg)) (.cons (.gd hg (.tmp rfl)) (.ren rfl) (.cons (.gd hg (.tmp rfl)) (.ren rfl) (.nil))) rfl) <| .cons (.pickAnd (lt1 rfl) (.tmp rfl) (.tmp rfl) (.const _ _ _)) <| .cons (.assign (lt1 rfl) (.tmp rfl)) <| ARun.nil _ _ _) ?_
  refine AWP.ret ?_
  obtain rfl := Option.some.inj h
  exact retJ (Res.vc (s' := ⟨[(0, .sc (.bool (((decide (y_1 = (1 : Int))) && (y_2 == ([48, 48, 48, 48, 48, 48, 48, 48, 48, 48, 48, 48, 48, 48, 48, 49] : List UInt8))) && y_4)))], []⟩) (VC.sub (.c rfl <| .n _) (.n _)) (Res.drop rfl (Res.of rfl (.cons (.tmp rfl) (.nil)) rfl rfl)))
def m11 (n : Nat) (a0 : (List UInt8)) : Option Bool :=
  (some (decide ((a0.length : Int) ≤ (400 : Int))))
theorem c11 {β1 : Bool} (n : Nat) (a0 : (List UInt8)) {r : Bool} (h : m11 n a0 = some r) : Spec Try.prog 11 [] [.rd β1 a0.length (a0.flatMap enc8)] [] (.sc (.bool r)) [] := by
  refine Spec.of (fn := Try.f11) Try.func11 Try.ntmps11 rfl rfl (le1 rfl) (fun w0 Zs Zb T0 ι0 => ?_)
  unfold m11 at h
  refine AWP.seq ?_
  refine AWP.region (.cons (.assign (lt1 rfl) (.const _ _ _)) <| ARun.nil _ _ _) ?_
  refine AWP.vc (s' := ⟨[(0, .rd β1 a0.length (a0.flatMap enc8))], []⟩) (VC.sub (.c rfl <| .n _) (.n _)) ?_
  refine AWP.seq ?_
  refine AWP.region (.cons (.move (lt1 rfl) (.tmp rfl)) <| .cons (.lenRd (lt1 rfl) (.tmp rfl) Try.underlying22) <| .cons (.leq (lt1 rfl) (.tmp rfl) (.const _ _ _)) <| .cons (.assign (lt1 rfl) (.tmp rfl)) <| ARun.nil _ _ _) ?_
  refine AWP.ret ?_
  obtain rfl := Option.some.inj h
  exact retJ (Res.vc (s' := ⟨[(2, .sc (.bool (decide ((a0.length : Int) ≤ (400 : Int)))))], []⟩) (VC.sub (.c rfl <| .n _) (.n _)) (Res.drop rfl (Res.of rfl (.cons (.tmp rfl) (.nil)) rfl rfl)))
def m15_L1 (n : Nat) (a1 : (List UInt8)) (k_18 : Int → Option Int) (nx_12 : (Int × Int) → Option Int) (x_11 : (Int × Int)) : Option Int :=
  (if (decide (x_11.2 < (a1.length : Int))) = true then ((getIdx a1 x_11.2).bind fun y_13 => (letM ((IntKind.wrap .u64 ((xorI .u64 x_11.1 (IntKind.wrap .u64 (y_13.toNat : Int))) * (11400714819323198485 : Int)))) fun t5_14 => (letM ((xorI .u64 t5_14 (shrI .u64 t5_14 (29 : Int)))) fun t5_15 => (letM ((IntKind.wrap .i64 (x_11.2 + (1 : Int)))) fun t6_16 => (nx_12 (t5_15, t6_16)))))) else (k_18 x_11.1))
def m15 (n : Nat) (a0 : Int) (a1 : (List UInt8)) : Option Int :=
  (jn (fun p_17 : Int => (some p_17)) fun k_18 => (loopM (m15_L1 n a1 k_18) n (a0, (0 : Int))))
theorem c15 {β1 : Bool} (n : Nat) (a0 : Int) (a1 : (List UInt8)) {r : Int} (h : m15 n a0 a1 = some r) : Spec Try.prog 15 [] [.sc (.int .u64 a0), .rd β1 a1.length (a1.flatMap enc8)] [] (.sc (.int .u64 r)) [] := by
  refine Spec.of (fn := Try.f15) Try.func15 Try.ntmps15 rfl rfl (le1 rfl) (fun w0 Zs Zb T0 ι0 => ?_)
  unfold m15 at h
  refine AWP.seq ?_
  refine AWP.region (.cons (.assign (lt1 rfl) (.const _ _ _)) <| ARun.nil _ _ _) ?_
  refine AWP.vc (s' := ⟨[(0, .sc (.int .u64 a0)), (1, .rd β1 a1.length (a1.flatMap enc8))], []⟩) (VC.sub (.c rfl <| .c rfl <| .n _) (.n _)) ?_
  refine AWP.seq ?_
  refine AWP.region (.cons (.move (lt1 rfl) (.tmp rfl)) <| .cons (.assign (lt1 rfl) (.tmp rfl)) <| ARun.nil _ _ _) ?_
  refine AWP.vc (s' := ⟨[(1, .rd β1 a1.length (a1.flatMap enc8)), (5, .sc (.int .u64 a0))], []⟩) (VC.sub (.c rfl <| .c rfl <| .n _) (.n _)) ?_
  refine AWP.seq ?_
  refine AWP.seq ?_
  refine AWP.region (.cons (.assign (lt1 rfl) (.const _ _ _)) <| ARun.nil _ _ _) ?_
  refine AWP.vc (s' := ⟨[(1, .rd β1 a1.length (a1.flatMap enc8)), (5, .sc (.int .u64 a0)), (6, .sc (.int .i64 (0 : Int)))], []⟩) (VC.sub (.c rfl <| .c rfl <| .c rfl <| .n _) (.n _)) ?_
  refine AWP.joinB' (S := fun p_17 : Int => ⟨[(5, .sc (.int .u64 p_17))], []⟩) h (fun p_17 h => ?_) (fun k_18 h => ?_)
  · refine AWP.seq ?_
    refine AWP.region (.cons (.move (lt1 rfl) (.tmp rfl)) <| .cons (.assign (lt1 rfl) (.tmp rfl)) <| ARun.nil _ _ _) ?_
    refine AWP.ret ?_
    obtain rfl := Option.some.inj h
    exact retJ (Res.vc (s' := ⟨[(4, .sc (.int .u64 p_17))], []⟩) (VC.sub (.c rfl <| .n _) (.n _)) (Res.drop rfl (Res.of rfl (.cons (.tmp rfl) (.nil)) rfl rfl)))
  · refine AWP.vc (s' := ⟨[(1, .rd β1 a1.length (a1.flatMap enc8)), (5, .sc (.int .u64 a0)), (6, .sc (.int .i64 (0 : Int)))], []⟩) (VC.sub (.c rfl <| .c rfl <| .c rfl <| .n _) (.n _)) ?_
    refine AWP.loopM (S := fun x_11 : Int × Int => ⟨[(1, .rd β1 a1.length (a1.flatMap enc8)), (5, .sc (.int .u64 x_11.1)), (6, .sc (.int .i64 x_11.2))], []⟩) (x := (a0, (0 : Int))) (fun nx_12 x_11 h => ?_) h
    unfold m15_L1 at h
    refine AWP.seq ?_
    refine AWP.seq ?_
    refine AWP.region (.cons (.move (lt1 rfl) (.tmp rfl)) <| .cons (.move (lt1 rfl) (.tmp rfl)) <| .cons (.lenRd (lt1 rfl) (.tmp rfl) Try.underlying22) <| .cons (.lss (lt1 rfl) (.tmp rfl) (.tmp rfl)) <| ARun.nil _ _ _) ?_
    refine AWP.vc (s' := ⟨[(1, .rd β1 a1.length (a1.flatMap enc8)), (5, .sc (.int .u64 x_11.1)), (6, .sc (.int .i64 x_11.2)), (11, .sc (.bool (decide (x_11.2 < (a1.length : Int)))))], []⟩) (VC.sub (.c rfl <| .c rfl <| .c rfl <| .c rfl <| .n _) (.n _)) ?_
    refine AWP.cond (.tmp rfl) (fun hc => ?_) (fun hc => ?_)
    · have h := iteT hc h
      refine AWP.skip ?_
      refine AWP.seq ?_
      refine AWP.block ?_
      refine AWP.seq ?_
      obtain ⟨y_13, hy_13, h⟩ := bindS h
      obtain ⟨t5_14, ht5_14, h⟩ := letS h
      refine AWP.region (.cons (.move (lt1 rfl) (.tmp rfl)) <| .cons (.move (lt1 rfl) (.tmp rfl)) <| .cons (.move (lt1 rfl) (.tmp rfl)) <| .cons (.indexRd (enc := enc8) (lt1 rfl) (.tmp rfl) (.tmp rfl) Try.underlying22 sz5 enc8_len rfl hy_13) <| .cons (.loadR (lt1 rfl) (.tmp rfl) one5 rfl) <| .cons (.conv (lt1 rfl) (.tmp rfl) Try.underlying5 Try.underlying23) <| .cons (.bxor (lt1 rfl) (.tmp rfl) (.tmp rfl)) <| .cons (.mul (lt1 rfl) (.tmp rfl) (.const _ _ _)) <| .cons (.assign (lt1 rfl) (.tmp rfl)) <| ARun.nil _ _ _) ?_
      refine AWP.vc (s' := ⟨[(1, .rd β1 a1.length (a1.flatMap enc8)), (5, .sc (.int .u64 t5_14)), (6, .sc (.int .i64 x_11.2))], []⟩) (by subst ht5_14; exact VC.sub (.c rfl <| .c rfl <| .c rfl <| .n _) (.n _)) ?_
      obtain ⟨t5_15, ht5_15, h⟩ := letS h
      refine AWP.region (.cons (.move (lt1 rfl) (.tmp rfl)) <| .cons (.move (lt1 rfl) (.tmp rfl)) <| .cons (.shr (lt1 rfl) (.tmp rfl) (.const _ _ _) (by decide)) <| .cons (.bxor (lt1 rfl) (.tmp rfl) (.tmp rfl)) <| .cons (.assign (lt1 rfl) (.tmp rfl)) <| ARun.nil _ _ _) ?_
      refine AWP.vc (s' := ⟨[(1, .rd β1 a1.length (a1.flatMap enc8)), (5, .sc (.int .u64 t5_15)), (6, .sc (.int .i64 x_11.2))], []⟩) (by subst ht5_15; exact VC.sub (.c rfl <| .c rfl <| .c rfl <| .n _) (.n _)) ?_
      obtain ⟨t6_16, ht6_16, h⟩ := letS h
      refine AWP.region (.cons (.move (lt1 rfl) (.tmp rfl)) <| .cons (.add (lt1 rfl) (.tmp rfl) (.const _ _ _)) <| .cons (.assign (lt1 rfl) (.tmp rfl)) <| ARun.nil _ _ _) ?_
      exact endJ (t5_15, t6_16) h (by subst ht6_16; exact VC.sub (.c rfl <| .c rfl <| .c rfl <| .n _) (.n _))
    · have h := iteF hc h
      refine AWP.exit ?_
      exact endJ x_11.1 h (VC.sub (.c rfl <| .n _) (.n _))
def m13 (n : Nat) (a0 : (List UInt8)) : Option Int :=
  ((m15 n (1 : Int) a0).bind fun y_1 => (some y_1))
theorem c13 {β1 : Bool} (n : Nat) (a0 : (List UInt8)) {r : Int} (h : m13 n a0 = some r) : Spec Try.prog 13 [] [.rd β1 a0.length (a0.flatMap enc8)] [] (.sc (.int .u64 r)) [] := by
  refine Spec.of (fn := Try.f13) Try.func13 Try.ntmps13 rfl rfl (le1 rfl) (fun w0 Zs Zb T0 ι0 => ?_)
  unfold m13 at h
  refine AWP.seq ?_
  refine AWP.region (.cons (.assign (lt1 rfl) (.const _ _ _)) <| ARun.nil _ _ _) ?_
  refine AWP.vc (s' := ⟨[(0, .rd β1 a0.length (a0.flatMap enc8))], []⟩) (VC.sub (.c rfl <| .n _) (.n _)) ?_
  refine AWP.seq ?_
  obtain ⟨y_1, hy_1, h⟩ := bindS h
  refine AWP.region (.cons (.move (lt1 rfl) (.tmp rfl)) <| .cons (.call0 (bw := false) (lt1 rfl) (c15 (β1 := β1) n (1 : Int) a0 hy_1) (.cons (.const _ _ _) (.ren rfl) (.cons (.tmp rfl) (.ren rfl) (.nil))) rfl) <| .cons (.assign (lt1 rfl) (.tmp rfl)) <| ARun.nil _ _ _) ?_
  refine AWP.ret ?_
  obtain rfl := Option.some.inj h
  exact retJ (Res.vc (s' := ⟨[(2, .sc (.int .u64 y_1))], []⟩) (VC.sub (.c rfl <| .n _) (.n _)) (Res.drop rfl (Res.of rfl (.cons (.tmp rfl) (.nil)) rfl rfl)))
def m3 (n : Nat) (a0 : (List UInt8)) (a1 : Int) : Option Bool :=
  ((m10 n).bind fun y_1 => (if (!y_1) = true then (some false) else ((m11 n a0).bind fun y_2 => (if (!y_2) = true then (some true) else ((m12 n a0).bind fun y_3 => ((m13 n a0).bind fun y_4 => ((gdO (decide (y_3 = y_4)) (m14 n a1 a0) default).bind fun y_5 => ((gdO (decide (y_3 = y_4)) (m15 n a1 a0) default).bind fun y_6 => (some ((decide (y_3 = y_4)) && (decide (y_5 = y_6))))))))))))
theorem c3 {β1 : Bool} (n : Nat) (a0 : (List UInt8)) (a1 : Int) {r : Bool} (h : m3 n a0 a1 = some r) : Spec Try.prog 3 [] [.rd β1 a0.length (a0.flatMap enc8), .sc (.int .u64 a1)] [] (.sc (.bool r)) [] := by
  refine Spec.of (fn := Try.f3) Try.func3 Try.ntmps3 rfl rfl (le1 rfl) (fun w0 Zs Zb T0 ι0 => ?_)
  unfold m3 at h
  refine AWP.seq ?_
  refine AWP.region (.cons (.assign (lt1 rfl) (.const _ _ _)) <| ARun.nil _ _ _) ?_
  refine AWP.vc (s' := ⟨[(0, .rd β1 a0.length (a0.flatMap enc8)), (1, .sc (.int .u64 a1))], []⟩) (VC.sub (.c rfl <| .c rfl <| .n _) (.n _)) ?_
  refine AWP.seq ?_
  refine AWP.seq ?_
  obtain ⟨y_1, hy_1, h⟩ := bindS h
  refine AWP.region (.cons (.call0 (bw := false) (lt1 rfl) (c10 n hy_1) (.nil) rfl) <| .cons (.not (lt1 rfl) (.tmp rfl)) <| ARun.nil _ _ _) ?_
  refine AWP.vc (s' := ⟨[(0, .rd β1 a0.length (a0.flatMap enc8)), (1, .sc (.int .u64 a1)), (6, .sc (.bool (!y_1)))], []⟩) (VC.sub (.c rfl <| .c rfl <| .c rfl <| .n _) (.n _)) ?_
  refine AWP.cond (.tmp rfl) (fun hc => ?_) (fun hc => ?_)
  · have h := iteT hc h
    refine AWP.seq ?_
    refine AWP.region (.cons (.assign (lt1 rfl) (.const _ _ _)) <| ARun.nil _ _ _) ?_
    refine AWP.ret ?_
    obtain rfl := Option.some.inj h
    exact retJ (Res.vc (s' := ⟨[(4, .sc (.bool false))], []⟩) (VC.sub (.c rfl <| .n _) (.n _)) (Res.drop rfl (Res.of rfl (.cons (.tmp rfl) (.nil)) rfl rfl)))
  · have h := iteF hc h
    refine AWP.skip ?_
    refine AWP.seq ?_
    refine AWP.seq ?_
    obtain ⟨y_2, hy_2, h⟩ := bindS h
    refine AWP.region (.cons (.move (lt1 rfl) (.tmp rfl)) <| .cons (.call0 (bw := false) (lt1 rfl) (c11 (β1 := β1) n a0 hy_2) (.cons (.tmp rfl) (.ren rfl) (.nil)) rfl) <| .cons (.not (lt1 rfl) (.tmp rfl)) <| ARun.nil _ _ _) ?_
    refine AWP.vc (s' := ⟨[(0, .rd β1 a0.length (a0.flatMap enc8)), (1, .sc (.int .u64 a1)), (9, .sc (.bool (!y_2)))], []⟩) (VC.sub (.c rfl <| .c rfl <| .c rfl <| .n _) (.n _)) ?_
    refine AWP.cond (.tmp rfl) (fun hc => ?_) (fun hc => ?_)
    · have h := iteT hc h
      refine AWP.seq ?_
      refine AWP.region (.cons (.assign (lt1 rfl) (.const _ _ _)) <| ARun.nil _ _ _) ?_
      refine AWP.ret ?_
      obtain rfl := Option.some.inj h
      exact retJ (Res.vc (s' := ⟨[(4, .sc (.bool true))], []⟩) (VC.sub (.c rfl <| .n _) (.n _)) (Res.drop rfl (Res.of rfl (.cons (.tmp rfl) (.nil)) rfl rfl)))
    · have h := iteF hc h
      refine AWP.skip ?_
      refine AWP.seq ?_
      obtain ⟨y_3, hy_3, h⟩ := bindS h
      obtain ⟨y_4, hy_4, h⟩ := bindS h
      obtain ⟨y_5, hy_5, h⟩ := bindS h
      obtain ⟨y_6, hy_6, h⟩ := bindS h
      refine AWP.region (.cons (.move (lt1 rfl) (.tmp rfl)) <| .cons (.call0 (bw := false) (lt1 rfl) (c12 (β1 := β1) n a0 hy_3) (.cons (.tmp rfl) (.ren rfl) (.nil)) rfl) <| .cons (.move (lt1 rfl) (.tmp rfl)) <| .cons (.call0 (bw := false) (lt1 rfl) (c13 (β1 := β1) n a0 hy_4) (.cons (.tmp rfl) (.ren rfl) (.nil)) rfl) <| .cons (.eql (lt1 rfl) (.tmp rfl) (.tmp rfl)) <| .cons (.move (lt1 rfl) (.tmp rfl)) <| .guard (j := 5) (dj := 15) rfl (lt1 rfl) rfl (lt1 rfl) (fun hg => .move (lt1 rfl) (.tmp rfl)) <| .guard (j := 5) (dj := 15) rfl (lt1 rfl) rfl (lt1 rfl) (fun hg => .move (lt1 rfl) (.tmp rfl)) <| .guard (j := 5) (dj := 15) rfl (lt1 rfl) rfl (lt1 rfl) (fun hg => .call0 (bw := false) (lt1 rfl) (c14 (β1 := β1) n a1 a0 (gdB hy_5 hg)) (.cons (.gd hg (.tmp rfl)) (.ren rfl) (.cons (.gd hg (.tmp rfl)) (.ren rfl) (.nil))) rfl) <| .guard (j := 5) (dj := 15) rfl (lt1 rfl) rfl (lt1 rfl) (fun hg => .move (lt1 rfl) (.tmp rfl)) <| .guard (j := 5) (dj := 15) rfl (lt1 rfl) rfl (lt1 rfl) (fun hg => .move (lt1 rfl) (.tmp rfl)) <| .guard (j := 5) (dj := 15) rfl (lt1 rfl) rfl (lt1 rfl) (fun hg => .call0 (bw := false) (lt1 rfl) (c15 (β1 := β1) n a1 a0 (gdB hy_6 hg)) (.cons (.gd hg (.tmp rfl)) (.ren rfl) (.cons (.gd hg (.tmp rfl)) (.ren rfl) (.nil))) rfl) <| .guard (j := 5) (dj := 15) rfl (lt1 rfl) rfl (lt1 rfl) (fun hg => .eql (lt1 rfl) (.gd hg (.tmp rfl)) (.gd hg (.tmp rfl))) <| .cons (.pickAnd (lt1 rfl) (.tmp rfl) (.tmp rfl) (.const _ _ _)) <| .cons (.assign (lt1 rfl) (.tmp rfl)) <| ARun.nil _ _ _) ?_
      refine AWP.ret ?_
      obtain rfl := Option.some.inj h
      exact retJ (Res.vc (s' := ⟨[(4, .sc (.bool ((decide (y_3 = y_4)) && (decide (y_5 = y_6)))))], []⟩) (VC.sub (.c rfl <| .n _) (.n _)) (Res.drop rfl (Res.of rfl (.cons (.tmp rfl) (.nil)) rfl rfl)))
def m4 (n : Nat) (a0 : Int) (a1 : (List UInt8)) (a2 : (List UInt8)) : Option Bool :=
  ((m10 n).bind fun y_1 => (if (!y_1) = true then (some false) else ((m11 n a1).bind fun y_2 => ((gdO (!(!y_2)) (m11 n a2) default).bind fun y_3 => (if ((!y_2) || (!y_3)) = true then (some true) else ((apd ([] : List UInt8) a1).bind fun l1_4 => ((apd l1_4 a2).bind fun l1_5 => ((m14 n a0 a1).bind fun y_6 => ((m14 n y_6 a2).bind fun y_7 => ((m14 n a0 l1_5).bind fun y_8 => ((gdO (decide (y_7 = y_8)) (m14 n a0 []) default).bind fun y_9 => ((gdO ((decide (y_7 = y_8)) && (decide (y_9 = a0))) (m12 n l1_5) default).bind fun y_10 => ((gdO ((decide (y_7 = y_8)) && (decide (y_9 = a0))) (m12 n a1) default).bind fun y_11 => ((gdO ((decide (y_7 = y_8)) && (decide (y_9 = a0))) (m14 n y_11 a2) default).bind fun y_12 => (some (((decide (y_7 = y_8)) && (decide (y_9 = a0))) && (decide (y_10 = y_12))))))))))))))))))
theorem c4 {β1 : Bool} {β2 : Bool} (n : Nat) (a0 : Int) (a1 : (List UInt8)) (a2 : (List UInt8)) {r : Bool} (h : m4 n a0 a1 a2 = some r) : Spec Try.prog 4 [] [.sc (.int .u64 a0), .rd β1 a1.length (a1.flatMap enc8), .rd β2 a2.length (a2.flatMap enc8)] [] (.sc (.bool r)) [] := by
  refine Spec.of (fn := Try.f4) Try.func4 Try.ntmps4 rfl rfl (le1 rfl) (fun w0 Zs Zb T0 ι0 => ?_)
  unfold m4 at h
  refine AWP.seq ?_
  refine AWP.region (.cons (.assign (lt1 rfl) (.const _ _ _)) <| ARun.nil _ _ _) ?_
  refine AWP.vc (s' := ⟨[(0, .sc (.int .u64 a0)), (1, .rd β1 a1.length (a1.flatMap enc8)), (2, .rd β2 a2.length (a2.flatMap enc8))], []⟩) (VC.sub (.c rfl <| .c rfl <| .c rfl <| .n _) (.n _)) ?_
  refine AWP.seq ?_
  refine AWP.seq ?_
  obtain ⟨y_1, hy_1, h⟩ := bindS h
  refine AWP.region (.cons (.call0 (bw := false) (lt1 rfl) (c10 n hy_1) (.nil) rfl) <| .cons (.not (lt1 rfl) (.tmp rfl)) <| ARun.nil _ _ _) ?_
  refine AWP.vc (s' := ⟨[(0, .sc (.int .u64 a0)), (1, .rd β1 a1.length (a1.flatMap enc8)), (2, .rd β2 a2.length (a2.flatMap enc8)), (9, .sc (.bool (!y_1)))], []⟩) (VC.sub (.c rfl <| .c rfl <| .c rfl <| .c rfl <| .n _) (.n _)) ?_
  refine AWP.cond (.tmp rfl) (fun hc => ?_) (fun hc => ?_)
  · have h := iteT hc h
    refine AWP.seq ?_
    refine AWP.region (.cons (.assign (lt1 rfl) (.const _ _ _)) <| ARun.nil _ _ _) ?_
    refine AWP.ret ?_
    obtain rfl := Option.some.inj h
    exact retJ (Res.vc (s' := ⟨[(6, .sc (.bool false))], []⟩) (VC.sub (.c rfl <| .n _) (.n _)) (Res.drop rfl (Res.of rfl (.cons (.tmp rfl) (.nil)) rfl rfl)))
  · have h := iteF hc h
    refine AWP.skip ?_
    refine AWP.seq ?_
    refine AWP.seq ?_
    obtain ⟨y_2, hy_2, h⟩ := bindS h
    obtain ⟨y_3, hy_3, h⟩ := bindS h
    refine AWP.region (.cons (.move (lt1 rfl) (.tmp rfl)) <| .cons (.call0 (bw := false) (lt1 rfl) (c11 (β1 := β1) n a1 hy_2) (.cons (.tmp rfl) (.ren rfl) (.nil)) rfl) <| .cons (.not (lt1 rfl) (.tmp rfl)) <| .cons (.move (lt1 rfl) (.tmp rfl)) <| .guard (j := 3) (dj := 13) rfl (lt1 rfl) rfl (lt1 rfl) (fun hg => .move (lt1 rfl) (.tmp rfl)) <| .guard (j := 3) (dj := 13) rfl (lt1 rfl) rfl (lt1 rfl) (fun hg => .call0 (bw := false) (lt1 rfl) (c11 (β1 := β2) n a2 (gdB hy_3 hg)) (.cons (.gd hg (.tmp rfl)) (.ren rfl) (.nil)) rfl) <| .guard (j := 3) (dj := 13) rfl (lt1 rfl) rfl (lt1 rfl) (fun hg => .not (lt1 rfl) (.gd hg (.tmp rfl))) <| .cons (.pickOr (lt1 rfl) (.tmp rfl) (.const _ _ _) (.tmp rfl)) <| ARun.nil _ _ _) ?_
    refine AWP.vc (s' := ⟨[(0, .sc (.int .u64 a0)), (1, .rd β1 a1.length (a1.flatMap enc8)), (2, .rd β2 a2.length (a2.flatMap enc8)), (17, .sc (.bool ((!y_2) || (!y_3))))], []⟩) (VC.sub (.c rfl <| .c rfl <| .c rfl <| .c rfl <| .n _) (.n _)) ?_
    refine AWP.cond (.tmp rfl) (fun hc => ?_) (fun hc => ?_)
    · have h := iteT hc h
      refine AWP.seq ?_
      refine AWP.region (.cons (.assign (lt1 rfl) (.const _ _ _)) <| ARun.nil _ _ _) ?_
      refine AWP.ret ?_
      obtain rfl := Option.some.inj h
      exact retJ (Res.vc (s' := ⟨[(6, .sc (.bool true))], []⟩) (VC.sub (.c rfl <| .n _) (.n _)) (Res.drop rfl (Res.of rfl (.cons (.tmp rfl) (.nil)) rfl rfl)))
    · have h := iteF hc h
      refine AWP.skip ?_
      refine AWP.seq ?_
      obtain ⟨l1_4, hl1_4, h⟩ := bindS h
      obtain ⟨l1_5, hl1_5, h⟩ := bindS h
      refine AWP.region (.cons (.buildSlice (t := 1) (out := ([] : List UInt8).flatMap enc8) (lt1 rfl) (nm rfl) (.nil) Try.underlying22 zero5 el5 (by decide) (by decide) rfl (still_all enc8_still _)) <| .cons (.move (lt1 rfl) (.tmp rfl)) <| .cons (.app (enc := enc8) (lt1 rfl) (nm rfl) (.tmp rfl) (Src.rd (.tmp rfl) (flatMap_length enc8_len _) (one_all enc8_one _) (.inr (scal_all enc8_scal _))) Try.underlying22 ⟨_, Try.underlying22, by intro k hk; cases hk⟩ el5 rfl enc8_len rfl rfl (by decide) hl1_4) <| .cons (.move (lt1 rfl) (.tmp rfl)) <| .cons (.app (enc := enc8) (lt1 rfl) (nm rfl) (.tmp rfl) (Src.rd (.tmp rfl) (flatMap_length enc8_len _) (one_all enc8_one _) (.inr (scal_all enc8_scal _))) Try.underlying22 ⟨_, Try.underlying22, by intro k hk; cases hk⟩ el5 rfl enc8_len rfl rfl (by decide) hl1_5) <| .cons (.assign (lt1 rfl) (.tmp rfl)) <| ARun.nil _ _ _) ?_
      refine AWP.vc (s' := ⟨[(0, .sc (.int .u64 a0)), (1, .rd β1 a1.length (a1.flatMap enc8)), (2, .rd β2 a2.length (a2.flatMap enc8)), (7, .own 1 1 0 l1_5.length)], [(1, ⟨5, true, l1_5.flatMap enc8⟩)]⟩) (VC.sub (.c rfl <| .c rfl <| .c rfl <| .c rfl <| .n _) (.c rfl <| .n _)) ?_
      refine AWP.seq ?_
      obtain ⟨y_6, hy_6, h⟩ := bindS h
      obtain ⟨y_7, hy_7, h⟩ := bindS h
      obtain ⟨y_8, hy_8, h⟩ := bindS h
      obtain ⟨y_9, hy_9, h⟩ := bindS h
      obtain ⟨y_10, hy_10, h⟩ := bindS h
      obtain ⟨y_11, hy_11, h⟩ := bindS h
      obtain ⟨y_12, hy_12, h⟩ := bindS h
      refine AWP.region (.cons (.move (lt1 rfl) (.tmp rfl)) <| .cons (.move (lt1 rfl) (.tmp rfl)) <| .cons (.call0 (bw := false) (lt1 rfl) (c14 (β1 := β1) n a0 a1 hy_6) (.cons (.tmp rfl) (.ren rfl) (.cons (.tmp rfl) (.ren rfl) (.nil))) rfl) <| .cons (.move (lt1 rfl) (.tmp rfl)) <| .cons (.call0 (bw := false) (lt1 rfl) (c14 (β1 := β2) n y_6 a2 hy_7) (.cons (.tmp rfl) (.ren rfl) (.cons (.tmp rfl) (.ren rfl) (.nil))) rfl) <| .cons (.move (lt1 rfl) (.tmp rfl)) <| .cons (.move (lt1 rfl) (.tmp rfl)) <| .cons (.call0 (bw := true) (lt1 rfl) (c14 (β1 := true) n a0 l1_5 hy_8) (.cons (.tmp rfl) (.ren rfl) (.cons (.tmp rfl) (.lendRow rfl rfl enc8_len rfl) (.nil))) rfl) <| .cons (.eql (lt1 rfl) (.tmp rfl) (.tmp rfl)) <| .cons (.move (lt1 rfl) (.tmp rfl)) <| .guard (j := 9) (dj := 32) rfl (lt1 rfl) rfl (lt1 rfl) (fun hg => .move (lt1 rfl) (.tmp rfl)) <| .guard (j := 9) (dj := 32) rfl (lt1 rfl) rfl (lt1 rfl) (fun hg => .call0 (bw := false) (lt1 rfl) (c14 (β1 := false) n a0 [] (gdB hy_9 hg)) (.cons (.gd hg (.tmp rfl)) (.ren rfl) (.cons (.const _ _ _) (.nil) (.nil))) rfl) <| .guard (j := 9) (dj := 32) rfl (lt1 rfl) rfl (lt1 rfl) (fun hg => .move (lt1 rfl) (.tmp rfl)) <| .guard (j := 9) (dj := 32) rfl (lt1 rfl) rfl (lt1 rfl) (fun hg => .eql (lt1 rfl) (.gd hg (.tmp rfl)) (.gd hg (.tmp rfl))) <| .cons (.pickAnd (lt1 rfl) (.tmp rfl) (.tmp rfl) (.const _ _ _)) <| .cons (.move (lt1 rfl) (.tmp rfl)) <| .guard (j := 15) (dj := 38) rfl (lt1 rfl) rfl (lt1 rfl) (fun hg => .move (lt1 rfl) (.tmp rfl)) <| .guard (j := 15) (dj := 38) rfl (lt1 rfl) rfl (lt1 rfl) (fun hg => .call0 (bw := true) (lt1 rfl) (c12 (β1 := true) n l1_5 (gdB hy_10 hg)) (.cons (.gd hg (.tmp rfl)) (.lendRow rfl rfl enc8_len rfl) (.nil)) rfl) <| .guard (j := 15) (dj := 38) rfl (lt1 rfl) rfl (lt1 rfl) (fun hg => .move (lt1 rfl) (.tmp rfl)) <| .guard (j := 15) (dj := 38) rfl (lt1 rfl) rfl (lt1 rfl) (fun hg => .call0 (bw := false) (lt1 rfl) (c12 (β1 := β1) n a1 (gdB hy_11 hg)) (.cons (.gd hg (.tmp rfl)) (.ren rfl) (.nil)) rfl) <| .guard (j := 15) (dj := 38) rfl (lt1 rfl) rfl (lt1 rfl) (fun hg => .move (lt1 rfl) (.tmp rfl)) <| .guard (j := 15) (dj := 38) rfl (lt1 rfl) rfl (lt1 rfl) (fun hg => .call0 (bw := false) (lt1 rfl) (c14 (β1 := β2) n y_11 a2 (gdB hy_12 hg)) (.cons (.gd hg (.tmp rfl)) (.ren rfl) (.cons (.gd hg (.tmp rfl)) (.ren rfl) (.nil))) rfl) <| .guard (j := 15) (dj := 38) rfl (lt1 rfl) rfl (lt1 rfl) (fun hg => .eql (lt1 rfl) (.gd hg (.tmp rfl)) (.gd hg (.tmp rfl))) <| .cons (.pickAnd (lt1 rfl) (.tmp rfl) (.tmp rfl) (.const _ _ _)) <| .cons (.assign (lt1 rfl) (.tmp rfl)) <| ARun.nil _ _ _) ?_
      refine AWP.ret ?_
      obtain rfl := Option.some.inj h
      exact retJ (Res.vc (s' := ⟨[(6, .sc (.bool (((decide (y_7 = y_8)) && (decide (y_9 = a0))) && (decide (y_10 = y_12)))))], []⟩) (VC.sub (.c rfl <| .n _) (.n _)) (Res.drop rfl (Res.of rfl (.cons (.tmp rfl) (.nil)) rfl rfl)))
def m5 (n : Nat) (a0 : (List UInt8)) (a1 : Int) (a2 : Int) : Option Bool :=
  ((m10 n).bind fun y_1 => (if (!y_1) = true then (some false) else ((m11 n a0).bind fun y_2 => (if (!y_2) = true then (some true) else ((m14 n a1 a0).bind fun y_3 => ((m14 n a2 a0).bind fun y_4 => (some ((decide (y_3 = y_4)) == (decide (a1 = a2))))))))))
theorem c5 {β1 : Bool} (n : Nat) (a0 : (List UInt8)) (a1 : Int) (a2 : Int) {r : Bool} (h : m5 n a0 a1 a2 = some r) : Spec Try.prog 5 [] [.rd β1 a0.length (a0.flatMap enc8), .sc (.int .u64 a1), .sc (.int .u64 a2)] [] (.sc (.bool r)) [] := by
  refine Spec.of (fn := Try.f5) Try.func5 Try.ntmps5 rfl rfl (le1 rfl) (fun w0 Zs Zb T0 ι0 => ?_)
  unfold m5 at h
  refine AWP.seq ?_
  refine AWP.region (.cons (.assign (lt1 rfl) (.const _ _ _)) <| ARun.nil _ _ _) ?_
  refine AWP.vc (s' := ⟨[(0, .rd β1 a0.length (a0.flatMap enc8)), (1, .sc (.int .u64 a1)), (2, .sc (.int .u64 a2))], []⟩) (VC.sub (.c rfl <| .c rfl <| .c rfl <| .n _) (.n _)) ?_
  refine AWP.seq ?_
  refine AWP.seq ?_
  obtain ⟨y_1, hy_1, h⟩ := bindS h
  refine AWP.region (.cons (.call0 (bw := false) (lt1 rfl) (c10 n hy_1) (.nil) rfl) <| .cons (.not (lt1 rfl) (.tmp rfl)) <| ARun.nil _ _ _) ?_
  refine AWP.vc (s' := ⟨[(0, .rd β1 a0.length (a0.flatMap enc8)), (1, .sc (.int .u64 a1)), (2, .sc (.int .u64 a2)), (8, .sc (.bool (!y_1)))], []⟩) (VC.sub (.c rfl <| .c rfl <| .c rfl <| .c rfl <| .n _) (.n _)) ?_
  refine AWP.cond (.tmp rfl) (fun hc => ?_) (fun hc => ?_)
  · have h := iteT hc h
    refine AWP.seq ?_
    refine AWP.region (.cons (.assign (lt1 rfl) (.const _ _ _)) <| ARun.nil _ _ _) ?_
    refine AWP.ret ?_
    obtain rfl := Option.some.inj h
    exact retJ (Res.vc (s' := ⟨[(6, .sc (.bool false))], []⟩) (VC.sub (.c rfl <| .n _) (.n _)) (Res.drop rfl (Res.of rfl (.cons (.tmp rfl) (.nil)) rfl rfl)))
  · have h := iteF hc h
    refine AWP.skip ?_
    refine AWP.seq ?_
    refine AWP.seq ?_
    obtain ⟨y_2, hy_2, h⟩ := bindS h
    refine AWP.region (.cons (.move (lt1 rfl) (.tmp rfl)) <| .cons (.call0 (bw := false) (lt1 rfl) (c11 (β1 := β1) n a0 hy_2) (.cons (.tmp rfl) (.ren rfl) (.nil)) rfl) <| .cons (.not (lt1 rfl) (.tmp rfl)) <| ARun.nil _ _ _) ?_
    refine AWP.vc (s' := ⟨[(0, .rd β1 a0.length (a0.flatMap enc8)), (1, .sc (.int .u64 a1)), (2, .sc (.int .u64 a2)), (11, .sc (.bool (!y_2)))], []⟩) (VC.sub (.c rfl <| .c rfl <| .c rfl <| .c rfl <| .n _) (.n _)) ?_
    refine AWP.cond (.tmp rfl) (fun hc => ?_) (fun hc => ?_)
    · have h := iteT hc h
      refine AWP.seq ?_
      refine AWP.region (.cons (.assign (lt1 rfl) (.const _ _ _)) <| ARun.nil _ _ _) ?_
      refine AWP.ret ?_
      obtain rfl := Option.some.inj h
      exact retJ (Res.vc (s' := ⟨[(6, .sc (.bool true))], []⟩) (VC.sub (.c rfl <| .n _) (.n _)) (Res.drop rfl (Res.of rfl (.cons (.tmp rfl) (.nil)) rfl rfl)))
    · have h := iteF hc h
      refine AWP.skip ?_
      refine AWP.seq ?_
      obtain ⟨y_3, hy_3, h⟩ := bindS h
      obtain ⟨y_4, hy_4, h⟩ := bindS h
      refine AWP.region (.cons (.move (lt1 rfl) (.tmp rfl)) <| .cons (.move (lt1 rfl) (.tmp rfl)) <| .cons (.call0 (bw := false) (lt1 rfl) (c14 (β1 := β1) n a1 a0 hy_3) (.cons (.tmp rfl) (.ren rfl) (.cons (.tmp rfl) (.ren rfl) (.nil))) rfl) <| .cons (.move (lt1 rfl) (.tmp rfl)) <| .cons (.move (lt1 rfl) (.tmp rfl)) <| .cons (.call0 (bw := false) (lt1 rfl) (c14 (β1 := β1) n a2 a0 hy_4) (.cons (.tmp rfl) (.ren rfl) (.cons (.tmp rfl) (.ren rfl) (.nil))) rfl) <| .cons (.eql (lt1 rfl) (.tmp rfl) (.tmp rfl)) <| .cons (.move (lt1 rfl) (.tmp rfl)) <| .cons (.move (lt1 rfl) (.tmp rfl)) <| .cons (.eql (lt1 rfl) (.tmp rfl) (.tmp rfl)) <| .cons (.eqlB (lt1 rfl) (.tmp rfl) (.tmp rfl) Try.underlying4) <| .cons (.assign (lt1 rfl) (.tmp rfl)) <| ARun.nil _ _ _) ?_
      refine AWP.ret ?_
      obtain rfl := Option.some.inj h
      exact retJ (Res.vc (s' := ⟨[(6, .sc (.bool ((decide (y_3 = y_4)) == (decide (a1 = a2)))))], []⟩) (VC.sub (.c rfl <| .n _) (.n _)) (Res.drop rfl (Res.of rfl (.cons (.tmp rfl) (.nil)) rfl rfl)))
def m16 (n : Nat) (a0 : (List UInt8)) : Option ((List UInt8) × Int) :=
  (if (decide ((a0.length : Int) < (8 : Int))) = true then (some ([], (4 : Int))) else (letM ((IntKind.wrap .i64 ((a0.length : Int) - (8 : Int)))) fun t4_1 => ((slc a0 (0 : Int) t4_1).bind fun s_2 => ((m12 n s_2).bind fun y_3 => ((m25 n y_3).bind fun y_4 => (asrt (y_4.length = 8) (asrt (y_4.length = 8) ((slc a0 t4_1 (a0.length : Int)).bind fun s_7 => (asrt (8 ≤ s_7.length) (asrt (s_7.length = 8) (asrt (y_4.length = 8) (asrt (s_7.length = 8) (if (!(y_4 == s_7)) = true then (some ([], (5 : Int))) else ((slc a0 (0 : Int) t4_1).bind fun s_12 => ((apd ([] : List UInt8) s_12).bind fun l2_13 => (some (l2_13, (0 : Int))))))))))))))))))
theorem c16 {β1 : Bool} (n : Nat) (a0 : (List UInt8)) {r : ((List UInt8) × Int)} (h : m16 n a0 = some r) : Spec Try.prog 16 [] [.rd β1 a0.length (a0.flatMap enc8)] [] (.tup [.rd false r.1.length (r.1.flatMap enc8), .sc (.int .i64 r.2)]) [] := by
  refine Spec.of (fn := Try.f16) Try.func16 Try.ntmps16 rfl rfl (le1 rfl) (fun w0 Zs Zb T0 ι0 => ?_)
  unfold m16 at h
  refine AWP.seq ?_
  refine AWP.region (.cons (.assign (lt1 rfl) (.const _ _ _)) <| .cons (.assign (lt1 rfl) (.const _ _ _)) <| ARun.nil _ _ _) ?_
  refine AWP.vc (s' := ⟨[(0, .rd β1 a0.length (a0.flatMap enc8))], []⟩) (VC.sub (.c rfl <| .n _) (.n _)) ?_
  refine AWP.seq ?_
  refine AWP.seq ?_
  refine AWP.region (.cons (.move (lt1 rfl) (.tmp rfl)) <| .cons (.lenRd (lt1 rfl) (.tmp rfl) Try.underlying22) <| .cons (.lss (lt1 rfl) (.tmp rfl) (.const _ _ _)) <| ARun.nil _ _ _) ?_
  refine AWP.vc (s' := ⟨[(0, .rd β1 a0.length (a0.flatMap enc8)), (8, .sc (.bool (decide ((a0.length : Int) < (8 : Int)))))], []⟩) (VC.sub (.c rfl <| .c rfl <| .n _) (.n _)) ?_
  refine AWP.cond (.tmp rfl) (fun hc => ?_) (fun hc => ?_)
  · have h := iteT hc h
    refine AWP.seq ?_
    refine AWP.region (.cons (.assign (lt1 rfl) (.const _ _ _)) <| .cons (.assign (lt1 rfl) (.const _ _ _)) <| ARun.nil _ _ _) ?_
    refine AWP.ret ?_
    obtain rfl := Option.some.inj h
    exact retJ (Res.vc (s' := ⟨[(2, .rd false [].length ([].flatMap enc8)), (3, .sc (.int .i64 (4 : Int)))], []⟩) (VC.trans (VC.nilRd (d := 2) false rfl) (VC.sub (.c rfl <| .c rfl <| .n _) (.n _))) (Res.drop rfl (Res.of rfl (.cons (.tmp rfl) (.cons (.tmp rfl) (.nil))) rfl rfl)))
  · have h := iteF hc h
    refine AWP.skip ?_
    refine AWP.seq ?_
    obtain ⟨t4_1, ht4_1, h⟩ := letS h
    refine AWP.region (.cons (.move (lt1 rfl) (.tmp rfl)) <| .cons (.lenRd (lt1 rfl) (.tmp rfl) Try.underlying22) <| .cons (.sub (lt1 rfl) (.tmp rfl) (.const _ _ _)) <| .cons (.assign (lt1 rfl) (.tmp rfl)) <| ARun.nil _ _ _) ?_
    refine AWP.vc (s' := ⟨[(0, .rd β1 a0.length (a0.flatMap enc8)), (4, .sc (.int .i64 t4_1))], []⟩) (by subst ht4_1; exact VC.sub (.c rfl <| .c rfl <| .n _) (.n _)) ?_
    refine AWP.seq ?_
    refine AWP.seq ?_
    obtain ⟨s_2, hs_2, h⟩ := bindS h
    obtain ⟨y_3, hy_3, h⟩ := bindS h
    obtain ⟨y_4, hy_4, h⟩ := bindS h
    obtain ⟨ha_5, h⟩ := asrtS h
    refine AWP.region (.cons (.move (lt1 rfl) (.tmp rfl)) <| .cons (.move (lt1 rfl) (.tmp rfl)) <| .cons (.slRd (enc := enc8) (lt1 rfl) (.tmp rfl) Try.underlying22 sz5 enc8_len rfl (.none _ _ _) (.some (.tmp rfl)) hs_2) <| .cons (.call0 (bw := false) (lt1 rfl) (c12 (β1 := β1) n s_2 hy_3) (.cons (.tmp rfl) (.ren rfl) (.nil)) rfl) <| .cons (.call0 (bw := false) (lt1 rfl) (c25 n y_3 hy_4) (.cons (.tmp rfl) (.ren rfl) (.nil)) (tagc_all enc8_still _ _)) <| .cons (.alloc (t := 1) (k := ⟨45, true, (List.replicate 8 (0 : UInt8)).flatMap enc8⟩) (lt1 rfl) (nm rfl) zero45 rfl rfl) <| .cons (.storePA (.tmp rfl) (.tmp (lkNew rfl enc8_still rfl)) sz45 (len_all (n := 8) enc8_len ha_5) rfl (len_le (n := 8) enc8_len List.length_replicate) (one_all enc8_one _) (fun _ => still_all enc8_still _) (splL_all enc8_len List.length_replicate ha_5)) <| ARun.nil _ _ _) ?_
    refine AWP.vc (s' := ⟨[(0, .rd β1 a0.length (a0.flatMap enc8)), (4, .sc (.int .i64 t4_1)), (5, .ptr 1 0)], [(1, ⟨45, true, y_4.flatMap enc8⟩)]⟩) (VC.sub (.c rfl <| .c rfl <| .c rfl <| .n _) (.c rfl <| .n _)) ?_
    refine AWP.seq ?_
    obtain ⟨ha_6, h⟩ := asrtS h
    obtain ⟨s_7, hs_7, h⟩ := bindS h
    obtain ⟨ha_8, h⟩ := asrtS h
    obtain ⟨ha_9, h⟩ := asrtS h
    obtain ⟨ha_10, h⟩ := asrtS h
    obtain ⟨ha_11, h⟩ := asrtS h
    refine AWP.draw (s' := ⟨[(0, .rd β1 a0.length (a0.flatMap enc8)), (4, .sc (.int .i64 t4_1)), (23, .sc (.bool (!(y_4 == s_7))))], [(1, ⟨45, true, y_4.flatMap enc8⟩)]⟩) mixed [⟨0, .rd β1 a0.length (a0.flatMap enc8), none, []⟩, ⟨4, .sc (.int .i64 t4_1), none, []⟩, ⟨5, .ptr 1 0, none, []⟩, ⟨17, .agg (y_4.flatMap enc8), some 0, []⟩, ⟨18, .rd β1 a0.length (a0.flatMap enc8), some 1, []⟩, ⟨19, .sc (.int .i64 t4_1), some 2, []⟩, ⟨20, .rd β1 s_7.length (s_7.flatMap enc8), some 3, []⟩, ⟨21, .rptr β1 (s_7.flatMap enc8), some 4, []⟩, ⟨22, .agg (s_7.flatMap enc8), some 5, []⟩, ⟨23, .sc (.bool (!(y_4 == s_7))), some 6, []⟩] [⟨[2], 0, 0, some (17, .agg (y_4.flatMap enc8)), []⟩, ⟨[0], 0, 0, some (18, .rd β1 a0.length (a0.flatMap enc8)), []⟩, ⟨[1], 0, 0, some (19, .sc (.int .i64 t4_1)), []⟩, ⟨[4, 5], 0, 0, some (20, .rd β1 s_7.length (s_7.flatMap enc8)), []⟩, ⟨[6], 0, 0, some (21, .rptr β1 (s_7.flatMap enc8)), []⟩, ⟨[7], 0, 0, some (22, .agg (s_7.flatMap enc8)), []⟩, ⟨[3, 8], 0, 0, some (23, .sc (.bool (!(y_4 == s_7)))), []⟩] [] [[(1, ⟨45, true, y_4.flatMap enc8⟩)]] [[], [], [], [1, 2], [1, 2, 3], [1, 2, 3, 4], [0, 1, 2, 3, 4, 5]] (by kernel_rfl) (by kernel_rfl) (And.intro trivial (And.intro trivial (And.intro trivial (And.intro (Exists.intro _ (And.intro rfl rfl)) (And.intro (Exists.intro _ (And.intro rfl rfl)) (And.intro (Exists.intro _ (And.intro rfl rfl)) (And.intro (Exists.intro _ (And.intro rfl rfl)) (And.intro (Exists.intro _ (And.intro rfl rfl)) (And.intro (Exists.intro _ (And.intro rfl rfl)) (And.intro (Exists.intro _ (And.intro rfl rfl)) (trivial))))))))))) (And.intro rfl (And.intro rfl (And.intro rfl (And.intro trivial (And.intro trivial (And.intro trivial (And.intro trivial (And.intro trivial (And.intro trivial (And.intro trivial (trivial))))))))))) rfl (by decide) (allLt rfl) (.read rfl (.c (.put (fun E hE => .loadPA (lt1 rfl) (.tmp (hE.at (k := 0) rfl)) agg45 rfl (take_all (n := 8) enc8_len ha_6) (len_all (n := 8) enc8_len ha_6) (out_all enc8_still _))) .n) <| .pure rfl (fun H => .put (fun E hE => .move (lt1 rfl) (.tmp (hE.at (k := 0) rfl)))) <| .pure rfl (fun H => .put (fun E hE => .move (lt1 rfl) (.tmp (hE.at (k := 0) rfl)))) <| .pure rfl (fun H => .put (fun E hE => .slRd (enc := enc8) (lt1 rfl) (.tmp (hE.at (k := 0) rfl)) Try.underlying22 sz5 enc8_len rfl (.some (.tmp (hE.at (k := 1) rfl))) (.none _ _ _) hs_7)) <| .pure rfl (fun H => .put (fun E hE => .slToArrRd (lt1 rfl) (.tmp (hE.at (k := 0) rfl)) Try.underlying45 (by decide) ha_8)) <| .pure rfl (fun H => .put (fun E hE => .loadRA (lt1 rfl) (.tmp (hE.at (k := 0) rfl)) agg45 (len_ge (n := 8) enc8_len ha_9) (flag_all (n := 8) enc8_scal enc8_len ha_9))) <| .pure rfl (fun H => .put (fun E hE => .arrCmp (enc := enc8) (f := (fun y : UInt8 => (y.toNat : Int))) (lt1 rfl) (.tmp (hE.at (k := 0) rfl)) (.tmp (hE.at (k := 1) rfl)) (fun _ => rfl) (fun a b h => UInt8.toNat_inj.1 (Int.ofNat.inj h)) Try.underlying45 Try.underlying5 sz5 gt45 ha_10 ha_11 true)) <| .nil _) (fun E hE => .c (DInv.at hE (k := 0) rfl rfl rfl) <| .c (DInv.at hE (k := 1) rfl rfl rfl) <| .c (DInv.at hE (k := 9) rfl rfl rfl) <| .n _) rfl ?_
    refine AWP.vc (s' := ⟨[(0, .rd β1 a0.length (a0.flatMap enc8)), (4, .sc (.int .i64 t4_1)), (23, .sc (.bool (!(y_4 == s_7))))], []⟩) (VC.sub (.c rfl <| .c rfl <| .c rfl <| .n _) (.n _)) ?_
    refine AWP.cond (.tmp rfl) (fun hc => ?_) (fun hc => ?_)
    · have h := iteT hc h
      refine AWP.seq ?_
      refine AWP.region (.cons (.assign (lt1 rfl) (.const _ _ _)) <| .cons (.assign (lt1 rfl) (.const _ _ _)) <| ARun.nil _ _ _) ?_
      refine AWP.ret ?_
      obtain rfl := Option.some.inj h
      exact retJ (Res.vc (s' := ⟨[(2, .rd false [].length ([].flatMap enc8)), (3, .sc (.int .i64 (5 : Int)))], []⟩) (VC.trans (VC.nilRd (d := 2) false rfl) (VC.sub (.c rfl <| .c rfl <| .n _) (.n _))) (Res.drop rfl (Res.of rfl (.cons (.tmp rfl) (.cons (.tmp rfl) (.nil))) rfl rfl)))
    · have h := iteF hc h
      refine AWP.skip ?_
      refine AWP.seq ?_
      obtain ⟨s_12, hs_12, h⟩ := bindS h
      obtain ⟨l2_13, hl2_13, h⟩ := bindS h
      refine AWP.region (.cons (.buildSlice (t := 2) (out := ([] : List UInt8).flatMap enc8) (lt1 rfl) (nm rfl) (.nil) Try.underlying22 zero5 el5 (by decide) (by decide) rfl (still_all enc8_still _)) <| .cons (.move (lt1 rfl) (.tmp rfl)) <| .cons (.move (lt1 rfl) (.tmp rfl)) <| .cons (.slRd (enc := enc8) (lt1 rfl) (.tmp rfl) Try.underlying22 sz5 enc8_len rfl (.none _ _ _) (.some (.tmp rfl)) hs_12) <| .cons (.app (enc := enc8) (lt1 rfl) (nm rfl) (.tmp rfl) (Src.rd (.tmp rfl) (flatMap_length enc8_len _) (one_all enc8_one _) (.inr (scal_all enc8_scal _))) Try.underlying22 ⟨_, Try.underlying22, by intro k hk; cases hk⟩ el5 rfl enc8_len rfl rfl (by decide) hl2_13) <| .cons (.assign (lt1 rfl) (.tmp rfl)) <| .cons (.assign (lt1 rfl) (.const _ _ _)) <| ARun.nil _ _ _) ?_
      refine AWP.ret ?_
      obtain rfl := Option.some.inj h
      exact retJ (Res.vc (s' := ⟨[(2, .rd false l2_13.length (l2_13.flatMap enc8)), (3, .sc (.int .i64 (0 : Int)))], []⟩) (VC.trans (VC.frz (d := 2) (t := 2) rfl rfl enc8_len) (VC.sub (.c rfl <| .c rfl <| .n _) (.n _))) (Res.drop rfl (Res.of rfl (.cons (.tmp rfl) (.cons (.tmp rfl) (.nil))) rfl rfl)))
def m26_L1 (n : Nat) (k_19 : (List UInt8) → Option (List UInt8)) (nx_13 : (Int × Int × (List UInt8)) → Option (List UInt8)) (x_12 : (Int × Int × (List UInt8))) : Option (List UInt8) :=
  (if (decide ((0 : Int) ≤ x_12.2.1)) = true then ((getIdx x_12.2.2 x_12.2.1).bind fun y_14 => ((setIdx x_12.2.2 x_12.2.1 (b8 (IntKind.wrap .u8 (x_12.1.tmod (256 : Int))))).bind fun l1_15 => (letM ((IntKind.wrap .u64 (x_12.1.tdiv (256 : Int)))) fun t0_16 => (letM ((IntKind.wrap .i64 (x_12.2.1 - (1 : Int)))) fun t4_17 => (nx_13 (t0_16, t4_17, l1_15)))))) else (k_19 x_12.2.2))
def m26 (n : Nat) (a0 : Int) : Option (List UInt8) :=
  ((mk (0 : UInt8) (8 : Int) (8 : Int)).bind fun l1_1 => (jn (fun p_18 : (List UInt8) => (some p_18)) fun k_19 => (loopM (m26_L1 n k_19) n (a0, (7 : Int), l1_1))))
theorem c26 (n : Nat) (a0 : Int) {r : (List UInt8)} (h : m26 n a0 = some r) : Spec Try.prog 26 [] [.sc (.int .u64 a0)] [] (.rd false r.length (r.flatMap enc8)) [] := by
  refine Spec.of (fn := Try.f26) Try.func26 Try.ntmps26 rfl rfl (le1 rfl) (fun w0 Zs Zb T0 ι0 => ?_)
  unfold m26 at h
  refine AWP.seq ?_
  refine AWP.region (.cons (.assign (lt1 rfl) (.const _ _ _)) <| ARun.nil _ _ _) ?_
  refine AWP.vc (s' := ⟨[(0, .sc (.int .u64 a0))], []⟩) (VC.sub (.c rfl <| .n _) (.n _)) ?_
  refine AWP.seq ?_
  obtain ⟨l1_1, hl1_1, h⟩ := bindS h
  refine AWP.region (.cons (.mkS (enc := enc8) (t := 1) (lt1 rfl) (nm rfl) (.const _ _ _) (.const _ _ _) Try.underlying22 zero5 el5 rfl enc8_len (by decide) hl1_1) <| .cons (.assign (lt1 rfl) (.tmp rfl)) <| ARun.nil _ _ _) ?_
  refine AWP.vc (s' := ⟨[(0, .sc (.int .u64 a0)), (3, .own 1 1 0 l1_1.length)], [(1, ⟨5, true, l1_1.flatMap enc8⟩)]⟩) (VC.sub (.c rfl <| .c rfl <| .n _) (.c rfl <| .n _)) ?_
  refine AWP.seq ?_
  refine AWP.seq ?_
  refine AWP.region (.cons (.assign (lt1 rfl) (.const _ _ _)) <| ARun.nil _ _ _) ?_
  refine AWP.vc (s' := ⟨[(0, .sc (.int .u64 a0)), (3, .own 1 1 0 l1_1.length), (4, .sc (.int .i64 (7 : Int)))], [(1, ⟨5, true, l1_1.flatMap enc8⟩)]⟩) (VC.sub (.c rfl <| .c rfl <| .c rfl <| .n _) (.c rfl <| .n _)) ?_
  refine AWP.joinB' (S := fun p_18 : (List UInt8) => ⟨[(3, .own 1 1 0 p_18.length)], [(1, ⟨5, true, p_18.flatMap enc8⟩)]⟩) h (fun p_18 h => ?_) (fun k_19 h => ?_)
  · refine AWP.seq ?_
    refine AWP.region (.cons (.move (lt1 rfl) (.tmp rfl)) <| .cons (.assign (lt1 rfl) (.tmp rfl)) <| ARun.nil _ _ _) ?_
    refine AWP.ret ?_
    obtain rfl := Option.some.inj h
    exact retJ (Res.vc (s' := ⟨[(2, .rd false p_18.length (p_18.flatMap enc8))], []⟩) (VC.trans (VC.frz (d := 2) (t := 1) rfl rfl enc8_len) (VC.sub (.c rfl <| .n _) (.n _))) (Res.drop rfl (Res.of rfl (.cons (.tmp rfl) (.nil)) rfl rfl)))
  · refine AWP.vc (s' := ⟨[(0, .sc (.int .u64 a0)), (3, .own 1 1 0 l1_1.length), (4, .sc (.int .i64 (7 : Int)))], [(1, ⟨5, true, l1_1.flatMap enc8⟩)]⟩) (VC.sub (.c rfl <| .c rfl <| .c rfl <| .n _) (.c rfl <| .n _)) ?_
    refine AWP.loopM (S := fun x_12 : Int × Int × (List UInt8) => ⟨[(0, .sc (.int .u64 x_12.1)), (3, .own 1 1 0 x_12.2.2.length), (4, .sc (.int .i64 x_12.2.1))], [(1, ⟨5, true, x_12.2.2.flatMap enc8⟩)]⟩) (x := (a0, (7 : Int), l1_1)) (fun nx_13 x_12 h => ?_) h
    unfold m26_L1 at h
    refine AWP.seq ?_
    refine AWP.seq ?_
    refine AWP.region (.cons (.move (lt1 rfl) (.tmp rfl)) <| .cons (.geq (lt1 rfl) (.tmp rfl) (.const _ _ _)) <| ARun.nil _ _ _) ?_
    refine AWP.vc (s' := ⟨[(0, .sc (.int .u64 x_12.1)), (3, .own 1 1 0 x_12.2.2.length), (4, .sc (.int .i64 x_12.2.1)), (7, .sc (.bool (decide ((0 : Int) ≤ x_12.2.1))))], [(1, ⟨5, true, x_12.2.2.flatMap enc8⟩)]⟩) (VC.sub (.c rfl <| .c rfl <| .c rfl <| .c rfl <| .n _) (.c rfl <| .n _)) ?_
    refine AWP.cond (.tmp rfl) (fun hc => ?_) (fun hc => ?_)
    · have h := iteT hc h
      refine AWP.skip ?_
      refine AWP.seq ?_
      refine AWP.block ?_
      refine AWP.seq ?_
      obtain ⟨y_14, hy_14, h⟩ := bindS h
      obtain ⟨l1_15, hl1_15, h⟩ := bindS h
      refine AWP.region (.cons (.move (lt1 rfl) (.tmp rfl)) <| .cons (.move (lt1 rfl) (.tmp rfl)) <| .cons (.move (lt1 rfl) (.tmp rfl)) <| .cons (.rem (lt1 rfl) (.tmp rfl) (.const _ _ _) (by decide)) <| .cons (.conv (lt1 rfl) (.tmp rfl) Try.underlying23 Try.underlying5) <| .cons (.idxOwn (lt1 rfl) (.tmp rfl) (.tmp rfl) Try.underlying22 sz5 rfl hy_14) <| .cons (.storeP (.tmp rfl) (.tmp rfl) sz5 rfl (lt_at1 enc8_len hy_14) rfl (fun _ => rfl) (set_at1 enc8_len hl1_15 (enc8_wrap _))) <| ARun.nil _ _ _) ?_
      refine AWP.vc (s' := ⟨[(0, .sc (.int .u64 x_12.1)), (3, .own 1 1 0 l1_15.length), (4, .sc (.int .i64 x_12.2.1))], [(1, ⟨5, true, l1_15.flatMap enc8⟩)]⟩) (VC.sub (.c rfl <| .c (lenC (Eq.symm (setLen hl1_15)) rfl) <| .c rfl <| .n _) (.c rfl <| .n _)) ?_
      obtain ⟨t0_16, ht0_16, h⟩ := letS h
      refine AWP.region (.cons (.move (lt1 rfl) (.tmp rfl)) <| .cons (.quo (lt1 rfl) (.tmp rfl) (.const _ _ _) (by decide)) <| .cons (.assign (lt1 rfl) (.tmp rfl)) <| ARun.nil _ _ _) ?_
      refine AWP.vc (s' := ⟨[(0, .sc (.int .u64 t0_16)), (3, .own 1 1 0 l1_15.length), (4, .sc (.int .i64 x_12.2.1))], [(1, ⟨5, true, l1_15.flatMap enc8⟩)]⟩) (by subst ht0_16; exact VC.sub (.c rfl <| .c rfl <| .c rfl <| .n _) (.c rfl <| .n _)) ?_
      obtain ⟨t4_17, ht4_17, h⟩ := letS h
      refine AWP.region (.cons (.move (lt1 rfl) (.tmp rfl)) <| .cons (.sub (lt1 rfl) (.tmp rfl) (.const _ _ _)) <| .cons (.assign (lt1 rfl) (.tmp rfl)) <| ARun.nil _ _ _) ?_
      exact endJ (t0_16, t4_17, l1_15) h (by subst ht4_17; exact VC.sub (.c rfl <| .c rfl <| .c rfl <| .n _) (.c rfl <| .n _))
    · have h := iteF hc h
      refine AWP.exit ?_
      exact endJ x_12.2.2 h (VC.sub (.c rfl <| .n _) (.c rfl <| .n _))
def m17 (n : Nat) (a0 : (List UInt8)) : Option ((List UInt8) × Int) :=
  (if (decide ((a0.length : Int) < (8 : Int))) = true then (some ([], (4 : Int))) else (letM ((IntKind.wrap .i64 ((a0.length : Int) - (8 : Int)))) fun t4_1 => ((slc a0 (0 : Int) t4_1).bind fun s_2 => ((m13 n s_2).bind fun y_3 => ((m26 n y_3).bind fun y_4 => ((slc a0 t4_1 (a0.length : Int)).bind fun s_5 => (if (!(y_4 == s_5)) = true then (some ([], (5 : Int))) else ((slc a0 (0 : Int) t4_1).bind fun s_6 => ((apd ([] : List UInt8) s_6).bind fun l1_7 => (some (l1_7, (0 : Int))))))))))))
theorem c17 {β1 : Bool} (n : Nat) (a0 : (List UInt8)) {r : ((List UInt8) × Int)} (h : m17 n a0 = some r) : Spec Try.prog 17 [] [.rd β1 a0.length (a0.flatMap enc8)] [] (.tup [.rd false r.1.length (r.1.flatMap enc8), .sc (.int .i64 r.2)]) [] := by
  refine Spec.of (fn := Try.f17) Try.func17 Try.ntmps17 rfl rfl (le1 rfl) (fun w0 Zs Zb T0 ι0 => ?_)
  unfold m17 at h
  refine AWP.seq ?_
  refine AWP.region (.cons (.assign (lt1 rfl) (.const _ _ _)) <| .cons (.assign (lt1 rfl) (.const _ _ _)) <| ARun.nil _ _ _) ?_
  refine AWP.vc (s' := ⟨[(0, .rd β1 a0.length (a0.flatMap enc8))], []⟩) (VC.sub (.c rfl <| .n _) (.n _)) ?_
  refine AWP.seq ?_
  refine AWP.seq ?_
  refine AWP.region (.cons (.move (lt1 rfl) (.tmp rfl)) <| .cons (.lenRd (lt1 rfl) (.tmp rfl) Try.underlying22) <| .cons (.lss (lt1 rfl) (.tmp rfl) (.const _ _ _)) <| ARun.nil _ _ _) ?_
  refine AWP.vc (s' := ⟨[(0, .rd β1 a0.length (a0.flatMap enc8)), (7, .sc (.bool (decide ((a0.length : Int) < (8 : Int)))))], []⟩) (VC.sub (.c rfl <| .c rfl <| .n _) (.n _)) ?_
  refine AWP.cond (.tmp rfl) (fun hc => ?_) (fun hc => ?_)
  · have h := iteT hc h
    refine AWP.seq ?_
    refine AWP.region (.cons (.assign (lt1 rfl) (.const _ _ _)) <| .cons (.assign (lt1 rfl) (.const _ _ _)) <| ARun.nil _ _ _) ?_
    refine AWP.ret ?_
    obtain rfl := Option.some.inj h
    exact retJ (Res.vc (s' := ⟨[(2, .rd false [].length ([].flatMap enc8)), (3, .sc (.int .i64 (4 : Int)))], []⟩) (VC.trans (VC.nilRd (d := 2) false rfl) (VC.sub (.c rfl <| .c rfl <| .n _) (.n _))) (Res.drop rfl (Res.of rfl (.cons (.tmp rfl) (.cons (.tmp rfl) (.nil))) rfl rfl)))
  · have h := iteF hc h
    refine AWP.skip ?_
    refine AWP.seq ?_
    obtain ⟨t4_1, ht4_1, h⟩ := letS h
    refine AWP.region (.cons (.move (lt1 rfl) (.tmp rfl)) <| .cons (.lenRd (lt1 rfl) (.tmp rfl) Try.underlying22) <| .cons (.sub (lt1 rfl) (.tmp rfl) (.const _ _ _)) <| .cons (.assign (lt1 rfl) (.tmp rfl)) <| ARun.nil _ _ _) ?_
    refine AWP.vc (s' := ⟨[(0, .rd β1 a0.length (a0.flatMap enc8)), (4, .sc (.int .i64 t4_1))], []⟩) (by subst ht4_1; exact VC.sub (.c rfl <| .c rfl <| .n _) (.n _)) ?_
    refine AWP.seq ?_
    refine AWP.seq ?_
    obtain ⟨s_2, hs_2, h⟩ := bindS h
    obtain ⟨y_3, hy_3, h⟩ := bindS h
    obtain ⟨y_4, hy_4, h⟩ := bindS h
    obtain ⟨s_5, hs_5, h⟩ := bindS h
    refine AWP.draw (s' := ⟨[(0, .rd β1 a0.length (a0.flatMap enc8)), (4, .sc (.int .i64 t4_1)), (21, .sc (.bool (!(y_4 == s_5))))], []⟩) mixed [⟨0, .rd β1 a0.length (a0.flatMap enc8), none, []⟩, ⟨4, .sc (.int .i64 t4_1), none, []⟩, ⟨11, .rd β1 a0.length (a0.flatMap enc8), some 0, []⟩, ⟨12, .sc (.int .i64 t4_1), some 1, []⟩, ⟨13, .rd β1 s_2.length (s_2.flatMap enc8), some 2, []⟩, ⟨14, .sc (.int .u64 y_3), some 3, []⟩, ⟨15, .rd false y_4.length (y_4.flatMap enc8), some 4, []⟩, ⟨16, .sc (.string (mkS y_4)), some 5, []⟩, ⟨17, .rd β1 a0.length (a0.flatMap enc8), some 6, []⟩, ⟨18, .sc (.int .i64 t4_1), some 7, []⟩, ⟨19, .rd β1 s_5.length (s_5.flatMap enc8), some 8, []⟩, ⟨20, .sc (.string (mkS s_5)), some 9, []⟩, ⟨21, .sc (.bool (!(y_4 == s_5))), some 10, []⟩] [⟨[0], 0, 0, some (11, .rd β1 a0.length (a0.flatMap enc8)), []⟩, ⟨[1], 0, 0, some (12, .sc (.int .i64 t4_1)), []⟩, ⟨[2, 3], 0, 0, some (13, .rd β1 s_2.length (s_2.flatMap enc8)), []⟩, ⟨[4], 0, 0, some (14, .sc (.int .u64 y_3)), []⟩, ⟨[5], 0, 0, some (15, .rd false y_4.length (y_4.flatMap enc8)), []⟩, ⟨[6], 0, 0, some (16, .sc (.string (mkS y_4))), []⟩, ⟨[0], 0, 0, some (17, .rd β1 a0.length (a0.flatMap enc8)), []⟩, ⟨[1], 0, 0, some (18, .sc (.int .i64 t4_1)), []⟩, ⟨[8, 9], 0, 0, some (19, .rd β1 s_5.length (s_5.flatMap enc8)), []⟩, ⟨[10], 0, 0, some (20, .sc (.string (mkS s_5))), []⟩, ⟨[7, 11], 0, 0, some (21, .sc (.bool (!(y_4 == s_5)))), []⟩] [] [[]] [[], [], [0, 1], [0, 1, 2], [0, 1, 2, 3], [0, 1, 2, 3, 4], [], [], [6, 7], [6, 7, 8], [0, 1, 2, 3, 4, 5, 6, 7, 8, 9]] (by kernel_rfl) (by kernel_rfl) (And.intro trivial (And.intro trivial (And.intro (Exists.intro _ (And.intro rfl rfl)) (And.intro (Exists.intro _ (And.intro rfl rfl)) (And.intro (Exists.intro _ (And.intro rfl rfl)) (And.intro (Exists.intro _ (And.intro rfl rfl)) (And.intro (Exists.intro _ (And.intro rfl rfl)) (And.intro (Exists.intro _ (And.intro rfl rfl)) (And.intro (Exists.intro _ (And.intro rfl rfl)) (And.intro (Exists.intro _ (And.intro rfl rfl)) (And.intro (Exists.intro _ (And.intro rfl rfl)) (And.intro (Exists.intro _ (And.intro rfl rfl)) (And.intro (Exists.intro _ (And.intro rfl rfl)) (trivial)))))))))))))) (And.intro rfl (And.intro rfl (And.intro trivial (And.intro trivial (And.intro trivial (And.intro trivial (And.intro trivial (And.intro trivial (And.intro trivial (And.intro trivial (And.intro trivial (And.intro trivial (And.intro trivial (trivial)))))))))))))) rfl (by decide) (allLt rfl) (.pure rfl (fun H => .put (fun E hE => .move (lt1 rfl) (.tmp (hE.at (k := 0) rfl)))) <| .pure rfl (fun H => .put (fun E hE => .move (lt1 rfl) (.tmp (hE.at (k := 0) rfl)))) <| .pure rfl (fun H => .put (fun E hE => .slRd (enc := enc8) (lt1 rfl) (.tmp (hE.at (k := 0) rfl)) Try.underlying22 sz5 enc8_len rfl (.none _ _ _) (.some (.tmp (hE.at (k := 1) rfl))) hs_2)) <| .pure rfl (fun H => .put (fun E hE => .call0 (bw := false) (lt1 rfl) (c13 (β1 := β1) n s_2 hy_3) (.cons (.tmp (hE.at (k := 0) rfl)) (.ren rfl) (.nil)) rfl)) <| .pure rfl (fun H => .put (fun E hE => .call0 (bw := false) (lt1 rfl) (c26 n y_3 hy_4) (.cons (.tmp (hE.at (k := 0) rfl)) (.ren rfl) (.nil)) rfl)) <| .pure rfl (fun H => .put (fun E hE => .bytesStr (lt1 rfl) (.tmp (hE.at (k := 0) rfl)) Try.underlying22 Try.underlying5 Try.underlying9 rfl)) <| .pure rfl (fun H => .put (fun E hE => .move (lt1 rfl) (.tmp (hE.at (k := 0) rfl)))) <| .pure rfl (fun H => .put (fun E hE => .move (lt1 rfl) (.tmp (hE.at (k := 0) rfl)))) <| .pure rfl (fun H => .put (fun E hE => .slRd (enc := enc8) (lt1 rfl) (.tmp (hE.at (k := 0) rfl)) Try.underlying22 sz5 enc8_len rfl (.some (.tmp (hE.at (k := 1) rfl))) (.none _ _ _) hs_5)) <| .pure rfl (fun H => .put (fun E hE => .bytesStr (lt1 rfl) (.tmp (hE.at (k := 0) rfl)) Try.underlying22 Try.underlying5 Try.underlying9 rfl)) <| .pure rfl (fun H => .put (fun E hE => .neqS (lt1 rfl) (.tmp (hE.at (k := 0) rfl)) (.tmp (hE.at (k := 1) rfl)))) <| .nil _) (fun E hE => .c (DInv.at hE (k := 0) rfl rfl rfl) <| .c (DInv.at hE (k := 1) rfl rfl rfl) <| .c (DInv.at hE (k := 12) rfl rfl rfl) <| .n _) rfl ?_
    refine AWP.vc (s' := ⟨[(0, .rd β1 a0.length (a0.flatMap enc8)), (4, .sc (.int .i64 t4_1)), (21, .sc (.bool (!(y_4 == s_5))))], []⟩) (VC.sub (.c rfl <| .c rfl <| .c rfl <| .n _) (.n _)) ?_
    refine AWP.cond (.tmp rfl) (fun hc => ?_) (fun hc => ?_)
    · have h := iteT hc h
      refine AWP.seq ?_
      refine AWP.region (.cons (.assign (lt1 rfl) (.const _ _ _)) <| .cons (.assign (lt1 rfl) (.const _ _ _)) <| ARun.nil _ _ _) ?_
      refine AWP.ret ?_
      obtain rfl := Option.some.inj h
      exact retJ (Res.vc (s' := ⟨[(2, .rd false [].length ([].flatMap enc8)), (3, .sc (.int .i64 (5 : Int)))], []⟩) (VC.trans (VC.nilRd (d := 2) false rfl) (VC.sub (.c rfl <| .c rfl <| .n _) (.n _))) (Res.drop rfl (Res.of rfl (.cons (.tmp rfl) (.cons (.tmp rfl) (.nil))) rfl rfl)))
    · have h := iteF hc h
      refine AWP.skip ?_
      refine AWP.seq ?_
      obtain ⟨s_6, hs_6, h⟩ := bindS h
      obtain ⟨l1_7, hl1_7, h⟩ := bindS h
      refine AWP.region (.cons (.buildSlice (t := 1) (out := ([] : List UInt8).flatMap enc8) (lt1 rfl) (nm rfl) (.nil) Try.underlying22 zero5 el5 (by decide) (by decide) rfl (still_all enc8_still _)) <| .cons (.move (lt1 rfl) (.tmp rfl)) <| .cons (.move (lt1 rfl) (.tmp rfl)) <| .cons (.slRd (enc := enc8) (lt1 rfl) (.tmp rfl) Try.underlying22 sz5 enc8_len rfl (.none _ _ _) (.some (.tmp rfl)) hs_6) <| .cons (.app (enc := enc8) (lt1 rfl) (nm rfl) (.tmp rfl) (Src.rd (.tmp rfl) (flatMap_length enc8_len _) (one_all enc8_one _) (.inr (scal_all enc8_scal _))) Try.underlying22 ⟨_, Try.underlying22, by intro k hk; cases hk⟩ el5 rfl enc8_len rfl rfl (by decide) hl1_7) <| .cons (.assign (lt1 rfl) (.tmp rfl)) <| .cons (.assign (lt1 rfl) (.const _ _ _)) <| ARun.nil _ _ _) ?_
      refine AWP.ret ?_
      obtain rfl := Option.some.inj h
      exact retJ (Res.vc (s' := ⟨[(2, .rd false l1_7.length (l1_7.flatMap enc8)), (3, .sc (.int .i64 (0 : Int)))], []⟩) (VC.trans (VC.frz (d := 2) (t := 1) rfl rfl enc8_len) (VC.sub (.c rfl <| .c rfl <| .n _) (.n _))) (Res.drop rfl (Res.of rfl (.cons (.tmp rfl) (.cons (.tmp rfl) (.nil))) rfl rfl)))
def m20 (n : Nat) (a0 : (List UInt8)) : Option (List UInt8) :=
  ((apd ([] : List UInt8) a0).bind fun l1_1 => ((m13 n a0).bind fun y_2 => ((m26 n y_2).bind fun y_3 => ((apd l1_1 y_3).bind fun l1_4 => (some l1_4)))))
theorem c20 {β1 : Bool} (n : Nat) (a0 : (List UInt8)) {r : (List UInt8)} (h : m20 n a0 = some r) : Spec Try.prog 20 [] [.rd β1 a0.length (a0.flatMap enc8)] [] (.rd false r.length (r.flatMap enc8)) [] := by
  refine Spec.of (fn := Try.f20) Try.func20 Try.ntmps20 rfl rfl (le1 rfl) (fun w0 Zs Zb T0 ι0 => ?_)
  unfold m20 at h
  refine AWP.seq ?_
  refine AWP.region (.cons (.assign (lt1 rfl) (.const _ _ _)) <| ARun.nil _ _ _) ?_
  refine AWP.vc (s' := ⟨[(0, .rd β1 a0.length (a0.flatMap enc8))], []⟩) (VC.sub (.c rfl <| .n _) (.n _)) ?_
  refine AWP.seq ?_
  obtain ⟨l1_1, hl1_1, h⟩ := bindS h
  obtain ⟨y_2, hy_2, h⟩ := bindS h
  obtain ⟨y_3, hy_3, h⟩ := bindS h
  obtain ⟨l1_4, hl1_4, h⟩ := bindS h
  refine AWP.region (.cons (.buildSlice (t := 1) (out := ([] : List UInt8).flatMap enc8) (lt1 rfl) (nm rfl) (.nil) Try.underlying22 zero5 el5 (by decide) (by decide) rfl (still_all enc8_still _)) <| .cons (.move (lt1 rfl) (.tmp rfl)) <| .cons (.app (enc := enc8) (lt1 rfl) (nm rfl) (.tmp rfl) (Src.rd (.tmp rfl) (flatMap_length enc8_len _) (one_all enc8_one _) (.inr (scal_all enc8_scal _))) Try.underlying22 ⟨_, Try.underlying22, by intro k hk; cases hk⟩ el5 rfl enc8_len rfl rfl (by decide) hl1_1) <| .cons (.move (lt1 rfl) (.tmp rfl)) <| .cons (.call0 (bw := false) (lt1 rfl) (c13 (β1 := β1) n a0 hy_2) (.cons (.tmp rfl) (.ren rfl) (.nil)) rfl) <| .cons (.call0 (bw := false) (lt1 rfl) (c26 n y_2 hy_3) (.cons (.tmp rfl) (.ren rfl) (.nil)) rfl) <| .cons (.app (enc := enc8) (lt1 rfl) (nm rfl) (.tmp rfl) (Src.rd (.tmp rfl) (flatMap_length enc8_len _) (one_all enc8_one _) (.inl rfl)) Try.underlying22 ⟨_, Try.underlying22, by intro k hk; cases hk⟩ el5 rfl enc8_len rfl rfl (by decide) hl1_4) <| .cons (.assign (lt1 rfl) (.tmp rfl)) <| ARun.nil _ _ _) ?_
  refine AWP.ret ?_
  obtain rfl := Option.some.inj h
  exact retJ (Res.vc (s' := ⟨[(2, .rd false l1_4.length (l1_4.flatMap enc8))], []⟩) (VC.trans (VC.frz (d := 2) (t := 1) rfl rfl enc8_len) (VC.sub (.c rfl <| .n _) (.n _))) (Res.drop rfl (Res.of rfl (.cons (.tmp rfl) (.nil)) rfl rfl)))
def m6 (n : Nat) (a0 : (List UInt8)) : Option Bool :=
  ((m10 n).bind fun y_1 => (if (!y_1) = true then (some false) else ((m11 n a0).bind fun y_2 => (if (!y_2) = true then (some true) else ((m16 n a0).bind fun y_3 => ((m17 n a0).bind fun y_4 => ((m19 n a0).bind fun y_5 => ((m20 n a0).bind fun y_6 => ((m18 n y_5 y_6).bind fun y_7 => ((gdO (y_7 && (decide (y_3.2 = y_4.2))) (m18 n y_3.1 y_4.1) default).bind fun y_8 => (some ((y_7 && (decide (y_3.2 = y_4.2))) && y_8))))))))))))
theorem c6 {β1 : Bool} (n : Nat) (a0 : (List UInt8)) {r : Bool} (h : m6 n a0 = some r) : Spec Try.prog 6 [] [.rd β1 a0.length (a0.flatMap enc8)] [] (.sc (.bool r)) [] := by
  refine Spec.of (fn := Try.f6) Try.func6 Try.ntmps6 rfl rfl (le1 rfl) (fun w0 Zs Zb T0 ι0 => ?_)
  unfold m6 at h
  refine AWP.seq ?_
  refine AWP.region (.cons (.assign (lt1 rfl) (.const _ _ _)) <| ARun.nil _ _ _) ?_
  refine AWP.vc (s' := ⟨[(0, .rd β1 a0.length (a0.flatMap enc8))], []⟩) (VC.sub (.c rfl <| .n _) (.n _)) ?_
  refine AWP.seq ?_
  refine AWP.seq ?_
  obtain ⟨y_1, hy_1, h⟩ := bindS h
  refine AWP.region (.cons (.call0 (bw := false) (lt1 rfl) (c10 n hy_1) (.nil) rfl) <| .cons (.not (lt1 rfl) (.tmp rfl)) <| ARun.nil _ _ _) ?_
  refine AWP.vc (s' := ⟨[(0, .rd β1 a0.length (a0.flatMap enc8)), (8, .sc (.bool (!y_1)))], []⟩) (VC.sub (.c rfl <| .c rfl <| .n _) (.n _)) ?_
  refine AWP.cond (.tmp rfl) (fun hc => ?_) (fun hc => ?_)
  · have h := iteT hc h
    refine AWP.seq ?_
    refine AWP.region (.cons (.assign (lt1 rfl) (.const _ _ _)) <| ARun.nil _ _ _) ?_
    refine AWP.ret ?_
    obtain rfl := Option.some.inj h
    exact retJ (Res.vc (s' := ⟨[(2, .sc (.bool false))], []⟩) (VC.sub (.c rfl <| .n _) (.n _)) (Res.drop rfl (Res.of rfl (.cons (.tmp rfl) (.nil)) rfl rfl)))
  · have h := iteF hc h
    refine AWP.skip ?_
    refine AWP.seq ?_
    refine AWP.seq ?_
    obtain ⟨y_2, hy_2, h⟩ := bindS h
    refine AWP.region (.cons (.move (lt1 rfl) (.tmp rfl)) <| .cons (.call0 (bw := false) (lt1 rfl) (c11 (β1 := β1) n a0 hy_2) (.cons (.tmp rfl) (.ren rfl) (.nil)) rfl) <| .cons (.not (lt1 rfl) (.tmp rfl)) <| ARun.nil _ _ _) ?_
    refine AWP.vc (s' := ⟨[(0, .rd β1 a0.length (a0.flatMap enc8)), (11, .sc (.bool (!y_2)))], []⟩) (VC.sub (.c rfl <| .c rfl <| .n _) (.n _)) ?_
    refine AWP.cond (.tmp rfl) (fun hc => ?_) (fun hc => ?_)
    · have h := iteT hc h
      refine AWP.seq ?_
      refine AWP.region (.cons (.assign (lt1 rfl) (.const _ _ _)) <| ARun.nil _ _ _) ?_
      refine AWP.ret ?_
      obtain rfl := Option.some.inj h
      exact retJ (Res.vc (s' := ⟨[(2, .sc (.bool true))], []⟩) (VC.sub (.c rfl <| .n _) (.n _)) (Res.drop rfl (Res.of rfl (.cons (.tmp rfl) (.nil)) rfl rfl)))
    · have h := iteF hc h
      refine AWP.skip ?_
      refine AWP.seq ?_
      obtain ⟨y_3, hy_3, h⟩ := bindS h
      refine AWP.region (.cons (.move (lt1 rfl) (.tmp rfl)) <| .cons (.call0 (bw := false) (lt1 rfl) (c16 (β1 := β1) n a0 hy_3) (.cons (.tmp rfl) (.ren rfl) (.nil)) rfl) <| .cons (.move (lt1 rfl) (.tmp rfl)) <| .cons (.extract (lt1 rfl) (.tmp rfl) rfl) <| .cons (.extract (lt1 rfl) (.tmp rfl) rfl) <| .cons (.assign (lt1 rfl) (.tmp rfl)) <| .cons (.assign (lt1 rfl) (.tmp rfl)) <| ARun.nil _ _ _) ?_
      refine AWP.vc (s' := ⟨[(0, .rd β1 a0.length (a0.flatMap enc8)), (3, .rd false y_3.1.length (y_3.1.flatMap enc8)), (4, .sc (.int .i64 y_3.2))], []⟩) (VC.sub (.c rfl <| .c rfl <| .c rfl <| .n _) (.n _)) ?_
      refine AWP.seq ?_
      obtain ⟨y_4, hy_4, h⟩ := bindS h
      refine AWP.region (.cons (.move (lt1 rfl) (.tmp rfl)) <| .cons (.call0 (bw := false) (lt1 rfl) (c17 (β1 := β1) n a0 hy_4) (.cons (.tmp rfl) (.ren rfl) (.nil)) rfl) <| .cons (.move (lt1 rfl) (.tmp rfl)) <| .cons (.extract (lt1 rfl) (.tmp rfl) rfl) <| .cons (.extract (lt1 rfl) (.tmp rfl) rfl) <| .cons (.assign (lt1 rfl) (.tmp rfl)) <| .cons (.assign (lt1 rfl) (.tmp rfl)) <| ARun.nil _ _ _) ?_
      refine AWP.vc (s' := ⟨[(0, .rd β1 a0.length (a0.flatMap enc8)), (3, .rd false y_3.1.length (y_3.1.flatMap enc8)), (4, .sc (.int .i64 y_3.2)), (5, .rd false y_4.1.length (y_4.1.flatMap enc8)), (6, .sc (.int .i64 y_4.2))], []⟩) (VC.sub (.c rfl <| .c rfl <| .c rfl <| .c rfl <| .c rfl <| .n _) (.n _)) ?_
      refine AWP.seq ?_
      obtain ⟨y_5, hy_5, h⟩ := bindS h
      obtain ⟨y_6, hy_6, h⟩ := bindS h
      obtain ⟨y_7, hy_7, h⟩ := bindS h
      obtain ⟨y_8, hy_8, h⟩ := bindS h
      refine AWP.region (.cons (.move (lt1 rfl) (.tmp rfl)) <| .cons (.call0 (bw := false) (lt1 rfl) (c19 (β1 := β1) n a0 hy_5) (.cons (.tmp rfl) (.ren rfl) (.nil)) rfl) <| .cons (.move (lt1 rfl) (.tmp rfl)) <| .cons (.call0 (bw := false) (lt1 rfl) (c20 (β1 := β1) n a0 hy_6) (.cons (.tmp rfl) (.ren rfl) (.nil)) rfl) <| .cons (.call0 (bw := false) (lt1 rfl) (c18 (β1 := false) (β2 := false) n y_5 y_6 hy_7) (.cons (.tmp rfl) (.ren rfl) (.cons (.tmp rfl) (.ren rfl) (.nil))) rfl) <| .cons (.move (lt1 rfl) (.tmp rfl)) <| .guard (j := 5) (dj := 27) rfl (lt1 rfl) rfl (lt1 rfl) (fun hg => .move (lt1 rfl) (.tmp rfl)) <| .guard (j := 5) (dj := 27) rfl (lt1 rfl) rfl (lt1 rfl) (fun hg => .move (lt1 rfl) (.tmp rfl)) <| .guard (j := 5) (dj := 27) rfl (lt1 rfl) rfl (lt1 rfl) (fun hg => .eql (lt1 rfl) (.gd hg (.tmp rfl)) (.gd hg (.tmp rfl))) <| .cons (.pickAnd (lt1 rfl) (.tmp rfl) (.tmp rfl) (.const _ _ _)) <| .cons (.move (lt1 rfl) (.tmp rfl)) <| .guard (j := 10) (dj := 32) rfl (lt1 rfl) rfl (lt1 rfl) (fun hg => .move (lt1 rfl) (.tmp rfl)) <| .guard (j := 10) (dj := 32) rfl (lt1 rfl) rfl (lt1 rfl) (fun hg => .move (lt1 rfl) (.tmp rfl)) <| .guard (j := 10) (dj := 32) rfl (lt1 rfl) rfl (lt1 rfl) (fun hg => .call0 (bw := false) (lt1 rfl) (c18 (β1 := false) (β2 := false) n y_3.1 y_4.1 (gdB hy_8 hg)) (.cons (.gd hg (.tmp rfl)) (.ren rfl) (.cons (.gd hg (.tmp rfl)) (.ren rfl) (.nil))) rfl) <| .cons (.pickAnd (lt1 rfl) (.tmp rfl) (.tmp rfl) (.const _ _ _)) <| .cons (.assign (lt1 rfl) (.tmp rfl)) <| ARun.nil _ _ _) ?_
      refine AWP.ret ?_
      obtain rfl := Option.some.inj h
      exact retJ (Res.vc (s' := ⟨[(2, .sc (.bool ((y_7 && (decide (y_3.2 = y_4.2))) && y_8)))], []⟩) (VC.sub (.c rfl <| .n _) (.n _)) (Res.drop rfl (Res.of rfl (.cons (.tmp rfl) (.nil)) rfl rfl)))
end Go.AB
